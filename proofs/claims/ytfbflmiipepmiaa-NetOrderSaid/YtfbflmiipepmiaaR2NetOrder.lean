/- The law NetOrder, walked. -/
import Derived.Test.YtfbflmiipepmiaaR2NetI
set_option linter.unusedSimpArgs false
set_option linter.unusedVariables false
set_option maxRecDepth 10000
namespace Go.Proofs.Ytfbflmiipepmiaa
open Go.Hz

/-- A vote with a number. -/
def MK (i : Int) : Ms := ⟨1, 0, 0, 0, 0, 0, [], 0, i, false, 0, 0, 0, [], []⟩
theorem mk_vi (i : Int) : VIs [.int .i64 1, .int .i64 0, .int .i64 0, .int .i64 0, .int .i64 0, .int .i64 0, .nils, .int .i64 0, .int .i64 i, .bool false, .int .i64 0, .int .i64 0, .int .i64 0, .nils, .nils] (MK i).cells := by
  refine ⟨VI.refl _, VI.refl _, VI.refl _, VI.refl _, VI.refl _, VI.refl _, VI.nils, VI.refl _, VI.refl _, VI.refl _, VI.refl _, VI.refl _, VI.refl _, VI.nils, VI.nils, trivial⟩
theorem mk_small (i : Int) : (MK i).es.length ≤ 1048576 ∧ (MK i).vs.length ≤ 1048576 ∧ (MK i).data.length + sumD (MK i).es ≤ 1048576 := by simp [MK, sumD]

theorem netOrder {k : Int} {ks : List Int} (hk : inI k) (hl : ks.length ≤ 9223372036854775807) (hks : ∀ k ∈ ks, -9223372036854775808 ≤ k ∧ k ≤ 9223372036854775807) :
    Triple Try.prog 7 [.int .i64 k, nums ks] Hp.emp (fun r _ => r = .bool true) := by
  have hs : sat Hp.emp [] := trivial
  refine t7 (Nat.le_of_ble_eq_true rfl) ?_
  simp (disch := omega) only [F7, go_sem, reduceCtorEq, ↓reduceIte, Nat.reduceEqDiff, Nat.reduceAdd, Nat.reduceSub, Nat.reduceMul, Nat.reduceLT, Nat.reduceLeDiff, Int.reduceEq, Int.reduceNe, Int.reduceLT, Int.reduceLE, Int.reduceBEq, Int.reduceBNe, Int.reduceToNat]
  refine call_use (known hs) ?_
  rintro r h ⟨hr, hs⟩
  subst hr
  simp (disch := omega) only [go_sem, reduceCtorEq, ↓reduceIte, Nat.reduceEqDiff, Nat.reduceAdd, Nat.reduceSub, Nat.reduceMul, Nat.reduceLT, Nat.reduceLeDiff, Int.reduceEq, Int.reduceNe, Int.reduceLT, Int.reduceLE, Int.reduceBEq, Int.reduceBNe, Int.reduceToNat]
  refine call_use (within hs hk.1 hk.2 (n := 30) (by omega) (by omega)) ?_
  rintro r h ⟨N, hr, hke, hkl, hs⟩
  subst hr
  simp (disch := omega) only [go_sem, reduceCtorEq, ↓reduceIte, Nat.reduceEqDiff, Nat.reduceAdd, Nat.reduceSub, Nat.reduceMul, Nat.reduceLT, Nat.reduceLeDiff, Int.reduceEq, Int.reduceNe, Int.reduceLT, Int.reduceLE, Int.reduceBEq, Int.reduceBNe, Int.reduceToNat]
  refine call_use (nNew hs) ?_
  rintro r h ⟨n, hr, hs⟩
  subst hr
  simp (disch := omega) only [go_sem, reduceCtorEq, ↓reduceIte, Nat.reduceEqDiff, Nat.reduceAdd, Nat.reduceSub, Nat.reduceMul, Nat.reduceLT, Nat.reduceLeDiff, Int.reduceEq, Int.reduceNe, Int.reduceLT, Int.reduceLE, Int.reduceBEq, Int.reduceBNe, Int.reduceToNat]
  have hs0 : sat h [pto n (.row 1 [[.nils]] 1), Ow 15 .nils ((([] : List Int).map MK).map Ms.cells), Ow 1 .nils (([] : List Int).map fun k => [AV.int .i64 k])] := ((hs.add ow_nil).p1.add ow_nil).p1.q1
  refine run_up (N := N) (fun i e h => ∃ (w v : AV) (q : List Int), q.length = i ∧ sat h [pto n (.row 1 [[w]] 1), Ow 15 w ((q.map MK).map Ms.cells), Ow 1 v (q.map fun k => [AV.int .i64 k])] ∧
    (e 0 = .int .i64 N ∧ e 1 = nums ks ∧ e 5 = .ptr n 1 0 0 ∧ e 6 = v ∧ e 7 = .int .i64 i)) ⟨.nils, .nils, [], rfl, hs0, by refine ⟨?_, ?_, ?_, ?_, ?_⟩ <;> rfl⟩ ?_
  rintro i e h hi ⟨w, v, q, hq, hs, he⟩
  simp (disch := omega) only [go_sem, reduceCtorEq, ↓reduceIte, Nat.reduceEqDiff, Nat.reduceAdd, Nat.reduceSub, Nat.reduceMul, Nat.reduceLT, Nat.reduceLeDiff, Int.reduceEq, Int.reduceNe, Int.reduceLT, Int.reduceLE, Int.reduceBEq, Int.reduceBNe, Int.reduceToNat, he]
  refine cnd_dec (fun hc => ?_) (fun hc => ?_)
  · simp (disch := omega) only [go_sem, reduceCtorEq, ↓reduceIte, Nat.reduceEqDiff, Nat.reduceAdd, Nat.reduceSub, Nat.reduceMul, Nat.reduceLT, Nat.reduceLeDiff, Int.reduceEq, Int.reduceNe, Int.reduceLT, Int.reduceLE, Int.reduceBEq, Int.reduceBNe, Int.reduceToNat, he]
    refine new_opq hs fun nb h hs => ?_
    simp (disch := omega) only [go_sem, reduceCtorEq, ↓reduceIte, Nat.reduceEqDiff, Nat.reduceAdd, Nat.reduceSub, Nat.reduceMul, Nat.reduceLT, Nat.reduceLeDiff, Int.reduceEq, Int.reduceNe, Int.reduceLT, Int.reduceLE, Int.reduceBEq, Int.reduceBNe, Int.reduceToNat, hs.at, he]
    refine call_use (Triple.rowvi (es' := [(MK i).cells]) hs.at rfl (fun a h1 h2 => by
      have : a = 0 := by simpa using h1
      subst this; exact mk_vi i) (nSend (hs.set (o' := .row 15 [(MK i).cells] 1)).p2.p2 (mk_small i) (by simp; omega))) ?_
    rintro r h ⟨w', hs⟩
    simp (disch := omega) only [go_sem, reduceCtorEq, ↓reduceIte, Nat.reduceEqDiff, Nat.reduceAdd, Nat.reduceSub, Nat.reduceMul, Nat.reduceLT, Nat.reduceLeDiff, Int.reduceEq, Int.reduceNe, Int.reduceLT, Int.reduceLE, Int.reduceBEq, Int.reduceBNe, Int.reduceToNat, he]
    refine new_opq hs fun nc h hs => ?_
    simp (disch := omega) only [go_sem, reduceCtorEq, ↓reduceIte, Nat.reduceEqDiff, Nat.reduceAdd, Nat.reduceSub, Nat.reduceMul, Nat.reduceLT, Nat.reduceLeDiff, Int.reduceEq, Int.reduceNe, Int.reduceLT, Int.reduceLE, Int.reduceBEq, Int.reduceBNe, Int.reduceToNat, hs.at, he]
    have hx : srcA 1 h (.arr nc 1 0 1 1) = some [[.int .i64 i]] := src_one hs.at
    refine app_sat hs.p3 hx (atoms_ints [(i : Int)]) (by simp; omega) fun v' h hs hc' ha' => ?_
    simp (disch := omega) only [go_sem, reduceCtorEq, ↓reduceIte, Nat.reduceEqDiff, Nat.reduceAdd, Nat.reduceSub, Nat.reduceMul, Nat.reduceLT, Nat.reduceLeDiff, Int.reduceEq, Int.reduceNe, Int.reduceLT, Int.reduceLE, Int.reduceBEq, Int.reduceBNe, Int.reduceToNat, he, hc', ha']
    refine ⟨by omega, w', v', q ++ [(i : Int)], by simp; omega, ?_, rfl, rfl⟩
    have := hs.d1.p1.q1
    simpa using this
  · simp (disch := omega) only [go_sem, reduceCtorEq, ↓reduceIte, Nat.reduceEqDiff, Nat.reduceAdd, Nat.reduceSub, Nat.reduceMul, Nat.reduceLT, Nat.reduceLeDiff, Int.reduceEq, Int.reduceNe, Int.reduceLT, Int.reduceLE, Int.reduceBEq, Int.reduceBNe, Int.reduceToNat, he]
    clear hs0
    have hqN : q.length = N := by omega
    refine run_up (N := ks.length) (fun i e h => ∃ (w v : AV) (q : List Int), i ≤ 20 ∧ q.length = N + (if N = 0 then 0 else i) ∧ sat h [pto n (.row 1 [[w]] 1), Ow 15 w ((q.map MK).map Ms.cells), Ow 1 v (q.map fun k => [AV.int .i64 k])] ∧
      (e 0 = .int .i64 N ∧ e 1 = nums ks ∧ e 5 = .ptr n 1 0 0 ∧ e 6 = v ∧ e 8 = .int .i64 i)) ⟨w, v, q, by omega, by rw [hqN]; split <;> rfl, hs, by simp [Env.upd_apply, he]⟩ ?_
    clear hs hqN hc hq hi hke
    rintro i e h hi ⟨w, v, q, hi20, hq, hs, he⟩
    have hcase : (((i : Int) < ks.length) ∧ ((i : Int) < 20) ∧ (0 < (N : Int))) ∨ (¬ (i : Int) < ks.length) ∨ (((i : Int) < ks.length) ∧ ¬ (i : Int) < 20) ∨ (((i : Int) < ks.length) ∧ ((i : Int) < 20) ∧ ¬ (0 < (N : Int))) := by omega
    rcases hcase with ⟨c1, c2, c3⟩ | c1 | ⟨c1, c2⟩ | ⟨c1, c2, c3⟩
    · have i1 : i < ks.length := by omega
      have hki := hks _ (List.getElem_mem i1)
      rw [if_neg (by omega)] at hq
      have hlen := Els.len hs.p2.els
      rw [List.length_map] at hlen
      simp (disch := omega) only [go_sem, reduceCtorEq, ↓reduceIte, Nat.reduceEqDiff, Nat.reduceAdd, Nat.reduceSub, Nat.reduceMul, Nat.reduceLT, Nat.reduceLeDiff, Int.reduceEq, Int.reduceNe, Int.reduceLT, Int.reduceLE, Int.reduceBEq, Int.reduceBNe, Int.reduceToNat, he, num_len, num_at i1, c1, c2, c3, hlen]
      refine call_use (within hs hki.1 hki.2 (n := q.length) (by omega) (by omega)) ?_
      rintro r h ⟨j, hr, hje, hjl, hs⟩
      subst hr
      simp (disch := omega) only [go_sem, reduceCtorEq, ↓reduceIte, Nat.reduceEqDiff, Nat.reduceAdd, Nat.reduceSub, Nat.reduceMul, Nat.reduceLT, Nat.reduceLeDiff, Int.reduceEq, Int.reduceNe, Int.reduceLT, Int.reduceLE, Int.reduceBEq, Int.reduceBNe, Int.reduceToNat, he, num_at i1]
      refine call_use (nDouble hs (by simp; omega) (by simp; omega) hki (fun m hm => by obtain ⟨x, _, rfl⟩ := List.mem_map.1 hm; exact mk_small x)) ?_
      rintro r h ⟨j2, hj2, w', hje2, hr, hs⟩
      subst hr
      rcases hs.p2.cases with ⟨_, h0, _⟩ | ⟨bl, cap, hv, g, hcap⟩
      · have : q = [] := by simpa using h0
        subst this
        simp at hjl
      have hrow : (q.map fun k => [AV.int .i64 k])[j]? = some [.int .i64 q[j]] := by simp [hjl]
      rw [List.length_map] at hv
      subst hv
      have hjj : j2 = j := by
        rw [List.length_map] at hje2
        omega
      subst hjj
      simp (disch := omega) only [go_sem, reduceCtorEq, ↓reduceIte, Nat.reduceEqDiff, Nat.reduceAdd, Nat.reduceSub, Nat.reduceMul, Nat.reduceLT, Nat.reduceLeDiff, Int.reduceEq, Int.reduceNe, Int.reduceLT, Int.reduceLE, Int.reduceBEq, Int.reduceBNe, Int.reduceToNat, he, g.at, hrow, Int.toNat_natCast]
      refine new_opq hs fun nc h hs => ?_
      simp (disch := omega) only [go_sem, reduceCtorEq, ↓reduceIte, Nat.reduceEqDiff, Nat.reduceAdd, Nat.reduceSub, Nat.reduceMul, Nat.reduceLT, Nat.reduceLeDiff, Int.reduceEq, Int.reduceNe, Int.reduceLT, Int.reduceLE, Int.reduceBEq, Int.reduceBNe, Int.reduceToNat, hs.at, he]
      have hx : srcA 1 h (.arr nc 1 0 1 1) = some [[.int .i64 q[j2]]] := src_one hs.at
      refine app_sat hs.p3 hx (atoms_ints [q[j2]]) (by simp; omega) fun v' h hs hc' ha' => ?_
      simp (disch := omega) only [go_sem, reduceCtorEq, ↓reduceIte, Nat.reduceEqDiff, Nat.reduceAdd, Nat.reduceSub, Nat.reduceMul, Nat.reduceLT, Nat.reduceLeDiff, Int.reduceEq, Int.reduceNe, Int.reduceLT, Int.reduceLE, Int.reduceBEq, Int.reduceBNe, Int.reduceToNat, he, hc', ha']
      refine ⟨i1, w', v', q ++ [q[j2]], by omega, by rw [if_neg (by omega)]; simp; omega, ?_, rfl, rfl⟩
      have := hs.d1.p1.q1
      simpa using this
    all_goals
      first
        | simp (disch := omega) only [go_sem, reduceCtorEq, ↓reduceIte, Nat.reduceEqDiff, Nat.reduceAdd, Nat.reduceSub, Nat.reduceMul, Nat.reduceLT, Nat.reduceLeDiff, Int.reduceEq, Int.reduceNe, Int.reduceLT, Int.reduceLE, Int.reduceBEq, Int.reduceBNe, Int.reduceToNat, he, num_len, c1, c2, c3]
        | simp (disch := omega) only [go_sem, reduceCtorEq, ↓reduceIte, Nat.reduceEqDiff, Nat.reduceAdd, Nat.reduceSub, Nat.reduceMul, Nat.reduceLT, Nat.reduceLeDiff, Int.reduceEq, Int.reduceNe, Int.reduceLT, Int.reduceLE, Int.reduceBEq, Int.reduceBNe, Int.reduceToNat, he, num_len, c1, c2]
        | simp (disch := omega) only [go_sem, reduceCtorEq, ↓reduceIte, Nat.reduceEqDiff, Nat.reduceAdd, Nat.reduceSub, Nat.reduceMul, Nat.reduceLT, Nat.reduceLeDiff, Int.reduceEq, Int.reduceNe, Int.reduceLT, Int.reduceLE, Int.reduceBEq, Int.reduceBNe, Int.reduceToNat, he, num_len, c1]
      have hq60 : q.length ≤ 60 := by split at hq <;> omega
      refine run_up (N := q.length) (fun i e h => ∃ (w : AV), sat h [pto n (.row 1 [[w]] 1), Ow 15 w (((q.drop i).map MK).map Ms.cells), Ow 1 v (q.map fun k => [AV.int .i64 k])] ∧ (e 5 = .ptr n 1 0 0 ∧ e 6 = v ∧ e 10 = .int .i64 i)) ⟨w, by simpa using hs, by simp [Env.upd_apply, he]⟩ ?_
      clear hs he hq hi hi20
      rintro a e h hi ⟨w, hs, he⟩
      have hlen := Els.len hs.p2.els
      rw [List.length_map] at hlen
      simp (disch := omega) only [go_sem, reduceCtorEq, ↓reduceIte, Nat.reduceEqDiff, Nat.reduceAdd, Nat.reduceSub, Nat.reduceMul, Nat.reduceLT, Nat.reduceLeDiff, Int.reduceEq, Int.reduceNe, Int.reduceLT, Int.reduceLE, Int.reduceBEq, Int.reduceBNe, Int.reduceToNat, he, hlen]
      refine cnd_dec (fun hc => ?_) (fun hc => ?_)
      · have ha : a < q.length := by omega
        simp (disch := omega) only [go_sem, reduceCtorEq, ↓reduceIte, Nat.reduceEqDiff, Nat.reduceAdd, Nat.reduceSub, Nat.reduceMul, Nat.reduceLT, Nat.reduceLeDiff, Int.reduceEq, Int.reduceNe, Int.reduceLT, Int.reduceLE, Int.reduceBEq, Int.reduceBNe, Int.reduceToNat, he]
        refine call_use (nDeliver (l := (q.drop a).map MK) hs (by simp; omega) (by simp; omega) (k := 0) (by simp [inI])) ?_
        rintro r h ⟨j, hj, w', hje, hr, hs⟩
        have hj0 : j = 0 := by rw [Int.zero_emod] at hje; omega
        subst hj0 hr
        rcases hs.p2.cases with ⟨_, h0, _⟩ | ⟨bl, cap, hv, g, hcap⟩
        · have : q = [] := by simpa using h0
          subst this
          simp at ha
        rw [List.length_map] at hv
        subst hv
        have hrow : (q.map fun k => [AV.int .i64 k])[a]? = some [.int .i64 q[a]] := by simp [ha]
        have hseq : (((q.drop a).map MK)[0]).cells = [.int .i64 1, .int .i64 0, .int .i64 0, .int .i64 0, .int .i64 0, .int .i64 0, .lst [], .int .i64 0, .int .i64 q[a], .bool false, .int .i64 0, .int .i64 0, .int .i64 0, .lst [], .lst []] := by
          simp [MK, Ms.cells, ensV, intsV, bytesV]
        simp (disch := omega) only [go_sem, reduceCtorEq, ↓reduceIte, Nat.reduceEqDiff, Nat.reduceAdd, Nat.reduceSub, Nat.reduceMul, Nat.reduceLT, Nat.reduceLeDiff, Int.reduceEq, Int.reduceNe, Int.reduceLT, Int.reduceLE, Int.reduceBEq, Int.reduceBNe, Int.reduceToNat, he, hseq]
        have hs := g
        refine new_opq hs fun n11 h hs => ?_
        simp (disch := omega) only [go_sem, reduceCtorEq, ↓reduceIte, Nat.reduceEqDiff, Nat.reduceAdd, Nat.reduceSub, Nat.reduceMul, Nat.reduceLT, Nat.reduceLeDiff, Int.reduceEq, Int.reduceNe, Int.reduceLT, Int.reduceLE, Int.reduceBEq, Int.reduceBNe, Int.reduceToNat, hs.at, he, hs.set.p1.at, hrow, Int.toNat_natCast]
        refine ⟨ha, w', ?_, rfl⟩
        have := ((hs.set (o' := .row 15 [(((q.drop a).map MK)[0]).cells] 1)).drop.ow hcap).p1.q1
        have e1 : ((q.drop a).map MK).eraseIdx 0 = (q.drop (a + 1)).map MK := by
          rw [List.eraseIdx_zero, ← List.map_tail, List.tail_drop]
        rw [hseq, e1, List.length_map] at this
        exact this
      · have : a = q.length := by omega
        subst this
        rw [List.drop_length] at hs
        simp (disch := omega) only [go_sem, reduceCtorEq, ↓reduceIte, Nat.reduceEqDiff, Nat.reduceAdd, Nat.reduceSub, Nat.reduceMul, Nat.reduceLT, Nat.reduceLeDiff, Int.reduceEq, Int.reduceNe, Int.reduceLT, Int.reduceLE, Int.reduceBEq, Int.reduceBNe, Int.reduceToNat, he]
        refine call_use (nLen (l := []) hs) ?_
        rintro r h ⟨hr, hs⟩
        subst hr
        simp (disch := omega) only [go_sem, reduceCtorEq, ↓reduceIte, Nat.reduceEqDiff, Nat.reduceAdd, Nat.reduceSub, Nat.reduceMul, Nat.reduceLT, Nat.reduceLeDiff, Int.reduceEq, Int.reduceNe, Int.reduceLT, Int.reduceLE, Int.reduceBEq, Int.reduceBNe, Int.reduceToNat, he]
        refine call_use (nDrop0 hs 3) ?_
        rintro r h ⟨hr, hs⟩
        subst hr
        simp (disch := omega) only [go_sem, reduceCtorEq, ↓reduceIte, Nat.reduceEqDiff, Nat.reduceAdd, Nat.reduceSub, Nat.reduceMul, Nat.reduceLT, Nat.reduceLeDiff, Int.reduceEq, Int.reduceNe, Int.reduceLT, Int.reduceLE, Int.reduceBEq, Int.reduceBNe, Int.reduceToNat]
theorem netOrder_law (vs : List AV) (h : Ty.ones [.int .i64, .sl (.int .i64)] vs) : Triple Try.prog 7 vs Hp.emp (fun r _ => r = .bool true) := by
  obtain ⟨a, _, rfl, ha, h⟩ := ones_cons h
  obtain ⟨b, _, rfl, hb, h⟩ := ones_cons h
  obtain rfl := ones_nil h
  obtain ⟨k, rfl, h1⟩ := int_of ha
  obtain ⟨l, rfl, h2, h3⟩ := nums_of hb
  exact netOrder h1 h2 h3
end Go.Proofs.Ytfbflmiipepmiaa
