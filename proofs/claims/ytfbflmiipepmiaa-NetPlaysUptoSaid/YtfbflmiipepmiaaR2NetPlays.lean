/- The law NetPlays, walked. -/
import Derived.Test.YtfbflmiipepmiaaR2NetI
set_option linter.unusedSimpArgs false
set_option linter.unusedVariables false
set_option maxRecDepth 10000
namespace Go.Proofs.Ytfbflmiipepmiaa
open Go.Hz

def tyC : Ty := .fcons (.int .i64) (.fcons (.int .i64) (.fcons (.sl (.st tyM)) .fnil))
/-- A call. -/
structure Cl where
  kind : Int
  n : Int
  l : List Ms
def Cl.row (c : Cl) : List AV := [.int .i64 c.kind, .int .i64 c.n, .lst (c.l.map Ms.cells)]
def Ms.sm (m : Ms) : Prop := m.es.length ≤ 1048576 ∧ m.vs.length ≤ 1048576 ∧ m.data.length + sumD m.es ≤ 1048576
def Cl.ok (c : Cl) : Prop := inI c.kind ∧ inI c.n ∧ ∀ m ∈ c.l, Ms.sm m

theorem mem_sum {α : Type} {f : α → Nat} {x : α} : ∀ {l : List α}, x ∈ l → f x ≤ (l.map f).sum
  | [], h => by cases h
  | y :: l, h => by
    rw [List.map_cons, List.sum_cons]
    rcases List.mem_cons.1 h with rfl | h
    · omega
    · have := mem_sum (f := f) h; omega

theorem mss_of {es : List (List AV)} (h : ∀ x ∈ es, (Ty.st tyM).shape x) (hb : (es.map (Ty.st tyM).bulk).sum ≤ 1048576) : ∃ l : List Ms, es = l.map Ms.cells ∧ ∀ m ∈ l, Ms.sm m := by
  induction es with
  | nil => exact ⟨[], rfl, by simp⟩
  | cons x es ih =>
    rw [List.map_cons, List.sum_cons] at hb
    obtain ⟨l, rfl, hl⟩ := ih (fun y hy => h y (List.mem_cons_of_mem _ hy)) (by omega)
    obtain ⟨m, rfl, hm, _⟩ := msg_of (h x (List.mem_cons_self ..))
    have e : (Ty.st tyM).bulk m.cells = tyM.bulk m.cells + 1 := rfl
    refine ⟨m :: l, rfl, fun y hy => ?_⟩
    rcases List.mem_cons.1 hy with rfl | hy
    · exact ⟨by omega, by omega, by omega⟩
    · exact hl y hy

theorem cl_of {cs : List AV} (h : tyC.shape cs) (hb : tyC.bulk cs ≤ 1048576) : ∃ c : Cl, cs = c.row ∧ c.ok := by
  obtain ⟨x1, _, rfl, ⟨a, rfl, ha⟩, x2, _, rfl, ⟨b, rfl, hb2⟩, x3, _, rfl, ⟨es, rfl, _, hes⟩, rfl⟩ := h
  have e : tyC.bulk ([AV.int .i64 a] ++ ([AV.int .i64 b] ++ ([AV.lst es] ++ []))) = 1 + (1 + (((es.map (Ty.st tyM).bulk).sum + 1) + 0)) := rfl
  rw [e] at hb
  obtain ⟨l, rfl, hl⟩ := mss_of hes (by omega)
  exact ⟨⟨a, b, l⟩, rfl, int_in ha, int_in hb2, hl⟩

theorem cls_of {es : List (List AV)} (h : ∀ x ∈ es, (Ty.st tyC).shape x) (hb : (es.map (Ty.st tyC).bulk).sum ≤ 1048576) : ∃ l : List Cl, es = l.map Cl.row ∧ ∀ c ∈ l, c.ok := by
  induction es with
  | nil => exact ⟨[], rfl, by simp⟩
  | cons x es ih =>
    rw [List.map_cons, List.sum_cons] at hb
    obtain ⟨l, rfl, hl⟩ := ih (fun y hy => h y (List.mem_cons_of_mem _ hy)) (by omega)
    have e : (Ty.st tyC).bulk x = tyC.bulk x + 1 := rfl
    obtain ⟨c, rfl, hc⟩ := cl_of (h x (List.mem_cons_self ..)) (by omega)
    refine ⟨c :: l, rfl, fun y hy => ?_⟩
    rcases List.mem_cons.1 hy with rfl | hy
    · exact hc
    · exact hl y hy

theorem zz_vi : VIs [.agg Ms.zero.cells, .agg zeroM] [.agg Ms.zero.cells, .agg Ms.zero.cells] :=
  ⟨VI.refl _, VI.agg ⟨VI.refl _, VI.refl _, VI.refl _, VI.refl _, VI.refl _, VI.refl _, VI.nils, VI.refl _, VI.refl _, VI.refl _, VI.refl _, VI.refl _, VI.refl _, VI.nils, VI.nils, trivial⟩, trivial⟩
theorem zero_room : Ms.zero.room := ⟨by simp [Ms.zero], by simp [Ms.zero]⟩

theorem netPlays {cs : List Cl} (hl : cs.length ≤ 9223372036854775807) (hcs : ∀ c ∈ cs, c.ok) : Triple Try.prog 6 [.lst (cs.map Cl.row)] Hp.emp (fun r _ => r = .bool true) := by
  have hs : sat Hp.emp [] := trivial
  refine t6 (Nat.le_of_ble_eq_true rfl) ?_
  simp (disch := omega) only [F6, go_sem, reduceCtorEq, ↓reduceIte, Nat.reduceEqDiff, Nat.reduceAdd, Nat.reduceSub, Nat.reduceMul, Nat.reduceLT, Nat.reduceLeDiff, Int.reduceEq, Int.reduceNe, Int.reduceLT, Int.reduceLE, Int.reduceBEq, Int.reduceBNe, Int.reduceToNat]
  refine call_use (known hs) ?_
  rintro r h ⟨hr, hs⟩
  subst hr
  simp (disch := omega) only [go_sem, reduceCtorEq, ↓reduceIte, Nat.reduceEqDiff, Nat.reduceAdd, Nat.reduceSub, Nat.reduceMul, Nat.reduceLT, Nat.reduceLeDiff, Int.reduceEq, Int.reduceNe, Int.reduceLT, Int.reduceLE, Int.reduceBEq, Int.reduceBNe, Int.reduceToNat]
  refine call_use (nNew hs) ?_
  rintro r h ⟨n, hr, hs⟩
  subst hr
  simp (disch := omega) only [go_sem, reduceCtorEq, ↓reduceIte, Nat.reduceEqDiff, Nat.reduceAdd, Nat.reduceSub, Nat.reduceMul, Nat.reduceLT, Nat.reduceLeDiff, Int.reduceEq, Int.reduceNe, Int.reduceLT, Int.reduceLE, Int.reduceBEq, Int.reduceBNe, Int.reduceToNat]
  have hs0 : sat h [pto n (.row 1 [[.nils]] 1), Ow 15 .nils (([] : List Ms).map Ms.cells), Ow 15 .nils (([] : List Ms).map Ms.cells)] := ((hs.add ow_nil).p1.add ow_nil).p1.q1
  refine run_up (N := cs.length) (fun i e h => ∃ (w v : AV) (l : List Ms), i ≤ 100 ∧ l.length ≤ 5 * i ∧ (∀ m ∈ l, Ms.sm m) ∧ sat h [pto n (.row 1 [[w]] 1), Ow 15 w (l.map Ms.cells), Ow 15 v (l.map Ms.cells)] ∧
    (e 0 = .lst (cs.map Cl.row) ∧ e 3 = .ptr n 1 0 0 ∧ e 4 = v ∧ e 5 = .int .i64 i)) ⟨.nils, .nils, [], by omega, by simp, by simp, hs0, by refine ⟨?_, ?_, ?_, ?_⟩ <;> rfl⟩ ?_
  rintro i e h hi ⟨w, v, l, hi100, hll, hsm, hs, he⟩
  have hcase : (((i : Int) < cs.length) ∧ ((i : Int) < 100)) ∨ (¬ (i : Int) < cs.length) ∨ (((i : Int) < cs.length) ∧ ¬ (i : Int) < 100) := by omega
  have clen : lenL (.lst (cs.map Cl.row)) = some (.int .i64 cs.length) := by simp [lenL]
  rcases hcase with ⟨c1, c2⟩ | c1 | ⟨c1, c2⟩
  · have i1 : i < cs.length := by omega
    obtain ⟨hk, hn, hm⟩ := hcs _ (List.getElem_mem i1)
    have hia : iaA 3 (.lst (cs.map Cl.row)) (.int .i64 (i : Int)) = some (.ro cs[i].row) := ia_lst i1 fun _ => rfl
    generalize hc : cs[i] = c at hk hn hm hia
    obtain ⟨ck, cn, cl⟩ := c
    simp only [Cl.row] at hk hn hm hia
    have hlen := Els.len hs.p2.els
    rw [List.length_map] at hlen
    simp (disch := omega) only [go_sem, reduceCtorEq, ↓reduceIte, Nat.reduceEqDiff, Nat.reduceAdd, Nat.reduceSub, Nat.reduceMul, Nat.reduceLT, Nat.reduceLeDiff, Int.reduceEq, Int.reduceNe, Int.reduceLT, Int.reduceLE, Int.reduceBEq, Int.reduceBNe, Int.reduceToNat, he, clen, hia, c1, c2]
    refine new_opq hs fun n6 h hs => ?_
    simp (disch := omega) only [go_sem, reduceCtorEq, ↓reduceIte, Nat.reduceEqDiff, Nat.reduceAdd, Nat.reduceSub, Nat.reduceMul, Nat.reduceLT, Nat.reduceLeDiff, Int.reduceEq, Int.reduceNe, Int.reduceLT, Int.reduceLE, Int.reduceBEq, Int.reduceBNe, Int.reduceToNat, hs.at, he, hlen]
    have hs := hs.set (o' := .row 3 [[.int .i64 ck, .int .i64 cn, .lst (cl.map Ms.cells)]] 1)
    by_cases h0 : l = []
    · subst h0
      simp (disch := omega) only [go_sem, reduceCtorEq, ↓reduceIte, Nat.reduceEqDiff, Nat.reduceAdd, Nat.reduceSub, Nat.reduceMul, Nat.reduceLT, Nat.reduceLeDiff, Int.reduceEq, Int.reduceNe, Int.reduceLT, Int.reduceLE, Int.reduceBEq, Int.reduceBNe, Int.reduceToNat, he, hlen, hs.at, List.length_nil]
      have hs := hs.p2.p2
      refine call_use (within hs hk.1 hk.2 (n := 4) (by omega) (by omega)) ?_
      rintro r h ⟨kd, hr, hkd, hk4, hs⟩
      subst hr
      have hkk : kd = 0 ∨ kd = 1 ∨ kd = 2 ∨ kd = 3 := by omega
      rcases hkk with rfl | rfl | rfl | rfl
      · -- kind 0
        simp (disch := omega) only [go_sem, reduceCtorEq, ↓reduceIte, Nat.reduceEqDiff, Nat.reduceAdd, Nat.reduceSub, Nat.reduceMul, Nat.reduceLT, Nat.reduceLeDiff, Int.reduceEq, Int.reduceNe, Int.reduceLT, Int.reduceLE, Int.reduceBEq, Int.reduceBNe, Int.reduceToNat, he, hs.at]
        refine run_up (N := 5) (fun j e h => ∃ (w v : AV) (l : List Ms), l.length ≤ 5 * i + j ∧ (∀ m ∈ l, Ms.sm m) ∧ sat h [pto n (.row 1 [[w]] 1), Ow 15 w (l.map Ms.cells), pto n6 (.row 3 [[.int .i64 ck, .int .i64 cn, .lst (cl.map Ms.cells)]] 1), Ow 15 v (l.map Ms.cells)] ∧
          (e 0 = .lst (cs.map Cl.row) ∧ e 3 = .ptr n 1 0 0 ∧ e 4 = v ∧ e 5 = .int .i64 i ∧ e 6 = .ptr n6 3 0 0 ∧ e 9 = .int .i64 j)) ⟨w, v, [], by simp, by simp, hs, by simp [Env.upd_apply, he]⟩ ?_
        clear hs hll hsm hlen
        rintro j e h hj ⟨w, v, l, hll, hsm, hs, he⟩
        have llen : lenL (.lst (cl.map Ms.cells)) = some (.int .i64 cl.length) := by simp [lenL]
        have hcase : (((j : Int) < cl.length) ∧ ((j : Int) < 5)) ∨ (¬ (j : Int) < cl.length) ∨ (((j : Int) < cl.length) ∧ ¬ (j : Int) < 5) := by omega
        rcases hcase with ⟨d1, d2⟩ | d1 | ⟨d1, d2⟩
        · have j1 : j < cl.length := by omega
          have hja : iaA 15 (.lst (cl.map Ms.cells)) (.int .i64 (j : Int)) = some (.ro cl[j].cells) := ia_lst j1 fun _ => rfl
          have hmj := hm _ (List.getElem_mem j1)
          simp (disch := omega) only [go_sem, reduceCtorEq, ↓reduceIte, Nat.reduceEqDiff, Nat.reduceAdd, Nat.reduceSub, Nat.reduceMul, Nat.reduceLT, Nat.reduceLeDiff, Int.reduceEq, Int.reduceNe, Int.reduceLT, Int.reduceLE, Int.reduceBEq, Int.reduceBNe, Int.reduceToNat, he, hs.p2.at, llen, d1, d2, hja, Ms.cells]
          refine call_use (few hs (m := cl[j]) hmj) ?_
          rintro r h ⟨hr, hs⟩
          subst hr
          simp (disch := omega) only [go_sem, reduceCtorEq, ↓reduceIte, Nat.reduceEqDiff, Nat.reduceAdd, Nat.reduceSub, Nat.reduceMul, Nat.reduceLT, Nat.reduceLeDiff, Int.reduceEq, Int.reduceNe, Int.reduceLT, Int.reduceLE, Int.reduceBEq, Int.reduceBNe, Int.reduceToNat, he]
          refine cnd_bool (fun q => ?_) (fun q => ?_)
          · simp (disch := omega) only [go_sem, reduceCtorEq, ↓reduceIte, Nat.reduceEqDiff, Nat.reduceAdd, Nat.reduceSub, Nat.reduceMul, Nat.reduceLT, Nat.reduceLeDiff, Int.reduceEq, Int.reduceNe, Int.reduceLT, Int.reduceLE, Int.reduceBEq, Int.reduceBNe, Int.reduceToNat, he, q, hs.p2.at, hja, Ms.cells]
            refine new_opq hs fun nb h hs => ?_
            simp (disch := omega) only [go_sem, reduceCtorEq, ↓reduceIte, Nat.reduceEqDiff, Nat.reduceAdd, Nat.reduceSub, Nat.reduceMul, Nat.reduceLT, Nat.reduceLeDiff, Int.reduceEq, Int.reduceNe, Int.reduceLT, Int.reduceLE, Int.reduceBEq, Int.reduceBNe, Int.reduceToNat, hs.at, he]
            refine call_use (nSend hs.p2.p2 (m := cl[j]) hmj (by omega)) ?_
            rintro r h ⟨w', hs⟩
            simp (disch := omega) only [go_sem, reduceCtorEq, ↓reduceIte, Nat.reduceEqDiff, Nat.reduceAdd, Nat.reduceSub, Nat.reduceMul, Nat.reduceLT, Nat.reduceLeDiff, Int.reduceEq, Int.reduceNe, Int.reduceLT, Int.reduceLE, Int.reduceBEq, Int.reduceBNe, Int.reduceToNat, he, hs.p2.at, hja, Ms.cells]
            refine new_opq hs fun nc h hs => ?_
            simp (disch := omega) only [go_sem, reduceCtorEq, ↓reduceIte, Nat.reduceEqDiff, Nat.reduceAdd, Nat.reduceSub, Nat.reduceMul, Nat.reduceLT, Nat.reduceLeDiff, Int.reduceEq, Int.reduceNe, Int.reduceLT, Int.reduceLE, Int.reduceBEq, Int.reduceBNe, Int.reduceToNat, hs.at, he]
            have hx : srcA 15 h (.arr nc 15 0 1 1) = some [cl[j].cells] := src_one hs.at
            refine app_sat hs.p4 hx (atoms_ms [cl[j]]) (by simp; omega) fun v' h hs hc' ha' => ?_
            simp (disch := omega) only [go_sem, reduceCtorEq, ↓reduceIte, Nat.reduceEqDiff, Nat.reduceAdd, Nat.reduceSub, Nat.reduceMul, Nat.reduceLT, Nat.reduceLeDiff, Int.reduceEq, Int.reduceNe, Int.reduceLT, Int.reduceLE, Int.reduceBEq, Int.reduceBNe, Int.reduceToNat, he, hc', ha']
            refine ⟨by omega, w', v', l ++ [cl[j]], by simp; omega, fun m hm' => ?_, ?_, rfl, rfl⟩
            · rcases List.mem_append.1 hm' with hm' | hm'
              · exact hsm m hm'
              · rw [List.mem_singleton.1 hm']; exact hmj
            · have := hs.d1.p3.p3.p3
              simpa using this
          · simp (disch := omega) only [go_sem, reduceCtorEq, ↓reduceIte, Nat.reduceEqDiff, Nat.reduceAdd, Nat.reduceSub, Nat.reduceMul, Nat.reduceLT, Nat.reduceLeDiff, Int.reduceEq, Int.reduceNe, Int.reduceLT, Int.reduceLE, Int.reduceBEq, Int.reduceBNe, Int.reduceToNat, he, q]
            exact ⟨by omega, w, v, l, by omega, hsm, hs, rfl, rfl⟩
        all_goals
          first
            | simp (disch := omega) only [go_sem, reduceCtorEq, ↓reduceIte, Nat.reduceEqDiff, Nat.reduceAdd, Nat.reduceSub, Nat.reduceMul, Nat.reduceLT, Nat.reduceLeDiff, Int.reduceEq, Int.reduceNe, Int.reduceLT, Int.reduceLE, Int.reduceBEq, Int.reduceBNe, Int.reduceToNat, he, hs.p2.at, llen, d1, d2]
            | simp (disch := omega) only [go_sem, reduceCtorEq, ↓reduceIte, Nat.reduceEqDiff, Nat.reduceAdd, Nat.reduceSub, Nat.reduceMul, Nat.reduceLT, Nat.reduceLeDiff, Int.reduceEq, Int.reduceNe, Int.reduceLT, Int.reduceLE, Int.reduceBEq, Int.reduceBNe, Int.reduceToNat, he, hs.p2.at, llen, d1]
          have hlen := Els.len hs.p3.els
          rw [List.length_map] at hlen
          refine call_use (nLen hs) ?_
          rintro r h ⟨hr, hs⟩
          subst hr
          simp (disch := omega) only [go_sem, reduceCtorEq, ↓reduceIte, Nat.reduceEqDiff, Nat.reduceAdd, Nat.reduceSub, Nat.reduceMul, Nat.reduceLT, Nat.reduceLeDiff, Int.reduceEq, Int.reduceNe, Int.reduceLT, Int.reduceLE, Int.reduceBEq, Int.reduceBNe, Int.reduceToNat, he, hlen]
          exact ⟨i1, w, v, l, by omega, by omega, hsm, hs.d2, rfl, rfl⟩
      · -- kind 1
        simp (disch := omega) only [go_sem, reduceCtorEq, ↓reduceIte, Nat.reduceEqDiff, Nat.reduceAdd, Nat.reduceSub, Nat.reduceMul, Nat.reduceLT, Nat.reduceLeDiff, Int.reduceEq, Int.reduceNe, Int.reduceLT, Int.reduceLE, Int.reduceBEq, Int.reduceBNe, Int.reduceToNat, he, hs.p2.at]
        refine call_use (nDeliver0 hs cn) ?_
        rintro r h ⟨hr, hs⟩
        subst hr
        simp (disch := omega) only [go_sem, reduceCtorEq, ↓reduceIte, Nat.reduceEqDiff, Nat.reduceAdd, Nat.reduceSub, Nat.reduceMul, Nat.reduceLT, Nat.reduceLeDiff, Int.reduceEq, Int.reduceNe, Int.reduceLT, Int.reduceLE, Int.reduceBEq, Int.reduceBNe, Int.reduceToNat, he]
        refine new_opq hs fun n10 h hs => ?_
        simp (disch := omega) only [go_sem, reduceCtorEq, ↓reduceIte, Nat.reduceEqDiff, Nat.reduceAdd, Nat.reduceSub, Nat.reduceMul, Nat.reduceLT, Nat.reduceLeDiff, Int.reduceEq, Int.reduceNe, Int.reduceLT, Int.reduceLE, Int.reduceBEq, Int.reduceBNe, Int.reduceToNat, hs.at, he]
        have hs := hs.set (o' := .row 15 [Ms.zero.cells] 1)
        refine call_use (Triple.vi zz_vi (xSame hs zero_room zero_room)) ?_
        rintro r h ⟨hr, hs⟩
        subst hr
        simp (disch := omega) only [go_sem, reduceCtorEq, ↓reduceIte, Nat.reduceEqDiff, Nat.reduceAdd, Nat.reduceSub, Nat.reduceMul, Nat.reduceLT, Nat.reduceLeDiff, Int.reduceEq, Int.reduceNe, Int.reduceLT, Int.reduceLE, Int.reduceBEq, Int.reduceBNe, Int.reduceToNat, he]
        have hs := hs.drop
        have hlen := Els.len hs.p3.els
        refine call_use (nLen (l := []) hs) ?_
        rintro r h ⟨hr, hs⟩
        subst hr
        simp (disch := omega) only [go_sem, reduceCtorEq, ↓reduceIte, Nat.reduceEqDiff, Nat.reduceAdd, Nat.reduceSub, Nat.reduceMul, Nat.reduceLT, Nat.reduceLeDiff, Int.reduceEq, Int.reduceNe, Int.reduceLT, Int.reduceLE, Int.reduceBEq, Int.reduceBNe, Int.reduceToNat, he, hlen]
        exact ⟨i1, w, v, [], by omega, by simp, by simp, hs.d2, rfl, rfl⟩
      · -- kind 2
        simp (disch := omega) only [go_sem, reduceCtorEq, ↓reduceIte, Nat.reduceEqDiff, Nat.reduceAdd, Nat.reduceSub, Nat.reduceMul, Nat.reduceLT, Nat.reduceLeDiff, Int.reduceEq, Int.reduceNe, Int.reduceLT, Int.reduceLE, Int.reduceBEq, Int.reduceBNe, Int.reduceToNat, he, hs.p2.at]
        refine call_use (nDrop0 hs cn) ?_
        rintro r h ⟨hr, hs⟩
        subst hr
        simp (disch := omega) only [go_sem, reduceCtorEq, ↓reduceIte, Nat.reduceEqDiff, Nat.reduceAdd, Nat.reduceSub, Nat.reduceMul, Nat.reduceLT, Nat.reduceLeDiff, Int.reduceEq, Int.reduceNe, Int.reduceLT, Int.reduceLE, Int.reduceBEq, Int.reduceBNe, Int.reduceToNat, he]
        have hlen := Els.len hs.p3.els
        refine call_use (nLen (l := []) hs) ?_
        rintro r h ⟨hr, hs⟩
        subst hr
        simp (disch := omega) only [go_sem, reduceCtorEq, ↓reduceIte, Nat.reduceEqDiff, Nat.reduceAdd, Nat.reduceSub, Nat.reduceMul, Nat.reduceLT, Nat.reduceLeDiff, Int.reduceEq, Int.reduceNe, Int.reduceLT, Int.reduceLE, Int.reduceBEq, Int.reduceBNe, Int.reduceToNat, he, hlen]
        exact ⟨i1, w, v, [], by omega, by simp, by simp, hs.d2, rfl, rfl⟩
      · -- kind 3
        simp (disch := omega) only [go_sem, reduceCtorEq, ↓reduceIte, Nat.reduceEqDiff, Nat.reduceAdd, Nat.reduceSub, Nat.reduceMul, Nat.reduceLT, Nat.reduceLeDiff, Int.reduceEq, Int.reduceNe, Int.reduceLT, Int.reduceLE, Int.reduceBEq, Int.reduceBNe, Int.reduceToNat, he, hs.p2.at]
        refine call_use (nDouble0 hs cn) ?_
        rintro r h ⟨hr, hs⟩
        subst hr
        simp (disch := omega) only [go_sem, reduceCtorEq, ↓reduceIte, Nat.reduceEqDiff, Nat.reduceAdd, Nat.reduceSub, Nat.reduceMul, Nat.reduceLT, Nat.reduceLeDiff, Int.reduceEq, Int.reduceNe, Int.reduceLT, Int.reduceLE, Int.reduceBEq, Int.reduceBNe, Int.reduceToNat, he]
        have hlen := Els.len hs.p3.els
        refine call_use (nLen (l := []) hs) ?_
        rintro r h ⟨hr, hs⟩
        subst hr
        simp (disch := omega) only [go_sem, reduceCtorEq, ↓reduceIte, Nat.reduceEqDiff, Nat.reduceAdd, Nat.reduceSub, Nat.reduceMul, Nat.reduceLT, Nat.reduceLeDiff, Int.reduceEq, Int.reduceNe, Int.reduceLT, Int.reduceLE, Int.reduceBEq, Int.reduceBNe, Int.reduceToNat, he, hlen]
        exact ⟨i1, w, v, [], by omega, by simp, by simp, hs.d2, rfl, rfl⟩
    · have hl0 : 0 < l.length := List.length_pos_iff.2 h0
      have hl0' : (0 : Int) < l.length := by omega
      have hz : ((l.length : Int) == 0) = false := by rw [beq_eq_false_iff_ne]; omega
      simp (disch := omega) only [go_sem, reduceCtorEq, ↓reduceIte, Nat.reduceEqDiff, Nat.reduceAdd, Nat.reduceSub, Nat.reduceMul, Nat.reduceLT, Nat.reduceLeDiff, Int.reduceEq, Int.reduceNe, Int.reduceLT, Int.reduceLE, Int.reduceBEq, Int.reduceBNe, Int.reduceToNat, he, hlen, hs.at, hl0', hz]
      refine call_use (within hs hn.1 hn.2 (n := l.length) hl0 (by omega)) ?_
      rintro r h ⟨k, hr, hke, hkl, hs⟩
      subst hr
      have hs := hs.p2.p2
      simp (disch := omega) only [go_sem, reduceCtorEq, ↓reduceIte, Nat.reduceEqDiff, Nat.reduceAdd, Nat.reduceSub, Nat.reduceMul, Nat.reduceLT, Nat.reduceLeDiff, Int.reduceEq, Int.reduceNe, Int.reduceLT, Int.reduceLE, Int.reduceBEq, Int.reduceBNe, Int.reduceToNat, he, hlen, hs.p2.at, hl0', hz]
      refine call_use (within hs hk.1 hk.2 (n := 4) (by omega) (by omega)) ?_
      rintro r h ⟨kd, hr, hkd, hk4, hs⟩
      subst hr
      have hkk : kd = 0 ∨ kd = 1 ∨ kd = 2 ∨ kd = 3 := by omega
      rcases hkk with rfl | rfl | rfl | rfl
      · -- kind 0
        simp (disch := omega) only [go_sem, reduceCtorEq, ↓reduceIte, Nat.reduceEqDiff, Nat.reduceAdd, Nat.reduceSub, Nat.reduceMul, Nat.reduceLT, Nat.reduceLeDiff, Int.reduceEq, Int.reduceNe, Int.reduceLT, Int.reduceLE, Int.reduceBEq, Int.reduceBNe, Int.reduceToNat, he, hs.p2.at]
        refine run_up (N := 5) (fun j e h => ∃ (w v : AV) (l : List Ms), l.length ≤ 5 * i + j ∧ (∀ m ∈ l, Ms.sm m) ∧ sat h [pto n (.row 1 [[w]] 1), Ow 15 w (l.map Ms.cells), pto n6 (.row 3 [[.int .i64 ck, .int .i64 cn, .lst (cl.map Ms.cells)]] 1), Ow 15 v (l.map Ms.cells)] ∧
          (e 0 = .lst (cs.map Cl.row) ∧ e 3 = .ptr n 1 0 0 ∧ e 4 = v ∧ e 5 = .int .i64 i ∧ e 6 = .ptr n6 3 0 0 ∧ e 9 = .int .i64 j)) ⟨w, v, l, by omega, hsm, hs, by simp [Env.upd_apply, he]⟩ ?_
        clear hs hll hsm hlen
        rintro j e h hj ⟨w, v, l, hll, hsm, hs, he⟩
        have llen : lenL (.lst (cl.map Ms.cells)) = some (.int .i64 cl.length) := by simp [lenL]
        have hcase : (((j : Int) < cl.length) ∧ ((j : Int) < 5)) ∨ (¬ (j : Int) < cl.length) ∨ (((j : Int) < cl.length) ∧ ¬ (j : Int) < 5) := by omega
        rcases hcase with ⟨d1, d2⟩ | d1 | ⟨d1, d2⟩
        · have j1 : j < cl.length := by omega
          have hja : iaA 15 (.lst (cl.map Ms.cells)) (.int .i64 (j : Int)) = some (.ro cl[j].cells) := ia_lst j1 fun _ => rfl
          have hmj := hm _ (List.getElem_mem j1)
          simp (disch := omega) only [go_sem, reduceCtorEq, ↓reduceIte, Nat.reduceEqDiff, Nat.reduceAdd, Nat.reduceSub, Nat.reduceMul, Nat.reduceLT, Nat.reduceLeDiff, Int.reduceEq, Int.reduceNe, Int.reduceLT, Int.reduceLE, Int.reduceBEq, Int.reduceBNe, Int.reduceToNat, he, hs.p2.at, llen, d1, d2, hja, Ms.cells]
          refine call_use (few hs (m := cl[j]) hmj) ?_
          rintro r h ⟨hr, hs⟩
          subst hr
          simp (disch := omega) only [go_sem, reduceCtorEq, ↓reduceIte, Nat.reduceEqDiff, Nat.reduceAdd, Nat.reduceSub, Nat.reduceMul, Nat.reduceLT, Nat.reduceLeDiff, Int.reduceEq, Int.reduceNe, Int.reduceLT, Int.reduceLE, Int.reduceBEq, Int.reduceBNe, Int.reduceToNat, he]
          refine cnd_bool (fun q => ?_) (fun q => ?_)
          · simp (disch := omega) only [go_sem, reduceCtorEq, ↓reduceIte, Nat.reduceEqDiff, Nat.reduceAdd, Nat.reduceSub, Nat.reduceMul, Nat.reduceLT, Nat.reduceLeDiff, Int.reduceEq, Int.reduceNe, Int.reduceLT, Int.reduceLE, Int.reduceBEq, Int.reduceBNe, Int.reduceToNat, he, q, hs.p2.at, hja, Ms.cells]
            refine new_opq hs fun nb h hs => ?_
            simp (disch := omega) only [go_sem, reduceCtorEq, ↓reduceIte, Nat.reduceEqDiff, Nat.reduceAdd, Nat.reduceSub, Nat.reduceMul, Nat.reduceLT, Nat.reduceLeDiff, Int.reduceEq, Int.reduceNe, Int.reduceLT, Int.reduceLE, Int.reduceBEq, Int.reduceBNe, Int.reduceToNat, hs.at, he]
            refine call_use (nSend hs.p2.p2 (m := cl[j]) hmj (by omega)) ?_
            rintro r h ⟨w', hs⟩
            simp (disch := omega) only [go_sem, reduceCtorEq, ↓reduceIte, Nat.reduceEqDiff, Nat.reduceAdd, Nat.reduceSub, Nat.reduceMul, Nat.reduceLT, Nat.reduceLeDiff, Int.reduceEq, Int.reduceNe, Int.reduceLT, Int.reduceLE, Int.reduceBEq, Int.reduceBNe, Int.reduceToNat, he, hs.p2.at, hja, Ms.cells]
            refine new_opq hs fun nc h hs => ?_
            simp (disch := omega) only [go_sem, reduceCtorEq, ↓reduceIte, Nat.reduceEqDiff, Nat.reduceAdd, Nat.reduceSub, Nat.reduceMul, Nat.reduceLT, Nat.reduceLeDiff, Int.reduceEq, Int.reduceNe, Int.reduceLT, Int.reduceLE, Int.reduceBEq, Int.reduceBNe, Int.reduceToNat, hs.at, he]
            have hx : srcA 15 h (.arr nc 15 0 1 1) = some [cl[j].cells] := src_one hs.at
            refine app_sat hs.p4 hx (atoms_ms [cl[j]]) (by simp; omega) fun v' h hs hc' ha' => ?_
            simp (disch := omega) only [go_sem, reduceCtorEq, ↓reduceIte, Nat.reduceEqDiff, Nat.reduceAdd, Nat.reduceSub, Nat.reduceMul, Nat.reduceLT, Nat.reduceLeDiff, Int.reduceEq, Int.reduceNe, Int.reduceLT, Int.reduceLE, Int.reduceBEq, Int.reduceBNe, Int.reduceToNat, he, hc', ha']
            refine ⟨by omega, w', v', l ++ [cl[j]], by simp; omega, fun m hm' => ?_, ?_, rfl, rfl⟩
            · rcases List.mem_append.1 hm' with hm' | hm'
              · exact hsm m hm'
              · rw [List.mem_singleton.1 hm']; exact hmj
            · have := hs.d1.p3.p3.p3
              simpa using this
          · simp (disch := omega) only [go_sem, reduceCtorEq, ↓reduceIte, Nat.reduceEqDiff, Nat.reduceAdd, Nat.reduceSub, Nat.reduceMul, Nat.reduceLT, Nat.reduceLeDiff, Int.reduceEq, Int.reduceNe, Int.reduceLT, Int.reduceLE, Int.reduceBEq, Int.reduceBNe, Int.reduceToNat, he, q]
            exact ⟨by omega, w, v, l, by omega, hsm, hs, rfl, rfl⟩
        all_goals
          first
            | simp (disch := omega) only [go_sem, reduceCtorEq, ↓reduceIte, Nat.reduceEqDiff, Nat.reduceAdd, Nat.reduceSub, Nat.reduceMul, Nat.reduceLT, Nat.reduceLeDiff, Int.reduceEq, Int.reduceNe, Int.reduceLT, Int.reduceLE, Int.reduceBEq, Int.reduceBNe, Int.reduceToNat, he, hs.p2.at, llen, d1, d2]
            | simp (disch := omega) only [go_sem, reduceCtorEq, ↓reduceIte, Nat.reduceEqDiff, Nat.reduceAdd, Nat.reduceSub, Nat.reduceMul, Nat.reduceLT, Nat.reduceLeDiff, Int.reduceEq, Int.reduceNe, Int.reduceLT, Int.reduceLE, Int.reduceBEq, Int.reduceBNe, Int.reduceToNat, he, hs.p2.at, llen, d1]
          have hlen := Els.len hs.p3.els
          rw [List.length_map] at hlen
          refine call_use (nLen hs) ?_
          rintro r h ⟨hr, hs⟩
          subst hr
          simp (disch := omega) only [go_sem, reduceCtorEq, ↓reduceIte, Nat.reduceEqDiff, Nat.reduceAdd, Nat.reduceSub, Nat.reduceMul, Nat.reduceLT, Nat.reduceLeDiff, Int.reduceEq, Int.reduceNe, Int.reduceLT, Int.reduceLE, Int.reduceBEq, Int.reduceBNe, Int.reduceToNat, he, hlen]
          exact ⟨i1, w, v, l, by omega, by omega, hsm, hs.d2, rfl, rfl⟩
      · -- kind 1
        simp (disch := omega) only [go_sem, reduceCtorEq, ↓reduceIte, Nat.reduceEqDiff, Nat.reduceAdd, Nat.reduceSub, Nat.reduceMul, Nat.reduceLT, Nat.reduceLeDiff, Int.reduceEq, Int.reduceNe, Int.reduceLT, Int.reduceLE, Int.reduceBEq, Int.reduceBNe, Int.reduceToNat, he, hs.p2.at]
        refine call_use (nDeliver hs hl0 (by omega) hn) ?_
        rintro r h ⟨j, hj, w', hje, hr, hs⟩
        subst hr
        have hjk : j = k := by omega
        subst hjk
        rcases hs.p3.cases with ⟨_, h1, _⟩ | ⟨bl, cap, hv, g, hcap⟩
        · exact absurd (by simpa using h1) h0
        rw [List.length_map] at hv hcap
        subst hv
        have tj : ((j : Int) + 1).toNat = j + 1 := by omega
        have hrow : (l.map Ms.cells)[j]? = some l[j].cells := by simp [hj]
        have hs := g
        simp (disch := omega) only [go_sem, reduceCtorEq, ↓reduceIte, Nat.reduceEqDiff, Nat.reduceAdd, Nat.reduceSub, Nat.reduceMul, Nat.reduceLT, Nat.reduceLeDiff, Int.reduceEq, Int.reduceNe, Int.reduceLT, Int.reduceLE, Int.reduceBEq, Int.reduceBNe, Int.reduceToNat, he]
        refine new_opq hs fun n10 h hs => ?_
        simp (disch := omega) only [go_sem, reduceCtorEq, ↓reduceIte, Nat.reduceEqDiff, Nat.reduceAdd, Nat.reduceSub, Nat.reduceMul, Nat.reduceLT, Nat.reduceLeDiff, Int.reduceEq, Int.reduceNe, Int.reduceLT, Int.reduceLE, Int.reduceBEq, Int.reduceBNe, Int.reduceToNat, hs.at, he, hs.set.p1.at, hrow, Int.toNat_natCast, Ms.cells]
        have rm := Ms_room (hsm _ (List.getElem_mem hj))
        refine call_use (xSame (a := l[j]) (b := l[j]) hs.set rm rm) ?_
        rintro r h ⟨hr, hs⟩
        subst hr
        simp (disch := omega) only [go_sem, reduceCtorEq, ↓reduceIte, Nat.reduceEqDiff, Nat.reduceAdd, Nat.reduceSub, Nat.reduceMul, Nat.reduceLT, Nat.reduceLeDiff, Int.reduceEq, Int.reduceNe, Int.reduceLT, Int.reduceLE, Int.reduceBEq, Int.reduceBNe, Int.reduceToNat, he, slcL_hi, slcL_lo, tj, Int.toNat_natCast]
        have hs := hs.drop
        refine new_opq hs fun ny h hs => ?_
        simp (disch := omega) only [go_sem, reduceCtorEq, ↓reduceIte, Nat.reduceEqDiff, Nat.reduceAdd, Nat.reduceSub, Nat.reduceMul, Nat.reduceLT, Nat.reduceLeDiff, Int.reduceEq, Int.reduceNe, Int.reduceLT, Int.reduceLE, Int.reduceBEq, Int.reduceBNe, Int.reduceToNat, hs.at, he]
        have y1 : srcA 15 h (.arr bl 15 0 j cap) = some ((l.map Ms.cells).take j) := by
          have := src_part (off := 0) (len := j) (c := cap) hs.p1 (by simp; omega)
          simpa using this
        refine app_sat (hs.ow (Nat.zero_le _)) y1 (by rw [← List.map_take]; exact atoms_ms _) (by simp; omega) fun v2 h hs hc2 ha2 => ?_
        rw [List.nil_append] at hs
        simp (disch := omega) only [go_sem, reduceCtorEq, ↓reduceIte, Nat.reduceEqDiff, Nat.reduceAdd, Nat.reduceSub, Nat.reduceMul, Nat.reduceLT, Nat.reduceLeDiff, Int.reduceEq, Int.reduceNe, Int.reduceLT, Int.reduceLE, Int.reduceBEq, Int.reduceBNe, Int.reduceToNat, he, hc2, ha2]
        have y2 : srcA 15 h (.arr bl 15 (j + 1) (l.length - (j + 1)) (cap - (j + 1))) = some ((l.map Ms.cells).drop (j + 1)) := by
          have := src_part (off := j + 1) (len := l.length - (j + 1)) (c := cap - (j + 1)) hs.p1 (by simp; omega)
          rw [List.take_of_length_le (by simp)] at this
          exact this
        refine app_sat hs y2 (by rw [← List.map_drop]; exact atoms_ms _) (by simp; omega) fun v3 h hs hc3 ha3 => ?_
        have em : (l.map Ms.cells).take j ++ (l.map Ms.cells).drop (j + 1) = (l.eraseIdx j).map Ms.cells := by simp [List.eraseIdx_eq_take_drop_succ, List.map_take, List.map_drop]
        have el : (l.eraseIdx j).length = l.length - 1 := List.length_eraseIdx_of_lt hj
        rw [em] at hs
        have hs := hs.d1.p3.drop.p2.p2
        have hlen := Els.len hs.p2.els
        rw [List.length_map] at hlen
        simp (disch := omega) only [go_sem, reduceCtorEq, ↓reduceIte, Nat.reduceEqDiff, Nat.reduceAdd, Nat.reduceSub, Nat.reduceMul, Nat.reduceLT, Nat.reduceLeDiff, Int.reduceEq, Int.reduceNe, Int.reduceLT, Int.reduceLE, Int.reduceBEq, Int.reduceBNe, Int.reduceToNat, he, hc3, ha3]
        refine call_use (nLen hs) ?_
        rintro r h ⟨hr, hs⟩
        subst hr
        simp (disch := omega) only [go_sem, reduceCtorEq, ↓reduceIte, Nat.reduceEqDiff, Nat.reduceAdd, Nat.reduceSub, Nat.reduceMul, Nat.reduceLT, Nat.reduceLeDiff, Int.reduceEq, Int.reduceNe, Int.reduceLT, Int.reduceLE, Int.reduceBEq, Int.reduceBNe, Int.reduceToNat, he, hlen]
        exact ⟨i1, w', v3, l.eraseIdx j, by omega, by omega, fun m hm' => hsm m (List.mem_of_mem_eraseIdx hm'), hs, rfl, rfl⟩
      · -- kind 2
        simp (disch := omega) only [go_sem, reduceCtorEq, ↓reduceIte, Nat.reduceEqDiff, Nat.reduceAdd, Nat.reduceSub, Nat.reduceMul, Nat.reduceLT, Nat.reduceLeDiff, Int.reduceEq, Int.reduceNe, Int.reduceLT, Int.reduceLE, Int.reduceBEq, Int.reduceBNe, Int.reduceToNat, he, hs.p2.at]
        refine call_use (nDrop hs hl0 (by omega) hn) ?_
        rintro r h ⟨j, hj, w', hje, hr, hs⟩
        subst hr
        have hjk : j = k := by omega
        subst hjk
        rcases hs.p3.cases with ⟨_, h1, _⟩ | ⟨bl, cap, hv, g, hcap⟩
        · exact absurd (by simpa using h1) h0
        rw [List.length_map] at hv hcap
        subst hv
        have tj : ((j : Int) + 1).toNat = j + 1 := by omega
        simp (disch := omega) only [go_sem, reduceCtorEq, ↓reduceIte, Nat.reduceEqDiff, Nat.reduceAdd, Nat.reduceSub, Nat.reduceMul, Nat.reduceLT, Nat.reduceLeDiff, Int.reduceEq, Int.reduceNe, Int.reduceLT, Int.reduceLE, Int.reduceBEq, Int.reduceBNe, Int.reduceToNat, he, slcL_hi, slcL_lo, tj, Int.toNat_natCast]
        have hs := g
        refine new_opq hs fun ny h hs => ?_
        simp (disch := omega) only [go_sem, reduceCtorEq, ↓reduceIte, Nat.reduceEqDiff, Nat.reduceAdd, Nat.reduceSub, Nat.reduceMul, Nat.reduceLT, Nat.reduceLeDiff, Int.reduceEq, Int.reduceNe, Int.reduceLT, Int.reduceLE, Int.reduceBEq, Int.reduceBNe, Int.reduceToNat, hs.at, he]
        have y1 : srcA 15 h (.arr bl 15 0 j cap) = some ((l.map Ms.cells).take j) := by
          have := src_part (off := 0) (len := j) (c := cap) hs.p1 (by simp; omega)
          simpa using this
        refine app_sat (hs.ow (Nat.zero_le _)) y1 (by rw [← List.map_take]; exact atoms_ms _) (by simp; omega) fun v2 h hs hc2 ha2 => ?_
        rw [List.nil_append] at hs
        simp (disch := omega) only [go_sem, reduceCtorEq, ↓reduceIte, Nat.reduceEqDiff, Nat.reduceAdd, Nat.reduceSub, Nat.reduceMul, Nat.reduceLT, Nat.reduceLeDiff, Int.reduceEq, Int.reduceNe, Int.reduceLT, Int.reduceLE, Int.reduceBEq, Int.reduceBNe, Int.reduceToNat, he, hc2, ha2]
        have y2 : srcA 15 h (.arr bl 15 (j + 1) (l.length - (j + 1)) (cap - (j + 1))) = some ((l.map Ms.cells).drop (j + 1)) := by
          have := src_part (off := j + 1) (len := l.length - (j + 1)) (c := cap - (j + 1)) hs.p1 (by simp; omega)
          rw [List.take_of_length_le (by simp)] at this
          exact this
        refine app_sat hs y2 (by rw [← List.map_drop]; exact atoms_ms _) (by simp; omega) fun v3 h hs hc3 ha3 => ?_
        have em : (l.map Ms.cells).take j ++ (l.map Ms.cells).drop (j + 1) = (l.eraseIdx j).map Ms.cells := by simp [List.eraseIdx_eq_take_drop_succ, List.map_take, List.map_drop]
        have el : (l.eraseIdx j).length = l.length - 1 := List.length_eraseIdx_of_lt hj
        rw [em] at hs
        have hs := hs.d1.p3.drop.p2.p2
        have hlen := Els.len hs.p2.els
        rw [List.length_map] at hlen
        simp (disch := omega) only [go_sem, reduceCtorEq, ↓reduceIte, Nat.reduceEqDiff, Nat.reduceAdd, Nat.reduceSub, Nat.reduceMul, Nat.reduceLT, Nat.reduceLeDiff, Int.reduceEq, Int.reduceNe, Int.reduceLT, Int.reduceLE, Int.reduceBEq, Int.reduceBNe, Int.reduceToNat, he, hc3, ha3]
        refine call_use (nLen hs) ?_
        rintro r h ⟨hr, hs⟩
        subst hr
        simp (disch := omega) only [go_sem, reduceCtorEq, ↓reduceIte, Nat.reduceEqDiff, Nat.reduceAdd, Nat.reduceSub, Nat.reduceMul, Nat.reduceLT, Nat.reduceLeDiff, Int.reduceEq, Int.reduceNe, Int.reduceLT, Int.reduceLE, Int.reduceBEq, Int.reduceBNe, Int.reduceToNat, he, hlen]
        exact ⟨i1, w', v3, l.eraseIdx j, by omega, by omega, fun m hm' => hsm m (List.mem_of_mem_eraseIdx hm'), hs, rfl, rfl⟩
      · -- kind 3
        simp (disch := omega) only [go_sem, reduceCtorEq, ↓reduceIte, Nat.reduceEqDiff, Nat.reduceAdd, Nat.reduceSub, Nat.reduceMul, Nat.reduceLT, Nat.reduceLeDiff, Int.reduceEq, Int.reduceNe, Int.reduceLT, Int.reduceLE, Int.reduceBEq, Int.reduceBNe, Int.reduceToNat, he, hs.p2.at]
        refine call_use (nDouble hs hl0 (by omega) hn hsm) ?_
        rintro r h ⟨j, hj, w', hje, hr, hs⟩
        subst hr
        have hjk : j = k := by omega
        subst hjk
        rcases hs.p3.cases with ⟨_, h1, _⟩ | ⟨bl, cap, hv, g, hcap⟩
        · exact absurd (by simpa using h1) h0
        rw [List.length_map] at hv hcap
        subst hv
        have hrow : (l.map Ms.cells)[j]? = some l[j].cells := by simp [hj]
        have hs := g
        simp (disch := omega) only [go_sem, reduceCtorEq, ↓reduceIte, Nat.reduceEqDiff, Nat.reduceAdd, Nat.reduceSub, Nat.reduceMul, Nat.reduceLT, Nat.reduceLeDiff, Int.reduceEq, Int.reduceNe, Int.reduceLT, Int.reduceLE, Int.reduceBEq, Int.reduceBNe, Int.reduceToNat, he, hs.at, hrow, Int.toNat_natCast, Ms.cells]
        refine new_opq hs fun ny h hs => ?_
        simp (disch := omega) only [go_sem, reduceCtorEq, ↓reduceIte, Nat.reduceEqDiff, Nat.reduceAdd, Nat.reduceSub, Nat.reduceMul, Nat.reduceLT, Nat.reduceLeDiff, Int.reduceEq, Int.reduceNe, Int.reduceLT, Int.reduceLE, Int.reduceBEq, Int.reduceBNe, Int.reduceToNat, hs.at, he]
        have y1 : srcA 15 h (.arr bl 15 0 l.length cap) = some (l.map Ms.cells) := by
          have := src_part (off := 0) (len := l.length) (c := cap) hs.p1 (by simp)
          rw [List.drop_zero, List.take_of_length_le (by simp)] at this
          exact this
        refine app_satO (hs.ow (Nat.zero_le _)) y1 (atoms_ms _) (by simp; omega) fun v2 h hs hc2 ha2 => ?_
        rw [List.nil_append] at hs
        simp (disch := omega) only [go_sem, reduceCtorEq, ↓reduceIte, Nat.reduceEqDiff, Nat.reduceAdd, Nat.reduceSub, Nat.reduceMul, Nat.reduceLT, Nat.reduceLeDiff, Int.reduceEq, Int.reduceNe, Int.reduceLT, Int.reduceLE, Int.reduceBEq, Int.reduceBNe, Int.reduceToNat, he, hc2, ha2, hs.p1.at, hrow, Int.toNat_natCast, Ms.cells]
        refine new_opq hs fun nb h hs => ?_
        simp (disch := omega) only [go_sem, reduceCtorEq, ↓reduceIte, Nat.reduceEqDiff, Nat.reduceAdd, Nat.reduceSub, Nat.reduceMul, Nat.reduceLT, Nat.reduceLeDiff, Int.reduceEq, Int.reduceNe, Int.reduceLT, Int.reduceLE, Int.reduceBEq, Int.reduceBNe, Int.reduceToNat, hs.at, he]
        have hx : srcA 15 h (.arr nb 15 0 1 1) = some [l[j].cells] := src_one hs.at
        refine app_sat hs.p1 hx (atoms_ms [l[j]]) (by simp; omega) fun v3 h hs hc3 ha3 => ?_
        have hs := hs.d1.d1.p3.drop.p2.p2
        have e2 : l.map Ms.cells ++ [l[j].cells] = (l ++ [l[j]]).map Ms.cells := by simp
        rw [e2] at hs
        have hlen := Els.len hs.p2.els
        rw [List.length_map] at hlen
        simp (disch := omega) only [go_sem, reduceCtorEq, ↓reduceIte, Nat.reduceEqDiff, Nat.reduceAdd, Nat.reduceSub, Nat.reduceMul, Nat.reduceLT, Nat.reduceLeDiff, Int.reduceEq, Int.reduceNe, Int.reduceLT, Int.reduceLE, Int.reduceBEq, Int.reduceBNe, Int.reduceToNat, he, hc3, ha3]
        refine call_use (nLen hs) ?_
        rintro r h ⟨hr, hs⟩
        subst hr
        simp (disch := omega) only [go_sem, reduceCtorEq, ↓reduceIte, Nat.reduceEqDiff, Nat.reduceAdd, Nat.reduceSub, Nat.reduceMul, Nat.reduceLT, Nat.reduceLeDiff, Int.reduceEq, Int.reduceNe, Int.reduceLT, Int.reduceLE, Int.reduceBEq, Int.reduceBNe, Int.reduceToNat, he, hlen]
        refine ⟨i1, w', v3, l ++ [l[j]], by omega, by simp; omega, fun m hm' => ?_, hs, rfl, rfl⟩
        rcases List.mem_append.1 hm' with hm' | hm'
        · exact hsm m hm'
        · rw [List.mem_singleton.1 hm']; exact hsm _ (List.getElem_mem hj)
  all_goals
    first
      | simp (disch := omega) only [go_sem, reduceCtorEq, ↓reduceIte, Nat.reduceEqDiff, Nat.reduceAdd, Nat.reduceSub, Nat.reduceMul, Nat.reduceLT, Nat.reduceLeDiff, Int.reduceEq, Int.reduceNe, Int.reduceLT, Int.reduceLE, Int.reduceBEq, Int.reduceBNe, Int.reduceToNat, he, clen, c1, c2]
      | simp (disch := omega) only [go_sem, reduceCtorEq, ↓reduceIte, Nat.reduceEqDiff, Nat.reduceAdd, Nat.reduceSub, Nat.reduceMul, Nat.reduceLT, Nat.reduceLeDiff, Int.reduceEq, Int.reduceNe, Int.reduceLT, Int.reduceLE, Int.reduceBEq, Int.reduceBNe, Int.reduceToNat, he, clen, c1]
theorem netPlays_law (vs : List AV) (h : Ty.ones [.sl (.st tyC)] vs) (hN : Ty.bulks [.sl (.st tyC)] vs ≤ 1048576) : Triple Try.prog 6 vs Hp.emp (fun r _ => r = .bool true) := by
  obtain ⟨a, _, rfl, ha, h⟩ := ones_cons h
  obtain rfl := ones_nil h
  obtain ⟨es, rfl', hl, hes⟩ := ha
  cases rfl'
  obtain ⟨n1, _⟩ := bulk1_le hN
  have e : (Ty.sl (.st tyC)).bulk1 (.lst es) = (es.map (Ty.st tyC).bulk).sum + 1 := rfl
  obtain ⟨l, rfl, hl2⟩ := cls_of hes (by omega)
  rw [List.length_map] at hl
  exact netPlays (Nat.le_trans hl (by decide)) hl2
end Go.Proofs.Ytfbflmiipepmiaa
