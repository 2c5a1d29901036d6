/- The law NetTurns, walked. -/
import Derived.Test.YtfbflmiipepmiaaR2NetCuts
set_option linter.unusedSimpArgs false
set_option linter.unusedVariables false
set_option maxRecDepth 10000
namespace Go.Proofs.Ytfbflmiipepmiaa
open Go.Hz

theorem netTurns {m : Ms} {ks : List Int} {ys : List UInt8} {cut : Int} {zs : List UInt8} (fm : m.fine) (hm : m.es.length ≤ 1048576 ∧ m.vs.length ≤ 1048576 ∧ m.data.length + sumD m.es ≤ 1048576)
    (hk : ks.length ≤ 9223372036854775807) (hy : ys.length ≤ 9223372036854775807) (hz : zs.length ≤ 9223372036854775807) (hks : ∀ k ∈ ks, -9223372036854775808 ≤ k ∧ k ≤ 9223372036854775807) (hc : inI cut) :
    Triple Try.prog 3 [.agg m.cells, nums ks, .lst (ys.map eb), .int .i64 cut, .lst (zs.map eb)] Hp.emp (fun r _ => r = .bool true) := by
  have hs : sat Hp.emp [] := trivial
  have rm := Ms_room hm
  refine t3 (Nat.le_of_ble_eq_true rfl) ?_
  simp (disch := omega) only [F3, go_sem, reduceCtorEq, ↓reduceIte, Nat.reduceEqDiff, Nat.reduceAdd, Nat.reduceSub, Nat.reduceMul, Nat.reduceLT, Nat.reduceLeDiff, Int.reduceEq, Int.reduceNe, Int.reduceLT, Int.reduceLE, Int.reduceBEq, Int.reduceBNe, Int.reduceToNat]
  refine new_opq hs fun n h hs => ?_
  simp (disch := omega) only [go_sem, reduceCtorEq, ↓reduceIte, Nat.reduceEqDiff, Nat.reduceAdd, Nat.reduceSub, Nat.reduceMul, Nat.reduceLT, Nat.reduceLeDiff, Int.reduceEq, Int.reduceNe, Int.reduceLT, Int.reduceLE, Int.reduceBEq, Int.reduceBNe, Int.reduceToNat, hs.at]
  refine call_use (known hs) ?_
  rintro r h ⟨hr, hs⟩
  subst hr
  simp (disch := omega) only [go_sem, reduceCtorEq, ↓reduceIte, Nat.reduceEqDiff, Nat.reduceAdd, Nat.reduceSub, Nat.reduceMul, Nat.reduceLT, Nat.reduceLeDiff, Int.reduceEq, Int.reduceNe, Int.reduceLT, Int.reduceLE, Int.reduceBEq, Int.reduceBNe, Int.reduceToNat, hs.at]
  refine call_use (few hs hm) ?_
  rintro r h ⟨hr, hs⟩
  subst hr
  simp (disch := omega) only [go_sem, reduceCtorEq, ↓reduceIte, Nat.reduceEqDiff, Nat.reduceAdd, Nat.reduceSub, Nat.reduceMul, Nat.reduceLT, Nat.reduceLeDiff, Int.reduceEq, Int.reduceNe, Int.reduceLT, Int.reduceLE, Int.reduceBEq, Int.reduceBNe, Int.reduceToNat]
  refine cnd_bool (fun q => ?_) (fun q => ?_)
  · simp (disch := omega) only [go_sem, reduceCtorEq, ↓reduceIte, Nat.reduceEqDiff, Nat.reduceAdd, Nat.reduceSub, Nat.reduceMul, Nat.reduceLT, Nat.reduceLeDiff, Int.reduceEq, Int.reduceNe, Int.reduceLT, Int.reduceLE, Int.reduceBEq, Int.reduceBNe, Int.reduceToNat, q]
  have f1 : fewM m = true := by simpa using q
  simp (disch := omega) only [go_sem, reduceCtorEq, ↓reduceIte, Nat.reduceEqDiff, Nat.reduceAdd, Nat.reduceSub, Nat.reduceMul, Nat.reduceLT, Nat.reduceLeDiff, Int.reduceEq, Int.reduceNe, Int.reduceLT, Int.reduceLE, Int.reduceBEq, Int.reduceBNe, Int.reduceToNat, q]
  refine cnd_dec (fun c => ?_) (fun c => ?_)
  · simp (disch := omega) only [go_sem, reduceCtorEq, ↓reduceIte, Nat.reduceEqDiff, Nat.reduceAdd, Nat.reduceSub, Nat.reduceMul, Nat.reduceLT, Nat.reduceLeDiff, Int.reduceEq, Int.reduceNe, Int.reduceLT, Int.reduceLE, Int.reduceBEq, Int.reduceBNe, Int.reduceToNat]
  obtain ⟨g1, g2, g3⟩ := fewM_iff f1
  have hB : m.B.length ≤ 1000000000 := by rw [B_len]; omega
  simp (disch := omega) only [go_sem, reduceCtorEq, ↓reduceIte, Nat.reduceEqDiff, Nat.reduceAdd, Nat.reduceSub, Nat.reduceMul, Nat.reduceLT, Nat.reduceLeDiff, Int.reduceEq, Int.reduceNe, Int.reduceLT, Int.reduceLE, Int.reduceBEq, Int.reduceBNe, Int.reduceToNat, hs.at]
  refine call_use (xEncodeO hs rm hB) ?_
  rintro r h ⟨v, hr, hs⟩
  subst hr
  simp (disch := omega) only [go_sem, reduceCtorEq, ↓reduceIte, Nat.reduceEqDiff, Nat.reduceAdd, Nat.reduceSub, Nat.reduceMul, Nat.reduceLT, Nat.reduceLeDiff, Int.reduceEq, Int.reduceNe, Int.reduceLT, Int.reduceLE, Int.reduceBEq, Int.reduceBNe, Int.reduceToNat]
  by_cases he : m.e = 0
  · have en : m.enc = frameB m.B := by unfold Ms.enc; rw [if_pos he]
    have el : (frameB m.B).length = 8 + m.B.length := frameB_length _
    have bl := B_len m
    rw [en] at hs
    simp (disch := omega) only [go_sem, reduceCtorEq, ↓reduceIte, Nat.reduceEqDiff, Nat.reduceAdd, Nat.reduceSub, Nat.reduceMul, Nat.reduceLT, Nat.reduceLeDiff, Int.reduceEq, Int.reduceNe, Int.reduceLT, Int.reduceLE, Int.reduceBEq, Int.reduceBNe, Int.reduceToNat, he]
    generalize hN : (frameB m.B).length = L at el
    refine run_up (N := ks.length) (fun i e h => ∃ b, b.length = L ∧ (e 1 = nums ks ∧ e 2 = .lst (ys.map eb) ∧ e 3 = .int .i64 cut ∧ e 4 = .lst (zs.map eb) ∧ e 13 = .int .i64 i) ∧ sat h [Ow 1 (e 11) (b.map eb)])
      ⟨frameB m.B, hN, ⟨rfl, rfl, rfl, rfl, rfl⟩, by simpa [Env.upd_apply] using hs.d1⟩ ?_
    rintro i e h hi ⟨b, hbl, he, hs⟩
    have hcase : (((i : Int) < ks.length) ∧ ((i : Int) < ys.length) ∧ ((i : Int) < 3)) ∨ (¬ (i : Int) < ks.length) ∨ (((i : Int) < ks.length) ∧ ¬ (i : Int) < ys.length) ∨ (((i : Int) < ks.length) ∧ ((i : Int) < ys.length) ∧ ¬ (i : Int) < 3) := by omega
    rcases hs.cases with ⟨_, h0, _⟩ | ⟨bl, cap, hv, g, hcap⟩
    · have h0' : b = [] := by simpa using h0
      rw [h0', List.length_nil] at hbl
      omega
    rw [List.length_map, hbl] at hv hcap
    rcases hcase with ⟨c1, c2, c3⟩ | c1 | ⟨c1, c2⟩ | ⟨c1, c2, c3⟩
    · have i1 : i < ks.length := by omega
      have i2 : i < ys.length := by omega
      have hki := hks _ (List.getElem_mem i1)
      have hm1 : iaA 1 (.lst (ys.map eb)) (.int .i64 (i : Int)) = some (.ro (eb ys[i])) := ia_lst i2 fun _ => rfl
      simp (disch := omega) only [go_sem, reduceCtorEq, ↓reduceIte, Nat.reduceEqDiff, Nat.reduceAdd, Nat.reduceSub, Nat.reduceMul, Nat.reduceLT, Nat.reduceLeDiff, Int.reduceEq, Int.reduceNe, Int.reduceLT, Int.reduceLE, Int.reduceBEq, Int.reduceBNe, Int.reduceToNat, he, num_len, hv, num_at i1, hm1, eb, c1, c2, c3]
      refine call_use' (within g hki.1 hki.2 (n := L) (by omega) (by omega)) ?_
      rintro r h ⟨k, hr, hke, hkl, g⟩
      subst hr
      have hb := g.at
      have hk1 : (b.map eb)[k]? = some [.int .u8 b[k].toNat] := by simp [eb, hbl, hkl]
      simp (disch := omega) only [go_sem, reduceCtorEq, ↓reduceIte, Nat.reduceEqDiff, Nat.reduceAdd, Nat.reduceSub, Nat.reduceMul, Nat.reduceLT, Nat.reduceLeDiff, Int.reduceEq, Int.reduceNe, Int.reduceLT, Int.reduceLE, Int.reduceBEq, Int.reduceBNe, Int.reduceToNat, he, hv, num_at i1, hm1, eb, c1, c2, c3, hb, hk1, Int.toNat_natCast]
      refine ⟨by omega, b.set k (b[k] + ys[i]), by simp [hbl], rfl, ?_⟩
      rw [u8_add, set_eb]
      have := (g.set (o' := .row 1 ((b.set k (b[k] + ys[i])).map eb) cap)).ow (by simp; omega)
      simpa [hbl] using this
    all_goals
      first
        | simp (disch := omega) only [go_sem, reduceCtorEq, ↓reduceIte, Nat.reduceEqDiff, Nat.reduceAdd, Nat.reduceSub, Nat.reduceMul, Nat.reduceLT, Nat.reduceLeDiff, Int.reduceEq, Int.reduceNe, Int.reduceLT, Int.reduceLE, Int.reduceBEq, Int.reduceBNe, Int.reduceToNat, he, hv, num_len, c1, c2, c3]
        | simp (disch := omega) only [go_sem, reduceCtorEq, ↓reduceIte, Nat.reduceEqDiff, Nat.reduceAdd, Nat.reduceSub, Nat.reduceMul, Nat.reduceLT, Nat.reduceLeDiff, Int.reduceEq, Int.reduceNe, Int.reduceLT, Int.reduceLE, Int.reduceBEq, Int.reduceBNe, Int.reduceToNat, he, hv, num_len, c1, c2]
        | simp (disch := omega) only [go_sem, reduceCtorEq, ↓reduceIte, Nat.reduceEqDiff, Nat.reduceAdd, Nat.reduceSub, Nat.reduceMul, Nat.reduceLT, Nat.reduceLeDiff, Int.reduceEq, Int.reduceNe, Int.reduceLT, Int.reduceLE, Int.reduceBEq, Int.reduceBNe, Int.reduceToNat, he, hv, num_len, c1]
      refine cnd_dec (fun c4 => ?_) (fun c4 => ?_)
      case' refine_1 =>
        have eL : (L : Int) + 1 = ((L + 1 : Nat) : Int) := by omega
        simp (disch := omega) only [go_sem, reduceCtorEq, ↓reduceIte, Nat.reduceEqDiff, Nat.reduceAdd, Nat.reduceSub, Nat.reduceMul, Nat.reduceLT, Nat.reduceLeDiff, Int.reduceEq, Int.reduceNe, Int.reduceLT, Int.reduceLE, Int.reduceBEq, Int.reduceBNe, Int.reduceToNat, he, hv, eL]
        refine call_use (within g hc.1 hc.2 (n := L + 1) (by omega) (by omega)) ?_
        rintro r h ⟨k, hr, hke, hkl, g⟩
        subst hr
        have ek : (L : Int) - (k : Int) = ((L - k : Nat) : Int) := by omega
        have sl := slc_arr (s := 1) (b := bl) (len := L) (cap := cap) (n := L - k) (k := .i64) (by omega) hcap
        simp (disch := omega) only [go_sem, reduceCtorEq, ↓reduceIte, Nat.reduceEqDiff, Nat.reduceAdd, Nat.reduceSub, Nat.reduceMul, Nat.reduceLT, Nat.reduceLeDiff, Int.reduceEq, Int.reduceNe, Int.reduceLT, Int.reduceLE, Int.reduceBEq, Int.reduceBNe, Int.reduceToNat, he, hv, ek, sl]
      case' refine_2 =>
        simp (disch := omega) only [go_sem, reduceCtorEq, ↓reduceIte, Nat.reduceEqDiff, Nat.reduceAdd, Nat.reduceSub, Nat.reduceMul, Nat.reduceLT, Nat.reduceLeDiff, Int.reduceEq, Int.reduceNe, Int.reduceLT, Int.reduceLE, Int.reduceBEq, Int.reduceBNe, Int.reduceToNat, he, hv]
      all_goals
        refine app_cut g (by rw [List.length_map]; omega) (Els.lst (eb_one zs)).1 (atoms_eb _) (by rw [List.length_map]; omega) fun v' h hs hc' ha' => ?_
        rw [← List.map_take, ← List.map_append] at hs
        generalize hcc : List.take _ b ++ zs = cc at hs
        have hcl : cc.length ≤ L + 100 := by rw [← hcc, List.length_append, List.length_take]; omega
        simp (disch := omega) only [go_sem, reduceCtorEq, ↓reduceIte, Nat.reduceEqDiff, Nat.reduceAdd, Nat.reduceSub, Nat.reduceMul, Nat.reduceLT, Nat.reduceLeDiff, Int.reduceEq, Int.reduceNe, Int.reduceLT, Int.reduceLE, Int.reduceBEq, Int.reduceBNe, Int.reduceToNat, he]
        refine new_opq hs fun nx h hs => ?_
        simp (disch := omega) only [go_sem, reduceCtorEq, ↓reduceIte, Nat.reduceEqDiff, Nat.reduceAdd, Nat.reduceSub, Nat.reduceMul, Nat.reduceLT, Nat.reduceLeDiff, Int.reduceEq, Int.reduceNe, Int.reduceLT, Int.reduceLE, Int.reduceBEq, Int.reduceBNe, Int.reduceToNat, hs.at]
        refine app_sat (hs.ow (Nat.zero_le _)) hs.p1.els.1 (atoms_eb _) (by simp; omega) fun v2 h hs hc2 ha2 => ?_
        rw [List.nil_append] at hs
        simp (disch := omega) only [go_sem, reduceCtorEq, ↓reduceIte, Nat.reduceEqDiff, Nat.reduceAdd, Nat.reduceSub, Nat.reduceMul, Nat.reduceLT, Nat.reduceLeDiff, Int.reduceEq, Int.reduceNe, Int.reduceLT, Int.reduceLE, Int.reduceBEq, Int.reduceBNe, Int.reduceToNat]
        refine call_use (pParse hs (fun h hs => hs.bts) hs.cap (by omega)) ?_
        rintro r h ⟨hr, hs⟩
        subst hr
        simp (disch := omega) only [go_sem, reduceCtorEq, ↓reduceIte, Nat.reduceEqDiff, Nat.reduceAdd, Nat.reduceSub, Nat.reduceMul, Nat.reduceLT, Nat.reduceLeDiff, Int.reduceEq, Int.reduceNe, Int.reduceLT, Int.reduceLE, Int.reduceBEq, Int.reduceBNe, Int.reduceToNat]
        refine new_opq hs fun n14 h hs => ?_
        simp (disch := omega) only [go_sem, reduceCtorEq, ↓reduceIte, Nat.reduceEqDiff, Nat.reduceAdd, Nat.reduceSub, Nat.reduceMul, Nat.reduceLT, Nat.reduceLeDiff, Int.reduceEq, Int.reduceNe, Int.reduceLT, Int.reduceLE, Int.reduceBEq, Int.reduceBNe, Int.reduceToNat, hs.at]
        have hs := hs.set (o' := .row 15 [(parM cc).cells] 1)
        refine call_use (xParse hs.p2 (fun h hs => hs.bts) hs.p2.cap (by omega) ⟨hs.p2.els.cells, hs.p2.els.atom⟩) ?_
        rintro r h ⟨hr, hs⟩
        subst hr
        simp (disch := omega) only [go_sem, reduceCtorEq, ↓reduceIte, Nat.reduceEqDiff, Nat.reduceAdd, Nat.reduceSub, Nat.reduceMul, Nat.reduceLT, Nat.reduceLeDiff, Int.reduceEq, Int.reduceNe, Int.reduceLT, Int.reduceLE, Int.reduceBEq, Int.reduceBNe, Int.reduceToNat]
        refine new_opq hs fun n16 h hs => ?_
        simp (disch := omega) only [go_sem, reduceCtorEq, ↓reduceIte, Nat.reduceEqDiff, Nat.reduceAdd, Nat.reduceSub, Nat.reduceMul, Nat.reduceLT, Nat.reduceLeDiff, Int.reduceEq, Int.reduceNe, Int.reduceLT, Int.reduceLE, Int.reduceBEq, Int.reduceBNe, Int.reduceToNat, hs.at]
        have hs := hs.set (o' := .row 15 [(parM cc).cells] 1)
        obtain ⟨pB, pr⟩ := parM_small (b := cc) (by omega)
        simp (disch := omega) only [go_sem, reduceCtorEq, ↓reduceIte, Nat.reduceEqDiff, Nat.reduceAdd, Nat.reduceSub, Nat.reduceMul, Nat.reduceLT, Nat.reduceLeDiff, Int.reduceEq, Int.reduceNe, Int.reduceLT, Int.reduceLE, Int.reduceBEq, Int.reduceBNe, Int.reduceToNat, hs.p2.at, hs.at]
        refine call_use (xSame hs pr pr) ?_
        rintro r h ⟨hr, hs⟩
        subst hr
        simp (disch := omega) only [go_sem, reduceCtorEq, ↓reduceIte, Nat.reduceEqDiff, Nat.reduceAdd, Nat.reduceSub, Nat.reduceMul, Nat.reduceLT, Nat.reduceLeDiff, Int.reduceEq, Int.reduceNe, Int.reduceLT, Int.reduceLE, Int.reduceBEq, Int.reduceBNe, Int.reduceToNat]
  · have hq : (m.e != 0) = true := by simp [he]
    simp (disch := omega) only [go_sem, reduceCtorEq, ↓reduceIte, Nat.reduceEqDiff, Nat.reduceAdd, Nat.reduceSub, Nat.reduceMul, Nat.reduceLT, Nat.reduceLeDiff, Int.reduceEq, Int.reduceNe, Int.reduceLT, Int.reduceLE, Int.reduceBEq, Int.reduceBNe, Int.reduceToNat, hq]
theorem netTurns_law (vs : List AV) (h : Ty.ones [.st tyM, .sl (.int .i64), .sl (.int .u8), .int .i64, .sl (.int .u8)] vs) (hN : Ty.bulks [.st tyM, .sl (.int .i64), .sl (.int .u8), .int .i64, .sl (.int .u8)] vs ≤ 1048576) : Triple Try.prog 3 vs Hp.emp (fun r _ => r = .bool true) := by
  obtain ⟨a, _, rfl, ha, h⟩ := ones_cons h
  obtain ⟨b, _, rfl, hb, h⟩ := ones_cons h
  obtain ⟨c, _, rfl, hc, h⟩ := ones_cons h
  obtain ⟨d, _, rfl, hd, h⟩ := ones_cons h
  obtain ⟨z, _, rfl, hz, h⟩ := ones_cons h
  obtain rfl := ones_nil h
  obtain ⟨m, rfl, _, fm⟩ := msg_one ha
  obtain ⟨k, rfl, h2, h4⟩ := nums_of hb
  obtain ⟨l, rfl, h1⟩ := bytes_of hc
  obtain ⟨y, rfl, h3⟩ := int_of hd
  obtain ⟨x, rfl, h5⟩ := bytes_of hz
  obtain ⟨n1, hN⟩ := bulk1_le hN
  exact netTurns (fm n1).1 (fm n1).2 h2 h1 h5 h4 h3
end Go.Proofs.Ytfbflmiipepmiaa
