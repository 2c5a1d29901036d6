/- The law NetCuts, walked. -/
import Derived.Test.YtfbflmiipepmiaaR2NetMsgs
set_option linter.unusedSimpArgs false
set_option linter.unusedVariables false
set_option maxRecDepth 10000
namespace Go.Proofs.Ytfbflmiipepmiaa
open Go.Hz

theorem netCuts {m : Ms} {cut at' : Int} {y : UInt8} (fm : m.fine) (hm : m.es.length ≤ 1048576 ∧ m.vs.length ≤ 1048576 ∧ m.data.length + sumD m.es ≤ 1048576)
    (hc : inI cut) (ha : inI at') : Triple Try.prog 4 [.agg m.cells, .int .i64 cut, .int .i64 at', .int .u8 y.toNat] Hp.emp (fun r _ => r = .bool true) := by
  have hs : sat Hp.emp [] := trivial
  have rm := Ms_room hm
  refine t4 (Nat.le_of_ble_eq_true rfl) ?_
  simp (disch := omega) only [F4, go_sem, reduceCtorEq, ↓reduceIte, Nat.reduceEqDiff, Nat.reduceAdd, Nat.reduceSub, Nat.reduceMul, Nat.reduceLT, Nat.reduceLeDiff, Int.reduceEq, Int.reduceNe, Int.reduceLT, Int.reduceLE, Int.reduceBEq, Int.reduceBNe, Int.reduceToNat]
  refine new_opq hs fun n h hs => ?_
  simp (disch := omega) only [go_sem, reduceCtorEq, ↓reduceIte, Nat.reduceEqDiff, Nat.reduceAdd, Nat.reduceSub, Nat.reduceMul, Nat.reduceLT, Nat.reduceLeDiff, Int.reduceEq, Int.reduceNe, Int.reduceLT, Int.reduceLE, Int.reduceBEq, Int.reduceBNe, Int.reduceToNat, hs.at]
  refine call_use (known hs) ?_
  rintro r h ⟨hr, hs⟩
  subst hr
  simp (disch := omega) only [go_sem, reduceCtorEq, ↓reduceIte, Nat.reduceEqDiff, Nat.reduceAdd, Nat.reduceSub, Nat.reduceMul, Nat.reduceLT, Nat.reduceLeDiff, Int.reduceEq, Int.reduceNe, Int.reduceLT, Int.reduceLE, Int.reduceBEq, Int.reduceBNe, Int.reduceToNat, hs.at]
  refine call_use (few hs hm) ?_
  rintro r h ⟨hr, hs⟩
  subst hr
  simp (disch := omega) only [go_sem, reduceCtorEq, ↓reduceIte, Nat.reduceEqDiff, Nat.reduceAdd, Nat.reduceSub, Nat.reduceMul, Nat.reduceLT, Nat.reduceLeDiff, Int.reduceEq, Int.reduceNe, Int.reduceLT, Int.reduceLE, Int.reduceBEq, Int.reduceBNe, Int.reduceToNat]
  refine cnd_bool (fun q => ?_) (fun q => ?_)
  · simp (disch := omega) only [go_sem, reduceCtorEq, ↓reduceIte, Nat.reduceEqDiff, Nat.reduceAdd, Nat.reduceSub, Nat.reduceMul, Nat.reduceLT, Nat.reduceLeDiff, Int.reduceEq, Int.reduceNe, Int.reduceLT, Int.reduceLE, Int.reduceBEq, Int.reduceBNe, Int.reduceToNat, q]
  have f1 : fewM m = true := by simpa using q
  simp (disch := omega) only [go_sem, reduceCtorEq, ↓reduceIte, Nat.reduceEqDiff, Nat.reduceAdd, Nat.reduceSub, Nat.reduceMul, Nat.reduceLT, Nat.reduceLeDiff, Int.reduceEq, Int.reduceNe, Int.reduceLT, Int.reduceLE, Int.reduceBEq, Int.reduceBNe, Int.reduceToNat, q]
  refine cnd_dec (fun c => ?_) (fun c => ?_)
  · simp (disch := omega) only [go_sem, reduceCtorEq, ↓reduceIte, Nat.reduceEqDiff, Nat.reduceAdd, Nat.reduceSub, Nat.reduceMul, Nat.reduceLT, Nat.reduceLeDiff, Int.reduceEq, Int.reduceNe, Int.reduceLT, Int.reduceLE, Int.reduceBEq, Int.reduceBNe, Int.reduceToNat]
  obtain ⟨g1, g2, g3⟩ := fewM_iff f1
  have hB : m.B.length ≤ 1000000000 := by rw [B_len]; omega
  have hy : y ≠ 0 := by
    rintro rfl
    exact c rfl
  simp (disch := omega) only [go_sem, reduceCtorEq, ↓reduceIte, Nat.reduceEqDiff, Nat.reduceAdd, Nat.reduceSub, Nat.reduceMul, Nat.reduceLT, Nat.reduceLeDiff, Int.reduceEq, Int.reduceNe, Int.reduceLT, Int.reduceLE, Int.reduceBEq, Int.reduceBNe, Int.reduceToNat, hs.at]
  refine call_use (pEncode hs rm hB) ?_
  rintro r h ⟨hr, hs⟩
  subst hr
  simp (disch := omega) only [go_sem, reduceCtorEq, ↓reduceIte, Nat.reduceEqDiff, Nat.reduceAdd, Nat.reduceSub, Nat.reduceMul, Nat.reduceLT, Nat.reduceLeDiff, Int.reduceEq, Int.reduceNe, Int.reduceLT, Int.reduceLE, Int.reduceBEq, Int.reduceBNe, Int.reduceToNat]
  by_cases he : m.e = 0
  · have en : m.enc = frameB m.B := by unfold Ms.enc; rw [if_pos he]
    have el : (frameB m.B).length = 8 + m.B.length := frameB_length _
    have bl := B_len m
    simp (disch := omega) only [go_sem, reduceCtorEq, ↓reduceIte, Nat.reduceEqDiff, Nat.reduceAdd, Nat.reduceSub, Nat.reduceMul, Nat.reduceLT, Nat.reduceLeDiff, Int.reduceEq, Int.reduceNe, Int.reduceLT, Int.reduceLE, Int.reduceBEq, Int.reduceBNe, Int.reduceToNat, he, en]
    refine call_use (within hs hc.1 hc.2 (n := (frameB m.B).length) (by omega) (by omega)) ?_
    rintro r h ⟨k, hr, hke, hkl, hs⟩
    subst hr
    simp (disch := omega) only [go_sem, reduceCtorEq, ↓reduceIte, Nat.reduceEqDiff, Nat.reduceAdd, Nat.reduceSub, Nat.reduceMul, Nat.reduceLT, Nat.reduceLeDiff, Int.reduceEq, Int.reduceNe, Int.reduceLT, Int.reduceLE, Int.reduceBEq, Int.reduceBNe, Int.reduceToNat, slc_pre (Nat.le_of_lt hkl)]
    refine call_use (pParse hs (fun h _ => Els.lst (eb_one _)) capOK_lst (by simp; omega)) ?_
    rintro r h ⟨hr, hs⟩
    subst hr
    simp (disch := omega) only [go_sem, reduceCtorEq, ↓reduceIte, Nat.reduceEqDiff, Nat.reduceAdd, Nat.reduceSub, Nat.reduceMul, Nat.reduceLT, Nat.reduceLeDiff, Int.reduceEq, Int.reduceNe, Int.reduceLT, Int.reduceLE, Int.reduceBEq, Int.reduceBNe, Int.reduceToNat]
    refine new_opq hs fun n11 h hs => ?_
    simp (disch := omega) only [go_sem, reduceCtorEq, ↓reduceIte, Nat.reduceEqDiff, Nat.reduceAdd, Nat.reduceSub, Nat.reduceMul, Nat.reduceLT, Nat.reduceLeDiff, Int.reduceEq, Int.reduceNe, Int.reduceLT, Int.reduceLE, Int.reduceBEq, Int.reduceBNe, Int.reduceToNat, hs.at]
    have hs := hs.set (o' := .row 15 [(parM ((frameB m.B).take k)).cells] 1)
    refine new_opq hs fun ny h hs => ?_
    simp (disch := omega) only [go_sem, reduceCtorEq, ↓reduceIte, Nat.reduceEqDiff, Nat.reduceAdd, Nat.reduceSub, Nat.reduceMul, Nat.reduceLT, Nat.reduceLeDiff, Int.reduceEq, Int.reduceNe, Int.reduceLT, Int.reduceLE, Int.reduceBEq, Int.reduceBNe, Int.reduceToNat, hs.at]
    refine app_sat (hs.ow (Nat.zero_le _)) (Els.lst (eb_one (frameB m.B))).1 (atoms_eb _) (by simp; omega) fun v' h hs hc' ha' => ?_
    rw [List.nil_append] at hs
    have e8 : ((frameB m.B).length : Int) - 8 = (((frameB m.B).length - 8 : Nat) : Int) := by omega
    simp (disch := omega) only [go_sem, reduceCtorEq, ↓reduceIte, Nat.reduceEqDiff, Nat.reduceAdd, Nat.reduceSub, Nat.reduceMul, Nat.reduceLT, Nat.reduceLeDiff, Int.reduceEq, Int.reduceNe, Int.reduceLT, Int.reduceLE, Int.reduceBEq, Int.reduceBNe, Int.reduceToNat, Bts.len hs.bts, e8]
    refine call_use (within hs ha.1 ha.2 (n := (frameB m.B).length - 8) (by omega) (by omega)) ?_
    rintro r h ⟨j, hr, hje, hjl, hs⟩
    subst hr
    have ej : (8 : Int) + (j : Int) = ((8 + j : Nat) : Int) := by omega
    have jl : 8 + j < (frameB m.B).length := by omega
    rcases hs.cases with ⟨_, h0, _⟩ | ⟨bl, cap, hv, g, hcap⟩
    · have h0' : frameB m.B = [] := by simpa using h0
      rw [h0', List.length_nil] at el
      omega
    have hb := g.at
    have hk1 : ((frameB m.B).map eb)[8 + j]? = some [.int .u8 (frameB m.B)[8 + j].toNat] := by simp [eb, jl]
    have e2 : ((frameB m.B).map eb).length = (frameB m.B).length := by simp
    rw [e2] at hv
    simp (disch := omega) only [go_sem, reduceCtorEq, ↓reduceIte, Nat.reduceEqDiff, Nat.reduceAdd, Nat.reduceSub, Nat.reduceMul, Nat.reduceLT, Nat.reduceLeDiff, Int.reduceEq, Int.reduceNe, Int.reduceLT, Int.reduceLE, Int.reduceBEq, Int.reduceBNe, Int.reduceToNat, ej, hv, hb, hk1, Int.toNat_natCast, u8_add, set_eb]
    have hne : (frameB m.B)[8 + j] ≠ (frameB m.B)[8 + j] + y := fun hq => hy (u8_self hq)
    have hlB : m.B.length ≤ 16777216 := by rw [B_len]; omega
    have jB : j < m.B.length := by omega
    have hgB : (frameB m.B)[8 + j] = m.B[j] := frame_at jB _
    have pt : parE ((frameB m.B).set (8 + j) ((frameB m.B)[8 + j] + y)) = 12 := par_turn _ hlB j jB _ (by rw [← hgB]; exact hne)
    have pc := par_cut m.B hlB k (by omega)
    have hs := (g.set (o' := .row 1 (((frameB m.B).set (8 + j) ((frameB m.B)[8 + j] + y)).map eb) cap)).ow (by simp; simpa using hcap)
    rw [List.length_map, List.length_set] at hs
    refine call_use (pParse hs (fun h hs => hs.bts) hs.cap (by simp; omega)) ?_
    rintro r h ⟨hr, hs⟩
    subst hr
    simp (disch := omega) only [go_sem, reduceCtorEq, ↓reduceIte, Nat.reduceEqDiff, Nat.reduceAdd, Nat.reduceSub, Nat.reduceMul, Nat.reduceLT, Nat.reduceLeDiff, Int.reduceEq, Int.reduceNe, Int.reduceLT, Int.reduceLE, Int.reduceBEq, Int.reduceBNe, Int.reduceToNat, pc, pt]
    refine new_opq hs fun n14 h hs => ?_
    simp (disch := omega) only [go_sem, reduceCtorEq, ↓reduceIte, Nat.reduceEqDiff, Nat.reduceAdd, Nat.reduceSub, Nat.reduceMul, Nat.reduceLT, Nat.reduceLeDiff, Int.reduceEq, Int.reduceNe, Int.reduceLT, Int.reduceLE, Int.reduceBEq, Int.reduceBNe, Int.reduceToNat, hs.at]
  · have hq : (m.e != 0) = true := by simp [he]

    simp (disch := omega) only [go_sem, reduceCtorEq, ↓reduceIte, Nat.reduceEqDiff, Nat.reduceAdd, Nat.reduceSub, Nat.reduceMul, Nat.reduceLT, Nat.reduceLeDiff, Int.reduceEq, Int.reduceNe, Int.reduceLT, Int.reduceLE, Int.reduceBEq, Int.reduceBNe, Int.reduceToNat, hq]
theorem netCuts_law (vs : List AV) (h : Ty.ones [.st tyM, .int .i64, .int .i64, .int .u8] vs) (hN : Ty.bulks [.st tyM, .int .i64, .int .i64, .int .u8] vs ≤ 1048576) : Triple Try.prog 4 vs Hp.emp (fun r _ => r = .bool true) := by
  obtain ⟨a, _, rfl, ha, h⟩ := ones_cons h
  obtain ⟨b, _, rfl, hb, h⟩ := ones_cons h
  obtain ⟨c, _, rfl, hc, h⟩ := ones_cons h
  obtain ⟨d, _, rfl, hd, h⟩ := ones_cons h
  obtain rfl := ones_nil h
  obtain ⟨m, rfl, _, fm⟩ := msg_one ha
  obtain ⟨k, rfl, h1⟩ := int_of hb
  obtain ⟨l, rfl, h2⟩ := int_of hc
  obtain ⟨y, rfl⟩ := byte_of hd
  obtain ⟨n1, hN⟩ := bulk1_le hN
  exact netCuts (fm n1).1 (fm n1).2 h1 h2
end Go.Proofs.Ytfbflmiipepmiaa
