/- What the laws of chapter 15 share. -/
import Derived.Test.YtfbflmiipepmiaaR2NetG
import Derived.Test.YtfbflmiipepmiaaHzNet4
set_option linter.unusedSimpArgs false
set_option linter.unusedVariables false
set_option maxRecDepth 10000
namespace Go.Proofs.Ytfbflmiipepmiaa
open Go.Hz

/-- A number from 0 to n - 1. -/
theorem within {h : Hp} {F : List Asr} (hs : sat h F) {a : Int} {n : Nat} (h1 : -9223372036854775808 ≤ a) (h2 : a ≤ 9223372036854775807) (hn : 0 < n) (hn2 : n ≤ 4611686018427387904) :
    Triple Try.prog 16 [.int .i64 a, .int .i64 n] h (fun r h => ∃ k : Nat, r = .int .i64 k ∧ (k : Int) = a % n ∧ k < n ∧ sat h F) := by
  have m1 := Int.tmod_lt_of_pos a (b := n) (by omega)
  have m2 : -(n : Int) < a.tmod n := by
    have := Int.tmod_lt_of_pos (-a) (b := n) (by omega)
    rw [Int.neg_tmod] at this
    omega
  have hn0 : ¬ (n : Int) = 0 := by omega
  have e := Int.mul_tdiv_add_tmod a n
  have em : a % n = (a.tmod n) % n := by
    conv => lhs; rw [← e]
    rw [Int.mul_add_emod_self_left]
  refine t16 (Nat.le_of_ble_eq_true rfl) ?_
  simp (disch := omega) only [F16, hn0, go_sem, reduceCtorEq, ↓reduceIte, Nat.reduceEqDiff, Nat.reduceAdd, Nat.reduceSub, Nat.reduceMul, Nat.reduceLT, Nat.reduceLeDiff, Int.reduceEq, Int.reduceNe, Int.reduceLT, Int.reduceLE, Int.reduceBEq, Int.reduceBNe, Int.reduceToNat]
  refine cnd_dec (fun hc => ?_) (fun hc => ?_)
  · simp (disch := omega) only [go_sem, reduceCtorEq, ↓reduceIte, Nat.reduceEqDiff, Nat.reduceAdd, Nat.reduceSub, Nat.reduceMul, Nat.reduceLT, Nat.reduceLeDiff, Int.reduceEq, Int.reduceNe, Int.reduceLT, Int.reduceLE, Int.reduceBEq, Int.reduceBNe, Int.reduceToNat]
    refine ⟨(a.tmod n + n).toNat, by congr 1; omega, ?_, by omega, hs⟩
    rw [em, ← Int.add_emod_right, Int.emod_eq_of_lt (by omega) (by omega)]
    omega
  · simp (disch := omega) only [go_sem, reduceCtorEq, ↓reduceIte, Nat.reduceEqDiff, Nat.reduceAdd, Nat.reduceSub, Nat.reduceMul, Nat.reduceLT, Nat.reduceLeDiff, Int.reduceEq, Int.reduceNe, Int.reduceLT, Int.reduceLE, Int.reduceBEq, Int.reduceBNe, Int.reduceToNat]
    refine ⟨(a.tmod n).toNat, by congr 1; omega, ?_, by omega, hs⟩
    rw [em, Int.emod_eq_of_lt (by omega) (by omega)]
    omega

/-- A message that is not too much. -/
def fewM (m : Ms) : Bool := decide (m.es.length ≤ 300) && (decide (m.data.length + sumD (m.es.take 300) ≤ 20000) && decide (m.vs.length ≤ 300))
/-- No message is more. -/
def Ms.small (m : Ms) : Prop := m.es.length ≤ 1048576 ∧ m.vs.length ≤ 1048576 ∧ m.data.length + sumD m.es ≤ 1048576

theorem Ms_room {m : Ms} (h : m.es.length ≤ 1048576 ∧ m.vs.length ≤ 1048576 ∧ m.data.length + sumD m.es ≤ 1048576) : m.room := ⟨by omega, by omega⟩
theorem B_len (m : Ms) : m.B.length = 88 + 21 * m.es.length + sumD m.es + 8 * m.vs.length + m.data.length := by
  have : ∀ l : List En, (l.flatMap En.B).length = 21 * l.length + sumD l := by
    intro l
    induction l with
    | nil => rfl
    | cons e l ih =>
      have hb : e.B.length = 21 + e.data.length := by simp [En.B, beB_length, txB_length]; omega
      rw [List.flatMap_cons, List.length_append, ih, hb, List.length_cons]
      simp only [sumD, List.map_cons, List.sum_cons]
      omega
  unfold Ms.B
  simp only [List.length_append, beB_length, txB_length, this, flat8, Ms.five, List.length_cons, List.length_nil]
  omega

section
variable {h : Hp} {F : List Asr}

theorem few (hs : sat h F) {m : Ms} (hm : m.es.length ≤ 1048576 ∧ m.vs.length ≤ 1048576 ∧ m.data.length + sumD m.es ≤ 1048576) :
    Triple Try.prog 14 [.agg m.cells] h (fun r h => r = .bool (fewM m) ∧ sat h F) := by
  obtain ⟨h1, h2, h3⟩ := hm
  refine t14 (Nat.le_of_ble_eq_true rfl) ?_
  simp (disch := omega) only [F14, Ms.cells, go_sem, reduceCtorEq, ↓reduceIte, Nat.reduceEqDiff, Nat.reduceAdd, Nat.reduceSub, Nat.reduceMul, Nat.reduceLT, Nat.reduceLeDiff, Int.reduceEq, Int.reduceNe, Int.reduceLT, Int.reduceLE, Int.reduceBEq, Int.reduceBNe, Int.reduceToNat]
  refine new_opq hs fun n h hs => ?_
  simp (disch := omega) only [go_sem, reduceCtorEq, ↓reduceIte, Nat.reduceEqDiff, Nat.reduceAdd, Nat.reduceSub, Nat.reduceMul, Nat.reduceLT, Nat.reduceLeDiff, Int.reduceEq, Int.reduceNe, Int.reduceLT, Int.reduceLE, Int.reduceBEq, Int.reduceBNe, Int.reduceToNat, hs.at]
  refine run_up (N := m.es.length) (fun i e h => i ≤ 300 ∧ (e 1 = .ptr n 15 0 0 ∧ e 3 = .int .i64 (m.data.length + sumD (m.es.take i) : Nat) ∧ e 4 = .int .i64 i) ∧ sat h (pto n (.row 15 [m.cells] 1) :: F)) ⟨by omega, ⟨rfl, rfl, rfl⟩, hs⟩ ?_
  rintro i e h hi ⟨h300, he, hs⟩
  have hn := hs.at
  simp only [Ms.cells] at hn
  have hle := sumD_le (l := m.es) i
  have stop : (i = m.es.length ∨ i = 300) → sumD (m.es.take 300) = sumD (m.es.take i) := by
    rintro (q | q)
    · rw [List.take_of_length_le (by omega), List.take_of_length_le (by omega)]
    · rw [q]
  by_cases c1 : (i : Int) < m.es.length
  · by_cases c2 : (i : Int) < 300
    · have hi' : i < m.es.length := by omega
      have hs2 := sumD_succ hi'
      have hle2 := sumD_le (l := m.es) (i + 1)
      have e4 : (((m.data.length + sumD (m.es.take i) : Nat) : Int) + m.es[i].data.length) = ((m.data.length + sumD (m.es.take (i + 1)) : Nat) : Int) := by omega
      simp (disch := omega) only [go_sem, reduceCtorEq, ↓reduceIte, Nat.reduceEqDiff, Nat.reduceAdd, Nat.reduceSub, Nat.reduceMul, Nat.reduceLT, Nat.reduceLeDiff, Int.reduceEq, Int.reduceNe, Int.reduceLT, Int.reduceLE, Int.reduceBEq, Int.reduceBNe, Int.reduceToNat, he, hn, c1, c2, ensV_at hi', En.row, e4]
      exact ⟨by omega, by omega, rfl, hs⟩
    · have hst := stop (.inr (by omega))
      simp (disch := omega) only [go_sem, reduceCtorEq, ↓reduceIte, Nat.reduceEqDiff, Nat.reduceAdd, Nat.reduceSub, Nat.reduceMul, Nat.reduceLT, Nat.reduceLeDiff, Int.reduceEq, Int.reduceNe, Int.reduceLT, Int.reduceLE, Int.reduceBEq, Int.reduceBNe, Int.reduceToNat, he, hn, c1, c2]
      refine cnd_dec (fun d1 => ?_) (fun d1 => ?_)
      · simp (disch := omega) only [go_sem, reduceCtorEq, ↓reduceIte, Nat.reduceEqDiff, Nat.reduceAdd, Nat.reduceSub, Nat.reduceMul, Nat.reduceLT, Nat.reduceLeDiff, Int.reduceEq, Int.reduceNe, Int.reduceLT, Int.reduceLE, Int.reduceBEq, Int.reduceBNe, Int.reduceToNat, he, hn, d1]
        refine cnd_dec (fun d2 => ?_) (fun d2 => ?_)
        · simp (disch := omega) only [go_sem, reduceCtorEq, ↓reduceIte, Nat.reduceEqDiff, Nat.reduceAdd, Nat.reduceSub, Nat.reduceMul, Nat.reduceLT, Nat.reduceLeDiff, Int.reduceEq, Int.reduceNe, Int.reduceLT, Int.reduceLE, Int.reduceBEq, Int.reduceBNe, Int.reduceToNat, he, hn, d1, d2]
          refine ⟨?_, hs.drop⟩
          congr 1
          unfold fewM
          rw [hst, decide_eq_true (p := m.es.length ≤ 300) (by omega), decide_eq_true (p := m.data.length + sumD (m.es.take i) ≤ 20000) (by omega), Bool.true_and, Bool.true_and]
          exact decide_eq_decide.2 (by omega)
        · simp (disch := omega) only [go_sem, reduceCtorEq, ↓reduceIte, Nat.reduceEqDiff, Nat.reduceAdd, Nat.reduceSub, Nat.reduceMul, Nat.reduceLT, Nat.reduceLeDiff, Int.reduceEq, Int.reduceNe, Int.reduceLT, Int.reduceLE, Int.reduceBEq, Int.reduceBNe, Int.reduceToNat, he, hn, d1, d2]
          refine ⟨?_, hs.drop⟩
          congr 1
          unfold fewM
          rw [hst, decide_eq_false (p := m.data.length + sumD (m.es.take i) ≤ 20000) (by omega), Bool.false_and, Bool.and_false]
      · simp (disch := omega) only [go_sem, reduceCtorEq, ↓reduceIte, Nat.reduceEqDiff, Nat.reduceAdd, Nat.reduceSub, Nat.reduceMul, Nat.reduceLT, Nat.reduceLeDiff, Int.reduceEq, Int.reduceNe, Int.reduceLT, Int.reduceLE, Int.reduceBEq, Int.reduceBNe, Int.reduceToNat, he, hn, d1]
        refine ⟨?_, hs.drop⟩
        congr 1
        unfold fewM
        rw [decide_eq_false (p := m.es.length ≤ 300) (by omega), Bool.false_and]
  · have hst := stop (.inl (by omega))
    simp (disch := omega) only [go_sem, reduceCtorEq, ↓reduceIte, Nat.reduceEqDiff, Nat.reduceAdd, Nat.reduceSub, Nat.reduceMul, Nat.reduceLT, Nat.reduceLeDiff, Int.reduceEq, Int.reduceNe, Int.reduceLT, Int.reduceLE, Int.reduceBEq, Int.reduceBNe, Int.reduceToNat, he, hn, c1]
    refine cnd_dec (fun d1 => ?_) (fun d1 => ?_)
    · simp (disch := omega) only [go_sem, reduceCtorEq, ↓reduceIte, Nat.reduceEqDiff, Nat.reduceAdd, Nat.reduceSub, Nat.reduceMul, Nat.reduceLT, Nat.reduceLeDiff, Int.reduceEq, Int.reduceNe, Int.reduceLT, Int.reduceLE, Int.reduceBEq, Int.reduceBNe, Int.reduceToNat, he, hn, d1]
      refine cnd_dec (fun d2 => ?_) (fun d2 => ?_)
      · simp (disch := omega) only [go_sem, reduceCtorEq, ↓reduceIte, Nat.reduceEqDiff, Nat.reduceAdd, Nat.reduceSub, Nat.reduceMul, Nat.reduceLT, Nat.reduceLeDiff, Int.reduceEq, Int.reduceNe, Int.reduceLT, Int.reduceLE, Int.reduceBEq, Int.reduceBNe, Int.reduceToNat, he, hn, d1, d2]
        refine ⟨?_, hs.drop⟩
        congr 1
        unfold fewM
        rw [hst, decide_eq_true (p := m.es.length ≤ 300) (by omega), decide_eq_true (p := m.data.length + sumD (m.es.take i) ≤ 20000) (by omega), Bool.true_and, Bool.true_and]
        exact decide_eq_decide.2 (by omega)
      · simp (disch := omega) only [go_sem, reduceCtorEq, ↓reduceIte, Nat.reduceEqDiff, Nat.reduceAdd, Nat.reduceSub, Nat.reduceMul, Nat.reduceLT, Nat.reduceLeDiff, Int.reduceEq, Int.reduceNe, Int.reduceLT, Int.reduceLE, Int.reduceBEq, Int.reduceBNe, Int.reduceToNat, he, hn, d1, d2]
        refine ⟨?_, hs.drop⟩
        congr 1
        unfold fewM
        rw [hst, decide_eq_false (p := m.data.length + sumD (m.es.take i) ≤ 20000) (by omega), Bool.false_and, Bool.and_false]
    · simp (disch := omega) only [go_sem, reduceCtorEq, ↓reduceIte, Nat.reduceEqDiff, Nat.reduceAdd, Nat.reduceSub, Nat.reduceMul, Nat.reduceLT, Nat.reduceLeDiff, Int.reduceEq, Int.reduceNe, Int.reduceLT, Int.reduceLE, Int.reduceBEq, Int.reduceBNe, Int.reduceToNat, he, hn, d1]
      refine ⟨?_, hs.drop⟩
      congr 1
      unfold fewM
      rw [decide_eq_false (p := m.es.length ≤ 300) (by omega), Bool.false_and]

theorem fewM_iff {m : Ms} (hf : fewM m = true) : m.es.length ≤ 300 ∧ m.data.length + sumD m.es ≤ 20000 ∧ m.vs.length ≤ 300 := by
  unfold fewM at hf
  simp only [Bool.and_eq_true, decide_eq_true_eq] at hf
  have : m.es.take 300 = m.es := List.take_of_length_le hf.1
  rw [this] at hf
  exact hf

def zeroK (k to te : Int) : List AV := [.int .i64 k, .int .i64 0, .int .i64 to, .int .i64 te, .int .i64 0, .int .i64 0, .nils, .int .i64 0, .int .i64 0, .bool false, .int .i64 0, .int .i64 0, .int .i64 0, .nils, .nils]
def M1 (k to te : Int) : Ms := ⟨k, 0, to, te, 0, 0, [], 0, 0, false, 0, 0, 0, [], []⟩
theorem zeroK_vi (k to te : Int) : VIs [.agg (zeroK k to te)] [.agg (M1 k to te).cells] :=
  ⟨VI.agg ⟨VI.refl _, VI.refl _, VI.refl _, VI.refl _, VI.refl _, VI.refl _, VI.nils, VI.refl _, VI.refl _, VI.refl _, VI.refl _, VI.refl _, VI.refl _, VI.nils, VI.nils, trivial⟩, trivial⟩
theorem M1_fine : (M1 1 3 9).fine := ⟨by simp only [M1, inI]; omega, by simp [M1], by simp [M1], by simp [M1]⟩
theorem M1_B (k to te : Int) : (M1 k to te).B.length = 88 := by rw [B_len]; rfl
theorem M1_e : (M1 1 3 9).e = 0 := by
  unfold Ms.e
  rw [M1_B, if_neg (by simp [M1]), if_neg (by simp [M1]), if_neg (by simp [M1]), if_neg (by omega)]

theorem known (hs : sat h F) : Triple Try.prog 13 [] h (fun r h => r = .bool true ∧ sat h F) := by
  refine t13 (Nat.le_of_ble_eq_true rfl) ?_
  simp (disch := omega) only [F13, go_sem, reduceCtorEq, ↓reduceIte, Nat.reduceEqDiff, Nat.reduceAdd, Nat.reduceSub, Nat.reduceMul, Nat.reduceLT, Nat.reduceLeDiff, Int.reduceEq, Int.reduceNe, Int.reduceLT, Int.reduceLE, Int.reduceBEq, Int.reduceBNe, Int.reduceToNat]
  refine call_use (Triple.vi (zeroK_vi 0 0 0) (pEncode hs (m := M1 0 0 0) ⟨by simp [M1], by simp [M1]⟩ (by rw [M1_B]; omega))) ?_
  rintro r h ⟨hr, hs⟩
  subst hr
  have e3 : (M1 0 0 0).e = 3 := by unfold Ms.e; rw [if_pos (by simp [M1])]
  simp (disch := omega) only [go_sem, reduceCtorEq, ↓reduceIte, Nat.reduceEqDiff, Nat.reduceAdd, Nat.reduceSub, Nat.reduceMul, Nat.reduceLT, Nat.reduceLeDiff, Int.reduceEq, Int.reduceNe, Int.reduceLT, Int.reduceLE, Int.reduceBEq, Int.reduceBNe, Int.reduceToNat, e3]
  refine call_use (Triple.vi (zeroK_vi 1 3 9) (pEncode hs (m := M1 1 3 9) ⟨by simp [M1], by simp [M1]⟩ (by rw [M1_B]; omega))) ?_
  rintro r h ⟨hr, hs⟩
  subst hr
  have en : (M1 1 3 9).enc = frameB (M1 1 3 9).B := by unfold Ms.enc; rw [if_pos M1_e]
  have el : (frameB (M1 1 3 9).B).length = 96 := by rw [frameB_length, M1_B]
  obtain ⟨p1, p2⟩ := par_B M1_fine M1_e
  simp (disch := omega) only [go_sem, reduceCtorEq, ↓reduceIte, Nat.reduceEqDiff, Nat.reduceAdd, Nat.reduceSub, Nat.reduceMul, Nat.reduceLT, Nat.reduceLeDiff, Int.reduceEq, Int.reduceNe, Int.reduceLT, Int.reduceLE, Int.reduceBEq, Int.reduceBNe, Int.reduceToNat, M1_e, en]
  refine call_use (pParse hs bE bC (by omega)) ?_
  rintro r h ⟨hr, hs⟩
  subst hr
  simp (disch := omega) only [go_sem, reduceCtorEq, ↓reduceIte, Nat.reduceEqDiff, Nat.reduceAdd, Nat.reduceSub, Nat.reduceMul, Nat.reduceLT, Nat.reduceLeDiff, Int.reduceEq, Int.reduceNe, Int.reduceLT, Int.reduceLE, Int.reduceBEq, Int.reduceBNe, Int.reduceToNat, p1, p2]
  refine new_opq hs fun n h hs => ?_
  simp (disch := omega) only [go_sem, reduceCtorEq, ↓reduceIte, Nat.reduceEqDiff, Nat.reduceAdd, Nat.reduceSub, Nat.reduceMul, Nat.reduceLT, Nat.reduceLeDiff, Int.reduceEq, Int.reduceNe, Int.reduceLT, Int.reduceLE, Int.reduceBEq, Int.reduceBNe, Int.reduceToNat, hs.at, Ms.cells, M1]
  exact hs.set.drop
end
end Go.Proofs.Ytfbflmiipepmiaa
