/- net: messages are compared. -/
import Derived.Test.YtfbflmiipepmiaaR2NetA
set_option linter.unusedSimpArgs false
set_option linter.unusedVariables false
set_option maxRecDepth 10000
namespace Go.Proofs.Ytfbflmiipepmiaa
open Go.Hz

section
variable {h : Hp} {F : List Asr}

theorem ints_ne {a b : List Int} (q : ((a.length : Int) != b.length) = true) : (.bool false : AV) = .bool (decide (a = b)) := by
  congr 1
  symm
  apply decide_eq_false
  intro hh
  rw [hh] at q
  simp at q
theorem eqInts (hs : sat h F) {a b : List Int} (ha : a.length ≤ 1000000000000) (hb : b.length ≤ 1000000000000) :
    Triple Try.prog 69 [intsV a, intsV b] h (fun r h => r = .bool (decide (a = b)) ∧ sat h F) := by
  refine t69 (Nat.le_of_ble_eq_true rfl) ?_
  simp (disch := omega) only [F69, go_sem, reduceCtorEq, ↓reduceIte, Nat.reduceEqDiff, Nat.reduceAdd, Nat.reduceSub, Nat.reduceMul, Nat.reduceLT, Nat.reduceLeDiff, Int.reduceEq, Int.reduceNe, Int.reduceLT, Int.reduceLE, Int.reduceBEq, Int.reduceBNe, Int.reduceToNat]
  refine cnd_bool (fun q => ?_) (fun q => ?_)
  · simp (disch := omega) only [go_sem, reduceCtorEq, ↓reduceIte, Nat.reduceEqDiff, Nat.reduceAdd, Nat.reduceSub, Nat.reduceMul, Nat.reduceLT, Nat.reduceLeDiff, Int.reduceEq, Int.reduceNe, Int.reduceLT, Int.reduceLE, Int.reduceBEq, Int.reduceBNe, Int.reduceToNat]
    exact ⟨ints_ne q, hs⟩
  · have hl : a.length = b.length := by
      have : (a.length : Int) = b.length := by simpa using q
      omega
    simp (disch := omega) only [go_sem, reduceCtorEq, ↓reduceIte, Nat.reduceEqDiff, Nat.reduceAdd, Nat.reduceSub, Nat.reduceMul, Nat.reduceLT, Nat.reduceLeDiff, Int.reduceEq, Int.reduceNe, Int.reduceLT, Int.reduceLE, Int.reduceBEq, Int.reduceBNe, Int.reduceToNat]
    refine run_up (N := a.length) (fun i e h => (∀ j (h1 : j < a.length) (h2 : j < b.length), j < i → a[j] = b[j]) ∧ (e 0 = intsV a ∧ e 1 = intsV b ∧ e 12 = .int .i64 a.length ∧ e 13 = .int .i64 i) ∧ sat h F)
      ⟨by omega, ⟨rfl, rfl, rfl, rfl⟩, hs⟩ ?_
    rintro i e h hi ⟨hall, he, hs⟩
    simp (disch := omega) only [go_sem, reduceCtorEq, ↓reduceIte, Nat.reduceEqDiff, Nat.reduceAdd, Nat.reduceSub, Nat.reduceMul, Nat.reduceLT, Nat.reduceLeDiff, Int.reduceEq, Int.reduceNe, Int.reduceLT, Int.reduceLE, Int.reduceBEq, Int.reduceBNe, Int.reduceToNat, he]
    refine cnd_dec (fun hc => ?_) (fun hc => ?_)
    · have h1 : i < a.length := by omega
      have h2 : i < b.length := by omega
      simp (disch := omega) only [go_sem, reduceCtorEq, ↓reduceIte, Nat.reduceEqDiff, Nat.reduceAdd, Nat.reduceSub, Nat.reduceMul, Nat.reduceLT, Nat.reduceLeDiff, Int.reduceEq, Int.reduceNe, Int.reduceLT, Int.reduceLE, Int.reduceBEq, Int.reduceBNe, Int.reduceToNat, he, intsV_at h1, intsV_at h2]
      by_cases hab : a[i] = b[i]
      · simp (disch := omega) only [go_sem, reduceCtorEq, ↓reduceIte, Nat.reduceEqDiff, Nat.reduceAdd, Nat.reduceSub, Nat.reduceMul, Nat.reduceLT, Nat.reduceLeDiff, Int.reduceEq, Int.reduceNe, Int.reduceLT, Int.reduceLE, Int.reduceBEq, Int.reduceBNe, Int.reduceToNat, he, hab]
        refine ⟨by omega, fun j h1 h2 hj => ?_, rfl, hs⟩
        by_cases hji : j = i
        · subst hji; exact hab
        · exact hall j h1 h2 (by omega)
      · have q : (a[i] != b[i]) = true := by simp [hab]
        simp (disch := omega) only [go_sem, reduceCtorEq, ↓reduceIte, Nat.reduceEqDiff, Nat.reduceAdd, Nat.reduceSub, Nat.reduceMul, Nat.reduceLT, Nat.reduceLeDiff, Int.reduceEq, Int.reduceNe, Int.reduceLT, Int.reduceLE, Int.reduceBEq, Int.reduceBNe, Int.reduceToNat, he, q]
        refine ⟨?_, hs⟩
        congr 1
        symm
        apply decide_eq_false
        intro hh
        subst hh
        exact hab rfl
    · have : i = a.length := by omega
      subst this
      simp (disch := omega) only [go_sem, reduceCtorEq, ↓reduceIte, Nat.reduceEqDiff, Nat.reduceAdd, Nat.reduceSub, Nat.reduceMul, Nat.reduceLT, Nat.reduceLeDiff, Int.reduceEq, Int.reduceNe, Int.reduceLT, Int.reduceLE, Int.reduceBEq, Int.reduceBNe, Int.reduceToNat, he]
      refine ⟨?_, hs⟩
      congr 1
      symm
      exact decide_eq_true (List.ext_getElem hl fun j h1 h2 => hall j h1 h2 h1)

theorem xInts (hs : sat h F) {a b : List Int} (ha : a.length ≤ 1000000000000) (hb : b.length ≤ 1000000000000) :
    Triple Try.prog 96 [intsV a, intsV b] h (fun r h => r = .bool (decide (a = b)) ∧ sat h F) := by
  refine t96 (Nat.le_of_ble_eq_true rfl) ?_
  simp (disch := omega) only [F96, go_sem, reduceCtorEq, ↓reduceIte, Nat.reduceEqDiff, Nat.reduceAdd, Nat.reduceSub, Nat.reduceMul, Nat.reduceLT, Nat.reduceLeDiff, Int.reduceEq, Int.reduceNe, Int.reduceLT, Int.reduceLE, Int.reduceBEq, Int.reduceBNe, Int.reduceToNat]
  refine cnd_bool (fun q => ?_) (fun q => ?_)
  · simp (disch := omega) only [go_sem, reduceCtorEq, ↓reduceIte, Nat.reduceEqDiff, Nat.reduceAdd, Nat.reduceSub, Nat.reduceMul, Nat.reduceLT, Nat.reduceLeDiff, Int.reduceEq, Int.reduceNe, Int.reduceLT, Int.reduceLE, Int.reduceBEq, Int.reduceBNe, Int.reduceToNat]
    exact ⟨ints_ne q, hs⟩
  · have hl : a.length = b.length := by
      have : (a.length : Int) = b.length := by simpa using q
      omega
    simp (disch := omega) only [go_sem, reduceCtorEq, ↓reduceIte, Nat.reduceEqDiff, Nat.reduceAdd, Nat.reduceSub, Nat.reduceMul, Nat.reduceLT, Nat.reduceLeDiff, Int.reduceEq, Int.reduceNe, Int.reduceLT, Int.reduceLE, Int.reduceBEq, Int.reduceBNe, Int.reduceToNat]
    refine run_up (N := a.length) (fun i e h => (∀ j (h1 : j < a.length) (h2 : j < b.length), j < i → a[j] = b[j]) ∧ (e 0 = intsV a ∧ e 1 = intsV b ∧ e 5 = .int .i64 i) ∧ sat h F)
      ⟨by omega, ⟨rfl, rfl, rfl⟩, hs⟩ ?_
    rintro i e h hi ⟨hall, he, hs⟩
    simp (disch := omega) only [go_sem, reduceCtorEq, ↓reduceIte, Nat.reduceEqDiff, Nat.reduceAdd, Nat.reduceSub, Nat.reduceMul, Nat.reduceLT, Nat.reduceLeDiff, Int.reduceEq, Int.reduceNe, Int.reduceLT, Int.reduceLE, Int.reduceBEq, Int.reduceBNe, Int.reduceToNat, he]
    refine cnd_dec (fun hc => ?_) (fun hc => ?_)
    · have h1 : i < a.length := by omega
      have h2 : i < b.length := by omega
      simp (disch := omega) only [go_sem, reduceCtorEq, ↓reduceIte, Nat.reduceEqDiff, Nat.reduceAdd, Nat.reduceSub, Nat.reduceMul, Nat.reduceLT, Nat.reduceLeDiff, Int.reduceEq, Int.reduceNe, Int.reduceLT, Int.reduceLE, Int.reduceBEq, Int.reduceBNe, Int.reduceToNat, he, intsV_at h1, intsV_at h2]
      by_cases hab : a[i] = b[i]
      · simp (disch := omega) only [go_sem, reduceCtorEq, ↓reduceIte, Nat.reduceEqDiff, Nat.reduceAdd, Nat.reduceSub, Nat.reduceMul, Nat.reduceLT, Nat.reduceLeDiff, Int.reduceEq, Int.reduceNe, Int.reduceLT, Int.reduceLE, Int.reduceBEq, Int.reduceBNe, Int.reduceToNat, he, hab]
        refine ⟨by omega, fun j h1 h2 hj => ?_, rfl, hs⟩
        by_cases hji : j = i
        · subst hji; exact hab
        · exact hall j h1 h2 (by omega)
      · have q : (a[i] != b[i]) = true := by simp [hab]
        simp (disch := omega) only [go_sem, reduceCtorEq, ↓reduceIte, Nat.reduceEqDiff, Nat.reduceAdd, Nat.reduceSub, Nat.reduceMul, Nat.reduceLT, Nat.reduceLeDiff, Int.reduceEq, Int.reduceNe, Int.reduceLT, Int.reduceLE, Int.reduceBEq, Int.reduceBNe, Int.reduceToNat, he, q]
        refine ⟨?_, hs⟩
        congr 1
        symm
        apply decide_eq_false
        intro hh
        subst hh
        exact hab rfl
    · have : i = a.length := by omega
      subst this
      simp (disch := omega) only [go_sem, reduceCtorEq, ↓reduceIte, Nat.reduceEqDiff, Nat.reduceAdd, Nat.reduceSub, Nat.reduceMul, Nat.reduceLT, Nat.reduceLeDiff, Int.reduceEq, Int.reduceNe, Int.reduceLT, Int.reduceLE, Int.reduceBEq, Int.reduceBNe, Int.reduceToNat, he]
      refine ⟨?_, hs⟩
      congr 1
      symm
      exact decide_eq_true (List.ext_getElem hl fun j h1 h2 => hall j h1 h2 h1)

theorem xEnts (hs : sat h F) {a b : List En} (ha : a.length ≤ 1000000000000) (hb : b.length ≤ 1000000000000) :
    Triple Try.prog 57 [ensV a, ensV b] h (fun r h => r = .bool (decide (a = b)) ∧ sat h F) := by
  refine t57 (Nat.le_of_ble_eq_true rfl) ?_
  simp (disch := omega) only [F57, go_sem, reduceCtorEq, ↓reduceIte, Nat.reduceEqDiff, Nat.reduceAdd, Nat.reduceSub, Nat.reduceMul, Nat.reduceLT, Nat.reduceLeDiff, Int.reduceEq, Int.reduceNe, Int.reduceLT, Int.reduceLE, Int.reduceBEq, Int.reduceBNe, Int.reduceToNat]
  refine cnd_bool (fun q => ?_) (fun q => ?_)
  · simp (disch := omega) only [go_sem, reduceCtorEq, ↓reduceIte, Nat.reduceEqDiff, Nat.reduceAdd, Nat.reduceSub, Nat.reduceMul, Nat.reduceLT, Nat.reduceLeDiff, Int.reduceEq, Int.reduceNe, Int.reduceLT, Int.reduceLE, Int.reduceBEq, Int.reduceBNe, Int.reduceToNat]
    refine ⟨?_, hs⟩
    congr 1
    symm
    apply decide_eq_false
    intro hh
    rw [hh] at q
    simp at q
  · have hl : a.length = b.length := by
      have : (a.length : Int) = b.length := by simpa using q
      omega
    simp (disch := omega) only [go_sem, reduceCtorEq, ↓reduceIte, Nat.reduceEqDiff, Nat.reduceAdd, Nat.reduceSub, Nat.reduceMul, Nat.reduceLT, Nat.reduceLeDiff, Int.reduceEq, Int.reduceNe, Int.reduceLT, Int.reduceLE, Int.reduceBEq, Int.reduceBNe, Int.reduceToNat]
    refine run_up (N := a.length) (fun i e h => (∀ j (h1 : j < a.length) (h2 : j < b.length), j < i → a[j] = b[j]) ∧ (e 0 = ensV a ∧ e 1 = ensV b ∧ e 5 = .int .i64 i) ∧ sat h F)
      ⟨by omega, ⟨rfl, rfl, rfl⟩, hs⟩ ?_
    rintro i e h hi ⟨hall, he, hs⟩
    simp (disch := omega) only [go_sem, reduceCtorEq, ↓reduceIte, Nat.reduceEqDiff, Nat.reduceAdd, Nat.reduceSub, Nat.reduceMul, Nat.reduceLT, Nat.reduceLeDiff, Int.reduceEq, Int.reduceNe, Int.reduceLT, Int.reduceLE, Int.reduceBEq, Int.reduceBNe, Int.reduceToNat, he]
    refine cnd_dec (fun hc => ?_) (fun hc => ?_)
    · have h1 : i < a.length := by omega
      have h2 : i < b.length := by omega
      simp (disch := omega) only [go_sem, reduceCtorEq, ↓reduceIte, Nat.reduceEqDiff, Nat.reduceAdd, Nat.reduceSub, Nat.reduceMul, Nat.reduceLT, Nat.reduceLeDiff, Int.reduceEq, Int.reduceNe, Int.reduceLT, Int.reduceLE, Int.reduceBEq, Int.reduceBNe, Int.reduceToNat, he, ensV_at h1, ensV_at h2, En.row]
      by_cases hab : a[i] = b[i]
      · simp (disch := omega) only [go_sem, reduceCtorEq, ↓reduceIte, Nat.reduceEqDiff, Nat.reduceAdd, Nat.reduceSub, Nat.reduceMul, Nat.reduceLT, Nat.reduceLeDiff, Int.reduceEq, Int.reduceNe, Int.reduceLT, Int.reduceLE, Int.reduceBEq, Int.reduceBNe, Int.reduceToNat, he, hab, ensV_at h1, ensV_at h2, En.row]
        refine ⟨by omega, fun j h1 h2 hj => ?_, rfl, hs⟩
        by_cases hji : j = i
        · subst hji; exact hab
        · exact hall j h1 h2 (by omega)
      · have leaf : ∀ h, sat h F → (.bool false : AV) = .bool (decide (a = b)) ∧ sat h F := by
          intro h hs
          refine ⟨?_, hs⟩
          congr 1
          symm
          apply decide_eq_false
          intro hh
          subst hh
          exact hab rfl
        have hk := en_eq a[i] b[i]
        rw [decide_eq_false hab] at hk
        refine cnd_bool (fun q1 => ?_) (fun q1 => ?_)
        · simp (disch := omega) only [go_sem, reduceCtorEq, ↓reduceIte, Nat.reduceEqDiff, Nat.reduceAdd, Nat.reduceSub, Nat.reduceMul, Nat.reduceLT, Nat.reduceLeDiff, Int.reduceEq, Int.reduceNe, Int.reduceLT, Int.reduceLE, Int.reduceBEq, Int.reduceBNe, Int.reduceToNat, he, ensV_at h1, ensV_at h2, En.row, q1]
          exact leaf _ hs
        simp (disch := omega) only [go_sem, reduceCtorEq, ↓reduceIte, Nat.reduceEqDiff, Nat.reduceAdd, Nat.reduceSub, Nat.reduceMul, Nat.reduceLT, Nat.reduceLeDiff, Int.reduceEq, Int.reduceNe, Int.reduceLT, Int.reduceLE, Int.reduceBEq, Int.reduceBNe, Int.reduceToNat, he, ensV_at h1, ensV_at h2, En.row, q1]
        refine cnd_bool (fun q2 => ?_) (fun q2 => ?_)
        · simp (disch := omega) only [go_sem, reduceCtorEq, ↓reduceIte, Nat.reduceEqDiff, Nat.reduceAdd, Nat.reduceSub, Nat.reduceMul, Nat.reduceLT, Nat.reduceLeDiff, Int.reduceEq, Int.reduceNe, Int.reduceLT, Int.reduceLE, Int.reduceBEq, Int.reduceBNe, Int.reduceToNat, he, ensV_at h1, ensV_at h2, En.row, q1, q2]
          exact leaf _ hs
        simp (disch := omega) only [go_sem, reduceCtorEq, ↓reduceIte, Nat.reduceEqDiff, Nat.reduceAdd, Nat.reduceSub, Nat.reduceMul, Nat.reduceLT, Nat.reduceLeDiff, Int.reduceEq, Int.reduceNe, Int.reduceLT, Int.reduceLE, Int.reduceBEq, Int.reduceBNe, Int.reduceToNat, he, ensV_at h1, ensV_at h2, En.row, q1, q2]
        refine cnd_bool (fun q3 => ?_) (fun q3 => ?_)
        · simp (disch := omega) only [go_sem, reduceCtorEq, ↓reduceIte, Nat.reduceEqDiff, Nat.reduceAdd, Nat.reduceSub, Nat.reduceMul, Nat.reduceLT, Nat.reduceLeDiff, Int.reduceEq, Int.reduceNe, Int.reduceLT, Int.reduceLE, Int.reduceBEq, Int.reduceBNe, Int.reduceToNat, he, ensV_at h1, ensV_at h2, En.row, q1, q2, q3]
          exact leaf _ hs
        simp (disch := omega) only [go_sem, reduceCtorEq, ↓reduceIte, Nat.reduceEqDiff, Nat.reduceAdd, Nat.reduceSub, Nat.reduceMul, Nat.reduceLT, Nat.reduceLeDiff, Int.reduceEq, Int.reduceNe, Int.reduceLT, Int.reduceLE, Int.reduceBEq, Int.reduceBNe, Int.reduceToNat, he, ensV_at h1, ensV_at h2, En.row, q1, q2, q3]
        have q4 : (a[i].data != b[i].data) = true := by
          simp at q1 q2 q3
          simp [q1, q2, q3] at hk
          simpa using hk
        simp (disch := omega) only [go_sem, reduceCtorEq, ↓reduceIte, Nat.reduceEqDiff, Nat.reduceAdd, Nat.reduceSub, Nat.reduceMul, Nat.reduceLT, Nat.reduceLeDiff, Int.reduceEq, Int.reduceNe, Int.reduceLT, Int.reduceLE, Int.reduceBEq, Int.reduceBNe, Int.reduceToNat, q4]
        exact leaf _ hs
    · have : i = a.length := by omega
      subst this
      simp (disch := omega) only [go_sem, reduceCtorEq, ↓reduceIte, Nat.reduceEqDiff, Nat.reduceAdd, Nat.reduceSub, Nat.reduceMul, Nat.reduceLT, Nat.reduceLeDiff, Int.reduceEq, Int.reduceNe, Int.reduceLT, Int.reduceLE, Int.reduceBEq, Int.reduceBNe, Int.reduceToNat, he]
      refine ⟨?_, hs⟩
      congr 1
      symm
      exact decide_eq_true (List.ext_getElem hl fun j h1 h2 => hall j h1 h2 h1)

def metaC (i t : Int) (v : List Int) : List AV := [.int .i64 i, .int .i64 t, intsV v]
theorem xMeta (hs : sat h F) {i t i' t' : Int} {a b : List Int} (ha : a.length ≤ 1000000000000) (hb : b.length ≤ 1000000000000) :
    Triple Try.prog 58 [.agg (metaC i t a), .agg (metaC i' t' b)] h (fun r h => r = .bool (i == i' && (t == t' && decide (a = b))) ∧ sat h F) := by
  refine t58 (Nat.le_of_ble_eq_true rfl) ?_
  simp (disch := omega) only [F58, metaC, go_sem, reduceCtorEq, ↓reduceIte, Nat.reduceEqDiff, Nat.reduceAdd, Nat.reduceSub, Nat.reduceMul, Nat.reduceLT, Nat.reduceLeDiff, Int.reduceEq, Int.reduceNe, Int.reduceLT, Int.reduceLE, Int.reduceBEq, Int.reduceBNe, Int.reduceToNat]
  refine new_opq hs fun n h hs => ?_
  simp (disch := omega) only [go_sem, reduceCtorEq, ↓reduceIte, Nat.reduceEqDiff, Nat.reduceAdd, Nat.reduceSub, Nat.reduceMul, Nat.reduceLT, Nat.reduceLeDiff, Int.reduceEq, Int.reduceNe, Int.reduceLT, Int.reduceLE, Int.reduceBEq, Int.reduceBNe, Int.reduceToNat, hs.at]
  refine new_opq hs fun m h hs => ?_
  simp (disch := omega) only [go_sem, reduceCtorEq, ↓reduceIte, Nat.reduceEqDiff, Nat.reduceAdd, Nat.reduceSub, Nat.reduceMul, Nat.reduceLT, Nat.reduceLeDiff, Int.reduceEq, Int.reduceNe, Int.reduceLT, Int.reduceLE, Int.reduceBEq, Int.reduceBNe, Int.reduceToNat, hs.at]
  simp (disch := omega) only [go_sem, reduceCtorEq, ↓reduceIte, Nat.reduceEqDiff, Nat.reduceAdd, Nat.reduceSub, Nat.reduceMul, Nat.reduceLT, Nat.reduceLeDiff, Int.reduceEq, Int.reduceNe, Int.reduceLT, Int.reduceLE, Int.reduceBEq, Int.reduceBNe, Int.reduceToNat, hs.at, hs.p1.at]
  refine cnd_bool (fun q1 => ?_) (fun q1 => ?_)
  rotate_left
  · simp (disch := omega) only [go_sem, reduceCtorEq, ↓reduceIte, Nat.reduceEqDiff, Nat.reduceAdd, Nat.reduceSub, Nat.reduceMul, Nat.reduceLT, Nat.reduceLeDiff, Int.reduceEq, Int.reduceNe, Int.reduceLT, Int.reduceLE, Int.reduceBEq, Int.reduceBNe, Int.reduceToNat, hs.at, hs.p1.at, q1]
    exact ⟨by simp [q1], hs.drop.drop⟩
  simp (disch := omega) only [go_sem, reduceCtorEq, ↓reduceIte, Nat.reduceEqDiff, Nat.reduceAdd, Nat.reduceSub, Nat.reduceMul, Nat.reduceLT, Nat.reduceLeDiff, Int.reduceEq, Int.reduceNe, Int.reduceLT, Int.reduceLE, Int.reduceBEq, Int.reduceBNe, Int.reduceToNat, hs.at, hs.p1.at, q1]
  refine cnd_bool (fun q2 => ?_) (fun q2 => ?_)
  rotate_left
  · simp (disch := omega) only [go_sem, reduceCtorEq, ↓reduceIte, Nat.reduceEqDiff, Nat.reduceAdd, Nat.reduceSub, Nat.reduceMul, Nat.reduceLT, Nat.reduceLeDiff, Int.reduceEq, Int.reduceNe, Int.reduceLT, Int.reduceLE, Int.reduceBEq, Int.reduceBNe, Int.reduceToNat, hs.at, hs.p1.at, q1, q2]
    exact ⟨by simp [q1, q2], hs.drop.drop⟩
  simp (disch := omega) only [go_sem, reduceCtorEq, ↓reduceIte, Nat.reduceEqDiff, Nat.reduceAdd, Nat.reduceSub, Nat.reduceMul, Nat.reduceLT, Nat.reduceLeDiff, Int.reduceEq, Int.reduceNe, Int.reduceLT, Int.reduceLE, Int.reduceBEq, Int.reduceBNe, Int.reduceToNat, hs.at, hs.p1.at, q1, q2]
  refine call_use (xInts hs ha hb) ?_
  rintro r h ⟨hr, hs⟩
  subst hr
  simp (disch := omega) only [go_sem, reduceCtorEq, ↓reduceIte, Nat.reduceEqDiff, Nat.reduceAdd, Nat.reduceSub, Nat.reduceMul, Nat.reduceLT, Nat.reduceLeDiff, Int.reduceEq, Int.reduceNe, Int.reduceLT, Int.reduceLE, Int.reduceBEq, Int.reduceBNe, Int.reduceToNat, q1, q2]
  exact hs.drop.drop

theorem ms_eq (x y : Ms) : decide (x = y) = (x.kind == y.kind && (x.frm == y.frm && (x.to == y.to && (x.term == y.term && (x.index == y.index && (x.lterm == y.lterm && (decide (x.es = y.es) &&
    (x.commit == y.commit && (x.seq == y.seq && (x.ok == y.ok && (x.mtch == y.mtch && (x.mi == y.mi && (x.mt == y.mt && (decide (x.vs = y.vs) && x.data == y.data)))))))))))))) := by
  rw [Bool.eq_iff_iff]
  cases x; cases y
  simp

theorem pSame (hs : sat h F) {a b : Ms} (ha : a.room) (hb : b.room) : Triple Try.prog 21 [.agg a.cells, .agg b.cells] h (fun r h => r = .bool (decide (a = b)) ∧ sat h F) := by
  obtain ⟨ha1, ha2⟩ := ha
  obtain ⟨hb1, hb2⟩ := hb
  rw [ms_eq]
  refine t21 (Nat.le_of_ble_eq_true rfl) ?_
  simp (disch := omega) only [F21, Ms.cells, go_sem, reduceCtorEq, ↓reduceIte, Nat.reduceEqDiff, Nat.reduceAdd, Nat.reduceSub, Nat.reduceMul, Nat.reduceLT, Nat.reduceLeDiff, Int.reduceEq, Int.reduceNe, Int.reduceLT, Int.reduceLE, Int.reduceBEq, Int.reduceBNe, Int.reduceToNat]
  refine new_opq hs fun n h hs => ?_
  simp (disch := omega) only [go_sem, reduceCtorEq, ↓reduceIte, Nat.reduceEqDiff, Nat.reduceAdd, Nat.reduceSub, Nat.reduceMul, Nat.reduceLT, Nat.reduceLeDiff, Int.reduceEq, Int.reduceNe, Int.reduceLT, Int.reduceLE, Int.reduceBEq, Int.reduceBNe, Int.reduceToNat, hs.at]
  refine new_opq hs fun m h hs => ?_
  simp (disch := omega) only [go_sem, reduceCtorEq, ↓reduceIte, Nat.reduceEqDiff, Nat.reduceAdd, Nat.reduceSub, Nat.reduceMul, Nat.reduceLT, Nat.reduceLeDiff, Int.reduceEq, Int.reduceNe, Int.reduceLT, Int.reduceLE, Int.reduceBEq, Int.reduceBNe, Int.reduceToNat, hs.at]
  simp (disch := omega) only [go_sem, reduceCtorEq, ↓reduceIte, Nat.reduceEqDiff, Nat.reduceAdd, Nat.reduceSub, Nat.reduceMul, Nat.reduceLT, Nat.reduceLeDiff, Int.reduceEq, Int.reduceNe, Int.reduceLT, Int.reduceLE, Int.reduceBEq, Int.reduceBNe, Int.reduceToNat, hs.at, hs.p1.at]
  refine cnd_bool (fun q1 => ?_) (fun q1 => ?_)
  rotate_left
  · simp (disch := omega) only [go_sem, reduceCtorEq, ↓reduceIte, Nat.reduceEqDiff, Nat.reduceAdd, Nat.reduceSub, Nat.reduceMul, Nat.reduceLT, Nat.reduceLeDiff, Int.reduceEq, Int.reduceNe, Int.reduceLT, Int.reduceLE, Int.reduceBEq, Int.reduceBNe, Int.reduceToNat, hs.at, hs.p1.at, q1]
    exact ⟨by simp [q1], hs.drop.drop⟩
  simp (disch := omega) only [go_sem, reduceCtorEq, ↓reduceIte, Nat.reduceEqDiff, Nat.reduceAdd, Nat.reduceSub, Nat.reduceMul, Nat.reduceLT, Nat.reduceLeDiff, Int.reduceEq, Int.reduceNe, Int.reduceLT, Int.reduceLE, Int.reduceBEq, Int.reduceBNe, Int.reduceToNat, hs.at, hs.p1.at, q1]
  refine cnd_bool (fun q2 => ?_) (fun q2 => ?_)
  rotate_left
  · simp (disch := omega) only [go_sem, reduceCtorEq, ↓reduceIte, Nat.reduceEqDiff, Nat.reduceAdd, Nat.reduceSub, Nat.reduceMul, Nat.reduceLT, Nat.reduceLeDiff, Int.reduceEq, Int.reduceNe, Int.reduceLT, Int.reduceLE, Int.reduceBEq, Int.reduceBNe, Int.reduceToNat, hs.at, hs.p1.at, q1, q2]
    exact ⟨by simp [q1, q2], hs.drop.drop⟩
  simp (disch := omega) only [go_sem, reduceCtorEq, ↓reduceIte, Nat.reduceEqDiff, Nat.reduceAdd, Nat.reduceSub, Nat.reduceMul, Nat.reduceLT, Nat.reduceLeDiff, Int.reduceEq, Int.reduceNe, Int.reduceLT, Int.reduceLE, Int.reduceBEq, Int.reduceBNe, Int.reduceToNat, hs.at, hs.p1.at, q1, q2]
  refine cnd_bool (fun q3 => ?_) (fun q3 => ?_)
  rotate_left
  · simp (disch := omega) only [go_sem, reduceCtorEq, ↓reduceIte, Nat.reduceEqDiff, Nat.reduceAdd, Nat.reduceSub, Nat.reduceMul, Nat.reduceLT, Nat.reduceLeDiff, Int.reduceEq, Int.reduceNe, Int.reduceLT, Int.reduceLE, Int.reduceBEq, Int.reduceBNe, Int.reduceToNat, hs.at, hs.p1.at, q1, q2, q3]
    exact ⟨by simp [q1, q2, q3], hs.drop.drop⟩
  simp (disch := omega) only [go_sem, reduceCtorEq, ↓reduceIte, Nat.reduceEqDiff, Nat.reduceAdd, Nat.reduceSub, Nat.reduceMul, Nat.reduceLT, Nat.reduceLeDiff, Int.reduceEq, Int.reduceNe, Int.reduceLT, Int.reduceLE, Int.reduceBEq, Int.reduceBNe, Int.reduceToNat, hs.at, hs.p1.at, q1, q2, q3]
  refine cnd_bool (fun q4 => ?_) (fun q4 => ?_)
  rotate_left
  · simp (disch := omega) only [go_sem, reduceCtorEq, ↓reduceIte, Nat.reduceEqDiff, Nat.reduceAdd, Nat.reduceSub, Nat.reduceMul, Nat.reduceLT, Nat.reduceLeDiff, Int.reduceEq, Int.reduceNe, Int.reduceLT, Int.reduceLE, Int.reduceBEq, Int.reduceBNe, Int.reduceToNat, hs.at, hs.p1.at, q1, q2, q3, q4]
    exact ⟨by simp [q1, q2, q3, q4], hs.drop.drop⟩
  simp (disch := omega) only [go_sem, reduceCtorEq, ↓reduceIte, Nat.reduceEqDiff, Nat.reduceAdd, Nat.reduceSub, Nat.reduceMul, Nat.reduceLT, Nat.reduceLeDiff, Int.reduceEq, Int.reduceNe, Int.reduceLT, Int.reduceLE, Int.reduceBEq, Int.reduceBNe, Int.reduceToNat, hs.at, hs.p1.at, q1, q2, q3, q4]
  refine cnd_bool (fun q5 => ?_) (fun q5 => ?_)
  rotate_left
  · simp (disch := omega) only [go_sem, reduceCtorEq, ↓reduceIte, Nat.reduceEqDiff, Nat.reduceAdd, Nat.reduceSub, Nat.reduceMul, Nat.reduceLT, Nat.reduceLeDiff, Int.reduceEq, Int.reduceNe, Int.reduceLT, Int.reduceLE, Int.reduceBEq, Int.reduceBNe, Int.reduceToNat, hs.at, hs.p1.at, q1, q2, q3, q4, q5]
    exact ⟨by simp [q1, q2, q3, q4, q5], hs.drop.drop⟩
  simp (disch := omega) only [go_sem, reduceCtorEq, ↓reduceIte, Nat.reduceEqDiff, Nat.reduceAdd, Nat.reduceSub, Nat.reduceMul, Nat.reduceLT, Nat.reduceLeDiff, Int.reduceEq, Int.reduceNe, Int.reduceLT, Int.reduceLE, Int.reduceBEq, Int.reduceBNe, Int.reduceToNat, hs.at, hs.p1.at, q1, q2, q3, q4, q5]
  refine cnd_bool (fun q6 => ?_) (fun q6 => ?_)
  rotate_left
  · simp (disch := omega) only [go_sem, reduceCtorEq, ↓reduceIte, Nat.reduceEqDiff, Nat.reduceAdd, Nat.reduceSub, Nat.reduceMul, Nat.reduceLT, Nat.reduceLeDiff, Int.reduceEq, Int.reduceNe, Int.reduceLT, Int.reduceLE, Int.reduceBEq, Int.reduceBNe, Int.reduceToNat, hs.at, hs.p1.at, q1, q2, q3, q4, q5, q6]
    exact ⟨by simp [q1, q2, q3, q4, q5, q6], hs.drop.drop⟩
  simp (disch := omega) only [go_sem, reduceCtorEq, ↓reduceIte, Nat.reduceEqDiff, Nat.reduceAdd, Nat.reduceSub, Nat.reduceMul, Nat.reduceLT, Nat.reduceLeDiff, Int.reduceEq, Int.reduceNe, Int.reduceLT, Int.reduceLE, Int.reduceBEq, Int.reduceBNe, Int.reduceToNat, hs.at, hs.p1.at, q1, q2, q3, q4, q5, q6]
  refine call_use (eqFunc hs ha1 hb1) ?_
  rintro r h ⟨hr, hs⟩
  subst hr
  simp (disch := omega) only [go_sem, reduceCtorEq, ↓reduceIte, Nat.reduceEqDiff, Nat.reduceAdd, Nat.reduceSub, Nat.reduceMul, Nat.reduceLT, Nat.reduceLeDiff, Int.reduceEq, Int.reduceNe, Int.reduceLT, Int.reduceLE, Int.reduceBEq, Int.reduceBNe, Int.reduceToNat]
  refine cnd_bool (fun q7 => ?_) (fun q7 => ?_)
  rotate_left
  · simp (disch := omega) only [go_sem, reduceCtorEq, ↓reduceIte, Nat.reduceEqDiff, Nat.reduceAdd, Nat.reduceSub, Nat.reduceMul, Nat.reduceLT, Nat.reduceLeDiff, Int.reduceEq, Int.reduceNe, Int.reduceLT, Int.reduceLE, Int.reduceBEq, Int.reduceBNe, Int.reduceToNat, hs.at, hs.p1.at, q1, q2, q3, q4, q5, q6, q7]
    exact ⟨by simp [q1, q2, q3, q4, q5, q6, q7], hs.drop.drop⟩
  simp (disch := omega) only [go_sem, reduceCtorEq, ↓reduceIte, Nat.reduceEqDiff, Nat.reduceAdd, Nat.reduceSub, Nat.reduceMul, Nat.reduceLT, Nat.reduceLeDiff, Int.reduceEq, Int.reduceNe, Int.reduceLT, Int.reduceLE, Int.reduceBEq, Int.reduceBNe, Int.reduceToNat, hs.at, hs.p1.at, q1, q2, q3, q4, q5, q6, q7]
  refine cnd_bool (fun q8 => ?_) (fun q8 => ?_)
  rotate_left
  · simp (disch := omega) only [go_sem, reduceCtorEq, ↓reduceIte, Nat.reduceEqDiff, Nat.reduceAdd, Nat.reduceSub, Nat.reduceMul, Nat.reduceLT, Nat.reduceLeDiff, Int.reduceEq, Int.reduceNe, Int.reduceLT, Int.reduceLE, Int.reduceBEq, Int.reduceBNe, Int.reduceToNat, hs.at, hs.p1.at, q1, q2, q3, q4, q5, q6, q7, q8]
    exact ⟨by simp [q1, q2, q3, q4, q5, q6, q7, q8], hs.drop.drop⟩
  simp (disch := omega) only [go_sem, reduceCtorEq, ↓reduceIte, Nat.reduceEqDiff, Nat.reduceAdd, Nat.reduceSub, Nat.reduceMul, Nat.reduceLT, Nat.reduceLeDiff, Int.reduceEq, Int.reduceNe, Int.reduceLT, Int.reduceLE, Int.reduceBEq, Int.reduceBNe, Int.reduceToNat, hs.at, hs.p1.at, q1, q2, q3, q4, q5, q6, q7, q8]
  refine cnd_bool (fun q9 => ?_) (fun q9 => ?_)
  rotate_left
  · simp (disch := omega) only [go_sem, reduceCtorEq, ↓reduceIte, Nat.reduceEqDiff, Nat.reduceAdd, Nat.reduceSub, Nat.reduceMul, Nat.reduceLT, Nat.reduceLeDiff, Int.reduceEq, Int.reduceNe, Int.reduceLT, Int.reduceLE, Int.reduceBEq, Int.reduceBNe, Int.reduceToNat, hs.at, hs.p1.at, q1, q2, q3, q4, q5, q6, q7, q8, q9]
    exact ⟨by simp [q1, q2, q3, q4, q5, q6, q7, q8, q9], hs.drop.drop⟩
  simp (disch := omega) only [go_sem, reduceCtorEq, ↓reduceIte, Nat.reduceEqDiff, Nat.reduceAdd, Nat.reduceSub, Nat.reduceMul, Nat.reduceLT, Nat.reduceLeDiff, Int.reduceEq, Int.reduceNe, Int.reduceLT, Int.reduceLE, Int.reduceBEq, Int.reduceBNe, Int.reduceToNat, hs.at, hs.p1.at, q1, q2, q3, q4, q5, q6, q7, q8, q9]
  refine cnd_bool (fun q10 => ?_) (fun q10 => ?_)
  rotate_left
  · simp (disch := omega) only [go_sem, reduceCtorEq, ↓reduceIte, Nat.reduceEqDiff, Nat.reduceAdd, Nat.reduceSub, Nat.reduceMul, Nat.reduceLT, Nat.reduceLeDiff, Int.reduceEq, Int.reduceNe, Int.reduceLT, Int.reduceLE, Int.reduceBEq, Int.reduceBNe, Int.reduceToNat, hs.at, hs.p1.at, q1, q2, q3, q4, q5, q6, q7, q8, q9, q10]
    exact ⟨by simp [q1, q2, q3, q4, q5, q6, q7, q8, q9, q10], hs.drop.drop⟩
  simp (disch := omega) only [go_sem, reduceCtorEq, ↓reduceIte, Nat.reduceEqDiff, Nat.reduceAdd, Nat.reduceSub, Nat.reduceMul, Nat.reduceLT, Nat.reduceLeDiff, Int.reduceEq, Int.reduceNe, Int.reduceLT, Int.reduceLE, Int.reduceBEq, Int.reduceBNe, Int.reduceToNat, hs.at, hs.p1.at, q1, q2, q3, q4, q5, q6, q7, q8, q9, q10]
  refine cnd_bool (fun q11 => ?_) (fun q11 => ?_)
  rotate_left
  · simp (disch := omega) only [go_sem, reduceCtorEq, ↓reduceIte, Nat.reduceEqDiff, Nat.reduceAdd, Nat.reduceSub, Nat.reduceMul, Nat.reduceLT, Nat.reduceLeDiff, Int.reduceEq, Int.reduceNe, Int.reduceLT, Int.reduceLE, Int.reduceBEq, Int.reduceBNe, Int.reduceToNat, hs.at, hs.p1.at, q1, q2, q3, q4, q5, q6, q7, q8, q9, q10, q11]
    exact ⟨by simp [q1, q2, q3, q4, q5, q6, q7, q8, q9, q10, q11], hs.drop.drop⟩
  simp (disch := omega) only [go_sem, reduceCtorEq, ↓reduceIte, Nat.reduceEqDiff, Nat.reduceAdd, Nat.reduceSub, Nat.reduceMul, Nat.reduceLT, Nat.reduceLeDiff, Int.reduceEq, Int.reduceNe, Int.reduceLT, Int.reduceLE, Int.reduceBEq, Int.reduceBNe, Int.reduceToNat, hs.at, hs.p1.at, q1, q2, q3, q4, q5, q6, q7, q8, q9, q10, q11]
  refine cnd_bool (fun q12 => ?_) (fun q12 => ?_)
  rotate_left
  · simp (disch := omega) only [go_sem, reduceCtorEq, ↓reduceIte, Nat.reduceEqDiff, Nat.reduceAdd, Nat.reduceSub, Nat.reduceMul, Nat.reduceLT, Nat.reduceLeDiff, Int.reduceEq, Int.reduceNe, Int.reduceLT, Int.reduceLE, Int.reduceBEq, Int.reduceBNe, Int.reduceToNat, hs.at, hs.p1.at, q1, q2, q3, q4, q5, q6, q7, q8, q9, q10, q11, q12]
    exact ⟨by simp [q1, q2, q3, q4, q5, q6, q7, q8, q9, q10, q11, q12], hs.drop.drop⟩
  simp (disch := omega) only [go_sem, reduceCtorEq, ↓reduceIte, Nat.reduceEqDiff, Nat.reduceAdd, Nat.reduceSub, Nat.reduceMul, Nat.reduceLT, Nat.reduceLeDiff, Int.reduceEq, Int.reduceNe, Int.reduceLT, Int.reduceLE, Int.reduceBEq, Int.reduceBNe, Int.reduceToNat, hs.at, hs.p1.at, q1, q2, q3, q4, q5, q6, q7, q8, q9, q10, q11, q12]
  refine cnd_bool (fun q13 => ?_) (fun q13 => ?_)
  rotate_left
  · simp (disch := omega) only [go_sem, reduceCtorEq, ↓reduceIte, Nat.reduceEqDiff, Nat.reduceAdd, Nat.reduceSub, Nat.reduceMul, Nat.reduceLT, Nat.reduceLeDiff, Int.reduceEq, Int.reduceNe, Int.reduceLT, Int.reduceLE, Int.reduceBEq, Int.reduceBNe, Int.reduceToNat, hs.at, hs.p1.at, q1, q2, q3, q4, q5, q6, q7, q8, q9, q10, q11, q12, q13]
    exact ⟨by simp [q1, q2, q3, q4, q5, q6, q7, q8, q9, q10, q11, q12, q13], hs.drop.drop⟩
  simp (disch := omega) only [go_sem, reduceCtorEq, ↓reduceIte, Nat.reduceEqDiff, Nat.reduceAdd, Nat.reduceSub, Nat.reduceMul, Nat.reduceLT, Nat.reduceLeDiff, Int.reduceEq, Int.reduceNe, Int.reduceLT, Int.reduceLE, Int.reduceBEq, Int.reduceBNe, Int.reduceToNat, hs.at, hs.p1.at, q1, q2, q3, q4, q5, q6, q7, q8, q9, q10, q11, q12, q13]
  refine call_use (eqInts hs ha2 hb2) ?_
  rintro r h ⟨hr, hs⟩
  subst hr
  simp (disch := omega) only [go_sem, reduceCtorEq, ↓reduceIte, Nat.reduceEqDiff, Nat.reduceAdd, Nat.reduceSub, Nat.reduceMul, Nat.reduceLT, Nat.reduceLeDiff, Int.reduceEq, Int.reduceNe, Int.reduceLT, Int.reduceLE, Int.reduceBEq, Int.reduceBNe, Int.reduceToNat]
  refine cnd_bool (fun q14 => ?_) (fun q14 => ?_)
  rotate_left
  · simp (disch := omega) only [go_sem, reduceCtorEq, ↓reduceIte, Nat.reduceEqDiff, Nat.reduceAdd, Nat.reduceSub, Nat.reduceMul, Nat.reduceLT, Nat.reduceLeDiff, Int.reduceEq, Int.reduceNe, Int.reduceLT, Int.reduceLE, Int.reduceBEq, Int.reduceBNe, Int.reduceToNat, hs.at, hs.p1.at, q1, q2, q3, q4, q5, q6, q7, q8, q9, q10, q11, q12, q13, q14]
    exact ⟨by simp [q1, q2, q3, q4, q5, q6, q7, q8, q9, q10, q11, q12, q13, q14], hs.drop.drop⟩
  simp (disch := omega) only [go_sem, reduceCtorEq, ↓reduceIte, Nat.reduceEqDiff, Nat.reduceAdd, Nat.reduceSub, Nat.reduceMul, Nat.reduceLT, Nat.reduceLeDiff, Int.reduceEq, Int.reduceNe, Int.reduceLT, Int.reduceLE, Int.reduceBEq, Int.reduceBNe, Int.reduceToNat, hs.at, hs.p1.at, q1, q2, q3, q4, q5, q6, q7, q8, q9, q10, q11, q12, q13, q14]
  refine call_use (bytesEq hs a.data b.data) ?_
  rintro r h ⟨hr, hs⟩
  subst hr
  simp (disch := omega) only [go_sem, reduceCtorEq, ↓reduceIte, Nat.reduceEqDiff, Nat.reduceAdd, Nat.reduceSub, Nat.reduceMul, Nat.reduceLT, Nat.reduceLeDiff, Int.reduceEq, Int.reduceNe, Int.reduceLT, Int.reduceLE, Int.reduceBEq, Int.reduceBNe, Int.reduceToNat, q1, q2, q3, q4, q5, q6, q7, q8, q9, q10, q11, q12, q13, q14]
  exact hs.drop.drop

theorem ms_eq2 (x y : Ms) : decide (x = y) = (x.kind == y.kind && (x.frm == y.frm && (x.to == y.to && (x.term == y.term && (x.index == y.index && (x.lterm == y.lterm && (decide (x.es = y.es) &&
    (x.commit == y.commit && (x.seq == y.seq && (x.ok == y.ok && (x.mtch == y.mtch && ((x.mi == y.mi && (x.mt == y.mt && decide (x.vs = y.vs))) && x.data == y.data)))))))))))) := by
  rw [ms_eq]
  simp only [Bool.and_assoc]

theorem xSame (hs : sat h F) {a b : Ms} (ha : a.room) (hb : b.room) : Triple Try.prog 19 [.agg a.cells, .agg b.cells] h (fun r h => r = .bool (decide (a = b)) ∧ sat h F) := by
  obtain ⟨ha1, ha2⟩ := ha
  obtain ⟨hb1, hb2⟩ := hb
  rw [ms_eq2]
  refine t19 (Nat.le_of_ble_eq_true rfl) ?_
  simp (disch := omega) only [F19, Ms.cells, go_sem, reduceCtorEq, ↓reduceIte, Nat.reduceEqDiff, Nat.reduceAdd, Nat.reduceSub, Nat.reduceMul, Nat.reduceLT, Nat.reduceLeDiff, Int.reduceEq, Int.reduceNe, Int.reduceLT, Int.reduceLE, Int.reduceBEq, Int.reduceBNe, Int.reduceToNat]
  refine new_opq hs fun n h hs => ?_
  simp (disch := omega) only [go_sem, reduceCtorEq, ↓reduceIte, Nat.reduceEqDiff, Nat.reduceAdd, Nat.reduceSub, Nat.reduceMul, Nat.reduceLT, Nat.reduceLeDiff, Int.reduceEq, Int.reduceNe, Int.reduceLT, Int.reduceLE, Int.reduceBEq, Int.reduceBNe, Int.reduceToNat, hs.at]
  refine new_opq hs fun m h hs => ?_
  simp (disch := omega) only [go_sem, reduceCtorEq, ↓reduceIte, Nat.reduceEqDiff, Nat.reduceAdd, Nat.reduceSub, Nat.reduceMul, Nat.reduceLT, Nat.reduceLeDiff, Int.reduceEq, Int.reduceNe, Int.reduceLT, Int.reduceLE, Int.reduceBEq, Int.reduceBNe, Int.reduceToNat, hs.at]
  simp (disch := omega) only [go_sem, reduceCtorEq, ↓reduceIte, Nat.reduceEqDiff, Nat.reduceAdd, Nat.reduceSub, Nat.reduceMul, Nat.reduceLT, Nat.reduceLeDiff, Int.reduceEq, Int.reduceNe, Int.reduceLT, Int.reduceLE, Int.reduceBEq, Int.reduceBNe, Int.reduceToNat, hs.at, hs.p1.at]
  refine cnd_bool (fun q1 => ?_) (fun q1 => ?_)
  rotate_left
  · simp (disch := omega) only [go_sem, reduceCtorEq, ↓reduceIte, Nat.reduceEqDiff, Nat.reduceAdd, Nat.reduceSub, Nat.reduceMul, Nat.reduceLT, Nat.reduceLeDiff, Int.reduceEq, Int.reduceNe, Int.reduceLT, Int.reduceLE, Int.reduceBEq, Int.reduceBNe, Int.reduceToNat, hs.at, hs.p1.at, q1]
    exact ⟨by simp [q1], hs.drop.drop⟩
  simp (disch := omega) only [go_sem, reduceCtorEq, ↓reduceIte, Nat.reduceEqDiff, Nat.reduceAdd, Nat.reduceSub, Nat.reduceMul, Nat.reduceLT, Nat.reduceLeDiff, Int.reduceEq, Int.reduceNe, Int.reduceLT, Int.reduceLE, Int.reduceBEq, Int.reduceBNe, Int.reduceToNat, hs.at, hs.p1.at, q1]
  refine cnd_bool (fun q2 => ?_) (fun q2 => ?_)
  rotate_left
  · simp (disch := omega) only [go_sem, reduceCtorEq, ↓reduceIte, Nat.reduceEqDiff, Nat.reduceAdd, Nat.reduceSub, Nat.reduceMul, Nat.reduceLT, Nat.reduceLeDiff, Int.reduceEq, Int.reduceNe, Int.reduceLT, Int.reduceLE, Int.reduceBEq, Int.reduceBNe, Int.reduceToNat, hs.at, hs.p1.at, q1, q2]
    exact ⟨by simp [q1, q2], hs.drop.drop⟩
  simp (disch := omega) only [go_sem, reduceCtorEq, ↓reduceIte, Nat.reduceEqDiff, Nat.reduceAdd, Nat.reduceSub, Nat.reduceMul, Nat.reduceLT, Nat.reduceLeDiff, Int.reduceEq, Int.reduceNe, Int.reduceLT, Int.reduceLE, Int.reduceBEq, Int.reduceBNe, Int.reduceToNat, hs.at, hs.p1.at, q1, q2]
  refine cnd_bool (fun q3 => ?_) (fun q3 => ?_)
  rotate_left
  · simp (disch := omega) only [go_sem, reduceCtorEq, ↓reduceIte, Nat.reduceEqDiff, Nat.reduceAdd, Nat.reduceSub, Nat.reduceMul, Nat.reduceLT, Nat.reduceLeDiff, Int.reduceEq, Int.reduceNe, Int.reduceLT, Int.reduceLE, Int.reduceBEq, Int.reduceBNe, Int.reduceToNat, hs.at, hs.p1.at, q1, q2, q3]
    exact ⟨by simp [q1, q2, q3], hs.drop.drop⟩
  simp (disch := omega) only [go_sem, reduceCtorEq, ↓reduceIte, Nat.reduceEqDiff, Nat.reduceAdd, Nat.reduceSub, Nat.reduceMul, Nat.reduceLT, Nat.reduceLeDiff, Int.reduceEq, Int.reduceNe, Int.reduceLT, Int.reduceLE, Int.reduceBEq, Int.reduceBNe, Int.reduceToNat, hs.at, hs.p1.at, q1, q2, q3]
  refine cnd_bool (fun q4 => ?_) (fun q4 => ?_)
  rotate_left
  · simp (disch := omega) only [go_sem, reduceCtorEq, ↓reduceIte, Nat.reduceEqDiff, Nat.reduceAdd, Nat.reduceSub, Nat.reduceMul, Nat.reduceLT, Nat.reduceLeDiff, Int.reduceEq, Int.reduceNe, Int.reduceLT, Int.reduceLE, Int.reduceBEq, Int.reduceBNe, Int.reduceToNat, hs.at, hs.p1.at, q1, q2, q3, q4]
    exact ⟨by simp [q1, q2, q3, q4], hs.drop.drop⟩
  simp (disch := omega) only [go_sem, reduceCtorEq, ↓reduceIte, Nat.reduceEqDiff, Nat.reduceAdd, Nat.reduceSub, Nat.reduceMul, Nat.reduceLT, Nat.reduceLeDiff, Int.reduceEq, Int.reduceNe, Int.reduceLT, Int.reduceLE, Int.reduceBEq, Int.reduceBNe, Int.reduceToNat, hs.at, hs.p1.at, q1, q2, q3, q4]
  refine cnd_bool (fun q5 => ?_) (fun q5 => ?_)
  rotate_left
  · simp (disch := omega) only [go_sem, reduceCtorEq, ↓reduceIte, Nat.reduceEqDiff, Nat.reduceAdd, Nat.reduceSub, Nat.reduceMul, Nat.reduceLT, Nat.reduceLeDiff, Int.reduceEq, Int.reduceNe, Int.reduceLT, Int.reduceLE, Int.reduceBEq, Int.reduceBNe, Int.reduceToNat, hs.at, hs.p1.at, q1, q2, q3, q4, q5]
    exact ⟨by simp [q1, q2, q3, q4, q5], hs.drop.drop⟩
  simp (disch := omega) only [go_sem, reduceCtorEq, ↓reduceIte, Nat.reduceEqDiff, Nat.reduceAdd, Nat.reduceSub, Nat.reduceMul, Nat.reduceLT, Nat.reduceLeDiff, Int.reduceEq, Int.reduceNe, Int.reduceLT, Int.reduceLE, Int.reduceBEq, Int.reduceBNe, Int.reduceToNat, hs.at, hs.p1.at, q1, q2, q3, q4, q5]
  refine cnd_bool (fun q6 => ?_) (fun q6 => ?_)
  rotate_left
  · simp (disch := omega) only [go_sem, reduceCtorEq, ↓reduceIte, Nat.reduceEqDiff, Nat.reduceAdd, Nat.reduceSub, Nat.reduceMul, Nat.reduceLT, Nat.reduceLeDiff, Int.reduceEq, Int.reduceNe, Int.reduceLT, Int.reduceLE, Int.reduceBEq, Int.reduceBNe, Int.reduceToNat, hs.at, hs.p1.at, q1, q2, q3, q4, q5, q6]
    exact ⟨by simp [q1, q2, q3, q4, q5, q6], hs.drop.drop⟩
  simp (disch := omega) only [go_sem, reduceCtorEq, ↓reduceIte, Nat.reduceEqDiff, Nat.reduceAdd, Nat.reduceSub, Nat.reduceMul, Nat.reduceLT, Nat.reduceLeDiff, Int.reduceEq, Int.reduceNe, Int.reduceLT, Int.reduceLE, Int.reduceBEq, Int.reduceBNe, Int.reduceToNat, hs.at, hs.p1.at, q1, q2, q3, q4, q5, q6]
  refine call_use (xEnts hs ha1 hb1) ?_
  rintro r h ⟨hr, hs⟩
  subst hr
  simp (disch := omega) only [go_sem, reduceCtorEq, ↓reduceIte, Nat.reduceEqDiff, Nat.reduceAdd, Nat.reduceSub, Nat.reduceMul, Nat.reduceLT, Nat.reduceLeDiff, Int.reduceEq, Int.reduceNe, Int.reduceLT, Int.reduceLE, Int.reduceBEq, Int.reduceBNe, Int.reduceToNat]
  refine cnd_bool (fun q7 => ?_) (fun q7 => ?_)
  rotate_left
  · simp (disch := omega) only [go_sem, reduceCtorEq, ↓reduceIte, Nat.reduceEqDiff, Nat.reduceAdd, Nat.reduceSub, Nat.reduceMul, Nat.reduceLT, Nat.reduceLeDiff, Int.reduceEq, Int.reduceNe, Int.reduceLT, Int.reduceLE, Int.reduceBEq, Int.reduceBNe, Int.reduceToNat, hs.at, hs.p1.at, q1, q2, q3, q4, q5, q6, q7]
    exact ⟨by simp [q1, q2, q3, q4, q5, q6, q7], hs.drop.drop⟩
  simp (disch := omega) only [go_sem, reduceCtorEq, ↓reduceIte, Nat.reduceEqDiff, Nat.reduceAdd, Nat.reduceSub, Nat.reduceMul, Nat.reduceLT, Nat.reduceLeDiff, Int.reduceEq, Int.reduceNe, Int.reduceLT, Int.reduceLE, Int.reduceBEq, Int.reduceBNe, Int.reduceToNat, hs.at, hs.p1.at, q1, q2, q3, q4, q5, q6, q7]
  refine cnd_bool (fun q8 => ?_) (fun q8 => ?_)
  rotate_left
  · simp (disch := omega) only [go_sem, reduceCtorEq, ↓reduceIte, Nat.reduceEqDiff, Nat.reduceAdd, Nat.reduceSub, Nat.reduceMul, Nat.reduceLT, Nat.reduceLeDiff, Int.reduceEq, Int.reduceNe, Int.reduceLT, Int.reduceLE, Int.reduceBEq, Int.reduceBNe, Int.reduceToNat, hs.at, hs.p1.at, q1, q2, q3, q4, q5, q6, q7, q8]
    exact ⟨by simp [q1, q2, q3, q4, q5, q6, q7, q8], hs.drop.drop⟩
  simp (disch := omega) only [go_sem, reduceCtorEq, ↓reduceIte, Nat.reduceEqDiff, Nat.reduceAdd, Nat.reduceSub, Nat.reduceMul, Nat.reduceLT, Nat.reduceLeDiff, Int.reduceEq, Int.reduceNe, Int.reduceLT, Int.reduceLE, Int.reduceBEq, Int.reduceBNe, Int.reduceToNat, hs.at, hs.p1.at, q1, q2, q3, q4, q5, q6, q7, q8]
  refine cnd_bool (fun q9 => ?_) (fun q9 => ?_)
  rotate_left
  · simp (disch := omega) only [go_sem, reduceCtorEq, ↓reduceIte, Nat.reduceEqDiff, Nat.reduceAdd, Nat.reduceSub, Nat.reduceMul, Nat.reduceLT, Nat.reduceLeDiff, Int.reduceEq, Int.reduceNe, Int.reduceLT, Int.reduceLE, Int.reduceBEq, Int.reduceBNe, Int.reduceToNat, hs.at, hs.p1.at, q1, q2, q3, q4, q5, q6, q7, q8, q9]
    exact ⟨by simp [q1, q2, q3, q4, q5, q6, q7, q8, q9], hs.drop.drop⟩
  simp (disch := omega) only [go_sem, reduceCtorEq, ↓reduceIte, Nat.reduceEqDiff, Nat.reduceAdd, Nat.reduceSub, Nat.reduceMul, Nat.reduceLT, Nat.reduceLeDiff, Int.reduceEq, Int.reduceNe, Int.reduceLT, Int.reduceLE, Int.reduceBEq, Int.reduceBNe, Int.reduceToNat, hs.at, hs.p1.at, q1, q2, q3, q4, q5, q6, q7, q8, q9]
  refine cnd_bool (fun q10 => ?_) (fun q10 => ?_)
  rotate_left
  · simp (disch := omega) only [go_sem, reduceCtorEq, ↓reduceIte, Nat.reduceEqDiff, Nat.reduceAdd, Nat.reduceSub, Nat.reduceMul, Nat.reduceLT, Nat.reduceLeDiff, Int.reduceEq, Int.reduceNe, Int.reduceLT, Int.reduceLE, Int.reduceBEq, Int.reduceBNe, Int.reduceToNat, hs.at, hs.p1.at, q1, q2, q3, q4, q5, q6, q7, q8, q9, q10]
    exact ⟨by simp [q1, q2, q3, q4, q5, q6, q7, q8, q9, q10], hs.drop.drop⟩
  simp (disch := omega) only [go_sem, reduceCtorEq, ↓reduceIte, Nat.reduceEqDiff, Nat.reduceAdd, Nat.reduceSub, Nat.reduceMul, Nat.reduceLT, Nat.reduceLeDiff, Int.reduceEq, Int.reduceNe, Int.reduceLT, Int.reduceLE, Int.reduceBEq, Int.reduceBNe, Int.reduceToNat, hs.at, hs.p1.at, q1, q2, q3, q4, q5, q6, q7, q8, q9, q10]
  refine cnd_bool (fun q11 => ?_) (fun q11 => ?_)
  rotate_left
  · simp (disch := omega) only [go_sem, reduceCtorEq, ↓reduceIte, Nat.reduceEqDiff, Nat.reduceAdd, Nat.reduceSub, Nat.reduceMul, Nat.reduceLT, Nat.reduceLeDiff, Int.reduceEq, Int.reduceNe, Int.reduceLT, Int.reduceLE, Int.reduceBEq, Int.reduceBNe, Int.reduceToNat, hs.at, hs.p1.at, q1, q2, q3, q4, q5, q6, q7, q8, q9, q10, q11]
    exact ⟨by simp [q1, q2, q3, q4, q5, q6, q7, q8, q9, q10, q11], hs.drop.drop⟩
  simp (disch := omega) only [go_sem, reduceCtorEq, ↓reduceIte, Nat.reduceEqDiff, Nat.reduceAdd, Nat.reduceSub, Nat.reduceMul, Nat.reduceLT, Nat.reduceLeDiff, Int.reduceEq, Int.reduceNe, Int.reduceLT, Int.reduceLE, Int.reduceBEq, Int.reduceBNe, Int.reduceToNat, hs.at, hs.p1.at, q1, q2, q3, q4, q5, q6, q7, q8, q9, q10, q11]
  refine call_use (xMeta hs ha2 hb2) ?_
  rintro r h ⟨hr, hs⟩
  subst hr
  simp (disch := omega) only [go_sem, reduceCtorEq, ↓reduceIte, Nat.reduceEqDiff, Nat.reduceAdd, Nat.reduceSub, Nat.reduceMul, Nat.reduceLT, Nat.reduceLeDiff, Int.reduceEq, Int.reduceNe, Int.reduceLT, Int.reduceLE, Int.reduceBEq, Int.reduceBNe, Int.reduceToNat]
  refine cnd_bool (fun q12 => ?_) (fun q12 => ?_)
  rotate_left
  · simp (disch := omega) only [go_sem, reduceCtorEq, ↓reduceIte, Nat.reduceEqDiff, Nat.reduceAdd, Nat.reduceSub, Nat.reduceMul, Nat.reduceLT, Nat.reduceLeDiff, Int.reduceEq, Int.reduceNe, Int.reduceLT, Int.reduceLE, Int.reduceBEq, Int.reduceBNe, Int.reduceToNat, hs.at, hs.p1.at, q1, q2, q3, q4, q5, q6, q7, q8, q9, q10, q11, q12]
    exact ⟨by simp only [q1, q2, q3, q4, q5, q6, q7, q8, q9, q10, q11, q12, Bool.true_and, Bool.false_and], hs.drop.drop⟩
  simp (disch := omega) only [go_sem, reduceCtorEq, ↓reduceIte, Nat.reduceEqDiff, Nat.reduceAdd, Nat.reduceSub, Nat.reduceMul, Nat.reduceLT, Nat.reduceLeDiff, Int.reduceEq, Int.reduceNe, Int.reduceLT, Int.reduceLE, Int.reduceBEq, Int.reduceBNe, Int.reduceToNat, hs.at, hs.p1.at, q1, q2, q3, q4, q5, q6, q7, q8, q9, q10, q11, q12]
  exact hs.drop.drop
end
end Go.Proofs.Ytfbflmiipepmiaa
