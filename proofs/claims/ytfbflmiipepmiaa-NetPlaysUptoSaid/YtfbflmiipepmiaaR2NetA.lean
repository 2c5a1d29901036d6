/- net: what its small helpers do. -/
import Derived.Test.YtfbflmiipepmiaaR2PenC
import Derived.Test.YtfbflmiipepmiaaHzNet
set_option linter.unusedSimpArgs false
set_option linter.unusedVariables false
set_option maxRecDepth 10000
namespace Go.Proofs.Ytfbflmiipepmiaa
open Go.Hz

theorem Wr.wk {h : Hp} {F : List Asr} {p k k' : Nat} {bs : List UInt8} (hs : sat h (Wr p bs k :: F)) (hk : bs.length ≤ k') : sat h (Wr p bs k' :: F) :=
  Wr.iff.2 ⟨hk, (Wr.iff.1 hs).2⟩

section
variable {h : Hp} {F : List Asr}

theorem bad_ok : okFn Try.prog 60 = true := by kernel_rfl
theorem badE (hs : sat h F) (x : En) : Triple Try.prog 60 [.agg x.row] h (fun r h => r = .bool x.bad ∧ sat h F) := by
  refine t60 (Nat.le_of_ble_eq_true rfl) ?_
  simp (disch := omega) only [F60, En.row, bytesV_atom, go_sem, reduceCtorEq, ↓reduceIte, Nat.reduceEqDiff, Nat.reduceAdd, Nat.reduceSub, Nat.reduceMul, Nat.reduceLT, Nat.reduceLeDiff, Int.reduceEq, Int.reduceNe, Int.reduceLT, Int.reduceLE, Int.reduceBEq, Int.reduceBNe, Int.reduceToNat]
  refine new_sat hs fun n hn hs => ?_
  simp (disch := omega) only [go_sem, reduceCtorEq, ↓reduceIte, Nat.reduceEqDiff, Nat.reduceAdd, Nat.reduceSub, Nat.reduceMul, Nat.reduceLT, Nat.reduceLeDiff, Int.reduceEq, Int.reduceNe, Int.reduceLT, Int.reduceLE, Int.reduceBEq, Int.reduceBNe, Int.reduceToNat]
  refine cnd_dec (fun hc => ?_) (fun hc => ?_)
  · simp (disch := omega) only [go_sem, reduceCtorEq, ↓reduceIte, Nat.reduceEqDiff, Nat.reduceAdd, Nat.reduceSub, Nat.reduceMul, Nat.reduceLT, Nat.reduceLeDiff, Int.reduceEq, Int.reduceNe, Int.reduceLT, Int.reduceLE, Int.reduceBEq, Int.reduceBNe, Int.reduceToNat]
    exact ⟨by simp [En.bad, hc], hs.drop⟩
  · simp (disch := omega) only [go_sem, reduceCtorEq, ↓reduceIte, Nat.reduceEqDiff, Nat.reduceAdd, Nat.reduceSub, Nat.reduceMul, Nat.reduceLT, Nat.reduceLeDiff, Int.reduceEq, Int.reduceNe, Int.reduceLT, Int.reduceLE, Int.reduceBEq, Int.reduceBNe, Int.reduceToNat]
    exact ⟨by simp [En.bad, hc], hs.drop⟩

theorem indexBad (hs : sat h F) {l : List En} (hl : l.length ≤ 1000000000000) :
    Triple Try.prog 97 [ensV l, .fn 60 []] h (fun r h => (∃ k : Int, r = .int .i64 k ∧ (l.any En.bad = decide (0 ≤ k))) ∧ sat h F) := by
  refine t97 (Nat.le_of_ble_eq_true rfl) ?_
  simp (disch := omega) only [F97, go_sem, reduceCtorEq, ↓reduceIte, Nat.reduceEqDiff, Nat.reduceAdd, Nat.reduceSub, Nat.reduceMul, Nat.reduceLT, Nat.reduceLeDiff, Int.reduceEq, Int.reduceNe, Int.reduceLT, Int.reduceLE, Int.reduceBEq, Int.reduceBNe, Int.reduceToNat]
  refine run_up (N := l.length) (fun i e h => (∀ x ∈ l.take i, x.bad = false) ∧ (e 0 = ensV l ∧ e 1 = .fn 60 [] ∧ e 7 = .int .i64 l.length ∧ e 8 = .int .i64 i) ∧ sat h F) ⟨by simp, ⟨rfl, rfl, rfl, rfl⟩, hs⟩ ?_
  rintro i e h hi ⟨hall, he, hs⟩
  simp (disch := omega) only [go_sem, reduceCtorEq, ↓reduceIte, Nat.reduceEqDiff, Nat.reduceAdd, Nat.reduceSub, Nat.reduceMul, Nat.reduceLT, Nat.reduceLeDiff, Int.reduceEq, Int.reduceNe, Int.reduceLT, Int.reduceLE, Int.reduceBEq, Int.reduceBNe, Int.reduceToNat, he]
  refine cnd_dec (fun hc => ?_) (fun hc => ?_)
  · have hi' : i < l.length := by omega
    simp (disch := omega) only [go_sem, reduceCtorEq, ↓reduceIte, Nat.reduceEqDiff, Nat.reduceAdd, Nat.reduceSub, Nat.reduceMul, Nat.reduceLT, Nat.reduceLeDiff, Int.reduceEq, Int.reduceNe, Int.reduceLT, Int.reduceLE, Int.reduceBEq, Int.reduceBNe, Int.reduceToNat, he, ensV_at hi', En.row]
    refine callv_use bad_ok (badE hs l[i]) ?_
    rintro r h ⟨hr, hs⟩
    subst hr
    cases hb : l[i].bad
    · simp (disch := omega) only [go_sem, reduceCtorEq, ↓reduceIte, Nat.reduceEqDiff, Nat.reduceAdd, Nat.reduceSub, Nat.reduceMul, Nat.reduceLT, Nat.reduceLeDiff, Int.reduceEq, Int.reduceNe, Int.reduceLT, Int.reduceLE, Int.reduceBEq, Int.reduceBNe, Int.reduceToNat, he]
      refine ⟨by omega, fun x hx => ?_, rfl, hs⟩
      rw [List.take_succ_eq_append_getElem hi'] at hx
      rcases List.mem_append.1 hx with hx | hx
      · exact hall x hx
      · simp at hx; subst hx; exact hb
    · simp (disch := omega) only [go_sem, reduceCtorEq, ↓reduceIte, Nat.reduceEqDiff, Nat.reduceAdd, Nat.reduceSub, Nat.reduceMul, Nat.reduceLT, Nat.reduceLeDiff, Int.reduceEq, Int.reduceNe, Int.reduceLT, Int.reduceLE, Int.reduceBEq, Int.reduceBNe, Int.reduceToNat, he]
      refine ⟨⟨_, rfl, ?_⟩, hs⟩
      rw [List.any_eq_true.2 ⟨l[i], List.getElem_mem hi', hb⟩]
      symm
      exact decide_eq_true (by omega)
  · have : i = l.length := by omega
    subst this
    rw [List.take_length] at hall
    simp (disch := omega) only [go_sem, reduceCtorEq, ↓reduceIte, Nat.reduceEqDiff, Nat.reduceAdd, Nat.reduceSub, Nat.reduceMul, Nat.reduceLT, Nat.reduceLeDiff, Int.reduceEq, Int.reduceNe, Int.reduceLT, Int.reduceLE, Int.reduceBEq, Int.reduceBNe, Int.reduceToNat, he]
    refine ⟨⟨_, rfl, ?_⟩, hs⟩
    rw [List.any_eq_false.2 fun x hx => by rw [hall x hx]; simp]
    rfl
theorem containsBad (hs : sat h F) {l : List En} (hl : l.length ≤ 1000000000000) :
    Triple Try.prog 59 [ensV l, .fn 60 []] h (fun r h => r = .bool (l.any En.bad) ∧ sat h F) := by
  refine t59 (Nat.le_of_ble_eq_true rfl) ?_
  simp (disch := omega) only [F59, go_sem, reduceCtorEq, ↓reduceIte, Nat.reduceEqDiff, Nat.reduceAdd, Nat.reduceSub, Nat.reduceMul, Nat.reduceLT, Nat.reduceLeDiff, Int.reduceEq, Int.reduceNe, Int.reduceLT, Int.reduceLE, Int.reduceBEq, Int.reduceBNe, Int.reduceToNat]
  refine call_use (indexBad hs hl) ?_
  rintro r h ⟨⟨k, hr, hk⟩, hs⟩
  subst hr
  simp (disch := omega) only [go_sem, reduceCtorEq, ↓reduceIte, Nat.reduceEqDiff, Nat.reduceAdd, Nat.reduceSub, Nat.reduceMul, Nat.reduceLT, Nat.reduceLeDiff, Int.reduceEq, Int.reduceNe, Int.reduceLT, Int.reduceLE, Int.reduceBEq, Int.reduceBNe, Int.reduceToNat, hk]
  exact hs

theorem same_ok : okFn Try.prog 68 = true := by kernel_rfl
theorem bytesEq (hs : sat h F) (a b : List UInt8) : Triple Try.prog 70 [bytesV a, bytesV b] h (fun r h => r = .bool (a == b) ∧ sat h F) := by
  refine t70 (Nat.le_of_ble_eq_true rfl) ?_
  simp (disch := omega) only [F70, go_sem, reduceCtorEq, ↓reduceIte, Nat.reduceEqDiff, Nat.reduceAdd, Nat.reduceSub, Nat.reduceMul, Nat.reduceLT, Nat.reduceLeDiff, Int.reduceEq, Int.reduceNe, Int.reduceLT, Int.reduceLE, Int.reduceBEq, Int.reduceBNe, Int.reduceToNat]
  exact hs
theorem en_eq (x y : En) : decide (x = y) = (x.idx == y.idx && (x.term == y.term && (x.kind == y.kind && x.data == y.data))) := by
  obtain ⟨a, b, c, d⟩ := x
  obtain ⟨a', b', c', d'⟩ := y
  rw [Bool.eq_iff_iff]
  simp
theorem sameEnt (hs : sat h F) (x y : En) : Triple Try.prog 68 [.agg x.row, .agg y.row] h (fun r h => r = .bool (decide (x = y)) ∧ sat h F) := by
  rw [en_eq]
  refine t68 (Nat.le_of_ble_eq_true rfl) ?_
  simp (disch := omega) only [F68, En.row, go_sem, reduceCtorEq, ↓reduceIte, Nat.reduceEqDiff, Nat.reduceAdd, Nat.reduceSub, Nat.reduceMul, Nat.reduceLT, Nat.reduceLeDiff, Int.reduceEq, Int.reduceNe, Int.reduceLT, Int.reduceLE, Int.reduceBEq, Int.reduceBNe, Int.reduceToNat]
  refine new_opq hs fun n h hs => ?_
  simp (disch := omega) only [go_sem, reduceCtorEq, ↓reduceIte, Nat.reduceEqDiff, Nat.reduceAdd, Nat.reduceSub, Nat.reduceMul, Nat.reduceLT, Nat.reduceLeDiff, Int.reduceEq, Int.reduceNe, Int.reduceLT, Int.reduceLE, Int.reduceBEq, Int.reduceBNe, Int.reduceToNat, hs.at]
  refine new_opq hs fun m h hs => ?_
  simp (disch := omega) only [go_sem, reduceCtorEq, ↓reduceIte, Nat.reduceEqDiff, Nat.reduceAdd, Nat.reduceSub, Nat.reduceMul, Nat.reduceLT, Nat.reduceLeDiff, Int.reduceEq, Int.reduceNe, Int.reduceLT, Int.reduceLE, Int.reduceBEq, Int.reduceBNe, Int.reduceToNat, hs.at]
  simp (disch := omega) only [go_sem, reduceCtorEq, ↓reduceIte, Nat.reduceEqDiff, Nat.reduceAdd, Nat.reduceSub, Nat.reduceMul, Nat.reduceLT, Nat.reduceLeDiff, Int.reduceEq, Int.reduceNe, Int.reduceLT, Int.reduceLE, Int.reduceBEq, Int.reduceBNe, Int.reduceToNat, hs.at, hs.p1.at]
  refine cnd_bool (fun q1 => ?_) (fun q1 => ?_)
  rotate_left
  · simp (disch := omega) only [go_sem, reduceCtorEq, ↓reduceIte, Nat.reduceEqDiff, Nat.reduceAdd, Nat.reduceSub, Nat.reduceMul, Nat.reduceLT, Nat.reduceLeDiff, Int.reduceEq, Int.reduceNe, Int.reduceLT, Int.reduceLE, Int.reduceBEq, Int.reduceBNe, Int.reduceToNat, hs.at, hs.p1.at, q1]
    exact ⟨by simp_all, hs.drop.drop⟩
  simp (disch := omega) only [go_sem, reduceCtorEq, ↓reduceIte, Nat.reduceEqDiff, Nat.reduceAdd, Nat.reduceSub, Nat.reduceMul, Nat.reduceLT, Nat.reduceLeDiff, Int.reduceEq, Int.reduceNe, Int.reduceLT, Int.reduceLE, Int.reduceBEq, Int.reduceBNe, Int.reduceToNat, hs.at, hs.p1.at, q1]
  refine cnd_bool (fun q2 => ?_) (fun q2 => ?_)
  rotate_left
  · simp (disch := omega) only [go_sem, reduceCtorEq, ↓reduceIte, Nat.reduceEqDiff, Nat.reduceAdd, Nat.reduceSub, Nat.reduceMul, Nat.reduceLT, Nat.reduceLeDiff, Int.reduceEq, Int.reduceNe, Int.reduceLT, Int.reduceLE, Int.reduceBEq, Int.reduceBNe, Int.reduceToNat, hs.at, hs.p1.at, q1, q2]
    exact ⟨by simp_all, hs.drop.drop⟩
  simp (disch := omega) only [go_sem, reduceCtorEq, ↓reduceIte, Nat.reduceEqDiff, Nat.reduceAdd, Nat.reduceSub, Nat.reduceMul, Nat.reduceLT, Nat.reduceLeDiff, Int.reduceEq, Int.reduceNe, Int.reduceLT, Int.reduceLE, Int.reduceBEq, Int.reduceBNe, Int.reduceToNat, hs.at, hs.p1.at, q1, q2]
  refine cnd_bool (fun q3 => ?_) (fun q3 => ?_)
  rotate_left
  · simp (disch := omega) only [go_sem, reduceCtorEq, ↓reduceIte, Nat.reduceEqDiff, Nat.reduceAdd, Nat.reduceSub, Nat.reduceMul, Nat.reduceLT, Nat.reduceLeDiff, Int.reduceEq, Int.reduceNe, Int.reduceLT, Int.reduceLE, Int.reduceBEq, Int.reduceBNe, Int.reduceToNat, hs.at, hs.p1.at, q1, q2, q3]
    exact ⟨by simp_all, hs.drop.drop⟩
  simp (disch := omega) only [go_sem, reduceCtorEq, ↓reduceIte, Nat.reduceEqDiff, Nat.reduceAdd, Nat.reduceSub, Nat.reduceMul, Nat.reduceLT, Nat.reduceLeDiff, Int.reduceEq, Int.reduceNe, Int.reduceLT, Int.reduceLE, Int.reduceBEq, Int.reduceBNe, Int.reduceToNat, hs.at, hs.p1.at, q1, q2, q3]
  refine call_use (bytesEq hs x.data y.data) ?_
  rintro r h ⟨hr, hs⟩
  subst hr
  simp (disch := omega) only [go_sem, reduceCtorEq, ↓reduceIte, Nat.reduceEqDiff, Nat.reduceAdd, Nat.reduceSub, Nat.reduceMul, Nat.reduceLT, Nat.reduceLeDiff, Int.reduceEq, Int.reduceNe, Int.reduceLT, Int.reduceLE, Int.reduceBEq, Int.reduceBNe, Int.reduceToNat, q1, q2, q3]
  exact hs.drop.drop

theorem ens_eq (a b : List En) (hl : a.length = b.length) (hh : ∀ i (h1 : i < a.length) (h2 : i < b.length), a[i] = b[i]) : a = b := List.ext_getElem hl fun i h1 h2 => hh i h1 h2

theorem eqFunc (hs : sat h F) {a b : List En} (ha : a.length ≤ 1000000000000) (hb : b.length ≤ 1000000000000) :
    Triple Try.prog 67 [ensV a, ensV b, .fn 68 []] h (fun r h => r = .bool (decide (a = b)) ∧ sat h F) := by
  refine t67 (Nat.le_of_ble_eq_true rfl) ?_
  simp (disch := omega) only [F67, go_sem, reduceCtorEq, ↓reduceIte, Nat.reduceEqDiff, Nat.reduceAdd, Nat.reduceSub, Nat.reduceMul, Nat.reduceLT, Nat.reduceLeDiff, Int.reduceEq, Int.reduceNe, Int.reduceLT, Int.reduceLE, Int.reduceBEq, Int.reduceBNe, Int.reduceToNat]
  refine cnd_bool (fun q => ?_) (fun q => ?_)
  · simp (disch := omega) only [go_sem, reduceCtorEq, ↓reduceIte, Nat.reduceEqDiff, Nat.reduceAdd, Nat.reduceSub, Nat.reduceMul, Nat.reduceLT, Nat.reduceLeDiff, Int.reduceEq, Int.reduceNe, Int.reduceLT, Int.reduceLE, Int.reduceBEq, Int.reduceBNe, Int.reduceToNat]
    refine ⟨?_, hs⟩
    congr 1
    symm
    apply decide_eq_false
    intro hh
    rw [hh] at q
    simp at q
  · have hl : a.length = b.length := by
      have : (a.length : Int) = b.length := by simpa using q
      omega
    simp (disch := omega) only [go_sem, reduceCtorEq, ↓reduceIte, Nat.reduceEqDiff, Nat.reduceAdd, Nat.reduceSub, Nat.reduceMul, Nat.reduceLT, Nat.reduceLeDiff, Int.reduceEq, Int.reduceNe, Int.reduceLT, Int.reduceLE, Int.reduceBEq, Int.reduceBNe, Int.reduceToNat]
    refine run_up (N := a.length) (fun i e h => (∀ j (h1 : j < a.length) (h2 : j < b.length), j < i → a[j] = b[j]) ∧ (e 1 = ensV b ∧ e 2 = .fn 68 [] ∧ e 15 = ensV a ∧ e 16 = .int .i64 a.length ∧ e 17 = .int .i64 i) ∧ sat h F)
      ⟨by omega, ⟨rfl, rfl, rfl, rfl, rfl⟩, hs⟩ ?_
    rintro i e h hi ⟨hall, he, hs⟩
    simp (disch := omega) only [go_sem, reduceCtorEq, ↓reduceIte, Nat.reduceEqDiff, Nat.reduceAdd, Nat.reduceSub, Nat.reduceMul, Nat.reduceLT, Nat.reduceLeDiff, Int.reduceEq, Int.reduceNe, Int.reduceLT, Int.reduceLE, Int.reduceBEq, Int.reduceBNe, Int.reduceToNat, he]
    refine cnd_dec (fun hc => ?_) (fun hc => ?_)
    · have h1 : i < a.length := by omega
      have h2 : i < b.length := by omega
      simp (disch := omega) only [go_sem, reduceCtorEq, ↓reduceIte, Nat.reduceEqDiff, Nat.reduceAdd, Nat.reduceSub, Nat.reduceMul, Nat.reduceLT, Nat.reduceLeDiff, Int.reduceEq, Int.reduceNe, Int.reduceLT, Int.reduceLE, Int.reduceBEq, Int.reduceBNe, Int.reduceToNat, he, ensV_at h1, En.row]
      refine new_opq hs fun n h hs => ?_
      simp (disch := omega) only [go_sem, reduceCtorEq, ↓reduceIte, Nat.reduceEqDiff, Nat.reduceAdd, Nat.reduceSub, Nat.reduceMul, Nat.reduceLT, Nat.reduceLeDiff, Int.reduceEq, Int.reduceNe, Int.reduceLT, Int.reduceLE, Int.reduceBEq, Int.reduceBNe, Int.reduceToNat, hs.at, he, hs.at, ensV_at h2, En.row]
      refine new_opq hs.set fun m h hs => ?_
      simp (disch := omega) only [go_sem, reduceCtorEq, ↓reduceIte, Nat.reduceEqDiff, Nat.reduceAdd, Nat.reduceSub, Nat.reduceMul, Nat.reduceLT, Nat.reduceLeDiff, Int.reduceEq, Int.reduceNe, Int.reduceLT, Int.reduceLE, Int.reduceBEq, Int.reduceBNe, Int.reduceToNat, he, hs.at, hs.set.p1.at]
      refine callv_use same_ok (sameEnt (hs.set (o' := .row 4 [b[i].row] 1)) a[i] b[i]) ?_
      rintro r h ⟨hr, hs⟩
      subst hr
      have hs := hs.drop.drop
      by_cases hab : a[i] = b[i]
      · simp (disch := omega) only [go_sem, reduceCtorEq, ↓reduceIte, Nat.reduceEqDiff, Nat.reduceAdd, Nat.reduceSub, Nat.reduceMul, Nat.reduceLT, Nat.reduceLeDiff, Int.reduceEq, Int.reduceNe, Int.reduceLT, Int.reduceLE, Int.reduceBEq, Int.reduceBNe, Int.reduceToNat, he, hab]
        refine ⟨by omega, fun j h1 h2 hj => ?_, rfl, hs⟩
        by_cases hji : j = i
        · subst hji; exact hab
        · exact hall j h1 h2 (by omega)
      · simp (disch := omega) only [go_sem, reduceCtorEq, ↓reduceIte, Nat.reduceEqDiff, Nat.reduceAdd, Nat.reduceSub, Nat.reduceMul, Nat.reduceLT, Nat.reduceLeDiff, Int.reduceEq, Int.reduceNe, Int.reduceLT, Int.reduceLE, Int.reduceBEq, Int.reduceBNe, Int.reduceToNat, he, hab]
        refine ⟨?_, hs⟩
        congr 1
        symm
        apply decide_eq_false
        intro hh
        subst hh
        exact hab rfl
    · have : i = a.length := by omega
      subst this
      simp (disch := omega) only [go_sem, reduceCtorEq, ↓reduceIte, Nat.reduceEqDiff, Nat.reduceAdd, Nat.reduceSub, Nat.reduceMul, Nat.reduceLT, Nat.reduceLeDiff, Int.reduceEq, Int.reduceNe, Int.reduceLT, Int.reduceLE, Int.reduceBEq, Int.reduceBNe, Int.reduceToNat, he]
      refine ⟨?_, hs⟩
      congr 1
      symm
      exact decide_eq_true (List.ext_getElem hl fun j h1 h2 => hall j h1 h2 h1)
end
end Go.Proofs.Ytfbflmiipepmiaa
