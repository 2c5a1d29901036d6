/- sort.Search; what slices does with pointers: Reverse, rotateRight, Insert, Clone. -/
import Derived.Test.YtkclojjeepomfaaR5MvccErrorsLawPD
set_option linter.unusedSimpArgs false
set_option linter.unusedVariables false
set_option maxRecDepth 10000
namespace Go.Proofs.Ytkclojjeepomfaa
open Go.Hz

section
variable {h : Hp} {F : List Asr}

theorem half {i j : Nat} (h1 : i + j ≤ 4611686018427387904) : IntKind.i64.wrap ((IntKind.u64.wrap ((i : Int) + (j : Int))).fdiv (2 ^ min 1 64)) = (((i + j) / 2 : Nat) : Int) := by
  have e1 : IntKind.u64.wrap ((i : Int) + (j : Int)) = ((i + j : Nat) : Int) := by
    simp only [IntKind.wrap, IntKind.signed, IntKind.bits]
    simp
    omega
  rw [e1]
  have e2 : (((i + j : Nat) : Int)).fdiv (2 ^ min 1 64) = (((i + j) / 2 : Nat) : Int) := by
    simp [Int.fdiv_eq_ediv]
  rw [e2]
  exact wrap_i64_go (by omega) (by omega)

theorem search {N f : Nat} {caps : List AV} {pr : Nat → Bool} (hs : sat h F) (hN : N ≤ 1000000000000) (hf : okFn Try.prog f = true) (hm : ∀ i j, i ≤ j → j < N → pr i = true → pr j = true)
    (hc : ∀ i h, i < N → sat h F → Triple Try.prog f (.int .i64 i :: caps) h (fun r h => r = .bool (pr i) ∧ sat h F)) :
    Triple Try.prog 39 [.int .i64 N, .fn f caps] h (fun r h => ∃ k : Nat, r = .int .i64 k ∧ k ≤ N ∧ (∀ i, i < k → pr i = false) ∧ (∀ i, k ≤ i → i < N → pr i = true) ∧ sat h F) := by
  refine t39 (Nat.le_of_ble_eq_true rfl) ?_
  simp (disch := omega) only [F39, go_sem, reduceCtorEq, ↓reduceIte, Nat.reduceEqDiff, Nat.reduceAdd, Nat.reduceSub, Nat.reduceMul, Nat.reduceLT, Nat.reduceLeDiff, Int.reduceEq, Int.reduceNe, Int.reduceLT, Int.reduceLE, Int.reduceBEq, Int.reduceBNe, Int.reduceToNat]
  refine run_loopN (fun n e h => ∃ i j : Nat, n = j - i ∧ i ≤ j ∧ j ≤ N ∧ (∀ a, a < i → pr a = false) ∧ (∀ a, j ≤ a → a < N → pr a = true) ∧ sat h F ∧ (e 1 = .fn f caps ∧ e 5 = .int .i64 i ∧ e 6 = .int .i64 j)) N
    ⟨0, N, rfl, Nat.zero_le _, Nat.le_refl _, fun a ha => by omega, fun a h1 h2 => by omega, hs, rfl, rfl, rfl⟩ ?_
  rintro n e h ⟨i, j, rfl, hij, hjN, h1, h2, hs, he⟩
  simp (disch := omega) only [go_sem, reduceCtorEq, ↓reduceIte, Nat.reduceEqDiff, Nat.reduceAdd, Nat.reduceSub, Nat.reduceMul, Nat.reduceLT, Nat.reduceLeDiff, Int.reduceEq, Int.reduceNe, Int.reduceLT, Int.reduceLE, Int.reduceBEq, Int.reduceBNe, Int.reduceToNat, he]
  refine cnd_dec (fun hlt => ?_) (fun hge => ?_)
  · have hlt : i < j := by omega
    simp (disch := omega) only [go_sem, reduceCtorEq, ↓reduceIte, Nat.reduceEqDiff, Nat.reduceAdd, Nat.reduceSub, Nat.reduceMul, Nat.reduceLT, Nat.reduceLeDiff, Int.reduceEq, Int.reduceNe, Int.reduceLT, Int.reduceLE, Int.reduceBEq, Int.reduceBNe, Int.reduceToNat, he]
    rw [half (by omega)]
    refine callv_use hf (hc ((i + j) / 2) _ (by omega) hs) ?_
    rintro r h ⟨hr, hs⟩
    subst hr
    simp (disch := omega) only [go_sem, reduceCtorEq, ↓reduceIte, Nat.reduceEqDiff, Nat.reduceAdd, Nat.reduceSub, Nat.reduceMul, Nat.reduceLT, Nat.reduceLeDiff, Int.reduceEq, Int.reduceNe, Int.reduceLT, Int.reduceLE, Int.reduceBEq, Int.reduceBNe, Int.reduceToNat, he]
    cases hp : pr ((i + j) / 2)
    · simp (disch := omega) only [go_sem, reduceCtorEq, ↓reduceIte, Nat.reduceEqDiff, Nat.reduceAdd, Nat.reduceSub, Nat.reduceMul, Nat.reduceLT, Nat.reduceLeDiff, Int.reduceEq, Int.reduceNe, Int.reduceLT, Int.reduceLE, Int.reduceBEq, Int.reduceBNe, Int.reduceToNat, he]
      refine ⟨j - ((i + j) / 2 + 1), by omega, (i + j) / 2 + 1, j, rfl, by omega, hjN, fun a ha => ?_, h2, hs, rfl, rfl⟩
      cases hpa : pr a with
      | false => rfl
      | true => rw [hm a ((i + j) / 2) (by omega) (by omega) hpa] at hp; cases hp
    · simp (disch := omega) only [go_sem, reduceCtorEq, ↓reduceIte, Nat.reduceEqDiff, Nat.reduceAdd, Nat.reduceSub, Nat.reduceMul, Nat.reduceLT, Nat.reduceLeDiff, Int.reduceEq, Int.reduceNe, Int.reduceLT, Int.reduceLE, Int.reduceBEq, Int.reduceBNe, Int.reduceToNat, he]
      exact ⟨(i + j) / 2 - i, by omega, i, (i + j) / 2, rfl, by omega, by omega, h1, fun a ha hb => hm _ a ha hb hp, hs, rfl, rfl⟩
  · have : j = i := by omega
    subst this
    simp (disch := omega) only [go_sem, reduceCtorEq, ↓reduceIte, Nat.reduceEqDiff, Nat.reduceAdd, Nat.reduceSub, Nat.reduceMul, Nat.reduceLT, Nat.reduceLeDiff, Int.reduceEq, Int.reduceNe, Int.reduceLT, Int.reduceLE, Int.reduceBEq, Int.reduceBNe, Int.reduceToNat, he]
    exact ⟨j, rfl, hjN, h1, h2, hs⟩

theorem pt_get {ps : List Nat} {k p : Nat} (h : ps[k]? = some p) : (ps.map pt)[k]? = some [.ptr p 2 0 0] := by simp [h, pt]
theorem pt_set {ps : List Nat} {k p : Nat} : (ps.map pt).set k [.ptr p 2 0 0] = (ps.set k p).map pt := by simp [List.map_set, pt]
theorem atoms_pt (l : List Nat) : AtomsL (l.map pt) := by
  intro e he v hv
  obtain ⟨k, _, rfl⟩ := List.mem_map.1 he
  simp only [pt, List.mem_cons, List.not_mem_nil, or_false] at hv
  subst hv; rfl

theorem reverse_item {b off len cap rc : Nat} {ps : List Nat} (hs : sat h (pto b (.row 1 (ps.map pt) rc) :: F)) (h1 : off + len ≤ ps.length) (h2 : ps.length ≤ 1000000) :
    Triple Try.prog 125 [.arr b 1 off len cap] h (fun r h => ∃ qs : List Nat, qs.length = ps.length ∧ (∀ k : Nat, qs[k]? = if off ≤ k ∧ k < off + len then ps[2 * off + len - 1 - k]? else ps[k]?) ∧ sat h (pto b (.row 1 (qs.map pt) rc) :: F)) := by
  refine t125 (Nat.le_of_ble_eq_true rfl) ?_
  simp (disch := omega) only [F125, go_sem, reduceCtorEq, ↓reduceIte, Nat.reduceEqDiff, Nat.reduceAdd, Nat.reduceSub, Nat.reduceMul, Nat.reduceLT, Nat.reduceLeDiff, Int.reduceEq, Int.reduceNe, Int.reduceLT, Int.reduceLE, Int.reduceBEq, Int.reduceBNe, Int.reduceToNat]
  refine run_up (N := len) (fun i e h => ∃ qs : List Nat, qs.length = ps.length ∧ (2 * i ≤ len + 1) ∧ (∀ k : Nat, qs[k]? = if off ≤ k ∧ k < off + i ∨ off + len ≤ k + i ∧ k < off + len then ps[2 * off + len - 1 - k]? else ps[k]?) ∧ sat h (pto b (.row 1 (qs.map pt) rc) :: F) ∧
    (e 0 = .arr b 1 off len cap ∧ e 2 = .int .i64 i ∧ e 3 = .int .i64 ((len : Int) - 1 - i))) ⟨ps, rfl, by omega, fun k => by rw [if_neg (by omega)], hs, rfl, rfl, by show AV.int .i64 ((len : Int) - 1) = _; simp⟩ ?_
  rintro i e h hi ⟨qs, hl, hi2, hq, hs, he⟩
  simp (disch := omega) only [go_sem, reduceCtorEq, ↓reduceIte, Nat.reduceEqDiff, Nat.reduceAdd, Nat.reduceSub, Nat.reduceMul, Nat.reduceLT, Nat.reduceLeDiff, Int.reduceEq, Int.reduceNe, Int.reduceLT, Int.reduceLE, Int.reduceBEq, Int.reduceBNe, Int.reduceToNat, he]
  refine cnd_dec (fun hlt => ?_) (fun hge => ?_)
  · have hj : ((len : Int) - 1 - i).toNat = len - 1 - i := by omega
    obtain ⟨x, hx⟩ : ∃ x, qs[off + (len - 1 - i)]? = some x := ⟨_, List.getElem?_eq_getElem (by omega)⟩
    obtain ⟨y, hy⟩ : ∃ y, qs[off + i]? = some y := ⟨_, List.getElem?_eq_getElem (by omega)⟩
    have hx' := pt_get hx
    have hy' := pt_get hy
    have hz : ((qs.map pt).set (off + i) [.ptr x 2 0 0])[off + (len - 1 - i)]? = some [.ptr x 2 0 0] := by
      rw [List.getElem?_set, if_neg (by omega)]; exact hx'
    have hy2 : (List.set (qs.map pt) (off + i) [.ptr x 2 0 0])[off + (len - 1 - i)]? = some [.ptr x 2 0 0] := hz
    simp (disch := omega) only [go_sem, reduceCtorEq, ↓reduceIte, Nat.reduceEqDiff, Nat.reduceAdd, Nat.reduceSub, Nat.reduceMul, Nat.reduceLT, Nat.reduceLeDiff, Int.reduceEq, Int.reduceNe, Int.reduceLT, Int.reduceLE, Int.reduceBEq, Int.reduceBNe, Int.reduceToNat, he, hj, hs.at, hx', hy', hy2, hz]
    refine ⟨by omega, (qs.set (off + i) x).set (off + (len - 1 - i)) y, by simpa using hl, by omega, fun k => ?_, ?_, rfl, ?_⟩
    · rw [List.getElem?_set, List.getElem?_set]
      have hx2 := hq (off + (len - 1 - i))
      have hy3 := hq (off + i)
      rw [if_neg (by omega)] at hx2 hy3
      simp only [List.length_set]
      by_cases e1 : off + (len - 1 - i) = k
      · subst e1
        rw [if_pos rfl, if_pos (by omega), if_pos (by omega), ← hy, hy3]
        congr 1; omega
      · rw [if_neg e1]
        by_cases e2 : off + i = k
        · subst e2
          rw [if_pos rfl, if_pos (by omega), if_pos (by omega), ← hx, hx2]
          congr 1; omega
        · rw [if_neg e2, hq k]
          by_cases e3 : off ≤ k ∧ k < off + i ∨ off + len ≤ k + i ∧ k < off + len
          · rw [if_pos e3, if_pos (by omega)]
          · rw [if_neg e3, if_neg (by omega)]
    · rw [← pt_set, ← pt_set]
      exact hs.set
    · congr 1; omega
  · simp (disch := omega) only [go_sem, reduceCtorEq, ↓reduceIte, Nat.reduceEqDiff, Nat.reduceAdd, Nat.reduceSub, Nat.reduceMul, Nat.reduceLT, Nat.reduceLeDiff, Int.reduceEq, Int.reduceNe, Int.reduceLT, Int.reduceLE, Int.reduceBEq, Int.reduceBNe, Int.reduceToNat, he]
    refine ⟨qs, hl, fun k => ?_, hs⟩
    rw [hq k]
    by_cases e3 : off ≤ k ∧ k < off + i ∨ off + len ≤ k + i ∧ k < off + len
    · rw [if_pos e3, if_pos (by omega)]
    · rw [if_neg e3]
      by_cases e4 : off ≤ k ∧ k < off + len
      · rw [if_pos e4]; congr 1; omega
      · rw [if_neg e4]

theorem rotate_item {b i n cap rc x : Nat} {ps : List Nat} (hs : sat h (pto b (.row 1 ((ps ++ [x]).map pt) rc) :: F)) (hn : n = ps.length) (hi : i ≤ n) (h2 : n ≤ 100000) (hc : n + 1 - i ≤ cap) :
    Triple Try.prog 117 [.arr b 1 i (n + 1 - i) cap, .int .i64 1] h (fun r h => sat h (pto b (.row 1 ((ps.take i ++ x :: ps.drop i).map pt) rc) :: F)) := by
  subst hn
  refine t117 (Nat.le_of_ble_eq_true rfl) ?_
  simp (disch := omega) only [F117, go_sem, reduceCtorEq, ↓reduceIte, Nat.reduceEqDiff, Nat.reduceAdd, Nat.reduceSub, Nat.reduceMul, Nat.reduceLT, Nat.reduceLeDiff, Int.reduceEq, Int.reduceNe, Int.reduceLT, Int.reduceLE, Int.reduceBEq, Int.reduceBNe, Int.reduceToNat]
  have e1 : ((ps.length + 1 - i : Nat) : Int) - 1 = ((ps.length - i : Nat) : Int) := by omega
  simp (disch := omega) only [go_sem, reduceCtorEq, ↓reduceIte, Nat.reduceEqDiff, Nat.reduceAdd, Nat.reduceSub, Nat.reduceMul, Nat.reduceLT, Nat.reduceLeDiff, Int.reduceEq, Int.reduceNe, Int.reduceLT, Int.reduceLE, Int.reduceBEq, Int.reduceBNe, Int.reduceToNat, e1]
  have key : Triple Try.prog 123 [.arr b 1 i (ps.length + 1 - i) cap, .int .i64 ((ps.length - i : Nat) : Int)] h (fun r h => sat h (pto b (.row 1 ((ps.take i ++ x :: ps.drop i).map pt) rc) :: F)) := by
    refine t123 (Nat.le_of_ble_eq_true rfl) ?_
    simp (disch := omega) only [F123, go_sem, reduceCtorEq, ↓reduceIte, Nat.reduceEqDiff, Nat.reduceAdd, Nat.reduceSub, Nat.reduceMul, Nat.reduceLT, Nat.reduceLeDiff, Int.reduceEq, Int.reduceNe, Int.reduceLT, Int.reduceLE, Int.reduceBEq, Int.reduceBNe, Int.reduceToNat]
    simp (disch := omega) only [go_sem, reduceCtorEq, ↓reduceIte, Nat.reduceEqDiff, Nat.reduceAdd, Nat.reduceSub, Nat.reduceMul, Nat.reduceLT, Nat.reduceLeDiff, Int.reduceEq, Int.reduceNe, Int.reduceLT, Int.reduceLE, Int.reduceBEq, Int.reduceBNe, Int.reduceToNat, slcL_hi]
    refine call_use (reverse_item hs (by simp; omega) (by simp; omega)) ?_
    rintro r h ⟨q1, l1, g1, hs⟩
    simp (disch := omega) only [go_sem, reduceCtorEq, ↓reduceIte, Nat.reduceEqDiff, Nat.reduceAdd, Nat.reduceSub, Nat.reduceMul, Nat.reduceLT, Nat.reduceLeDiff, Int.reduceEq, Int.reduceNe, Int.reduceLT, Int.reduceLE, Int.reduceBEq, Int.reduceBNe, Int.reduceToNat, slcL_lo]
    refine call_use (reverse_item hs (by simp at l1 ⊢; omega) (by simp at l1; omega)) ?_
    rintro r h ⟨q2, l2, g2, hs⟩
    simp (disch := omega) only [go_sem, reduceCtorEq, ↓reduceIte, Nat.reduceEqDiff, Nat.reduceAdd, Nat.reduceSub, Nat.reduceMul, Nat.reduceLT, Nat.reduceLeDiff, Int.reduceEq, Int.reduceNe, Int.reduceLT, Int.reduceLE, Int.reduceBEq, Int.reduceBNe, Int.reduceToNat]
    refine call_use (reverse_item hs (by simp at l1 l2 ⊢; omega) (by simp at l1 l2; omega)) ?_
    rintro r h ⟨q3, l3, g3, hs⟩
    simp (disch := omega) only [go_sem, reduceCtorEq, ↓reduceIte, Nat.reduceEqDiff, Nat.reduceAdd, Nat.reduceSub, Nat.reduceMul, Nat.reduceLT, Nat.reduceLeDiff, Int.reduceEq, Int.reduceNe, Int.reduceLT, Int.reduceLE, Int.reduceBEq, Int.reduceBNe, Int.reduceToNat]
    have : q3 = ps.take i ++ x :: ps.drop i := by
      apply List.ext_getElem?
      intro k
      simp only [List.length_append, List.length_cons, List.length_nil] at l1 l2 l3
      have e0 : ∀ k, k < ps.length → (ps ++ [x])[k]? = ps[k]? := fun k hk => List.getElem?_append_left hk
      rw [g3 k]
      by_cases c1 : k < i
      · rw [if_neg (by omega), g2 k, if_neg (by omega), g1 k, if_neg (by omega), e0 k (by omega), List.getElem?_append_left (by rw [List.length_take]; omega), List.getElem?_take, if_pos c1]
      · have eR : (ps.take i ++ x :: ps.drop i)[k]? = (x :: ps.drop i)[k - i]? := by
          rw [List.getElem?_append_right (by rw [List.length_take]; omega)]
          congr 1
          rw [List.length_take]; omega
        rw [eR]
        by_cases c2 : k = i
        · subst c2
          rw [if_pos (by omega), Nat.sub_self, g2, if_pos (by omega), g1, if_neg (by omega)]
          have : 2 * (k + (ps.length - k)) + (ps.length + 1 - k - (ps.length - k)) - 1 - (2 * k + (ps.length + 1 - k) - 1 - k) = ps.length := by omega
          rw [this]
          simp
        · obtain ⟨k', hk'⟩ : ∃ k', k - i = k' + 1 := ⟨k - i - 1, by omega⟩
          rw [hk', List.getElem?_cons_succ, List.getElem?_drop]
          by_cases c3 : k ≤ ps.length
          · rw [if_pos (by omega), g2, if_neg (by omega), g1, if_pos (by omega), e0 _ (by omega)]
            congr 1; omega
          · rw [if_neg (by omega), g2, if_neg (by omega), g1, if_neg (by omega)]
            rw [List.getElem?_eq_none (by simp; omega), List.getElem?_eq_none (by omega)]
    subst this
    exact hs
  refine call_use (key) ?_
  intro r h hs
  simp (disch := omega) only [go_sem, reduceCtorEq, ↓reduceIte, Nat.reduceEqDiff, Nat.reduceAdd, Nat.reduceSub, Nat.reduceMul, Nat.reduceLT, Nat.reduceLeDiff, Int.reduceEq, Int.reduceNe, Int.reduceLT, Int.reduceLE, Int.reduceBEq, Int.reduceBNe, Int.reduceToNat]
  exact hs
theorem reverse_node {b off len cap rc : Nat} {ps : List Nat} (hs : sat h (pto b (.row 1 (ps.map pt) rc) :: F)) (h1 : off + len ≤ ps.length) (h2 : ps.length ≤ 1000000) :
    Triple Try.prog 126 [.arr b 1 off len cap] h (fun r h => ∃ qs : List Nat, qs.length = ps.length ∧ (∀ k : Nat, qs[k]? = if off ≤ k ∧ k < off + len then ps[2 * off + len - 1 - k]? else ps[k]?) ∧ sat h (pto b (.row 1 (qs.map pt) rc) :: F)) := by
  refine t126 (Nat.le_of_ble_eq_true rfl) ?_
  simp (disch := omega) only [F126, go_sem, reduceCtorEq, ↓reduceIte, Nat.reduceEqDiff, Nat.reduceAdd, Nat.reduceSub, Nat.reduceMul, Nat.reduceLT, Nat.reduceLeDiff, Int.reduceEq, Int.reduceNe, Int.reduceLT, Int.reduceLE, Int.reduceBEq, Int.reduceBNe, Int.reduceToNat]
  refine run_up (N := len) (fun i e h => ∃ qs : List Nat, qs.length = ps.length ∧ (2 * i ≤ len + 1) ∧ (∀ k : Nat, qs[k]? = if off ≤ k ∧ k < off + i ∨ off + len ≤ k + i ∧ k < off + len then ps[2 * off + len - 1 - k]? else ps[k]?) ∧ sat h (pto b (.row 1 (qs.map pt) rc) :: F) ∧
    (e 0 = .arr b 1 off len cap ∧ e 2 = .int .i64 i ∧ e 3 = .int .i64 ((len : Int) - 1 - i))) ⟨ps, rfl, by omega, fun k => by rw [if_neg (by omega)], hs, rfl, rfl, by show AV.int .i64 ((len : Int) - 1) = _; simp⟩ ?_
  rintro i e h hi ⟨qs, hl, hi2, hq, hs, he⟩
  simp (disch := omega) only [go_sem, reduceCtorEq, ↓reduceIte, Nat.reduceEqDiff, Nat.reduceAdd, Nat.reduceSub, Nat.reduceMul, Nat.reduceLT, Nat.reduceLeDiff, Int.reduceEq, Int.reduceNe, Int.reduceLT, Int.reduceLE, Int.reduceBEq, Int.reduceBNe, Int.reduceToNat, he]
  refine cnd_dec (fun hlt => ?_) (fun hge => ?_)
  · have hj : ((len : Int) - 1 - i).toNat = len - 1 - i := by omega
    obtain ⟨x, hx⟩ : ∃ x, qs[off + (len - 1 - i)]? = some x := ⟨_, List.getElem?_eq_getElem (by omega)⟩
    obtain ⟨y, hy⟩ : ∃ y, qs[off + i]? = some y := ⟨_, List.getElem?_eq_getElem (by omega)⟩
    have hx' := pt_get hx
    have hy' := pt_get hy
    have hz : ((qs.map pt).set (off + i) [.ptr x 2 0 0])[off + (len - 1 - i)]? = some [.ptr x 2 0 0] := by
      rw [List.getElem?_set, if_neg (by omega)]; exact hx'
    have hy2 : (List.set (qs.map pt) (off + i) [.ptr x 2 0 0])[off + (len - 1 - i)]? = some [.ptr x 2 0 0] := hz
    simp (disch := omega) only [go_sem, reduceCtorEq, ↓reduceIte, Nat.reduceEqDiff, Nat.reduceAdd, Nat.reduceSub, Nat.reduceMul, Nat.reduceLT, Nat.reduceLeDiff, Int.reduceEq, Int.reduceNe, Int.reduceLT, Int.reduceLE, Int.reduceBEq, Int.reduceBNe, Int.reduceToNat, he, hj, hs.at, hx', hy', hy2, hz]
    refine ⟨by omega, (qs.set (off + i) x).set (off + (len - 1 - i)) y, by simpa using hl, by omega, fun k => ?_, ?_, rfl, ?_⟩
    · rw [List.getElem?_set, List.getElem?_set]
      have hx2 := hq (off + (len - 1 - i))
      have hy3 := hq (off + i)
      rw [if_neg (by omega)] at hx2 hy3
      simp only [List.length_set]
      by_cases e1 : off + (len - 1 - i) = k
      · subst e1
        rw [if_pos rfl, if_pos (by omega), if_pos (by omega), ← hy, hy3]
        congr 1; omega
      · rw [if_neg e1]
        by_cases e2 : off + i = k
        · subst e2
          rw [if_pos rfl, if_pos (by omega), if_pos (by omega), ← hx, hx2]
          congr 1; omega
        · rw [if_neg e2, hq k]
          by_cases e3 : off ≤ k ∧ k < off + i ∨ off + len ≤ k + i ∧ k < off + len
          · rw [if_pos e3, if_pos (by omega)]
          · rw [if_neg e3, if_neg (by omega)]
    · rw [← pt_set, ← pt_set]
      exact hs.set
    · congr 1; omega
  · simp (disch := omega) only [go_sem, reduceCtorEq, ↓reduceIte, Nat.reduceEqDiff, Nat.reduceAdd, Nat.reduceSub, Nat.reduceMul, Nat.reduceLT, Nat.reduceLeDiff, Int.reduceEq, Int.reduceNe, Int.reduceLT, Int.reduceLE, Int.reduceBEq, Int.reduceBNe, Int.reduceToNat, he]
    refine ⟨qs, hl, fun k => ?_, hs⟩
    rw [hq k]
    by_cases e3 : off ≤ k ∧ k < off + i ∨ off + len ≤ k + i ∧ k < off + len
    · rw [if_pos e3, if_pos (by omega)]
    · rw [if_neg e3]
      by_cases e4 : off ≤ k ∧ k < off + len
      · rw [if_pos e4]; congr 1; omega
      · rw [if_neg e4]

theorem rotate_node {b i n cap rc x : Nat} {ps : List Nat} (hs : sat h (pto b (.row 1 ((ps ++ [x]).map pt) rc) :: F)) (hn : n = ps.length) (hi : i ≤ n) (h2 : n ≤ 100000) (hc : n + 1 - i ≤ cap) :
    Triple Try.prog 121 [.arr b 1 i (n + 1 - i) cap, .int .i64 1] h (fun r h => sat h (pto b (.row 1 ((ps.take i ++ x :: ps.drop i).map pt) rc) :: F)) := by
  subst hn
  refine t121 (Nat.le_of_ble_eq_true rfl) ?_
  simp (disch := omega) only [F121, go_sem, reduceCtorEq, ↓reduceIte, Nat.reduceEqDiff, Nat.reduceAdd, Nat.reduceSub, Nat.reduceMul, Nat.reduceLT, Nat.reduceLeDiff, Int.reduceEq, Int.reduceNe, Int.reduceLT, Int.reduceLE, Int.reduceBEq, Int.reduceBNe, Int.reduceToNat]
  have e1 : ((ps.length + 1 - i : Nat) : Int) - 1 = ((ps.length - i : Nat) : Int) := by omega
  simp (disch := omega) only [go_sem, reduceCtorEq, ↓reduceIte, Nat.reduceEqDiff, Nat.reduceAdd, Nat.reduceSub, Nat.reduceMul, Nat.reduceLT, Nat.reduceLeDiff, Int.reduceEq, Int.reduceNe, Int.reduceLT, Int.reduceLE, Int.reduceBEq, Int.reduceBNe, Int.reduceToNat, e1]
  have key : Triple Try.prog 124 [.arr b 1 i (ps.length + 1 - i) cap, .int .i64 ((ps.length - i : Nat) : Int)] h (fun r h => sat h (pto b (.row 1 ((ps.take i ++ x :: ps.drop i).map pt) rc) :: F)) := by
    refine t124 (Nat.le_of_ble_eq_true rfl) ?_
    simp (disch := omega) only [F124, go_sem, reduceCtorEq, ↓reduceIte, Nat.reduceEqDiff, Nat.reduceAdd, Nat.reduceSub, Nat.reduceMul, Nat.reduceLT, Nat.reduceLeDiff, Int.reduceEq, Int.reduceNe, Int.reduceLT, Int.reduceLE, Int.reduceBEq, Int.reduceBNe, Int.reduceToNat]
    simp (disch := omega) only [go_sem, reduceCtorEq, ↓reduceIte, Nat.reduceEqDiff, Nat.reduceAdd, Nat.reduceSub, Nat.reduceMul, Nat.reduceLT, Nat.reduceLeDiff, Int.reduceEq, Int.reduceNe, Int.reduceLT, Int.reduceLE, Int.reduceBEq, Int.reduceBNe, Int.reduceToNat, slcL_hi]
    refine call_use (reverse_node hs (by simp; omega) (by simp; omega)) ?_
    rintro r h ⟨q1, l1, g1, hs⟩
    simp (disch := omega) only [go_sem, reduceCtorEq, ↓reduceIte, Nat.reduceEqDiff, Nat.reduceAdd, Nat.reduceSub, Nat.reduceMul, Nat.reduceLT, Nat.reduceLeDiff, Int.reduceEq, Int.reduceNe, Int.reduceLT, Int.reduceLE, Int.reduceBEq, Int.reduceBNe, Int.reduceToNat, slcL_lo]
    refine call_use (reverse_node hs (by simp at l1 ⊢; omega) (by simp at l1; omega)) ?_
    rintro r h ⟨q2, l2, g2, hs⟩
    simp (disch := omega) only [go_sem, reduceCtorEq, ↓reduceIte, Nat.reduceEqDiff, Nat.reduceAdd, Nat.reduceSub, Nat.reduceMul, Nat.reduceLT, Nat.reduceLeDiff, Int.reduceEq, Int.reduceNe, Int.reduceLT, Int.reduceLE, Int.reduceBEq, Int.reduceBNe, Int.reduceToNat]
    refine call_use (reverse_node hs (by simp at l1 l2 ⊢; omega) (by simp at l1 l2; omega)) ?_
    rintro r h ⟨q3, l3, g3, hs⟩
    simp (disch := omega) only [go_sem, reduceCtorEq, ↓reduceIte, Nat.reduceEqDiff, Nat.reduceAdd, Nat.reduceSub, Nat.reduceMul, Nat.reduceLT, Nat.reduceLeDiff, Int.reduceEq, Int.reduceNe, Int.reduceLT, Int.reduceLE, Int.reduceBEq, Int.reduceBNe, Int.reduceToNat]
    have : q3 = ps.take i ++ x :: ps.drop i := by
      apply List.ext_getElem?
      intro k
      simp only [List.length_append, List.length_cons, List.length_nil] at l1 l2 l3
      have e0 : ∀ k, k < ps.length → (ps ++ [x])[k]? = ps[k]? := fun k hk => List.getElem?_append_left hk
      rw [g3 k]
      by_cases c1 : k < i
      · rw [if_neg (by omega), g2 k, if_neg (by omega), g1 k, if_neg (by omega), e0 k (by omega), List.getElem?_append_left (by rw [List.length_take]; omega), List.getElem?_take, if_pos c1]
      · have eR : (ps.take i ++ x :: ps.drop i)[k]? = (x :: ps.drop i)[k - i]? := by
          rw [List.getElem?_append_right (by rw [List.length_take]; omega)]
          congr 1
          rw [List.length_take]; omega
        rw [eR]
        by_cases c2 : k = i
        · subst c2
          rw [if_pos (by omega), Nat.sub_self, g2, if_pos (by omega), g1, if_neg (by omega)]
          have : 2 * (k + (ps.length - k)) + (ps.length + 1 - k - (ps.length - k)) - 1 - (2 * k + (ps.length + 1 - k) - 1 - k) = ps.length := by omega
          rw [this]
          simp
        · obtain ⟨k', hk'⟩ : ∃ k', k - i = k' + 1 := ⟨k - i - 1, by omega⟩
          rw [hk', List.getElem?_cons_succ, List.getElem?_drop]
          by_cases c3 : k ≤ ps.length
          · rw [if_pos (by omega), g2, if_neg (by omega), g1, if_pos (by omega), e0 _ (by omega)]
            congr 1; omega
          · rw [if_neg (by omega), g2, if_neg (by omega), g1, if_neg (by omega)]
            rw [List.getElem?_eq_none (by simp; omega), List.getElem?_eq_none (by omega)]
    subst this
    exact hs
  refine call_use (key) ?_
  intro r h hs
  simp (disch := omega) only [go_sem, reduceCtorEq, ↓reduceIte, Nat.reduceEqDiff, Nat.reduceAdd, Nat.reduceSub, Nat.reduceMul, Nat.reduceLT, Nat.reduceLeDiff, Int.reduceEq, Int.reduceNe, Int.reduceLT, Int.reduceLE, Int.reduceBEq, Int.reduceBNe, Int.reduceToNat]
  exact hs
end
end Go.Proofs.Ytkclojjeepomfaa
/- slices.Insert and slices.Clone of pointers. -/
set_option linter.unusedSimpArgs false
set_option linter.unusedVariables false
set_option maxRecDepth 10000
namespace Go.Proofs.Ytkclojjeepomfaa
open Go.Hz

section
variable {h : Hp} {F : List Asr}
theorem ins_row1 {α : Type} {M R : List α} {x : α} {i a n : Nat} (hi : i < M.length) (hR : R.length = M.length + 1 - i) (ha : a = i + 1) (hn : n = i + 1 + (M.length - i)) :
    (((M.take i ++ R).take i ++ [x] ++ (M.take i ++ R).drop a).take (i + 1) ++ M.drop i ++ ((M.take i ++ R).take i ++ [x] ++ (M.take i ++ R).drop a).drop n) = M.take i ++ x :: M.drop i := by
  subst ha; subst hn
  have e1 : (M.take i ++ R).take i = M.take i := by rw [List.take_append_of_le_length (by rw [List.length_take]; omega), List.take_take, Nat.min_self]
  have hz : (M.take i ++ R).length = M.length + 1 := by simp [hR]; omega
  generalize M.take i ++ R = Z at e1 hz ⊢
  rw [e1]
  have e2 : (M.take i ++ [x]).length = i + 1 := by simp; omega
  have e3 : (M.take i ++ [x] ++ Z.drop (i + 1)).take (i + 1) = M.take i ++ [x] := by
    rw [List.take_append_of_le_length (by omega), List.take_of_length_le (by omega)]
  have e4 : (M.take i ++ [x] ++ Z.drop (i + 1)).drop (i + 1 + (M.length - i)) = [] := List.drop_eq_nil_of_le (by
    rw [List.length_append, e2, List.length_drop, hz]; omega)
  rw [e3, e4]
  simp
theorem ins_row2 {α : Type} {M : List α} {x : α} {i a n : Nat} (hi : i < M.length) (ha : a = i + 1) (hn : n = i + 1 + (M.length - i)) :
    ((M.take (i + 1) ++ M.drop i ++ M.drop n).take i ++ [x] ++ (M.take (i + 1) ++ M.drop i ++ M.drop n).drop a) = M.take i ++ x :: M.drop i := by
  subst ha; subst hn
  have e0 : M.drop (i + 1 + (M.length - i)) = [] := List.drop_eq_nil_of_le (by omega)
  have e1 : (M.take (i + 1)).length = i + 1 := by rw [List.length_take]; omega
  rw [e0, List.append_nil, List.take_append_of_le_length (by omega), List.take_take, Nat.min_eq_left (by omega), List.drop_append_of_le_length (by omega), show (M.take (i + 1)).drop (i + 1) = [] from List.drop_eq_nil_of_le (by omega)]
  simp
theorem ins_item {v : AV} {bx c i x : Nat} {ps : List Nat} (hs : sat h (Ow 1 v (ps.map pt) :: pto bx (.row 1 [pt x] c) :: F)) (hi : i ≤ ps.length) (h2 : ps.length ≤ 10000) (hcx : 1 ≤ c) :
    Triple Try.prog 107 [v, .int .i64 i, .arr bx 1 0 1 1] h (fun r h => sat h (Ow 1 r ((ps.take i ++ x :: ps.drop i).map pt) :: F)) := by
  refine t107 (Nat.le_of_ble_eq_true rfl) ?_
  simp (disch := omega) only [F107, go_sem, reduceCtorEq, ↓reduceIte, Nat.reduceEqDiff, Nat.reduceAdd, Nat.reduceSub, Nat.reduceMul, Nat.reduceLT, Nat.reduceLeDiff, Int.reduceEq, Int.reduceNe, Int.reduceLT, Int.reduceLE, Int.reduceBEq, Int.reduceBNe, Int.reduceToNat]
  rcases hs.cases with ⟨rfl, h0, g⟩ | ⟨b, cap, rfl, g, hcap⟩
  · have h0 : ps = [] := by simpa using h0
    subst h0
    have hi0 : i = 0 := by simpa using hi
    subst hi0
    have e1 : slcL 1 .nils (some (.int .i64 (0 : Nat))) none = some .nils := rfl
    have e2 : ((0 : Nat) : Int) = 0 := rfl
    simp (disch := omega) only [go_sem, reduceCtorEq, ↓reduceIte, Nat.reduceEqDiff, Nat.reduceAdd, Nat.reduceSub, Nat.reduceMul, Nat.reduceLT, Nat.reduceLeDiff, Int.reduceEq, Int.reduceNe, Int.reduceLT, Int.reduceLE, Int.reduceBEq, Int.reduceBNe, Int.reduceToNat, e1, e2]
    have e3 : slcL 1 .nils (some (.int .i64 0)) none = some .nils := rfl
    simp (disch := omega) only [go_sem, reduceCtorEq, ↓reduceIte, Nat.reduceEqDiff, Nat.reduceAdd, Nat.reduceSub, Nat.reduceMul, Nat.reduceLT, Nat.reduceLeDiff, Int.reduceEq, Int.reduceNe, Int.reduceLT, Int.reduceLE, Int.reduceBEq, Int.reduceBNe, Int.reduceToNat, e3]
    have hy : srcA 1 h (.arr bx 1 0 1 1) = some [pt x] := src_one hs.p1.at
    refine app_sat (es := []) (hs.drop.add ow_nil) hy (atoms_pt [x]) (by simp) fun v' h hs hc' ha' => ?_
    simp (disch := omega) only [go_sem, reduceCtorEq, ↓reduceIte, Nat.reduceEqDiff, Nat.reduceAdd, Nat.reduceSub, Nat.reduceMul, Nat.reduceLT, Nat.reduceLeDiff, Int.reduceEq, Int.reduceNe, Int.reduceLT, Int.reduceLE, Int.reduceBEq, Int.reduceBNe, Int.reduceToNat]
    exact hs.d1
  · rw [List.length_map] at hcap
    have hl : (ps.map pt).length = ps.length := by simp
    have en : ((ps.length : Int) == 0) = false ∨ True := .inr trivial
    simp (disch := omega) only [go_sem, reduceCtorEq, ↓reduceIte, Nat.reduceEqDiff, Nat.reduceAdd, Nat.reduceSub, Nat.reduceMul, Nat.reduceLT, Nat.reduceLeDiff, Int.reduceEq, Int.reduceNe, Int.reduceLT, Int.reduceLE, Int.reduceBEq, Int.reduceBNe, Int.reduceToNat, slcL_lo, hl]
    by_cases hin : i = ps.length
    · subst hin
      simp (disch := omega) only [go_sem, reduceCtorEq, ↓reduceIte, Nat.reduceEqDiff, Nat.reduceAdd, Nat.reduceSub, Nat.reduceMul, Nat.reduceLT, Nat.reduceLeDiff, Int.reduceEq, Int.reduceNe, Int.reduceLT, Int.reduceLE, Int.reduceBEq, Int.reduceBNe, Int.reduceToNat]
      have hy : srcA 1 h (.arr bx 1 0 1 1) = some [pt x] := src_one hs.p1.at
      have hs := g.ow (by simpa using hcap)
      rw [hl] at hs
      refine app_sat hs hy (atoms_pt [x]) (by simp; omega) fun v' h hs hc' ha' => ?_
      simp (disch := omega) only [go_sem, reduceCtorEq, ↓reduceIte, Nat.reduceEqDiff, Nat.reduceAdd, Nat.reduceSub, Nat.reduceMul, Nat.reduceLT, Nat.reduceLeDiff, Int.reduceEq, Int.reduceNe, Int.reduceLT, Int.reduceLE, Int.reduceBEq, Int.reduceBNe, Int.reduceToNat]
      have := hs.d1
      rw [List.take_length, List.drop_length]
      simpa using this
    · have hne : ((i : Int) == (ps.length : Int)) = false := by rw [beq_eq_false_iff_ne]; omega
      simp (disch := omega) only [go_sem, reduceCtorEq, ↓reduceIte, Nat.reduceEqDiff, Nat.reduceAdd, Nat.reduceSub, Nat.reduceMul, Nat.reduceLT, Nat.reduceLeDiff, Int.reduceEq, Int.reduceNe, Int.reduceLT, Int.reduceLE, Int.reduceBEq, Int.reduceBNe, Int.reduceToNat, hne]
      refine cnd_dec (fun hlt => ?_) (fun hge => ?_)
      · have em : (ps.length : Int) + 1 - (i : Int) = ((ps.length + 1 - i : Nat) : Int) := by omega
        simp (disch := omega) only [go_sem, reduceCtorEq, ↓reduceIte, Nat.reduceEqDiff, Nat.reduceAdd, Nat.reduceSub, Nat.reduceMul, Nat.reduceLT, Nat.reduceLeDiff, Int.reduceEq, Int.reduceNe, Int.reduceLT, Int.reduceLE, Int.reduceBEq, Int.reduceBNe, Int.reduceToNat, slcL_hi, em]
        refine appz_use g (by rw [hl]; exact hi) (by omega) (by omega) fun b2 c2 h hc2 hs => ?_
        have e3 : ((i : Int) + 1).toNat = i + 1 := by omega
        have e4 : i + (ps.length + 1 - i) = ps.length + 1 := by omega
        rw [e4] at hc2
        simp (disch := omega) only [go_sem, reduceCtorEq, ↓reduceIte, Nat.reduceEqDiff, Nat.reduceAdd, Nat.reduceSub, Nat.reduceMul, Nat.reduceLT, Nat.reduceLeDiff, Int.reduceEq, Int.reduceNe, Int.reduceLT, Int.reduceLE, Int.reduceBEq, Int.reduceBNe, Int.reduceToNat, slcL_lo, e4]
        have hx : srcN 1 h (.arr bx 1 0 1 1) (min 1 (ps.length + 1 - i)) = some [pt x] := by
          rw [Nat.min_eq_left (by omega)]
          exact srcN_part hs.p2 (by omega) (by simp)
        refine cp_use (n := 1) hs (by simp; omega) (by omega) (by omega) rfl hx (atoms_pt [x]) fun h hs => ?_
        simp (disch := omega) only [go_sem, reduceCtorEq, ↓reduceIte, Nat.reduceEqDiff, Nat.reduceAdd, Nat.reduceSub, Nat.reduceMul, Nat.reduceLT, Nat.reduceLeDiff, Int.reduceEq, Int.reduceNe, Int.reduceLT, Int.reduceLE, Int.reduceBEq, Int.reduceBNe, Int.reduceToNat, slcL_lo, e3]
        have hy : srcN 1 h (.arr b 1 i (ps.length - i) (cap - i)) (min (ps.length - i) (ps.length + 1 - (i + 1))) = some ((ps.drop i).map pt) := by
          rw [Nat.min_eq_left (by omega)]
          have := srcN_part (off := i) (len := ps.length - i) (c := cap - i) (n := ps.length - i) hs.p1 (by omega) (by simp; omega)
          rw [this, ← List.map_drop, List.take_of_length_le (by simp)]
        refine cp_use (n := ps.length - i) hs (by simp; omega) (by omega) (by omega) rfl hy (atoms_pt _) fun h hs => ?_
        simp (disch := omega) only [go_sem, reduceCtorEq, ↓reduceIte, Nat.reduceEqDiff, Nat.reduceAdd, Nat.reduceSub, Nat.reduceMul, Nat.reduceLT, Nat.reduceLeDiff, Int.reduceEq, Int.reduceNe, Int.reduceLT, Int.reduceLE, Int.reduceBEq, Int.reduceBNe, Int.reduceToNat]
        have eq := ins_row1 (M := ps.map pt) (R := List.replicate (ps.length + 1 - i) [AV.nilp]) (x := pt x) (i := i) (by simp; omega) (by simp) rfl rfl
        rw [hl] at eq
        have g2 := hs.d1.d1
        rw [Nat.min_eq_left (show 1 ≤ ps.length + 1 - i by omega), Nat.min_eq_left (show ps.length - i ≤ ps.length + 1 - (i + 1) by omega), List.map_drop, eq] at g2
        have e5 : (ps.take i ++ x :: ps.drop i).map pt = (ps.map pt).take i ++ pt x :: (ps.map pt).drop i := by simp
        rw [← e5] at g2
        have e6 : ((ps.take i ++ x :: ps.drop i).map pt).length = ps.length + 1 := by simp; omega
        have g3 := g2.ow (by rw [e6]; omega)
        rw [e6] at g3
        exact g3
      · have e3 : ((i : Int) + 1).toNat = i + 1 := by omega
        have e4 : ((ps.length : Int) + 1).toNat = ps.length + 1 := by omega
        simp (disch := omega) only [go_sem, reduceCtorEq, ↓reduceIte, Nat.reduceEqDiff, Nat.reduceAdd, Nat.reduceSub, Nat.reduceMul, Nat.reduceLT, Nat.reduceLeDiff, Int.reduceEq, Int.reduceNe, Int.reduceLT, Int.reduceLE, Int.reduceBEq, Int.reduceBNe, Int.reduceToNat, slcL_hi, slcL_lo, e3, e4]
        have g0 : sat h (pto bx (.row 1 [pt x] c) :: pto b (.row 1 (ps.map pt) cap) :: F) := g.p1
        refine ovl_use g0 (by omega) (by omega) (by omega) fun q => ?_
        have e5 : (ps.take i ++ x :: ps.drop i).map pt = (ps.map pt).take i ++ pt x :: (ps.map pt).drop i := by simp
        have e6 : ((ps.take i ++ x :: ps.drop i).map pt).length = ps.length + 1 := by simp; omega
        cases q
        · simp (disch := omega) only [go_sem, reduceCtorEq, ↓reduceIte, Nat.reduceEqDiff, Nat.reduceAdd, Nat.reduceSub, Nat.reduceMul, Nat.reduceLT, Nat.reduceLeDiff, Int.reduceEq, Int.reduceNe, Int.reduceLT, Int.reduceLE, Int.reduceBEq, Int.reduceBNe, Int.reduceToNat, slcL_lo, e3]
          have hy : srcN 1 h (.arr b 1 i (ps.length + 1 - i) (cap - i)) (min (ps.length + 1 - i) (ps.length + 1 - (i + 1))) = some ((ps.drop i).map pt) := by
            rw [Nat.min_eq_right (by omega)]
            have := srcN_part (off := i) (len := ps.length + 1 - i) (c := cap - i) (n := ps.length + 1 - (i + 1)) g (by omega) (by simp; omega)
            rw [this, ← List.map_drop, List.take_of_length_le (by simp)]
          refine cp_use (n := ps.length + 1 - i) g (by simp; omega) (by omega) (by omega) rfl hy (atoms_pt _) fun h hs => ?_
          simp (disch := omega) only [go_sem, reduceCtorEq, ↓reduceIte, Nat.reduceEqDiff, Nat.reduceAdd, Nat.reduceSub, Nat.reduceMul, Nat.reduceLT, Nat.reduceLeDiff, Int.reduceEq, Int.reduceNe, Int.reduceLT, Int.reduceLE, Int.reduceBEq, Int.reduceBNe, Int.reduceToNat, slcL_lo]
          have hx : srcN 1 h (.arr bx 1 0 1 1) (min 1 (ps.length + 1 - i)) = some [pt x] := by
            rw [Nat.min_eq_left (by omega)]
            exact srcN_part hs.p1 (by omega) (by simp)
          refine cp_use (n := 1) hs (by simp; omega) (by omega) (by omega) rfl hx (atoms_pt [x]) fun h hs => ?_
          simp (disch := omega) only [go_sem, reduceCtorEq, ↓reduceIte, Nat.reduceEqDiff, Nat.reduceAdd, Nat.reduceSub, Nat.reduceMul, Nat.reduceLT, Nat.reduceLeDiff, Int.reduceEq, Int.reduceNe, Int.reduceLT, Int.reduceLE, Int.reduceBEq, Int.reduceBNe, Int.reduceToNat]
          have eq := ins_row2 (M := ps.map pt) (x := pt x) (i := i) (by simp; omega) rfl rfl
          rw [hl] at eq
          have g2 := hs.d1
          rw [Nat.min_eq_left (show 1 ≤ ps.length + 1 - i by omega), show min (ps.length + 1 - i) (ps.length + 1 - (i + 1)) = ps.length - i by omega, List.map_drop, eq, ← e5] at g2
          have g3 := g2.ow (by rw [e6]; omega)
          rw [e6] at g3
          exact g3
        · simp (disch := omega) only [go_sem, reduceCtorEq, ↓reduceIte, Nat.reduceEqDiff, Nat.reduceAdd, Nat.reduceSub, Nat.reduceMul, Nat.reduceLT, Nat.reduceLeDiff, Int.reduceEq, Int.reduceNe, Int.reduceLT, Int.reduceLE, Int.reduceBEq, Int.reduceBNe, Int.reduceToNat, slcL_lo]
          have hx : srcN 1 h (.arr bx 1 0 1 1) (min 1 (ps.length + 1 - ps.length)) = some [pt x] := by
            rw [Nat.min_eq_left (by omega)]
            exact srcN_part g.p1 (by omega) (by simp)
          refine cp_use (n := 1) g (by simp) (by omega) (by omega) rfl hx (atoms_pt [x]) fun h hs => ?_
          simp (disch := omega) only [go_sem, reduceCtorEq, ↓reduceIte, Nat.reduceEqDiff, Nat.reduceAdd, Nat.reduceSub, Nat.reduceMul, Nat.reduceLT, Nat.reduceLeDiff, Int.reduceEq, Int.reduceNe, Int.reduceLT, Int.reduceLE, Int.reduceBEq, Int.reduceBNe, Int.reduceToNat, slcL_lo]
          have g2 := hs.d1
          rw [List.take_of_length_le (by simp), List.drop_eq_nil_of_le (by simp), List.append_nil, show ps.map pt ++ [pt x] = (ps ++ [x]).map pt by simp] at g2
          refine call_use (rotate_item (n := ps.length) g2 rfl (by omega) (by omega) (by omega)) ?_
          intro r h hs
          simp (disch := omega) only [go_sem, reduceCtorEq, ↓reduceIte, Nat.reduceEqDiff, Nat.reduceAdd, Nat.reduceSub, Nat.reduceMul, Nat.reduceLT, Nat.reduceLeDiff, Int.reduceEq, Int.reduceNe, Int.reduceLT, Int.reduceLE, Int.reduceBEq, Int.reduceBNe, Int.reduceToNat]
          have g3 := hs.ow (by rw [e6]; omega)
          rw [e6] at g3
          exact g3
theorem ins_node {v : AV} {bx c i x : Nat} {ps : List Nat} (hs : sat h (Ow 1 v (ps.map pt) :: pto bx (.row 1 [pt x] c) :: F)) (hi : i ≤ ps.length) (h2 : ps.length ≤ 10000) (hcx : 1 ≤ c) :
    Triple Try.prog 109 [v, .int .i64 i, .arr bx 1 0 1 1] h (fun r h => sat h (Ow 1 r ((ps.take i ++ x :: ps.drop i).map pt) :: F)) := by
  refine t109 (Nat.le_of_ble_eq_true rfl) ?_
  simp (disch := omega) only [F109, go_sem, reduceCtorEq, ↓reduceIte, Nat.reduceEqDiff, Nat.reduceAdd, Nat.reduceSub, Nat.reduceMul, Nat.reduceLT, Nat.reduceLeDiff, Int.reduceEq, Int.reduceNe, Int.reduceLT, Int.reduceLE, Int.reduceBEq, Int.reduceBNe, Int.reduceToNat]
  rcases hs.cases with ⟨rfl, h0, g⟩ | ⟨b, cap, rfl, g, hcap⟩
  · have h0 : ps = [] := by simpa using h0
    subst h0
    have hi0 : i = 0 := by simpa using hi
    subst hi0
    have e1 : slcL 1 .nils (some (.int .i64 (0 : Nat))) none = some .nils := rfl
    have e2 : ((0 : Nat) : Int) = 0 := rfl
    simp (disch := omega) only [go_sem, reduceCtorEq, ↓reduceIte, Nat.reduceEqDiff, Nat.reduceAdd, Nat.reduceSub, Nat.reduceMul, Nat.reduceLT, Nat.reduceLeDiff, Int.reduceEq, Int.reduceNe, Int.reduceLT, Int.reduceLE, Int.reduceBEq, Int.reduceBNe, Int.reduceToNat, e1, e2]
    have e3 : slcL 1 .nils (some (.int .i64 0)) none = some .nils := rfl
    simp (disch := omega) only [go_sem, reduceCtorEq, ↓reduceIte, Nat.reduceEqDiff, Nat.reduceAdd, Nat.reduceSub, Nat.reduceMul, Nat.reduceLT, Nat.reduceLeDiff, Int.reduceEq, Int.reduceNe, Int.reduceLT, Int.reduceLE, Int.reduceBEq, Int.reduceBNe, Int.reduceToNat, e3]
    have hy : srcA 1 h (.arr bx 1 0 1 1) = some [pt x] := src_one hs.p1.at
    refine app_sat (es := []) (hs.drop.add ow_nil) hy (atoms_pt [x]) (by simp) fun v' h hs hc' ha' => ?_
    simp (disch := omega) only [go_sem, reduceCtorEq, ↓reduceIte, Nat.reduceEqDiff, Nat.reduceAdd, Nat.reduceSub, Nat.reduceMul, Nat.reduceLT, Nat.reduceLeDiff, Int.reduceEq, Int.reduceNe, Int.reduceLT, Int.reduceLE, Int.reduceBEq, Int.reduceBNe, Int.reduceToNat]
    exact hs.d1
  · rw [List.length_map] at hcap
    have hl : (ps.map pt).length = ps.length := by simp
    have en : ((ps.length : Int) == 0) = false ∨ True := .inr trivial
    simp (disch := omega) only [go_sem, reduceCtorEq, ↓reduceIte, Nat.reduceEqDiff, Nat.reduceAdd, Nat.reduceSub, Nat.reduceMul, Nat.reduceLT, Nat.reduceLeDiff, Int.reduceEq, Int.reduceNe, Int.reduceLT, Int.reduceLE, Int.reduceBEq, Int.reduceBNe, Int.reduceToNat, slcL_lo, hl]
    by_cases hin : i = ps.length
    · subst hin
      simp (disch := omega) only [go_sem, reduceCtorEq, ↓reduceIte, Nat.reduceEqDiff, Nat.reduceAdd, Nat.reduceSub, Nat.reduceMul, Nat.reduceLT, Nat.reduceLeDiff, Int.reduceEq, Int.reduceNe, Int.reduceLT, Int.reduceLE, Int.reduceBEq, Int.reduceBNe, Int.reduceToNat]
      have hy : srcA 1 h (.arr bx 1 0 1 1) = some [pt x] := src_one hs.p1.at
      have hs := g.ow (by simpa using hcap)
      rw [hl] at hs
      refine app_sat hs hy (atoms_pt [x]) (by simp; omega) fun v' h hs hc' ha' => ?_
      simp (disch := omega) only [go_sem, reduceCtorEq, ↓reduceIte, Nat.reduceEqDiff, Nat.reduceAdd, Nat.reduceSub, Nat.reduceMul, Nat.reduceLT, Nat.reduceLeDiff, Int.reduceEq, Int.reduceNe, Int.reduceLT, Int.reduceLE, Int.reduceBEq, Int.reduceBNe, Int.reduceToNat]
      have := hs.d1
      rw [List.take_length, List.drop_length]
      simpa using this
    · have hne : ((i : Int) == (ps.length : Int)) = false := by rw [beq_eq_false_iff_ne]; omega
      simp (disch := omega) only [go_sem, reduceCtorEq, ↓reduceIte, Nat.reduceEqDiff, Nat.reduceAdd, Nat.reduceSub, Nat.reduceMul, Nat.reduceLT, Nat.reduceLeDiff, Int.reduceEq, Int.reduceNe, Int.reduceLT, Int.reduceLE, Int.reduceBEq, Int.reduceBNe, Int.reduceToNat, hne]
      refine cnd_dec (fun hlt => ?_) (fun hge => ?_)
      · have em : (ps.length : Int) + 1 - (i : Int) = ((ps.length + 1 - i : Nat) : Int) := by omega
        simp (disch := omega) only [go_sem, reduceCtorEq, ↓reduceIte, Nat.reduceEqDiff, Nat.reduceAdd, Nat.reduceSub, Nat.reduceMul, Nat.reduceLT, Nat.reduceLeDiff, Int.reduceEq, Int.reduceNe, Int.reduceLT, Int.reduceLE, Int.reduceBEq, Int.reduceBNe, Int.reduceToNat, slcL_hi, em]
        refine appz_use g (by rw [hl]; exact hi) (by omega) (by omega) fun b2 c2 h hc2 hs => ?_
        have e3 : ((i : Int) + 1).toNat = i + 1 := by omega
        have e4 : i + (ps.length + 1 - i) = ps.length + 1 := by omega
        rw [e4] at hc2
        simp (disch := omega) only [go_sem, reduceCtorEq, ↓reduceIte, Nat.reduceEqDiff, Nat.reduceAdd, Nat.reduceSub, Nat.reduceMul, Nat.reduceLT, Nat.reduceLeDiff, Int.reduceEq, Int.reduceNe, Int.reduceLT, Int.reduceLE, Int.reduceBEq, Int.reduceBNe, Int.reduceToNat, slcL_lo, e4]
        have hx : srcN 1 h (.arr bx 1 0 1 1) (min 1 (ps.length + 1 - i)) = some [pt x] := by
          rw [Nat.min_eq_left (by omega)]
          exact srcN_part hs.p2 (by omega) (by simp)
        refine cp_use (n := 1) hs (by simp; omega) (by omega) (by omega) rfl hx (atoms_pt [x]) fun h hs => ?_
        simp (disch := omega) only [go_sem, reduceCtorEq, ↓reduceIte, Nat.reduceEqDiff, Nat.reduceAdd, Nat.reduceSub, Nat.reduceMul, Nat.reduceLT, Nat.reduceLeDiff, Int.reduceEq, Int.reduceNe, Int.reduceLT, Int.reduceLE, Int.reduceBEq, Int.reduceBNe, Int.reduceToNat, slcL_lo, e3]
        have hy : srcN 1 h (.arr b 1 i (ps.length - i) (cap - i)) (min (ps.length - i) (ps.length + 1 - (i + 1))) = some ((ps.drop i).map pt) := by
          rw [Nat.min_eq_left (by omega)]
          have := srcN_part (off := i) (len := ps.length - i) (c := cap - i) (n := ps.length - i) hs.p1 (by omega) (by simp; omega)
          rw [this, ← List.map_drop, List.take_of_length_le (by simp)]
        refine cp_use (n := ps.length - i) hs (by simp; omega) (by omega) (by omega) rfl hy (atoms_pt _) fun h hs => ?_
        simp (disch := omega) only [go_sem, reduceCtorEq, ↓reduceIte, Nat.reduceEqDiff, Nat.reduceAdd, Nat.reduceSub, Nat.reduceMul, Nat.reduceLT, Nat.reduceLeDiff, Int.reduceEq, Int.reduceNe, Int.reduceLT, Int.reduceLE, Int.reduceBEq, Int.reduceBNe, Int.reduceToNat]
        have eq := ins_row1 (M := ps.map pt) (R := List.replicate (ps.length + 1 - i) [AV.nilp]) (x := pt x) (i := i) (by simp; omega) (by simp) rfl rfl
        rw [hl] at eq
        have g2 := hs.d1.d1
        rw [Nat.min_eq_left (show 1 ≤ ps.length + 1 - i by omega), Nat.min_eq_left (show ps.length - i ≤ ps.length + 1 - (i + 1) by omega), List.map_drop, eq] at g2
        have e5 : (ps.take i ++ x :: ps.drop i).map pt = (ps.map pt).take i ++ pt x :: (ps.map pt).drop i := by simp
        rw [← e5] at g2
        have e6 : ((ps.take i ++ x :: ps.drop i).map pt).length = ps.length + 1 := by simp; omega
        have g3 := g2.ow (by rw [e6]; omega)
        rw [e6] at g3
        exact g3
      · have e3 : ((i : Int) + 1).toNat = i + 1 := by omega
        have e4 : ((ps.length : Int) + 1).toNat = ps.length + 1 := by omega
        simp (disch := omega) only [go_sem, reduceCtorEq, ↓reduceIte, Nat.reduceEqDiff, Nat.reduceAdd, Nat.reduceSub, Nat.reduceMul, Nat.reduceLT, Nat.reduceLeDiff, Int.reduceEq, Int.reduceNe, Int.reduceLT, Int.reduceLE, Int.reduceBEq, Int.reduceBNe, Int.reduceToNat, slcL_hi, slcL_lo, e3, e4]
        have g0 : sat h (pto bx (.row 1 [pt x] c) :: pto b (.row 1 (ps.map pt) cap) :: F) := g.p1
        refine ovl_use g0 (by omega) (by omega) (by omega) fun q => ?_
        have e5 : (ps.take i ++ x :: ps.drop i).map pt = (ps.map pt).take i ++ pt x :: (ps.map pt).drop i := by simp
        have e6 : ((ps.take i ++ x :: ps.drop i).map pt).length = ps.length + 1 := by simp; omega
        cases q
        · simp (disch := omega) only [go_sem, reduceCtorEq, ↓reduceIte, Nat.reduceEqDiff, Nat.reduceAdd, Nat.reduceSub, Nat.reduceMul, Nat.reduceLT, Nat.reduceLeDiff, Int.reduceEq, Int.reduceNe, Int.reduceLT, Int.reduceLE, Int.reduceBEq, Int.reduceBNe, Int.reduceToNat, slcL_lo, e3]
          have hy : srcN 1 h (.arr b 1 i (ps.length + 1 - i) (cap - i)) (min (ps.length + 1 - i) (ps.length + 1 - (i + 1))) = some ((ps.drop i).map pt) := by
            rw [Nat.min_eq_right (by omega)]
            have := srcN_part (off := i) (len := ps.length + 1 - i) (c := cap - i) (n := ps.length + 1 - (i + 1)) g (by omega) (by simp; omega)
            rw [this, ← List.map_drop, List.take_of_length_le (by simp)]
          refine cp_use (n := ps.length + 1 - i) g (by simp; omega) (by omega) (by omega) rfl hy (atoms_pt _) fun h hs => ?_
          simp (disch := omega) only [go_sem, reduceCtorEq, ↓reduceIte, Nat.reduceEqDiff, Nat.reduceAdd, Nat.reduceSub, Nat.reduceMul, Nat.reduceLT, Nat.reduceLeDiff, Int.reduceEq, Int.reduceNe, Int.reduceLT, Int.reduceLE, Int.reduceBEq, Int.reduceBNe, Int.reduceToNat, slcL_lo]
          have hx : srcN 1 h (.arr bx 1 0 1 1) (min 1 (ps.length + 1 - i)) = some [pt x] := by
            rw [Nat.min_eq_left (by omega)]
            exact srcN_part hs.p1 (by omega) (by simp)
          refine cp_use (n := 1) hs (by simp; omega) (by omega) (by omega) rfl hx (atoms_pt [x]) fun h hs => ?_
          simp (disch := omega) only [go_sem, reduceCtorEq, ↓reduceIte, Nat.reduceEqDiff, Nat.reduceAdd, Nat.reduceSub, Nat.reduceMul, Nat.reduceLT, Nat.reduceLeDiff, Int.reduceEq, Int.reduceNe, Int.reduceLT, Int.reduceLE, Int.reduceBEq, Int.reduceBNe, Int.reduceToNat]
          have eq := ins_row2 (M := ps.map pt) (x := pt x) (i := i) (by simp; omega) rfl rfl
          rw [hl] at eq
          have g2 := hs.d1
          rw [Nat.min_eq_left (show 1 ≤ ps.length + 1 - i by omega), show min (ps.length + 1 - i) (ps.length + 1 - (i + 1)) = ps.length - i by omega, List.map_drop, eq, ← e5] at g2
          have g3 := g2.ow (by rw [e6]; omega)
          rw [e6] at g3
          exact g3
        · simp (disch := omega) only [go_sem, reduceCtorEq, ↓reduceIte, Nat.reduceEqDiff, Nat.reduceAdd, Nat.reduceSub, Nat.reduceMul, Nat.reduceLT, Nat.reduceLeDiff, Int.reduceEq, Int.reduceNe, Int.reduceLT, Int.reduceLE, Int.reduceBEq, Int.reduceBNe, Int.reduceToNat, slcL_lo]
          have hx : srcN 1 h (.arr bx 1 0 1 1) (min 1 (ps.length + 1 - ps.length)) = some [pt x] := by
            rw [Nat.min_eq_left (by omega)]
            exact srcN_part g.p1 (by omega) (by simp)
          refine cp_use (n := 1) g (by simp) (by omega) (by omega) rfl hx (atoms_pt [x]) fun h hs => ?_
          simp (disch := omega) only [go_sem, reduceCtorEq, ↓reduceIte, Nat.reduceEqDiff, Nat.reduceAdd, Nat.reduceSub, Nat.reduceMul, Nat.reduceLT, Nat.reduceLeDiff, Int.reduceEq, Int.reduceNe, Int.reduceLT, Int.reduceLE, Int.reduceBEq, Int.reduceBNe, Int.reduceToNat, slcL_lo]
          have g2 := hs.d1
          rw [List.take_of_length_le (by simp), List.drop_eq_nil_of_le (by simp), List.append_nil, show ps.map pt ++ [pt x] = (ps ++ [x]).map pt by simp] at g2
          refine call_use (rotate_node (n := ps.length) g2 rfl (by omega) (by omega) (by omega)) ?_
          intro r h hs
          simp (disch := omega) only [go_sem, reduceCtorEq, ↓reduceIte, Nat.reduceEqDiff, Nat.reduceAdd, Nat.reduceSub, Nat.reduceMul, Nat.reduceLT, Nat.reduceLeDiff, Int.reduceEq, Int.reduceNe, Int.reduceLT, Int.reduceLE, Int.reduceBEq, Int.reduceBNe, Int.reduceToNat]
          have g3 := hs.ow (by rw [e6]; omega)
          rw [e6] at g3
          exact g3
end
end Go.Proofs.Ytkclojjeepomfaa
/- Clone of pointers; place, find. -/
set_option linter.unusedSimpArgs false
set_option linter.unusedVariables false
set_option maxRecDepth 10000
namespace Go.Proofs.Ytkclojjeepomfaa
open Go.Hz

section
variable {h : Hp} {F : List Asr}
theorem clone_item {b off len cap rc : Nat} {ps : List Nat} (hs : sat h (pto b (.row 1 (ps.map pt) rc) :: F)) (h1 : off + len ≤ ps.length) (h2 : ps.length ≤ 1000000) :
    Triple Try.prog 118 [.arr b 1 off len cap] h (fun r h => sat h (Ow 1 r (((ps.drop off).take len).map pt) :: pto b (.row 1 (ps.map pt) rc) :: F)) := by
  refine t118 (Nat.le_of_ble_eq_true rfl) ?_
  simp (disch := omega) only [F118, go_sem, reduceCtorEq, ↓reduceIte, Nat.reduceEqDiff, Nat.reduceAdd, Nat.reduceSub, Nat.reduceMul, Nat.reduceLT, Nat.reduceLeDiff, Int.reduceEq, Int.reduceNe, Int.reduceLT, Int.reduceLE, Int.reduceBEq, Int.reduceBNe, Int.reduceToNat]
  refine new_opq hs fun n h hs => ?_
  simp (disch := omega) only [go_sem, reduceCtorEq, ↓reduceIte, Nat.reduceEqDiff, Nat.reduceAdd, Nat.reduceSub, Nat.reduceMul, Nat.reduceLT, Nat.reduceLeDiff, Int.reduceEq, Int.reduceNe, Int.reduceLT, Int.reduceLE, Int.reduceBEq, Int.reduceBNe, Int.reduceToNat, hs.at]
  have hy : srcA 1 h (.arr b 1 off len cap) = some (((ps.drop off).take len).map pt) := by
    have := src_part (c := cap) hs.p1 (off := off) (len := len) (by simpa using h1)
    rw [this]; simp
  refine app_sat (hs.ow (by simp)) hy (atoms_pt _) (by simp; omega) fun v' h hs hc' ha' => ?_
  simp (disch := omega) only [go_sem, reduceCtorEq, ↓reduceIte, Nat.reduceEqDiff, Nat.reduceAdd, Nat.reduceSub, Nat.reduceMul, Nat.reduceLT, Nat.reduceLeDiff, Int.reduceEq, Int.reduceNe, Int.reduceLT, Int.reduceLE, Int.reduceBEq, Int.reduceBNe, Int.reduceToNat]
  simpa using hs
theorem clone_node {b off len cap rc : Nat} {ps : List Nat} (hs : sat h (pto b (.row 1 (ps.map pt) rc) :: F)) (h1 : off + len ≤ ps.length) (h2 : ps.length ≤ 1000000) :
    Triple Try.prog 119 [.arr b 1 off len cap] h (fun r h => sat h (Ow 1 r (((ps.drop off).take len).map pt) :: pto b (.row 1 (ps.map pt) rc) :: F)) := by
  refine t119 (Nat.le_of_ble_eq_true rfl) ?_
  simp (disch := omega) only [F119, go_sem, reduceCtorEq, ↓reduceIte, Nat.reduceEqDiff, Nat.reduceAdd, Nat.reduceSub, Nat.reduceMul, Nat.reduceLT, Nat.reduceLeDiff, Int.reduceEq, Int.reduceNe, Int.reduceLT, Int.reduceLE, Int.reduceBEq, Int.reduceBNe, Int.reduceToNat]
  refine new_opq hs fun n h hs => ?_
  simp (disch := omega) only [go_sem, reduceCtorEq, ↓reduceIte, Nat.reduceEqDiff, Nat.reduceAdd, Nat.reduceSub, Nat.reduceMul, Nat.reduceLT, Nat.reduceLeDiff, Int.reduceEq, Int.reduceNe, Int.reduceLT, Int.reduceLE, Int.reduceBEq, Int.reduceBNe, Int.reduceToNat, hs.at]
  have hy : srcA 1 h (.arr b 1 off len cap) = some (((ps.drop off).take len).map pt) := by
    have := src_part (c := cap) hs.p1 (off := off) (len := len) (by simpa using h1)
    rw [this]; simp
  refine app_sat (hs.ow (by simp)) hy (atoms_pt _) (by simp; omega) fun v' h hs hc' ha' => ?_
  simp (disch := omega) only [go_sem, reduceCtorEq, ↓reduceIte, Nat.reduceEqDiff, Nat.reduceAdd, Nat.reduceSub, Nat.reduceMul, Nat.reduceLT, Nat.reduceLeDiff, Int.reduceEq, Int.reduceNe, Int.reduceLT, Int.reduceLE, Int.reduceBEq, Int.reduceBNe, Int.reduceToNat]
  simpa using hs

def geAt (is : List Kp) (key : Key) (i : Nat) : Bool := match is[i]? with
  | some x => !ltK x.2 key
  | none => true

theorem place1 {bn bk p i : Nat} {iv kv : AV} {is : List Kp} {key : Key} (hs : sat h F) (hN : ∀ h, sat h F → NR p iv kv is h ∧ h bn = some (.row 1 [[.ptr p 2 0 0]] 1) ∧ h bk = some (.row 1 [[.str key]] 1)) (hi : i < is.length) :
    Triple Try.prog 106 [.int .i64 i, .ptr bn 1 0 0, .ptr bk 1 0 0] h (fun r h => r = .bool (geAt is key i) ∧ sat h F) := by
  refine t106 (Nat.le_of_ble_eq_true rfl) ?_
  simp (disch := omega) only [F106, go_sem, reduceCtorEq, ↓reduceIte, Nat.reduceEqDiff, Nat.reduceAdd, Nat.reduceSub, Nat.reduceMul, Nat.reduceLT, Nat.reduceLeDiff, Int.reduceEq, Int.reduceNe, Int.reduceLT, Int.reduceLE, Int.reduceBEq, Int.reduceBNe, Int.reduceToNat]
  obtain ⟨hn, h1, h2⟩ := hN h hs
  have hx := List.getElem?_eq_getElem hi
  obtain ⟨b, cap, rfl, hb⟩ := hn.arr hx
  obtain ⟨mv, hm⟩ := hn.ks _ (List.getElem_mem hi)
  simp (disch := omega) only [go_sem, reduceCtorEq, ↓reduceIte, Nat.reduceEqDiff, Nat.reduceAdd, Nat.reduceSub, Nat.reduceMul, Nat.reduceLT, Nat.reduceLeDiff, Int.reduceEq, Int.reduceNe, Int.reduceLT, Int.reduceLE, Int.reduceBEq, Int.reduceBNe, Int.reduceToNat, h1, h2, hn.nd, ia_go hi, hb, kpt_get hx, hm]
  refine ⟨?_, hs⟩
  simp [geAt, hx, ltK]

theorem place {p : Nat} {iv kv : AV} {is : List Kp} {key : Key} (hs : sat h F) (hN : ∀ h, sat h F → NR p iv kv is h) (hsrt : Srt is) (hl : is.length ≤ 1000000) :
    Triple Try.prog 90 [.ptr p 2 0 0, .str key] h (fun r h => ∃ j q, r = .tup [.int .i64 (j : Nat), .bool q] ∧ PlaceR is key j q ∧ sat h F) := by
  refine t90 (Nat.le_of_ble_eq_true rfl) ?_
  simp (disch := omega) only [F90, go_sem, reduceCtorEq, ↓reduceIte, Nat.reduceEqDiff, Nat.reduceAdd, Nat.reduceSub, Nat.reduceMul, Nat.reduceLT, Nat.reduceLeDiff, Int.reduceEq, Int.reduceNe, Int.reduceLT, Int.reduceLE, Int.reduceBEq, Int.reduceBNe, Int.reduceToNat]
  refine new_opq hs fun bn h hs => ?_
  simp (disch := omega) only [go_sem, reduceCtorEq, ↓reduceIte, Nat.reduceEqDiff, Nat.reduceAdd, Nat.reduceSub, Nat.reduceMul, Nat.reduceLT, Nat.reduceLeDiff, Int.reduceEq, Int.reduceNe, Int.reduceLT, Int.reduceLE, Int.reduceBEq, Int.reduceBNe, Int.reduceToNat, hs.at]
  refine new_opq hs fun bk h hs => ?_
  simp (disch := omega) only [go_sem, reduceCtorEq, ↓reduceIte, Nat.reduceEqDiff, Nat.reduceAdd, Nat.reduceSub, Nat.reduceMul, Nat.reduceLT, Nat.reduceLeDiff, Int.reduceEq, Int.reduceNe, Int.reduceLT, Int.reduceLE, Int.reduceBEq, Int.reduceBNe, Int.reduceToNat, hs.at]
  have hq : ∀ h, sat h (pto bk (.row 1 [[.str key]] 1) :: pto bn (.row 1 [[.ptr p 2 0 0]] 1) :: F) → NR p iv kv is h ∧ h bn = some (.row 1 [[.ptr p 2 0 0]] 1) ∧ h bk = some (.row 1 [[.str key]] 1) := fun h hs => ⟨hN h hs.drop.drop, hs.p1.at, hs.at⟩
  have hn := (hq h hs).1
  simp (disch := omega) only [go_sem, reduceCtorEq, ↓reduceIte, Nat.reduceEqDiff, Nat.reduceAdd, Nat.reduceSub, Nat.reduceMul, Nat.reduceLT, Nat.reduceLeDiff, Int.reduceEq, Int.reduceNe, Int.reduceLT, Int.reduceLE, Int.reduceBEq, Int.reduceBNe, Int.reduceToNat, hs.at, hs.p1.at, hn.nd, hn.len]
  refine call_use (search (pr := geAt is key) hs (by omega) rfl (fun i j hij hj hp => ?_) (fun i h hi hs => place1 hs hq hi)) ?_
  · have hx := List.getElem?_eq_getElem hj
    have hy := List.getElem?_eq_getElem (Nat.lt_of_le_of_lt hij hj)
    simp only [geAt, hx, hy, Bool.not_eq_true'] at hp ⊢
    by_cases hij' : i = j
    · subst hij'; exact hp
    · have := List.pairwise_iff_getElem.1 hsrt i j (by omega) hj (by omega)
      cases hjk : ltK is[j].2 key with
      | false => rfl
      | true => rw [ltK_trans this hjk] at hp; cases hp
  · rintro r h ⟨j, hr, hj, hlo, hhi, hs⟩
    subst hr
    have lo' : ∀ i x, is[i]? = some x → i < j → ltK x.2 key = true := fun i x hx hij => by
      have := hlo i hij
      simpa [geAt, hx] using this
    have hi' : ∀ i x, is[i]? = some x → j ≤ i → ltK x.2 key = false := fun i x hx hij => by
      have := hhi i hij (List.getElem?_eq_some_iff.1 hx).1
      simpa [geAt, hx] using this
    have hn := (hq h hs).1
    simp (disch := omega) only [go_sem, reduceCtorEq, ↓reduceIte, Nat.reduceEqDiff, Nat.reduceAdd, Nat.reduceSub, Nat.reduceMul, Nat.reduceLT, Nat.reduceLeDiff, Int.reduceEq, Int.reduceNe, Int.reduceLT, Int.reduceLE, Int.reduceBEq, Int.reduceBNe, Int.reduceToNat, hs.at, hs.p1.at, hn.nd, hn.len]
    refine cnd_dec (fun hlt => ?_) (fun hge => ?_)
    · have hlt : j < is.length := by omega
      have hx := List.getElem?_eq_getElem hlt
      obtain ⟨b, cap, rfl, hb⟩ := hn.arr hx
      obtain ⟨mv, hm⟩ := hn.ks _ (List.getElem_mem hlt)
      have dt : decide ((j : Int) < is.length) = true := by simpa using hlt
      simp (disch := omega) only [go_sem, reduceCtorEq, ↓reduceIte, Nat.reduceEqDiff, Nat.reduceAdd, Nat.reduceSub, Nat.reduceMul, Nat.reduceLT, Nat.reduceLeDiff, Int.reduceEq, Int.reduceNe, Int.reduceLT, Int.reduceLE, Int.reduceBEq, Int.reduceBNe, Int.reduceToNat, hs.at, hs.p1.at, hn.nd, ia_go hlt, hb, kpt_get hx, hm, dt]
      refine ⟨j, _, rfl, ⟨hj, lo', hi', fun hq => ⟨is[j].1, ?_⟩, fun hq x hx' => ?_⟩, hs.drop.drop⟩
      · have : is[j].2 = key := by simpa using hq
        rw [hx, ← this]
      · rw [hx] at hx'
        cases hx'
        have h1 := hi' j _ hx (Nat.le_refl _)
        cases h2 : ltK key is[j].2 with
        | true => rfl
        | false =>
          have := ltK_total h1 h2
          simp [this] at hq
    · have df : decide ((j : Int) < is.length) = false := by simpa using hge
      simp (disch := omega) only [go_sem, reduceCtorEq, ↓reduceIte, Nat.reduceEqDiff, Nat.reduceAdd, Nat.reduceSub, Nat.reduceMul, Nat.reduceLT, Nat.reduceLeDiff, Int.reduceEq, Int.reduceNe, Int.reduceLT, Int.reduceLE, Int.reduceBEq, Int.reduceBNe, Int.reduceToNat, df]
      have hje : j = is.length := by omega
      refine ⟨j, _, rfl, ⟨hj, lo', hi', fun hq => (by cases hq), fun _ x hx => ?_⟩, hs.drop.drop⟩
      subst hje
      simp at hx
end
end Go.Proofs.Ytkclojjeepomfaa
/- find. -/
set_option linter.unusedSimpArgs false
set_option linter.unusedVariables false
set_option maxRecDepth 10000
namespace Go.Proofs.Ytkclojjeepomfaa
open Go.Hz

section
variable {h : Hp} {F : List Asr}
theorem pt_get' {ks : List Tr} {i : Nat} {k : Tr} (hi : ks[i]? = some k) : (ks.map fun k => pt k.root)[i]? = some [.ptr k.root 2 0 0] := by simp [hi, pt]

def findV (l : List Kp) (key : Key) : AV := match findKp key l with
  | some x => .ptr x.1 2 0 0
  | none => .nilp

theorem find {ix : Nat} {rv : AV} {n : Int} {l : List Kp} {key : Key} (hs : sat h F) (hx : ∀ h, sat h F → h ix = some (.row 2 [[rv, .int .i64 n]] 1))
    (hr : (rv = .nilp ∧ l = []) ∨ ∃ d t, rv = .ptr t.root 2 0 0 ∧ t.flat = l ∧ OKd d t ∧ ∀ h, sat h F → RT d t h) (hl : Srt l) :
    Triple Try.prog 78 [.ptr ix 2 0 0, .str key] h (fun r h => r = findV l key ∧ sat h F) := by
  refine t78 (Nat.le_of_ble_eq_true rfl) ?_
  simp (disch := omega) only [F78, go_sem, reduceCtorEq, ↓reduceIte, Nat.reduceEqDiff, Nat.reduceAdd, Nat.reduceSub, Nat.reduceMul, Nat.reduceLT, Nat.reduceLeDiff, Int.reduceEq, Int.reduceNe, Int.reduceLT, Int.reduceLE, Int.reduceBEq, Int.reduceBNe, Int.reduceToNat]
  simp (disch := omega) only [go_sem, reduceCtorEq, ↓reduceIte, Nat.reduceEqDiff, Nat.reduceAdd, Nat.reduceSub, Nat.reduceMul, Nat.reduceLT, Nat.reduceLeDiff, Int.reduceEq, Int.reduceNe, Int.reduceLT, Int.reduceLE, Int.reduceBEq, Int.reduceBNe, Int.reduceToNat, hx h hs]
  have h0 : ∃ m : Nat, (m = 0 ∧ rv = .nilp ∧ findKp key l = none) ∨ ∃ d t, m = d + 1 ∧ rv = .ptr t.root 2 0 0 ∧ (∀ h, sat h F → RT d t h) ∧ OKd d t ∧ Srt t.flat ∧ findKp key t.flat = findKp key l := by
    rcases hr with ⟨rfl, rfl⟩ | ⟨d, t, rfl, rfl, h1, h2⟩
    · exact ⟨0, .inl ⟨rfl, rfl, rfl⟩⟩
    · exact ⟨d + 1, .inr ⟨d, t, rfl, rfl, h2, h1, hl, rfl⟩⟩
  obtain ⟨m0, h0⟩ := h0
  refine run_loopN (fun m e h => sat h F ∧ e 1 = .str key ∧ ((m = 0 ∧ e 5 = .nilp ∧ findKp key l = none) ∨ ∃ d t, m = d + 1 ∧ e 5 = .ptr t.root 2 0 0 ∧ (∀ h, sat h F → RT d t h) ∧ OKd d t ∧ Srt t.flat ∧ findKp key t.flat = findKp key l))
    m0 ⟨hs, rfl, by simp only [Env.upd_apply, ↓reduceIte]; exact h0⟩ ?_
  rintro m e h ⟨hs, he, hr⟩
  rcases hr with ⟨rfl, he5, hn⟩ | ⟨d, t, rfl, he5, hR, ok, hS, hf⟩
  · simp (disch := omega) only [go_sem, reduceCtorEq, ↓reduceIte, Nat.reduceEqDiff, Nat.reduceAdd, Nat.reduceSub, Nat.reduceMul, Nat.reduceLT, Nat.reduceLeDiff, Int.reduceEq, Int.reduceNe, Int.reduceLT, Int.reduceLE, Int.reduceBEq, Int.reduceBNe, Int.reduceToNat, he, he5]
    simp only [findV, hn]
    exact ⟨trivial, hs⟩
  · obtain ⟨p, iv, kv, is, ks⟩ := t
    replace he5 : e 5 = .ptr p 2 0 0 := he5
    have hN := fun h hs => (hR h hs).nr
    rw [Tr.flat_nd] at hf hS
    have hlen : is.length ≤ 5 := by
      cases d with
      | zero => exact ok.1
      | succ d => exact ok.2.1
    simp (disch := omega) only [go_sem, reduceCtorEq, ↓reduceIte, Nat.reduceEqDiff, Nat.reduceAdd, Nat.reduceSub, Nat.reduceMul, Nat.reduceLT, Nat.reduceLeDiff, Int.reduceEq, Int.reduceNe, Int.reduceLT, Int.reduceLE, Int.reduceBEq, Int.reduceBNe, Int.reduceToNat, he, he5]
    refine call_use (place hs hN (weave_srt _ _ hS) (by omega)) ?_
    rintro r h ⟨j, q, hr, hp, hs⟩
    subst hr
    have hn := hN h hs
    simp (disch := omega) only [go_sem, reduceCtorEq, ↓reduceIte, Nat.reduceEqDiff, Nat.reduceAdd, Nat.reduceSub, Nat.reduceMul, Nat.reduceLT, Nat.reduceLeDiff, Int.reduceEq, Int.reduceNe, Int.reduceLT, Int.reduceLE, Int.reduceBEq, Int.reduceBNe, Int.reduceToNat, he, he5]
    cases q
    · simp (disch := omega) only [go_sem, reduceCtorEq, ↓reduceIte, Nat.reduceEqDiff, Nat.reduceAdd, Nat.reduceSub, Nat.reduceMul, Nat.reduceLT, Nat.reduceLeDiff, Int.reduceEq, Int.reduceNe, Int.reduceLT, Int.reduceLE, Int.reduceBEq, Int.reduceBNe, Int.reduceToNat, he, he5, hn.nd, (hR h hs).kv.len]
      cases d with
      | zero =>
        obtain ⟨o1, rfl⟩ := ok
        simp (disch := omega) only [go_sem, reduceCtorEq, ↓reduceIte, Nat.reduceEqDiff, Nat.reduceAdd, Nat.reduceSub, Nat.reduceMul, Nat.reduceLT, Nat.reduceLeDiff, Int.reduceEq, Int.reduceNe, Int.reduceLT, Int.reduceLE, Int.reduceBEq, Int.reduceBNe, Int.reduceToNat, he, he5]
        refine ⟨?_, hs⟩
        have : findKp key l = none := by
          rw [← hf]
          refine findKp_none fun x hx hxk => ?_
          exact hp.none rfl (by simpa [weave] using hS) x hx hxk
        simp only [findV, this]
      | succ d =>
        obtain ⟨o0, o1, o2, o3⟩ := ok
        have hjk : j < ks.length := by have := hp.le; omega
        have hk := List.getElem?_eq_getElem hjk
        obtain ⟨b, cap, hkv, hb, _⟩ := (hR h hs).kv.row (pt_get' hk)
        have hz : ((ks.length : Int) == 0) = false := by rw [beq_eq_false_iff_ne]; omega
        have hlk : (ks.map fun k => pt k.root).length = ks.length := by simp
        rw [hlk] at hkv
        simp (disch := omega) only [go_sem, reduceCtorEq, ↓reduceIte, Nat.reduceEqDiff, Nat.reduceAdd, Nat.reduceSub, Nat.reduceMul, Nat.reduceLT, Nat.reduceLeDiff, Int.reduceEq, Int.reduceNe, Int.reduceLT, Int.reduceLE, Int.reduceBEq, Int.reduceBNe, Int.reduceToNat, he, he5, hz, hn.nd, hkv, ia_go hjk, hb, pt_get' hk]
        refine ⟨d + 1, by omega, hs, .inr ⟨d, ks[j], rfl, rfl, fun h hs => (hR h hs).2.2 _ (List.getElem_mem hjk), (o3 _ (List.getElem_mem hjk)).1, ?_, ?_⟩⟩
        · exact weave_srt2 _ _ _ (by simpa using o2) (List.mem_map_of_mem (List.getElem_mem hjk)) hS
        · rw [← hf]
          obtain ⟨A, C, h1, _, _, h2, _, h3, _⟩ := hp.cut (by simpa using o2) hS
          rw [h1, findKp_mid h2 (h3 rfl)]
          simp [hk]
    · obtain ⟨a, ha⟩ := hp.yes rfl
      have hj := (List.getElem?_eq_some_iff.1 ha).1
      obtain ⟨b, cap, rfl, hb⟩ := hn.arr ha
      simp (disch := omega) only [go_sem, reduceCtorEq, ↓reduceIte, Nat.reduceEqDiff, Nat.reduceAdd, Nat.reduceSub, Nat.reduceMul, Nat.reduceLT, Nat.reduceLeDiff, Int.reduceEq, Int.reduceNe, Int.reduceLT, Int.reduceLE, Int.reduceBEq, Int.reduceBNe, Int.reduceToNat, he, he5, hn.nd, ia_go hj, hb, kpt_get ha]
      refine ⟨?_, hs⟩
      have : findKp key l = some (a, key) := by
        rw [← hf]
        exact findKp_mem (x := (a, key)) hS (mem_weave _ _ (List.mem_of_getElem? ha))
      simp only [findV, this]
end
end Go.Proofs.Ytkclojjeepomfaa
/- walk. -/
set_option linter.unusedSimpArgs false
set_option linter.unusedVariables false
set_option maxRecDepth 10000
namespace Go.Proofs.Ytkclojjeepomfaa
open Go.Hz

section
theorem walk0 {h : Hp} {F : List Asr} (hs : sat h F) (lo hi : Key) (f : AV) : Triple Try.prog 74 [.nilp, .str lo, .str hi, f] h (fun r h => sat h F) := by
  refine t74 (Nat.le_of_ble_eq_true rfl) ?_
  simp (disch := omega) only [F74, go_sem, reduceCtorEq, ↓reduceIte, Nat.reduceEqDiff, Nat.reduceAdd, Nat.reduceSub, Nat.reduceMul, Nat.reduceLT, Nat.reduceLeDiff, Int.reduceEq, Int.reduceNe, Int.reduceLT, Int.reduceLE, Int.reduceBEq, Int.reduceBNe, Int.reduceToNat]
  exact hs

theorem walkN {F : List Asr} {f : Nat} {caps : List AV} {lo hi : Key} {full : List Kp} {A : List Kp → Asr} (hf : okFn Try.prog f = true)
    (hc : ∀ done x h, (done ++ [x]) <+: full → sat h (A done :: F) → Triple Try.prog f (.ptr x.1 2 0 0 :: caps) h fun r h => sat h (A (done ++ [x]) :: F))
    {p : Nat} {iv kv : AV} {is : List Kp} {ks : List Tr} {pre : List Kp} {h : Hp} (h5 : is.length ≤ 5) (hl : ks.map Tr.flat = [] ∨ (ks.map Tr.flat).length = is.length + 1) (hS : Srt (weave (ks.map Tr.flat) is))
    (hN : ∀ h, sat h F → NR p iv kv is h) (hK : ∀ h, sat h F → Ow 1 kv (ks.map fun k => pt k.root) h) (hpre : (pre ++ (weave (ks.map Tr.flat) is).filter (rngK lo hi)) <+: full) (hs : sat h (A pre :: F))
    (ih : ∀ k ∈ ks, ∀ pre h, Srt k.flat → (pre ++ k.flat.filter (rngK lo hi)) <+: full → sat h (A pre :: F) → Triple Try.prog 74 [.ptr k.root 2 0 0, .str lo, .str hi, .fn f caps] h (fun r h => sat h (A (pre ++ k.flat.filter (rngK lo hi)) :: F))) :
    Triple Try.prog 74 [.ptr p 2 0 0, .str lo, .str hi, .fn f caps] h (fun r h => sat h (A (pre ++ (weave (ks.map Tr.flat) is).filter (rngK lo hi)) :: F)) := by
  refine t74 (Nat.le_of_ble_eq_true rfl) ?_
  simp (disch := omega) only [F74, go_sem, reduceCtorEq, ↓reduceIte, Nat.reduceEqDiff, Nat.reduceAdd, Nat.reduceSub, Nat.reduceMul, Nat.reduceLT, Nat.reduceLeDiff, Int.reduceEq, Int.reduceNe, Int.reduceLT, Int.reduceLE, Int.reduceBEq, Int.reduceBNe, Int.reduceToNat]
  refine call_use (place hs (fun h hs => hN h hs.drop) (weave_srt _ _ hS) (by omega)) ?_
  rintro r h ⟨j, q, hr, hp, hs⟩
  subst hr
  have hlo := ahd_lo hp hl hS hi
  simp (disch := omega) only [go_sem, reduceCtorEq, ↓reduceIte, Nat.reduceEqDiff, Nat.reduceAdd, Nat.reduceSub, Nat.reduceMul, Nat.reduceLT, Nat.reduceLeDiff, Int.reduceEq, Int.reduceNe, Int.reduceLT, Int.reduceLE, Int.reduceBEq, Int.reduceBNe, Int.reduceToNat]
  refine run_loopN (fun m e h => ∃ i : Nat, j ≤ i ∧ i ≤ is.length ∧ m = is.length - i ∧ sat h (A (pre ++ (ahd (ks.map Tr.flat) is i).filter (rngK lo hi)) :: F) ∧
    (e 0 = .ptr p 2 0 0 ∧ e 1 = .str lo ∧ e 2 = .str hi ∧ e 3 = .fn f caps ∧ e 8 = .int .i64 i)) (is.length - j) ⟨j, Nat.le_refl _, hp.le, rfl, by rw [hlo]; simpa using hs, rfl, rfl, rfl, rfl, rfl⟩ ?_
  rintro m e h ⟨i, hji, hi2, rfl, hs, he⟩
  obtain ⟨C, hw, hC⟩ := ahd_cut hl hi2
  rw [hw] at hS hpre ⊢
  simp (disch := omega) only [go_sem, reduceCtorEq, ↓reduceIte, Nat.reduceEqDiff, Nat.reduceAdd, Nat.reduceSub, Nat.reduceMul, Nat.reduceLT, Nat.reduceLeDiff, Int.reduceEq, Int.reduceNe, Int.reduceLT, Int.reduceLE, Int.reduceBEq, Int.reduceBNe, Int.reduceToNat, he, (hN h hs.drop).nd, (hK h hs.drop).len]
  refine cnd_join (Q := fun e h => sat h (A (pre ++ (ahd (ks.map Tr.flat) is i ++ (ks.map Tr.flat).getD i []).filter (rngK lo hi)) :: F) ∧ (e 0 = .ptr p 2 0 0 ∧ e 1 = .str lo ∧ e 2 = .str hi ∧ e 3 = .fn f caps ∧ e 8 = .int .i64 i)) ?_ ?_
  · refine cnd_dec (fun hlt => ?_) (fun hge => ?_)
    · have hjk : i < ks.length := by
        rcases hl with hl | hl
        · simp at hl; subst hl; simp at hlt
        · simp at hl; omega
      have hk := List.getElem?_eq_getElem hjk
      have hlk : (ks.map fun k => pt k.root).length = ks.length := by simp
      obtain ⟨b, cap, hkv, hb, _⟩ := (hK h hs.drop).row (pt_get' hk)
      rw [hlk] at hkv
      simp (disch := omega) only [go_sem, reduceCtorEq, ↓reduceIte, Nat.reduceEqDiff, Nat.reduceAdd, Nat.reduceSub, Nat.reduceMul, Nat.reduceLT, Nat.reduceLeDiff, Int.reduceEq, Int.reduceNe, Int.reduceLT, Int.reduceLE, Int.reduceBEq, Int.reduceBNe, Int.reduceToNat, he, (hN h hs.drop).nd, hkv, ia_go hjk, hb, pt_get' hk]
      have eg : (ks.map Tr.flat).getD i [] = ks[i].flat := by simp [hk]
      rw [eg] at hS hpre ⊢
      refine call_use (ih ks[i] (List.getElem_mem hjk) _ _ (Srt.app.1 (Srt.app.1 hS).1).2.1 ?_ hs) ?_
      · refine List.IsPrefix.trans ⟨C.filter (rngK lo hi), ?_⟩ hpre
        simp
      · intro r h hs
        simp (disch := omega) only [go_sem, reduceCtorEq, ↓reduceIte, Nat.reduceEqDiff, Nat.reduceAdd, Nat.reduceSub, Nat.reduceMul, Nat.reduceLT, Nat.reduceLeDiff, Int.reduceEq, Int.reduceNe, Int.reduceLT, Int.reduceLE, Int.reduceBEq, Int.reduceBNe, Int.reduceToNat, he]
        simpa using hs
    · have hk0 : ks = [] := by
        cases ks with
        | nil => rfl
        | cons k ks => simp at hge
      subst hk0
      simp (disch := omega) only [go_sem, reduceCtorEq, ↓reduceIte, Nat.reduceEqDiff, Nat.reduceAdd, Nat.reduceSub, Nat.reduceMul, Nat.reduceLT, Nat.reduceLeDiff, Int.reduceEq, Int.reduceNe, Int.reduceLT, Int.reduceLE, Int.reduceBEq, Int.reduceBNe, Int.reduceToNat, he]
      simpa using hs
  · rintro e h ⟨hs, he⟩
    simp (disch := omega) only [go_sem, reduceCtorEq, ↓reduceIte, Nat.reduceEqDiff, Nat.reduceAdd, Nat.reduceSub, Nat.reduceMul, Nat.reduceLT, Nat.reduceLeDiff, Int.reduceEq, Int.reduceNe, Int.reduceLT, Int.reduceLE, Int.reduceBEq, Int.reduceBNe, Int.reduceToNat, he, (hN h hs.drop).nd, (hN h hs.drop).len]
    by_cases hin : i = is.length
    · have hb : ((i : Int) == (is.length : Int)) = true := by simp [hin]
      simp (disch := omega) only [go_sem, reduceCtorEq, ↓reduceIte, Nat.reduceEqDiff, Nat.reduceAdd, Nat.reduceSub, Nat.reduceMul, Nat.reduceLT, Nat.reduceLeDiff, Int.reduceEq, Int.reduceNe, Int.reduceLT, Int.reduceLE, Int.reduceBEq, Int.reduceBNe, Int.reduceToNat, he, hb]
      have : C = [] := by
        rw [hin] at hC; simpa using hC
      subst this
      simpa using hs
    · have hb : ((i : Int) == (is.length : Int)) = false := by rw [beq_eq_false_iff_ne]; omega
      have hi3 : i < is.length := by omega
      have hx := List.getElem?_eq_getElem hi3
      have hrr : ∀ h, (∀ y : Kp, y = is[i] → rngK lo hi y = true) → sat h (A (pre ++ (ahd (ks.map Tr.flat) is i ++ (ks.map Tr.flat).getD i []).filter (rngK lo hi) ++ [is[i]]) :: F) → sat h (A (pre ++ (ahd (ks.map Tr.flat) is (i + 1)).filter (rngK lo hi)) :: F) := by
        intro h hr hs
        simp only [ahd, hx, Option.toList_some]
        rw [List.filter_append _ [is[i]], List.filter_cons_of_pos (hr _ rfl)]
        simpa using hs
      obtain ⟨C', rfl⟩ : ∃ C', C = is[i] :: C' := by
        rw [hx] at hC
        cases C with
        | nil => cases hC
        | cons c C => cases hC; exact ⟨_, rfl⟩
      have hnlo : ltK is[i].2 lo = false := hp.hi i _ hx hji
      have hpr : rngK lo hi is[i] = true → (pre ++ (ahd (ks.map Tr.flat) is i ++ (ks.map Tr.flat).getD i []).filter (rngK lo hi) ++ [is[i]]) <+: full := fun hr => by
        refine List.IsPrefix.trans ⟨C'.filter (rngK lo hi), ?_⟩ hpre
        rw [List.filter_append _ (is[i] :: C'), List.filter_cons_of_pos hr]
        simp
      by_cases hh : hi = []
      · subst hh
        have hr : rngK lo [] is[i] = true := by simp [rngK, hnlo]
        obtain ⟨b, cap, hiv, hbb⟩ := (hN h hs.drop).arr hx
        have hbn : (([] : Key) != []) = false := rfl
        simp (disch := omega) only [go_sem, reduceCtorEq, ↓reduceIte, Nat.reduceEqDiff, Nat.reduceAdd, Nat.reduceSub, Nat.reduceMul, Nat.reduceLT, Nat.reduceLeDiff, Int.reduceEq, Int.reduceNe, Int.reduceLT, Int.reduceLE, Int.reduceBEq, Int.reduceBNe, Int.reduceToNat, he, hb, hbn, (hN h hs.drop).nd, hiv, ia_go hi3, hbb, kpt_get hx]
        refine callv_use hf (hc _ _ _ (hpr hr) hs) ?_
        intro r h hs
        simp (disch := omega) only [go_sem, reduceCtorEq, ↓reduceIte, Nat.reduceEqDiff, Nat.reduceAdd, Nat.reduceSub, Nat.reduceMul, Nat.reduceLT, Nat.reduceLeDiff, Int.reduceEq, Int.reduceNe, Int.reduceLT, Int.reduceLE, Int.reduceBEq, Int.reduceBNe, Int.reduceToNat, he]
        exact ⟨is.length - (i + 1), by omega, i + 1, by omega, by omega, rfl, hrr h (fun y hy => by rw [hy]; exact hr) hs, rfl⟩
      · have hbn : (hi != []) = true := by simpa using hh
        obtain ⟨b, cap, hiv, hbb⟩ := (hN h hs.drop).arr hx
        obtain ⟨mv, hm⟩ := (hN h hs.drop).ks _ (List.getElem_mem hi3)
        simp (disch := omega) only [go_sem, reduceCtorEq, ↓reduceIte, Nat.reduceEqDiff, Nat.reduceAdd, Nat.reduceSub, Nat.reduceMul, Nat.reduceLT, Nat.reduceLeDiff, Int.reduceEq, Int.reduceNe, Int.reduceLT, Int.reduceLE, Int.reduceBEq, Int.reduceBNe, Int.reduceToNat, he, hb, hbn, (hN h hs.drop).nd, hiv, ia_go hi3, hbb, kpt_get hx, hm]
        cases hlt : Op.bytesLess is[i].2 hi
        · simp (disch := omega) only [go_sem, reduceCtorEq, ↓reduceIte, Nat.reduceEqDiff, Nat.reduceAdd, Nat.reduceSub, Nat.reduceMul, Nat.reduceLT, Nat.reduceLeDiff, Int.reduceEq, Int.reduceNe, Int.reduceLT, Int.reduceLE, Int.reduceBEq, Int.reduceBNe, Int.reduceToNat, he]
          have := rng_hi (lo := lo) (Srt.app.1 hS).2.1 rfl hh hlt
          rw [List.filter_append _ (is[i] :: C'), this]
          simpa using hs
        · have hlt2 : ltK is[i].2 hi = true := hlt
          have hr : rngK lo hi is[i] = true := by simp [rngK, hnlo, hlt2]
          simp (disch := omega) only [go_sem, reduceCtorEq, ↓reduceIte, Nat.reduceEqDiff, Nat.reduceAdd, Nat.reduceSub, Nat.reduceMul, Nat.reduceLT, Nat.reduceLeDiff, Int.reduceEq, Int.reduceNe, Int.reduceLT, Int.reduceLE, Int.reduceBEq, Int.reduceBNe, Int.reduceToNat, he, hb, hbn, (hN h hs.drop).nd, hiv, ia_go hi3, hbb, kpt_get hx]
          refine callv_use hf (hc _ _ _ (hpr hr) hs) ?_
          intro r h hs
          simp (disch := omega) only [go_sem, reduceCtorEq, ↓reduceIte, Nat.reduceEqDiff, Nat.reduceAdd, Nat.reduceSub, Nat.reduceMul, Nat.reduceLT, Nat.reduceLeDiff, Int.reduceEq, Int.reduceNe, Int.reduceLT, Int.reduceLE, Int.reduceBEq, Int.reduceBNe, Int.reduceToNat, he]
          exact ⟨is.length - (i + 1), by omega, i + 1, by omega, by omega, rfl, hrr h (fun y hy => by rw [hy]; exact hr) hs, rfl⟩

theorem walk {F : List Asr} {f : Nat} {caps : List AV} {lo hi : Key} {full : List Kp} {A : List Kp → Asr} (hf : okFn Try.prog f = true)
    (hc : ∀ done x h, (done ++ [x]) <+: full → sat h (A done :: F) → Triple Try.prog f (.ptr x.1 2 0 0 :: caps) h fun r h => sat h (A (done ++ [x]) :: F)) :
    ∀ (d : Nat) (t : Tr) (pre : List Kp) (h : Hp), OKd d t → Srt t.flat → (∀ h, sat h F → RT d t h) → (pre ++ t.flat.filter (rngK lo hi)) <+: full → sat h (A pre :: F) →
      Triple Try.prog 74 [.ptr t.root 2 0 0, .str lo, .str hi, .fn f caps] h (fun r h => sat h (A (pre ++ t.flat.filter (rngK lo hi)) :: F)) := by
  intro d
  induction d with
  | zero =>
    rintro ⟨p, iv, kv, is, ks⟩ pre h ⟨ok, rfl⟩ hS hR hpre hs
    rw [Tr.flat_nd] at hS hpre ⊢
    exact walkN hf hc ok (.inl rfl) hS (fun h hs => (hR h hs).nr) (fun h hs => (hR h hs).kv) hpre hs (fun k hk => by cases hk)
  | succ d ih =>
    rintro ⟨p, iv, kv, is, ks⟩ pre h ok hS hR hpre hs
    obtain ⟨o0, o1, o2, o3⟩ := ok
    rw [Tr.flat_nd] at hS hpre ⊢
    exact walkN hf hc o1 (.inr (by simpa using o2)) hS (fun h hs => (hR h hs).nr) (fun h hs => (hR h hs).kv) hpre hs
      (fun k hk pre h hS hpre hs => ih k pre h (o3 k hk).1 hS (fun h hs => (hR h hs).2.2 k hk) hpre hs)
end
end Go.Proofs.Ytkclojjeepomfaa
/- split, insert. -/
set_option linter.unusedSimpArgs false
set_option linter.unusedVariables false
set_option maxRecDepth 10000
namespace Go.Proofs.Ytkclojjeepomfaa
open Go.Hz

section
variable {h : Hp} {F : List Asr}
theorem split_no {p : Nat} {iv kv : AV} {es : List (List AV)} (hs : sat h (pto p (.row 2 [[iv, kv]] 1) :: Ow 1 iv es :: F)) (h5 : es.length ≤ 5) :
    Triple Try.prog 108 [.ptr p 2 0 0] h (fun r h => r = .tup [.nilp, .nilp] ∧ sat h (pto p (.row 2 [[iv, kv]] 1) :: Ow 1 iv es :: F)) := by
  refine t108 (Nat.le_of_ble_eq_true rfl) ?_
  simp (disch := omega) only [F108, go_sem, reduceCtorEq, ↓reduceIte, Nat.reduceEqDiff, Nat.reduceAdd, Nat.reduceSub, Nat.reduceMul, Nat.reduceLT, Nat.reduceLeDiff, Int.reduceEq, Int.reduceNe, Int.reduceLT, Int.reduceLE, Int.reduceBEq, Int.reduceBNe, Int.reduceToNat]
  have hl := hs.drop.owr.len
  have hd : decide ((es.length : Int) ≤ 5) = true := by simp; omega
  simp (disch := omega) only [go_sem, reduceCtorEq, ↓reduceIte, Nat.reduceEqDiff, Nat.reduceAdd, Nat.reduceSub, Nat.reduceMul, Nat.reduceLT, Nat.reduceLeDiff, Int.reduceEq, Int.reduceNe, Int.reduceLT, Int.reduceLE, Int.reduceBEq, Int.reduceBNe, Int.reduceToNat, hs.at, hl, hd]
  exact hs

theorem split_yes {p : Nat} {iv kv : AV} {ps qs : List Nat} (hs : sat h (pto p (.row 2 [[iv, kv]] 1) :: Ow 1 iv (ps.map pt) :: Ow 1 kv (qs.map pt) :: F)) (h6 : ps.length = 6) (h7 : qs = [] ∨ qs.length = 7) {x : Nat} (hx : ps[3]? = some x) :
    Triple Try.prog 108 [.ptr p 2 0 0] h (fun r h => ∃ p2 iv1 kv1 iv2 kv2, r = .tup [.ptr x 2 0 0, .ptr p2 2 0 0] ∧
      sat h (pto p (.row 2 [[iv1, kv1]] 1) :: Ow 1 iv1 ((ps.take 3).map pt) :: Ow 1 kv1 ((qs.take 4).map pt) :: pto p2 (.row 2 [[iv2, kv2]] 1) :: Ow 1 iv2 ((ps.drop 4).map pt) :: Ow 1 kv2 ((qs.drop 4).map pt) :: F)) := by
  refine Triple.view ?_
  refine t108 (Nat.le_of_ble_eq_true rfl) ?_
  simp (disch := omega) only [F108, go_sem, reduceCtorEq, ↓reduceIte, Nat.reduceEqDiff, Nat.reduceAdd, Nat.reduceSub, Nat.reduceMul, Nat.reduceLT, Nat.reduceLeDiff, Int.reduceEq, Int.reduceNe, Int.reduceLT, Int.reduceLE, Int.reduceBEq, Int.reduceBNe, Int.reduceToNat]
  obtain ⟨b, cap, hiv, hb, hcap⟩ := hs.drop.owr.row (pt_get hx)
  rw [List.length_map, h6] at hiv hcap
  subst hiv
  have hl := hs.drop.drop.owr.len
  rw [List.length_map] at hl
  have g1 := (hs.p1.arr).1
  have e1 : (6 : Int).tdiv 2 = 3 := rfl
  have e2 : ((6 : Nat) : Int) = 6 := rfl
  have e3 : decide ((6 : Int) ≤ 5) = false := rfl
  have hia : iaA 1 (.arr b 1 0 6 cap) (.int .i64 3) = some (.ptr b 1 3 0) := by rw [iaA_go (by omega) (by omega)]; rfl
  have hw : IntKind.i64.wrap 3 = 3 := rfl
  have hw4 : IntKind.i64.wrap 4 = 4 := rfl
  have e5 : (3 : Int) + 1 = 4 := rfl
  simp (disch := omega) only [go_sem, reduceCtorEq, ↓reduceIte, Nat.reduceEqDiff, Nat.reduceAdd, Nat.reduceSub, Nat.reduceMul, Nat.reduceLT, Nat.reduceLeDiff, Int.reduceEq, Int.reduceNe, Int.reduceLT, Int.reduceLE, Int.reduceBEq, Int.reduceBNe, Int.reduceToNat, hs.at, e1, e2, e3, hia, hb, pt_get hx, slcL_lo, hw, hw4, e5]
  refine call_use (clone_item g1 (by omega) (by omega)) ?_
  intro iv2 h hs
  have ht : ((ps.drop (0 + 4)).take (6 - 4)) = ps.drop 4 := by rw [List.take_of_length_le (by simp; omega)]
  rw [ht] at hs
  have hc := hs.owr.len
  have hcl : iv2.cells = [iv2] := hs.els.cells
  have hca : iv2.isAtom = true := hs.els.atom
  simp (disch := omega) only [go_sem, reduceCtorEq, ↓reduceIte, Nat.reduceEqDiff, Nat.reduceAdd, Nat.reduceSub, Nat.reduceMul, Nat.reduceLT, Nat.reduceLeDiff, Int.reduceEq, Int.reduceNe, Int.reduceLT, Int.reduceLE, Int.reduceBEq, Int.reduceBNe, Int.reduceToNat, hcl, hca]
  refine new_opq hs fun p2 h hs => ?_
  simp (disch := omega) only [go_sem, reduceCtorEq, ↓reduceIte, Nat.reduceEqDiff, Nat.reduceAdd, Nat.reduceSub, Nat.reduceMul, Nat.reduceLT, Nat.reduceLeDiff, Int.reduceEq, Int.reduceNe, Int.reduceLT, Int.reduceLE, Int.reduceBEq, Int.reduceBNe, Int.reduceToNat, hs.at, hcl, hca]
  have hp := hs.p3.at
  have hia3 : slcL 1 (.arr b 1 0 6 cap) none (some (.int .i64 3)) = some (.arr b 1 0 3 cap) := by rw [slcL_hi (by omega) (by omega) (by omega)]; rfl
  rcases h7 with rfl | h7
  · have hl : lenL kv = some (.int .i64 0) := hl
    simp (disch := omega) only [go_sem, reduceCtorEq, ↓reduceIte, Nat.reduceEqDiff, Nat.reduceAdd, Nat.reduceSub, Nat.reduceMul, Nat.reduceLT, Nat.reduceLeDiff, Int.reduceEq, Int.reduceNe, Int.reduceLT, Int.reduceLE, Int.reduceBEq, Int.reduceBNe, Int.reduceToNat, hp, hl, hia3]
    have g := hs.p3.set (o' := .row 2 [[.arr b 1 0 3 cap, kv]] 1)
    have gb := g.p3
    refine ⟨_, _, GV.trim _ 3 gb.at, ⟨p2, .arr b 1 0 3 cap, kv, iv2, .nils, rfl, ?_⟩⟩
    have g2 := (gb.set (o' := .row 1 ((ps.map pt).take 3) cap))
    have g3 := g2.ow (by simp; omega)
    have e6 : ((ps.map pt).take 3).length = 3 := by simp; omega
    rw [e6] at g3
    rw [show (ps.take 3).map pt = (ps.map pt).take 3 by simp]
    have g4 := (g3.add (A := Ow 1 .nils ((([] : List Nat).drop 4).map pt)) ow_nil)
    exact g4.p4.p4.p5.p4.p5
  · obtain ⟨y, hy⟩ : ∃ y, qs[0]? = some y := ⟨_, List.getElem?_eq_getElem (by omega)⟩
    have g5 := hs.p3.p3.p3.p3.p4
    obtain ⟨bk, ck, hkv, hbk, hck⟩ := g5.owr.row (pt_get hy)
    rw [List.length_map, h7] at hkv hck
    subst hkv
    have gk := (g5.arr).1
    have hp := gk.p3.p3.p3.p4.at
    have hl7 : decide ((0 : Int) < ((7 : Nat) : Int)) = true := rfl
    have hk3 : slcL 1 (.arr bk 1 0 7 ck) (some (.int .i64 4)) none = some (.arr bk 1 4 3 (ck - 4)) := by rw [slcL_lo (by omega) (by omega) (by omega)]; rfl
    have hk4 : slcL 1 (.arr bk 1 0 7 ck) none (some (.int .i64 4)) = some (.arr bk 1 0 4 ck) := by rw [slcL_hi (by omega) (by omega) (by omega)]; rfl
    simp (disch := omega) only [go_sem, reduceCtorEq, ↓reduceIte, Nat.reduceEqDiff, Nat.reduceAdd, Nat.reduceSub, Nat.reduceMul, Nat.reduceLT, Nat.reduceLeDiff, Int.reduceEq, Int.reduceNe, Int.reduceLT, Int.reduceLE, Int.reduceBEq, Int.reduceBNe, Int.reduceToNat, hp, hl7, hk3, hw4, e5]
    refine call_use (clone_node gk (by omega) (by omega)) ?_
    intro kv2 h hs
    have ht : ((qs.drop 4).take 3) = qs.drop 4 := by rw [List.take_of_length_le (by simp; omega)]
    rw [ht] at hs
    have hcl2 : kv2.cells = [kv2] := hs.els.cells
    have hca2 : kv2.isAtom = true := hs.els.atom
    have g6 := hs.p5.p5.p5.p4.p4.p5
    have g7 := (g6.set (o' := .row 2 [[iv2, kv2]] 1))
    have hp := g7.drop.p1.drop.p1.drop.p1.drop.p1.at
    simp (disch := omega) only [go_sem, reduceCtorEq, ↓reduceIte, Nat.reduceEqDiff, Nat.reduceAdd, Nat.reduceSub, Nat.reduceMul, Nat.reduceLT, Nat.reduceLeDiff, Int.reduceEq, Int.reduceNe, Int.reduceLT, Int.reduceLE, Int.reduceBEq, Int.reduceBNe, Int.reduceToNat, g6.at, hcl2, hca2, hp, hk4, hw4, e5]
    have g8 := (g7.p4.p4.p4.p4.p4.p5).set (o' := .row 2 [[.arr b 1 0 6 cap, .arr bk 1 0 4 ck]] 1)
    simp (disch := omega) only [go_sem, reduceCtorEq, ↓reduceIte, Nat.reduceEqDiff, Nat.reduceAdd, Nat.reduceSub, Nat.reduceMul, Nat.reduceLT, Nat.reduceLeDiff, Int.reduceEq, Int.reduceNe, Int.reduceLT, Int.reduceLE, Int.reduceBEq, Int.reduceBNe, Int.reduceToNat, g8.at, hia3]
    have g9 := (g7.p4.p4.p4.p4.p4.p5).set (o' := .row 2 [[.arr b 1 0 3 cap, .arr bk 1 0 4 ck]] 1)
    have gb := g9.p4.p4.p4.p4.p4.p5
    have gk2 := (gb.set (o' := .row 1 ((ps.map pt).take 3) cap)).p5.p4.p4.p4.p4.p5
    refine ⟨_, _, (GV.trim _ 3 gb.at).trans (GV.trim _ 4 gk2.at), ⟨p2, .arr b 1 0 3 cap, .arr bk 1 0 4 ck, iv2, kv2, rfl, ?_⟩⟩
    have ga := (gk2.set (o' := .row 1 ((qs.map pt).take 4) ck)).ow (by simp; omega)
    have gc := (ga.p5.p5.p5.p5.p4.p5).ow (by simp; omega)
    have e6 : ((ps.map pt).take 3).length = 3 := by simp; omega
    have e7 : ((qs.map pt).take 4).length = 4 := by simp; omega
    rw [e6, e7] at gc
    rw [show (ps.take 3).map pt = (ps.map pt).take 3 by simp, show (qs.take 4).map pt = (qs.map pt).take 4 by simp]
    exact gc.p4.p5.p5.p4.p4.p5

/-- How 'insert' answers for a tree that holds an item more. -/
def InsR (d : Nat) (root : Nat) (l : List Kp) (F : List Asr) (r : AV) (h : Hp) : Prop :=
  (∃ t', r = .tup [.nilp, .nilp] ∧ OKd d t' ∧ t'.root = root ∧ t'.flat = l ∧ sat h (t'.asr :: F)) ∨
  ∃ t1 m t2, r = .tup [.ptr (m : Kp).1 2 0 0, .ptr (Tr.root t2) 2 0 0] ∧ OKd d t1 ∧ OKd d t2 ∧ Tr.root t1 = root ∧ t1.flat ++ m :: t2.flat = l ∧ t1.flat ≠ [] ∧ t2.flat ≠ [] ∧ sat h (t1.asr :: t2.asr :: F)

theorem finish {d p : Nat} {iv kv : AV} {is : List Kp} {ks : List Tr} (h6 : is.length ≤ 6) (ok : OKs d is ks) (hs : sat h (Tr.parts p iv kv is ks ++ F)) :
    Triple Try.prog 108 [.ptr p 2 0 0] h (InsR d p (weave (ks.map Tr.flat) is) F) := by
  by_cases h5 : is.length ≤ 5
  · refine (split_no (iv := iv) (kv := kv) (es := is.map kpt) hs (by simpa using h5)).mono ?_
    rintro r h ⟨rfl, hs⟩
    exact .inl ⟨.nd p iv kv is ks, rfl, okd_nd.2 ⟨h5, ok⟩, rfl, Tr.flat_nd, sat_nd.2 hs⟩
  · have h6 : is.length = 6 := by omega
    have hx := List.getElem?_eq_getElem (l := is) (i := 3) (by omega)
    have h7 : ks.map Tr.root = [] ∨ (ks.map Tr.root).length = 7 := by
      cases d with
      | zero => left; rw [show ks = [] from ok]; rfl
      | succ d => right; rw [List.length_map, ok.2.1, h6]
    unfold Tr.parts at hs
    rw [kpt_pt, rt_pt] at hs
    refine (split_yes (x := is[3].1) hs (by simpa using h6) h7 (by simp [hx])).mono ?_
    rintro r h ⟨p2, iv1, kv1, iv2, kv2, rfl, hs⟩
    have hks : ks.map Tr.asr ++ F = (ks.take 4).map Tr.asr ++ ((ks.drop 4).map Tr.asr ++ F) := by
      rw [← List.append_assoc, ← List.map_append, List.take_append_drop]
    have e3 : is = is.take 3 ++ is[3] :: is.drop 4 := by
      rw [← List.drop_eq_getElem_cons, List.take_append_drop]
    refine .inr ⟨.nd p iv1 kv1 (is.take 3) (ks.take 4), is[3], .nd p2 iv2 kv2 (is.drop 4) (ks.drop 4), rfl, ?_, ?_, rfl, ?_, ?_, ?_, ?_⟩
    · refine okd_nd.2 ⟨by simp; omega, ?_⟩
      cases d with
      | zero => simp only [OKs] at ok ⊢; simp [ok]
      | succ d => exact ⟨by simp; omega, by have := ok.2.1; simp; omega, fun k hk => ok.2.2 k (List.mem_of_mem_take hk)⟩
    · refine okd_nd.2 ⟨by simp; omega, ?_⟩
      cases d with
      | zero => simp only [OKs] at ok ⊢; simp [ok]
      | succ d => exact ⟨by simp; omega, by have := ok.2.1; simp; omega, fun k hk => ok.2.2 k (List.mem_of_mem_drop hk)⟩
    · rw [Tr.flat_nd, Tr.flat_nd]
      cases d with
      | zero =>
        have hk : ks = [] := ok
        subst hk
        simp only [List.take_nil, List.drop_nil, List.map_nil, weave_nil]
        exact e3.symm
      | succ d =>
        have := weave_cut ((ks.take 4).map Tr.flat) ((ks.drop 4).map Tr.flat) (is.take 3) (is.drop 4) is[3] (by have := ok.2.1; simp; omega)
        rw [← this, ← List.map_append, List.take_append_drop, ← e3]
    · rw [Tr.flat_nd]; exact weave_ne (by simp; omega)
    · rw [Tr.flat_nd]; exact weave_ne (by simp; omega)
    · refine sat_nd.2 ?_
      have hq : sat h ([pto p (.row 2 [[iv1, kv1]] 1), Ow 1 iv1 ((is.take 3).map kpt), Ow 1 kv1 ((ks.take 4).map fun k => pt k.root)] ++ ((ks.take 4).map Tr.asr ++ (Tr.parts p2 iv2 kv2 (is.drop 4) (ks.drop 4) ++ F))) := by
        have g := hs
        rw [show (((is.map fun x => x.1).take 3).map pt) = (is.take 3).map kpt by rw [kpt_pt]; simp, show (((is.map fun x => x.1).drop 4).map pt) = (is.drop 4).map kpt by rw [kpt_pt]; simp,
          show (((ks.map Tr.root).take 4).map pt) = (ks.take 4).map (fun k => pt k.root) by rw [rt_pt]; simp, show (((ks.map Tr.root).drop 4).map pt) = (ks.drop 4).map (fun k => pt k.root) by rw [rt_pt]; simp] at g
        refine sat.tls (l1 := [pto p (.row 2 [[iv1, kv1]] 1), Ow 1 iv1 ((is.take 3).map kpt), Ow 1 kv1 ((ks.take 4).map fun k => pt k.root)]) g fun h g => ?_
        have g2 : sat h ([pto p2 (.row 2 [[iv2, kv2]] 1), Ow 1 iv2 ((is.drop 4).map kpt), Ow 1 kv2 ((ks.drop 4).map fun k => pt k.root)] ++ ((ks.take 4).map Tr.asr ++ ((ks.drop 4).map Tr.asr ++ F))) := by
          rw [← hks]; exact g
        exact g2.swapl
      have hq2 : sat h (Tr.parts p iv1 kv1 (is.take 3) (ks.take 4) ++ (Tr.parts p2 iv2 kv2 (is.drop 4) (ks.drop 4) ++ F)) := by
        exact hq
      exact hq2.tls fun h g => sat_nd.2 g
end
end Go.Proofs.Ytkclojjeepomfaa
/- insert. -/
set_option linter.unusedSimpArgs false
set_option linter.unusedVariables false
set_option maxRecDepth 10000
namespace Go.Proofs.Ytkclojjeepomfaa
open Go.Hz

section
variable {h : Hp} {F : List Asr}
theorem insK_place {is : List Kp} {x : Kp} {j : Nat} {q : Bool} (hp : PlaceR is x.2 j q) : is.take j ++ x :: is.drop j = insK x is := by
  have := insK_split (x := x) (A := is.take j) (C := is.drop j) (fun y hy => ?_) (fun y hy => ?_)
  · rw [List.take_append_drop] at this; exact this.symm
  · obtain ⟨i, hi⟩ := List.getElem?_of_mem hy
    rw [List.getElem?_take] at hi
    split at hi
    · exact hp.lo i y hi (by assumption)
    · cases hi
  · rw [List.head?_drop] at hy
    exact hp.hi j y hy (Nat.le_refl _)

theorem insert : ∀ (d : Nat) (t : Tr) (x : Kp) {h : Hp} {F : List Asr}, OKd d t → Srt t.flat → sat h (t.asr :: F) → (∀ h, sat h F → IR t.flat h) → (∀ h, sat h F → ∃ mv, h x.1 = some (.row 2 [[.str x.2, mv]] 1)) →
    Triple Try.prog 93 [.ptr t.root 2 0 0, .ptr x.1 2 0 0] h (InsR d t.root (insK x t.flat) F) := by
  intro d
  induction d with
  | zero =>
    rintro ⟨p, iv, kv, is, ks⟩ x h F ⟨h5, rfl⟩ hS hs hI hX
    rw [Tr.flat_nd] at hS hI ⊢
    have hs := sat_nd.1 hs
    have hN : ∀ h, sat h (Tr.parts p iv kv is [] ++ F) → NR p iv kv is h := fun h hs => ⟨hs.at, hs.drop.owr, fun y hy => hI h hs.right y (mem_weave _ _ hy)⟩
    obtain ⟨mv, hx⟩ := hX h hs.right
    refine t93 (Nat.le_of_ble_eq_true rfl) ?_
    simp (disch := omega) only [F93, Tr.root, go_sem, reduceCtorEq, ↓reduceIte, Nat.reduceEqDiff, Nat.reduceAdd, Nat.reduceSub, Nat.reduceMul, Nat.reduceLT, Nat.reduceLeDiff, Int.reduceEq, Int.reduceNe, Int.reduceLT, Int.reduceLE, Int.reduceBEq, Int.reduceBNe, Int.reduceToNat]
    simp (disch := omega) only [go_sem, reduceCtorEq, ↓reduceIte, Nat.reduceEqDiff, Nat.reduceAdd, Nat.reduceSub, Nat.reduceMul, Nat.reduceLT, Nat.reduceLeDiff, Int.reduceEq, Int.reduceNe, Int.reduceLT, Int.reduceLE, Int.reduceBEq, Int.reduceBNe, Int.reduceToNat, hx]
    refine call_use (place hs hN (weave_srt _ _ hS) (by omega)) ?_
    rintro r h ⟨j, q, hr, hp, hs⟩
    subst hr
    have hkl := hs.drop.drop.owr.len
    simp (disch := omega) only [go_sem, reduceCtorEq, ↓reduceIte, Nat.reduceEqDiff, Nat.reduceAdd, Nat.reduceSub, Nat.reduceMul, Nat.reduceLT, Nat.reduceLeDiff, Int.reduceEq, Int.reduceNe, Int.reduceLT, Int.reduceLE, Int.reduceBEq, Int.reduceBNe, Int.reduceToNat, (hN h hs).nd, hkl]
    refine new_opq hs fun bx h hs => ?_
    simp (disch := omega) only [go_sem, reduceCtorEq, ↓reduceIte, Nat.reduceEqDiff, Nat.reduceAdd, Nat.reduceSub, Nat.reduceMul, Nat.reduceLT, Nat.reduceLeDiff, Int.reduceEq, Int.reduceNe, Int.reduceLT, Int.reduceLE, Int.reduceBEq, Int.reduceBNe, Int.reduceToNat, hs.at]
    have hs' : sat h (pto bx (.row 1 [pt x.1] 1) :: pto p (.row 2 [[iv, kv]] 1) :: Ow 1 iv (is.map kpt) :: Ow 1 kv ([] : List (List AV)) :: F) := hs
    rw [kpt_pt] at hs'
    refine call_use (ins_item (x := x.1) (i := j) (hs'.p3.p2.p2.p3) (by simpa using hp.le) (by simp; omega) (Nat.le_refl _)) ?_
    intro iv' h hs
    have hc := hs.els.cells
    have ha := hs.els.atom
    have g := hs.p1
    simp (disch := omega) only [go_sem, reduceCtorEq, ↓reduceIte, Nat.reduceEqDiff, Nat.reduceAdd, Nat.reduceSub, Nat.reduceMul, Nat.reduceLT, Nat.reduceLeDiff, Int.reduceEq, Int.reduceNe, Int.reduceLT, Int.reduceLE, Int.reduceBEq, Int.reduceBNe, Int.reduceToNat, g.at, hc, ha]
    have g2 := g.set (o' := .row 2 [[iv', kv]] 1)
    have e1 : ((is.map fun x => x.1).take j ++ x.1 :: (is.map fun x => x.1).drop j).map pt = (insK x is).map kpt := by
      rw [← insK_place hp, kpt_pt]; simp
    rw [e1] at g2
    refine call_use (finish (d := 0) (is := insK x is) (ks := []) (by rw [insK_len]; omega) rfl g2) ?_
    intro r h hr
    rcases hr with ⟨t', rfl, hr⟩ | ⟨t1, m, t2, rfl, hr⟩
    · simp (disch := omega) only [go_sem, reduceCtorEq, ↓reduceIte, Nat.reduceEqDiff, Nat.reduceAdd, Nat.reduceSub, Nat.reduceMul, Nat.reduceLT, Nat.reduceLeDiff, Int.reduceEq, Int.reduceNe, Int.reduceLT, Int.reduceLE, Int.reduceBEq, Int.reduceBNe, Int.reduceToNat]
      exact .inl ⟨t', rfl, hr⟩
    · simp (disch := omega) only [go_sem, reduceCtorEq, ↓reduceIte, Nat.reduceEqDiff, Nat.reduceAdd, Nat.reduceSub, Nat.reduceMul, Nat.reduceLT, Nat.reduceLeDiff, Int.reduceEq, Int.reduceNe, Int.reduceLT, Int.reduceLE, Int.reduceBEq, Int.reduceBNe, Int.reduceToNat]
      exact .inr ⟨t1, m, t2, rfl, hr⟩
  | succ d ih =>
    rintro ⟨p, iv, kv, is, ks⟩ x h F ⟨o0, o1, o2, o3⟩ hS hs hI hX
    rw [Tr.flat_nd] at hS hI ⊢
    have hs := sat_nd.1 hs
    have hN : ∀ h, sat h (Tr.parts p iv kv is ks ++ F) → NR p iv kv is h := fun h hs => ⟨hs.at, hs.drop.owr, fun y hy => hI h hs.right y (mem_weave _ _ hy)⟩
    obtain ⟨mv, hx⟩ := hX h hs.right
    refine t93 (Nat.le_of_ble_eq_true rfl) ?_
    simp (disch := omega) only [F93, Tr.root, go_sem, reduceCtorEq, ↓reduceIte, Nat.reduceEqDiff, Nat.reduceAdd, Nat.reduceSub, Nat.reduceMul, Nat.reduceLT, Nat.reduceLeDiff, Int.reduceEq, Int.reduceNe, Int.reduceLT, Int.reduceLE, Int.reduceBEq, Int.reduceBNe, Int.reduceToNat]
    simp (disch := omega) only [go_sem, reduceCtorEq, ↓reduceIte, Nat.reduceEqDiff, Nat.reduceAdd, Nat.reduceSub, Nat.reduceMul, Nat.reduceLT, Nat.reduceLeDiff, Int.reduceEq, Int.reduceNe, Int.reduceLT, Int.reduceLE, Int.reduceBEq, Int.reduceBNe, Int.reduceToNat, hx]
    refine call_use (place hs hN (weave_srt _ _ hS) (by omega)) ?_
    rintro r h ⟨j, q, hr, hp, hs⟩
    subst hr
    have hjk : j < ks.length := by have := hp.le; omega
    have hk := List.getElem?_eq_getElem hjk
    have hlk : (ks.map fun k => pt k.root).length = ks.length := by simp
    obtain ⟨b, cap, hkv, hb, _⟩ := hs.drop.drop.owr.row (pt_get' hk)
    rw [hlk] at hkv
    have hz : ((ks.length : Int) == 0) = false := by rw [beq_eq_false_iff_ne]; omega
    simp (disch := omega) only [go_sem, reduceCtorEq, ↓reduceIte, Nat.reduceEqDiff, Nat.reduceAdd, Nat.reduceSub, Nat.reduceMul, Nat.reduceLT, Nat.reduceLeDiff, Int.reduceEq, Int.reduceNe, Int.reduceLT, Int.reduceLE, Int.reduceBEq, Int.reduceBNe, Int.reduceToNat, (hN h hs).nd, hkv, hz, ia_go hjk, hb, pt_get' hk]
    obtain ⟨A, C, w1, w2, w3, cA, cC, _, hC⟩ := hp.cut (by simpa using o2) hS
    have hkf : (ks.map Tr.flat).getD j [] = ks[j].flat := by simp [hk]
    rw [hkf] at w1
    have hins : insK x (weave (ks.map Tr.flat) is) = A ++ insK x ks[j].flat ++ C := by
      rw [w1]; exact insK_mid cA fun y hy => cC y (List.mem_of_mem_head? hy)
    have eks : ks = ks.take j ++ ks[j] :: ks.drop (j + 1) := by rw [← List.drop_eq_getElem_cons, List.take_append_drop]
    have hq : sat h (ks[j].asr :: ([pto p (.row 2 [[iv, kv]] 1), Ow 1 iv (is.map kpt), Ow 1 kv (ks.map fun k => pt k.root)] ++ ((ks.take j).map Tr.asr ++ ((ks.drop (j + 1)).map Tr.asr ++ F)))) := by
      have g : sat h (([pto p (.row 2 [[iv, kv]] 1), Ow 1 iv (is.map kpt), Ow 1 kv (ks.map fun k => pt k.root)] ++ (ks.take j).map Tr.asr) ++ ks[j].asr :: ((ks.drop (j + 1)).map Tr.asr ++ F)) := by
        have e : Tr.parts p iv kv is ks ++ F = ([pto p (.row 2 [[iv, kv]] 1), Ow 1 iv (is.map kpt), Ow 1 kv (ks.map fun k => pt k.root)] ++ (ks.take j).map Tr.asr) ++ ks[j].asr :: ((ks.drop (j + 1)).map Tr.asr ++ F) := by
          have em : ks.map Tr.asr = (ks.take j).map Tr.asr ++ ks[j].asr :: (ks.drop (j + 1)).map Tr.asr := by
            conv => lhs; rw [eks]
            rw [List.map_append, List.map_cons]
          unfold Tr.parts
          rw [em]
          simp only [List.cons_append, List.nil_append, List.append_assoc]
        rw [← e]; exact hs
      have := g.mid
      rw [List.append_assoc] at this
      exact this
    have hnm := List.getElem_mem hjk
    have back : ∀ (t' : Tr) h, t'.root = ks[j].root → sat h (t'.asr :: ([pto p (.row 2 [[iv, kv]] 1), Ow 1 iv (is.map kpt), Ow 1 kv (ks.map fun k => pt k.root)] ++ ((ks.take j).map Tr.asr ++ ((ks.drop (j + 1)).map Tr.asr ++ F)))) →
        sat h (Tr.parts p iv kv is (ks.set j t') ++ F) := by
      intro t' h hroot g
      rw [← List.append_assoc] at g
      have g2 := g.unmid
      have er : (ks.set j t').map (fun k => pt k.root) = ks.map fun k => pt k.root := by
        rw [List.map_set, hroot]
        apply List.ext_getElem (by simp)
        intro i h1 h2
        rw [List.getElem_set]
        split
        · rename_i hij; subst hij; simp
        · rfl
      unfold Tr.parts
      rw [er, List.set_eq_take_append_cons_drop, if_pos hjk]
      simpa using g2
    refine call_use (ih ks[j] x (o3 _ hnm).1 (weave_srt2 _ _ _ (by simpa using o2) (List.mem_map_of_mem hnm) hS) hq (fun h hs => fun y hy => ?_) (fun h hs => ?_)) ?_
    · have := hs.right.right.right
      exact hI h this y (mem_weave2 _ _ ks[j].flat (by simpa using o2) (List.mem_map_of_mem hnm) hy)
    · exact hX h hs.right.right.right
    · intro r h hr
      rcases hr with ⟨t', rfl, okt, hroot, hfl, hs⟩ | ⟨t1, m, t2, rfl, ok1, ok2, hroot, hfl, hne1, hne2, hs⟩
      · have g := back t' h hroot hs
        simp (disch := omega) only [go_sem, reduceCtorEq, ↓reduceIte, Nat.reduceEqDiff, Nat.reduceAdd, Nat.reduceSub, Nat.reduceMul, Nat.reduceLT, Nat.reduceLeDiff, Int.reduceEq, Int.reduceNe, Int.reduceLT, Int.reduceLE, Int.reduceBEq, Int.reduceBNe, Int.reduceToNat]
        have hwf : weave ((ks.set j t').map Tr.flat) is = insK x (weave (ks.map Tr.flat) is) := by
          rw [hins, List.map_set, w2, hfl]
        rw [← hwf]
        refine call_use (finish (d := d + 1) (ks := ks.set j t') (by omega) ⟨o0, by simpa using o2, fun k hk' => ?_⟩ g) ?_
        · rcases List.mem_or_eq_of_mem_set hk' with h1 | h1
          · exact o3 k h1
          · subst h1
            refine ⟨okt, ?_⟩
            rw [hfl]; intro h0
            have := congrArg List.length h0
            rw [insK_len] at this; simp at this
        · intro r h hr
          rcases hr with ⟨t', rfl, hr⟩ | ⟨t1, m, t2, rfl, hr⟩
          · simp (disch := omega) only [go_sem, reduceCtorEq, ↓reduceIte, Nat.reduceEqDiff, Nat.reduceAdd, Nat.reduceSub, Nat.reduceMul, Nat.reduceLT, Nat.reduceLeDiff, Int.reduceEq, Int.reduceNe, Int.reduceLT, Int.reduceLE, Int.reduceBEq, Int.reduceBNe, Int.reduceToNat]
            exact .inl ⟨t', rfl, hr⟩
          · simp (disch := omega) only [go_sem, reduceCtorEq, ↓reduceIte, Nat.reduceEqDiff, Nat.reduceAdd, Nat.reduceSub, Nat.reduceMul, Nat.reduceLT, Nat.reduceLeDiff, Int.reduceEq, Int.reduceNe, Int.reduceLT, Int.reduceLE, Int.reduceBEq, Int.reduceBNe, Int.reduceToNat]
            exact .inr ⟨t1, m, t2, rfl, hr⟩
      · have g0 : sat h (pto p (.row 2 [[iv, kv]] 1) :: Ow 1 iv (is.map kpt) :: Ow 1 kv (ks.map fun k => pt k.root) :: t1.asr :: t2.asr :: ((ks.take j).map Tr.asr ++ ((ks.drop (j + 1)).map Tr.asr ++ F))) :=
          hs.p1.p1.p4.p4.p4
        simp (disch := omega) only [go_sem, reduceCtorEq, ↓reduceIte, Nat.reduceEqDiff, Nat.reduceAdd, Nat.reduceSub, Nat.reduceMul, Nat.reduceLT, Nat.reduceLeDiff, Int.reduceEq, Int.reduceNe, Int.reduceLT, Int.reduceLE, Int.reduceBEq, Int.reduceBNe, Int.reduceToNat, g0.at]
        have hs := g0
        refine new_opq hs fun bx h hs => ?_
        simp (disch := omega) only [go_sem, reduceCtorEq, ↓reduceIte, Nat.reduceEqDiff, Nat.reduceAdd, Nat.reduceSub, Nat.reduceMul, Nat.reduceLT, Nat.reduceLeDiff, Int.reduceEq, Int.reduceNe, Int.reduceLT, Int.reduceLE, Int.reduceBEq, Int.reduceBNe, Int.reduceToNat, hs.at]
        rw [kpt_pt] at hs
        refine call_use (ins_item (x := m.1) (i := j) (hs.p3.p2.p2.p3) (by simpa using hp.le) (by simp; omega) (Nat.le_refl _)) ?_
        intro iv' h hs
        have hc := hs.els.cells
        have ha := hs.els.atom
        have g := hs.p1
        simp (disch := omega) only [go_sem, reduceCtorEq, ↓reduceIte, Nat.reduceEqDiff, Nat.reduceAdd, Nat.reduceSub, Nat.reduceMul, Nat.reduceLT, Nat.reduceLeDiff, Int.reduceEq, Int.reduceNe, Int.reduceLT, Int.reduceLE, Int.reduceBEq, Int.reduceBNe, Int.reduceToNat, g.at, hc, ha]
        have hj1 : (j : Int) + 1 = ((j + 1 : Nat) : Int) := rfl
        have hs := g.set (o' := .row 2 [[iv', kv]] 1)
        simp (disch := omega) only [go_sem, reduceCtorEq, ↓reduceIte, Nat.reduceEqDiff, Nat.reduceAdd, Nat.reduceSub, Nat.reduceMul, Nat.reduceLT, Nat.reduceLeDiff, Int.reduceEq, Int.reduceNe, Int.reduceLT, Int.reduceLE, Int.reduceBEq, Int.reduceBNe, Int.reduceToNat, hs.at, hj1]
        refine new_opq hs fun b2 h hs => ?_
        simp (disch := omega) only [go_sem, reduceCtorEq, ↓reduceIte, Nat.reduceEqDiff, Nat.reduceAdd, Nat.reduceSub, Nat.reduceMul, Nat.reduceLT, Nat.reduceLeDiff, Int.reduceEq, Int.reduceNe, Int.reduceLT, Int.reduceLE, Int.reduceBEq, Int.reduceBNe, Int.reduceToNat, hs.at]
        rw [rt_pt] at hs
        refine call_use (ins_node (x := t2.root) (i := j + 1) (hs.p2.p2.p2.p3) (by simp; omega) (by simp; omega) (Nat.le_refl _)) ?_
        intro kv' h hs
        have hc := hs.els.cells
        have ha := hs.els.atom
        have g := hs.p1
        simp (disch := omega) only [go_sem, reduceCtorEq, ↓reduceIte, Nat.reduceEqDiff, Nat.reduceAdd, Nat.reduceSub, Nat.reduceMul, Nat.reduceLT, Nat.reduceLeDiff, Int.reduceEq, Int.reduceNe, Int.reduceLT, Int.reduceLE, Int.reduceBEq, Int.reduceBNe, Int.reduceToNat, g.at, hc, ha]
        have g2 := g.set (o' := .row 2 [[iv', kv']] 1)
        have e1 : ((is.map fun x => x.1).take j ++ m.1 :: (is.map fun x => x.1).drop j).map pt = (is.take j ++ m :: is.drop j).map kpt := by
          rw [kpt_pt]; simp
        have e2 : ((ks.map Tr.root).take (j + 1) ++ t2.root :: (ks.map Tr.root).drop (j + 1)).map pt = (ks.take j ++ t1 :: t2 :: ks.drop (j + 1)).map fun k => pt k.root := by
          have : (ks.map Tr.root).take (j + 1) = (ks.take j).map Tr.root ++ [t1.root] := by
            rw [List.take_succ_eq_append_getElem (by simpa using hjk), hroot]; simp
          rw [this, rt_pt]; simp
        rw [e1, e2] at g2
        generalize h.set p (.row 2 [[iv', kv']] 1) = hh at g2 ⊢
        have g3 : sat hh (Tr.parts p iv' kv' (is.take j ++ m :: is.drop j) (ks.take j ++ t1 :: t2 :: ks.drop (j + 1)) ++ F) := by
          have e3 : Tr.parts p iv' kv' (is.take j ++ m :: is.drop j) (ks.take j ++ t1 :: t2 :: ks.drop (j + 1)) ++ F =
              [pto p (.row 2 [[iv', kv']] 1), Ow 1 iv' ((is.take j ++ m :: is.drop j).map kpt), Ow 1 kv' ((ks.take j ++ t1 :: t2 :: ks.drop (j + 1)).map fun k => pt k.root)] ++ ((ks.take j).map Tr.asr ++ ([t1.asr, t2.asr] ++ ((ks.drop (j + 1)).map Tr.asr ++ F))) := by
            unfold Tr.parts
            simp only [List.map_append, List.map_cons, List.cons_append, List.nil_append, List.append_assoc]
          rw [e3]
          refine sat.tls (l := [t1.asr, t2.asr] ++ ((ks.take j).map Tr.asr ++ ((ks.drop (j + 1)).map Tr.asr ++ F))) (g2.p4.p4.p3.p4.p4) fun h g => g.swapl
        have hwf : weave ((ks.take j ++ t1 :: t2 :: ks.drop (j + 1)).map Tr.flat) (is.take j ++ m :: is.drop j) = insK x (weave (ks.map Tr.flat) is) := by
          have := w3 t1.flat m t2.flat
          rw [hins, ← hfl]
          simp only [List.map_append, List.map_cons, List.map_take, List.map_drop]
          rw [this]; simp
        rw [← hwf]
        refine call_use (finish (d := d + 1) (by simp; have := hp.le; omega) ⟨by simp; omega, by simp; have := hp.le; omega, fun k hk' => ?_⟩ g3) ?_
        · rcases List.mem_append.1 hk' with h1 | h1
          · exact o3 k (List.mem_of_mem_take h1)
          · rcases List.mem_cons.1 h1 with h1 | h1
            · subst h1; exact ⟨ok1, hne1⟩
            · rcases List.mem_cons.1 h1 with h1 | h1
              · subst h1; exact ⟨ok2, hne2⟩
              · exact o3 k (List.mem_of_mem_drop h1)
        · intro r h hr
          rcases hr with ⟨t', rfl, hr⟩ | ⟨t1, m, t2, rfl, hr⟩
          · simp (disch := omega) only [go_sem, reduceCtorEq, ↓reduceIte, Nat.reduceEqDiff, Nat.reduceAdd, Nat.reduceSub, Nat.reduceMul, Nat.reduceLT, Nat.reduceLeDiff, Int.reduceEq, Int.reduceNe, Int.reduceLT, Int.reduceLE, Int.reduceBEq, Int.reduceBNe, Int.reduceToNat]
            exact .inl ⟨t', rfl, hr⟩
          · simp (disch := omega) only [go_sem, reduceCtorEq, ↓reduceIte, Nat.reduceEqDiff, Nat.reduceAdd, Nat.reduceSub, Nat.reduceMul, Nat.reduceLT, Nat.reduceLeDiff, Int.reduceEq, Int.reduceNe, Int.reduceLT, Int.reduceLE, Int.reduceBEq, Int.reduceBNe, Int.reduceToNat]
            exact .inr ⟨t1, m, t2, rfl, hr⟩
end
end Go.Proofs.Ytkclojjeepomfaa
/- add, New, Len, Height. -/
set_option linter.unusedSimpArgs false
set_option linter.unusedVariables false
set_option maxRecDepth 10000
namespace Go.Proofs.Ytkclojjeepomfaa
open Go.Hz

section
variable {h : Hp} {F : List Asr}
theorem ixNew (hs : sat h F) : Triple Try.prog 31 [] h (fun r h => ∃ b, r = .ptr b 2 0 0 ∧ sat h (IxQ b [] :: F)) := by
  refine t31 (Nat.le_of_ble_eq_true rfl) ?_
  simp (disch := omega) only [F31, go_sem, reduceCtorEq, ↓reduceIte, Nat.reduceEqDiff, Nat.reduceAdd, Nat.reduceSub, Nat.reduceMul, Nat.reduceLT, Nat.reduceLeDiff, Int.reduceEq, Int.reduceNe, Int.reduceLT, Int.reduceLE, Int.reduceBEq, Int.reduceBNe, Int.reduceToNat]
  refine new_opq hs fun b h hs => ?_
  simp (disch := omega) only [go_sem, reduceCtorEq, ↓reduceIte, Nat.reduceEqDiff, Nat.reduceAdd, Nat.reduceSub, Nat.reduceMul, Nat.reduceLT, Nat.reduceLeDiff, Int.reduceEq, Int.reduceNe, Int.reduceLT, Int.reduceLE, Int.reduceBEq, Int.reduceBNe, Int.reduceToNat, hs.at]
  exact ⟨b, rfl, sat_ixq.2 ⟨none, rfl, hs.tl fun _ g => g.add trivial⟩⟩

theorem eqN_root (r : Option (Nat × Tr)) : eqN .ptr (rootV r) .nilp = some r.isNone := by
  cases r <;> rfl
theorem root_cells (r : Option (Nat × Tr)) : (rootV r).cells = [rootV r] := by
  cases r <;> rfl
theorem root_atom (r : Option (Nat × Tr)) : (rootV r).isAtom = true := by
  cases r <;> rfl

theorem ixAdd {b : Nat} {its : List Ixt} {x : Ixt} (hs : sat h (IxQ b its :: x.p :: F)) (hS : SrtI its) (hx : ∀ y ∈ its, y.key ≠ x.key) (hl : its.length ≤ 1000000000) :
    Triple Try.prog 77 [.ptr b 2 0 0, .ptr x.a 2 0 0] h (fun r h => sat h (IxQ b (insIt x its) :: F)) := by
  obtain ⟨r, hok, g⟩ := sat_ixq.1 hs
  refine t77 (Nat.le_of_ble_eq_true rfl) ?_
  simp (disch := omega) only [F77, go_sem, reduceCtorEq, ↓reduceIte, Nat.reduceEqDiff, Nat.reduceAdd, Nat.reduceSub, Nat.reduceMul, Nat.reduceLT, Nat.reduceLeDiff, Int.reduceEq, Int.reduceNe, Int.reduceLT, Int.reduceLE, Int.reduceBEq, Int.reduceBNe, Int.reduceToNat]
  have h1 := g.at
  have en : ((its.length : Int) + 1) = ((its.length + 1 : Nat) : Int) := rfl
  have g1 := g.set (o' := .row 2 [[rootV r, .int .i64 ((its.length + 1 : Nat) : Int)]] 1)
  have hw : IntKind.i64.wrap ((its.length + 1 : Nat) : Int) = ((its.length + 1 : Nat) : Int) := wrap_i64_go (by omega) (by omega)
  simp (disch := omega) only [go_sem, reduceCtorEq, ↓reduceIte, Nat.reduceEqDiff, Nat.reduceAdd, Nat.reduceSub, Nat.reduceMul, Nat.reduceLT, Nat.reduceLeDiff, Int.reduceEq, Int.reduceNe, Int.reduceLT, Int.reduceLE, Int.reduceBEq, Int.reduceBNe, Int.reduceToNat, h1, en, hw, eqN_root]
  refine cnd_join (Q := fun e h => ∃ d t, OKd d t ∧ t.flat = its.map Ixt.kp ∧ sat h (pto b (.row 2 [[.ptr t.root 2 0 0, .int .i64 ((its.length + 1 : Nat) : Int)]] 1) :: t.asr :: (its.map Ixt.p ++ x.p :: F)) ∧ (e 0 = .ptr b 2 0 0 ∧ e 1 = .ptr x.a 2 0 0)) ?_ ?_
  · cases r with
    | none =>
      have hi0 : its.map Ixt.kp = [] := hok
      simp only [rootV] at g1 ⊢
      simp (disch := omega) only [go_sem, reduceCtorEq, ↓reduceIte, Nat.reduceEqDiff, Nat.reduceAdd, Nat.reduceSub, Nat.reduceMul, Nat.reduceLT, Nat.reduceLeDiff, Int.reduceEq, Int.reduceNe, Int.reduceLT, Int.reduceLE, Int.reduceBEq, Int.reduceBNe, Int.reduceToNat, Option.isNone_none]
      have hs := g1
      refine new_opq hs fun p h hs => ?_
      simp (disch := omega) only [go_sem, reduceCtorEq, ↓reduceIte, Nat.reduceEqDiff, Nat.reduceAdd, Nat.reduceSub, Nat.reduceMul, Nat.reduceLT, Nat.reduceLeDiff, Int.reduceEq, Int.reduceNe, Int.reduceLT, Int.reduceLE, Int.reduceBEq, Int.reduceBNe, Int.reduceToNat, hs.at]
      have g2 := hs.p1.set (o' := .row 2 [[.ptr p 2 0 0, .int .i64 ((its.length + 1 : Nat) : Int)]] 1)
      simp (disch := omega) only [go_sem, reduceCtorEq, ↓reduceIte, Nat.reduceEqDiff, Nat.reduceAdd, Nat.reduceSub, Nat.reduceMul, Nat.reduceLT, Nat.reduceLeDiff, Int.reduceEq, Int.reduceNe, Int.reduceLT, Int.reduceLE, Int.reduceBEq, Int.reduceBNe, Int.reduceToNat, hs.p1.at]
      refine ⟨0, .nd p .nils .nils [] [], ⟨by simp, rfl⟩, by rw [hi0, Tr.flat_nd]; rfl, ?_⟩
      refine g2.tl fun h g => sat_nd.2 ?_
      refine g.tl fun h g => ?_
      exact (g.drop.add ow_nil).add ow_nil
    | some dt =>
      obtain ⟨d, t⟩ := dt
      simp (disch := omega) only [go_sem, reduceCtorEq, ↓reduceIte, Nat.reduceEqDiff, Nat.reduceAdd, Nat.reduceSub, Nat.reduceMul, Nat.reduceLT, Nat.reduceLeDiff, Int.reduceEq, Int.reduceNe, Int.reduceLT, Int.reduceLE, Int.reduceBEq, Int.reduceBNe, Int.reduceToNat, Option.isNone_some]
      exact ⟨d, t, hok.1, hok.2, g1⟩
  · rintro e h ⟨d, t, ok, hfl, hs, he⟩
    simp (disch := omega) only [go_sem, reduceCtorEq, ↓reduceIte, Nat.reduceEqDiff, Nat.reduceAdd, Nat.reduceSub, Nat.reduceMul, Nat.reduceLT, Nat.reduceLeDiff, Int.reduceEq, Int.reduceNe, Int.reduceLT, Int.reduceLE, Int.reduceBEq, Int.reduceBNe, Int.reduceToNat, he, hs.at]
    have hS' : Srt t.flat := by rw [hfl]; exact hS
    refine call_use (insert d t x.kp ok hS' (hs.p1) (fun h hs => ?_) (fun h hs => ⟨x.mv, ?_⟩)) ?_
    · rw [hfl]; exact IR.of hs.drop
    · exact ItP.k hs.drop.mid
    · rintro r h (⟨t', rfl, ok', hroot, hfl', hs⟩ | ⟨t1, m, t2, rfl, ok1, ok2, hroot, hfl', hne1, hne2, hs⟩)
      · simp (disch := omega) only [go_sem, reduceCtorEq, ↓reduceIte, Nat.reduceEqDiff, Nat.reduceAdd, Nat.reduceSub, Nat.reduceMul, Nat.reduceLT, Nat.reduceLeDiff, Int.reduceEq, Int.reduceNe, Int.reduceLT, Int.reduceLE, Int.reduceBEq, Int.reduceBNe, Int.reduceToNat, he]
        refine sat_ixq.2 ⟨some (d, t'), ⟨ok', ?_⟩, ?_⟩
        · rw [hfl', insIt_kp, hfl]
        · rw [insIt_len]
          simp only [rootV, rootA, hroot]
          refine hs.p1.tl fun h g => g.tl fun h g => ?_
          have g2 := g.mid
          exact sat.permMap (l := x :: its) (insIt_perm x its).symm g2
      · simp (disch := omega) only [go_sem, reduceCtorEq, ↓reduceIte, Nat.reduceEqDiff, Nat.reduceAdd, Nat.reduceSub, Nat.reduceMul, Nat.reduceLT, Nat.reduceLeDiff, Int.reduceEq, Int.reduceNe, Int.reduceLT, Int.reduceLE, Int.reduceBEq, Int.reduceBNe, Int.reduceToNat, he]
        refine new_opq hs fun bi h hs => ?_
        simp (disch := omega) only [go_sem, reduceCtorEq, ↓reduceIte, Nat.reduceEqDiff, Nat.reduceAdd, Nat.reduceSub, Nat.reduceMul, Nat.reduceLT, Nat.reduceLeDiff, Int.reduceEq, Int.reduceNe, Int.reduceLT, Int.reduceLE, Int.reduceBEq, Int.reduceBNe, Int.reduceToNat, hs.at]
        have hb := hs.p2.p2.p2.p3.at
        simp (disch := omega) only [go_sem, reduceCtorEq, ↓reduceIte, Nat.reduceEqDiff, Nat.reduceAdd, Nat.reduceSub, Nat.reduceMul, Nat.reduceLT, Nat.reduceLeDiff, Int.reduceEq, Int.reduceNe, Int.reduceLT, Int.reduceLE, Int.reduceBEq, Int.reduceBNe, Int.reduceToNat, he, hb]
        refine new_opq hs fun bk h hs => ?_
        simp (disch := omega) only [go_sem, reduceCtorEq, ↓reduceIte, Nat.reduceEqDiff, Nat.reduceAdd, Nat.reduceSub, Nat.reduceMul, Nat.reduceLT, Nat.reduceLeDiff, Int.reduceEq, Int.reduceNe, Int.reduceLT, Int.reduceLE, Int.reduceBEq, Int.reduceBNe, Int.reduceToNat, hs.at]
        refine new_opq hs fun p h hs => ?_
        simp (disch := omega) only [go_sem, reduceCtorEq, ↓reduceIte, Nat.reduceEqDiff, Nat.reduceAdd, Nat.reduceSub, Nat.reduceMul, Nat.reduceLT, Nat.reduceLeDiff, Int.reduceEq, Int.reduceNe, Int.reduceLT, Int.reduceLE, Int.reduceBEq, Int.reduceBNe, Int.reduceToNat, hs.at]
        have g2 := (hs.p4.p4.p4.p4.p4.p5).set (o' := .row 2 [[.ptr p 2 0 0, .int .i64 ((its.length + 1 : Nat) : Int)]] 1)
        simp (disch := omega) only [go_sem, reduceCtorEq, ↓reduceIte, Nat.reduceEqDiff, Nat.reduceAdd, Nat.reduceSub, Nat.reduceMul, Nat.reduceLT, Nat.reduceLeDiff, Int.reduceEq, Int.reduceNe, Int.reduceLT, Int.reduceLE, Int.reduceBEq, Int.reduceBNe, Int.reduceToNat, hs.p4.p4.p4.p4.p4.p5.at]
        refine sat_ixq.2 ⟨some (d + 1, .nd p (.arr bi 1 0 1 1) (.arr bk 1 0 2 2) [m] [t1, t2]), ⟨⟨by simp, by simp, by simp, ?_⟩, ?_⟩, ?_⟩
        · intro k hk
          rcases List.mem_cons.1 hk with rfl | hk
          · exact ⟨ok1, hne1⟩
          · simp at hk; subst hk; exact ⟨ok2, hne2⟩
        · rw [Tr.flat_nd, insIt_kp, ← hfl, ← hfl']; simp [weave]
        · rw [insIt_len]
          refine g2.tl fun h g => ?_
          refine sat_nd.2 ?_
          have g3 : sat h ([pto p (.row 2 [[.arr bi 1 0 1 1, .arr bk 1 0 2 2]] 1), pto bi (.row 1 ([m].map kpt) 1), pto bk (.row 1 ([t1, t2].map fun k => pt k.root) 2), t1.asr, t2.asr] ++ (its.map Ixt.p ++ x.p :: F)) := by
            rw [hroot.symm] at g
            exact g.p4.p4.p3.p4.p4
          have g4 := g3.tls fun h g => sat.permMap (l := x :: its) (insIt_perm x its).symm g.mid
          exact g4.tl fun h g => (g.ow (cap := 1) (by simp)).tl fun h g => g.ow (cap := 2) (by simp)
end
end Go.Proofs.Ytkclojjeepomfaa
/- find, Marks, Put, by what the index says. -/
set_option linter.unusedSimpArgs false
set_option linter.unusedVariables false
set_option maxRecDepth 10000
namespace Go.Proofs.Ytkclojjeepomfaa
open Go.Hz

section
variable {h : Hp} {F : List Asr}
theorem ixFind {b : Nat} {its : List Ixt} {key : Key} (hs : sat h (IxQ b its :: F)) (hS : SrtI its) :
    Triple Try.prog 78 [.ptr b 2 0 0, .str key] h (fun r h => r = findV (its.map Ixt.kp) key ∧ sat h (IxQ b its :: F)) := by
  obtain ⟨r, hok, g⟩ := sat_ixq.1 hs
  refine (find g (fun h hs => hs.at) (l := its.map Ixt.kp) ?_ hS).mono ?_
  · cases r with
    | none => exact .inl ⟨rfl, hok⟩
    | some dt =>
      obtain ⟨d, t⟩ := dt
      refine .inr ⟨d, t, rfl, hok.2, hok.1, fun h hs => RT.of d t hok.1 hs.drop ?_⟩
      rw [hok.2]; exact IR.of hs.drop.drop
  · rintro r' h ⟨hr, hs⟩
    exact ⟨hr, sat_ixq.2 ⟨r, hok, hs⟩⟩
theorem findV_mid {l1 l2 : List Ixt} {x : Ixt} (hS : SrtI (l1 ++ x :: l2)) : findV ((l1 ++ x :: l2).map Ixt.kp) x.key = .ptr x.a 2 0 0 := by
  unfold findV
  have := findKp_mem (x := x.kp) hS (by simp)
  have h2 : findKp x.key ((l1 ++ x :: l2).map Ixt.kp) = some x.kp := this
  rw [h2]; rfl
theorem findV_none {its : List Ixt} {key : Key} (h : ∀ y ∈ its, y.key ≠ key) : findV (its.map Ixt.kp) key = .nilp := by
  unfold findV
  rw [findKp_none fun x hx => by
    obtain ⟨y, hy, rfl⟩ := List.mem_map.1 hx
    exact h y hy]

theorem ixMarks {b : Nat} {L : IL} {key : Key} (hs : sat h (IxP b L :: F)) (hw : WfL L) (hl : ∀ x ∈ L, x.2.length ≤ 1000000000) :
    Triple Try.prog 50 [.ptr b 2 0 0, .str key] h (fun r h => r = .lst ((getL L key).map mkE) ∧ sat h (IxP b L :: F)) := by
  refine Triple.lst 2 ?_
  obtain ⟨its, rfl, hq⟩ := sat_ixp.1 hs
  clear hs
  have hS := SrtI.kv.2 hw.1
  refine t50 (Nat.le_of_ble_eq_true rfl) ?_
  simp (disch := omega) only [F50, go_sem, reduceCtorEq, ↓reduceIte, Nat.reduceEqDiff, Nat.reduceAdd, Nat.reduceSub, Nat.reduceMul, Nat.reduceLT, Nat.reduceLeDiff, Int.reduceEq, Int.reduceNe, Int.reduceLT, Int.reduceLE, Int.reduceBEq, Int.reduceBNe, Int.reduceToNat]
  refine call_use (ixFind (key := key) hq hS) ?_
  rintro r h ⟨hr, hs⟩
  subst hr
  rcases kv_cut (its := its) key with ⟨l1, x, l2, rfl, rfl⟩ | hn
  · rw [findV_mid hS]
    obtain ⟨R, g, back⟩ := ixq_open hs
    have g := sat_it.1 g
    have hlen := g.drop.owr.len
    have hxl : x.ms.length ≤ 1000000000 := hl (x.key, x.ms) (by simp [Ixt.kv])
    rw [List.length_map] at hlen
    simp (disch := omega) only [go_sem, reduceCtorEq, ↓reduceIte, Nat.reduceEqDiff, Nat.reduceAdd, Nat.reduceSub, Nat.reduceMul, Nat.reduceLT, Nat.reduceLeDiff, Int.reduceEq, Int.reduceNe, Int.reduceLT, Int.reduceLE, Int.reduceBEq, Int.reduceBNe, Int.reduceToNat, g.at, hlen]
    refine msl_use g (by omega) (by omega) fun bb h hs => ?_
    simp (disch := omega) only [go_sem, reduceCtorEq, ↓reduceIte, Nat.reduceEqDiff, Nat.reduceAdd, Nat.reduceSub, Nat.reduceMul, Nat.reduceLT, Nat.reduceLeDiff, Int.reduceEq, Int.reduceNe, Int.reduceLT, Int.reduceLE, Int.reduceBEq, Int.reduceBNe, Int.reduceToNat, hs.p1.at]
    have hy := hs.p1.p1.p2.els
    refine cp_use hs (Nat.zero_le _) (by omega) (Nat.le_refl _) (n := x.ms.length) (ys := x.ms.map mkE) (by rw [hy.lenN]; simp) ?_ (atoms_mkE x.ms) fun h hs => ?_
    · rw [Nat.min_self]
      have := srcN_of (n := x.ms.length) hy.1 (by simp)
      rw [List.take_of_length_le (by simp)] at this
      exact this
    simp (disch := omega) only [go_sem, reduceCtorEq, ↓reduceIte, Nat.reduceEqDiff, Nat.reduceAdd, Nat.reduceSub, Nat.reduceMul, Nat.reduceLT, Nat.reduceLeDiff, Int.reduceEq, Int.reduceNe, Int.reduceLT, Int.reduceLE, Int.reduceBEq, Int.reduceBNe, Int.reduceToNat]
    simp only [List.take_zero, List.nil_append, Nat.min_self, Nat.zero_add] at hs
    rw [List.drop_eq_nil_of_le (by simp), List.append_nil] at hs
    have g2 := hs.ow (by simp)
    rw [List.length_map] at g2
    refine ⟨x.ms.map mkE, _, g2, fun h hs => ⟨?_, sat_ixp.2 ⟨l1 ++ x :: l2, rfl, back x h F rfl rfl (sat_it.2 hs)⟩⟩⟩
    have e : (l1 ++ x :: l2).map Ixt.kv = l1.map Ixt.kv ++ (x.key, x.ms) :: l2.map Ixt.kv := by simp [Ixt.kv]
    rw [e, getL_mid (by rw [← e]; exact hw.1)]
  · rw [findV_none hn]
    simp (disch := omega) only [go_sem, reduceCtorEq, ↓reduceIte, Nat.reduceEqDiff, Nat.reduceAdd, Nat.reduceSub, Nat.reduceMul, Nat.reduceLT, Nat.reduceLeDiff, Int.reduceEq, Int.reduceNe, Int.reduceLT, Int.reduceLE, Int.reduceBEq, Int.reduceBNe, Int.reduceToNat]
    refine ⟨[], _, hs.add (A := Ow 2 .nils []) ow_nil, fun h hs => ⟨?_, sat_ixp.2 ⟨its, rfl, hs⟩⟩⟩
    have := getL_none (L := its.map Ixt.kv) (k := key) (fun x hx => by
      obtain ⟨y, hy, rfl⟩ := List.mem_map.1 hx
      exact hn y hy)
    rw [this]; rfl

theorem putE_in {L : IL} {key : Key} {m : Mk} (c1 : key ≠ []) (c2 : key.length ≤ 100) (c3 : 1 ≤ m.1) {l : Mk} (hg : lastM (getL L key) = l) :
    putE L key m = if m.1 ≤ l.1 then 15 else if m.2 = true ∧ l.2 = true then 2 else 0 := by
  unfold putE
  rw [if_neg (by rintro (h | h | h) <;> first | exact c1 h | omega), hg]

theorem ixPut {b : Nat} {L : IL} {key : Key} {m : Mk} (hs : sat h (IxP b L :: F)) (hw : WfL L) (hl : ∀ x ∈ L, x.2.length ≤ 1000000000) (hn : L.length ≤ 1000000000) (hm : inI m.1) :
    Triple Try.prog 68 [.ptr b 2 0 0, .str key, .agg [.int .i64 m.1, .bool m.2]] h (fun r h => r = .int .i64 (putE L key m) ∧ sat h (IxP b (putL L key m) :: F)) := by
  refine t68 (Nat.le_of_ble_eq_true rfl) ?_
  simp (disch := omega) only [F68, go_sem, reduceCtorEq, ↓reduceIte, Nat.reduceEqDiff, Nat.reduceAdd, Nat.reduceSub, Nat.reduceMul, Nat.reduceLT, Nat.reduceLeDiff, Int.reduceEq, Int.reduceNe, Int.reduceLT, Int.reduceLE, Int.reduceBEq, Int.reduceBNe, Int.reduceToNat]
  refine new_opq hs fun b5 h hs => ?_
  simp (disch := omega) only [go_sem, reduceCtorEq, ↓reduceIte, Nat.reduceEqDiff, Nat.reduceAdd, Nat.reduceSub, Nat.reduceMul, Nat.reduceLT, Nat.reduceLeDiff, Int.reduceEq, Int.reduceNe, Int.reduceLT, Int.reduceLE, Int.reduceBEq, Int.reduceBNe, Int.reduceToNat, hs.at]
  have fin1 : putE L key m ≠ 0 → putL L key m = L := fun h => by simp [putL, h]
  by_cases c1 : key = []
  · subst c1
    have e : putE L [] m = 1 := by simp [putE]
    simp (disch := omega) only [go_sem, reduceCtorEq, ↓reduceIte, Nat.reduceEqDiff, Nat.reduceAdd, Nat.reduceSub, Nat.reduceMul, Nat.reduceLT, Nat.reduceLeDiff, Int.reduceEq, Int.reduceNe, Int.reduceLT, Int.reduceLE, Int.reduceBEq, Int.reduceBNe, Int.reduceToNat]
    rw [e, fin1 (by rw [e]; decide)]
    exact ⟨rfl, hs.drop⟩
  have c1' : (key == ([] : List UInt8)) = false := by rw [beq_eq_false_iff_ne]; exact c1
  by_cases c2 : 100 < key.length
  · have e : putE L key m = 1 := by simp [putE, c2]
    have c2' : decide ((100 : Int) < (key.length : Int)) = true := by simp; omega
    simp (disch := omega) only [go_sem, reduceCtorEq, ↓reduceIte, Nat.reduceEqDiff, Nat.reduceAdd, Nat.reduceSub, Nat.reduceMul, Nat.reduceLT, Nat.reduceLeDiff, Int.reduceEq, Int.reduceNe, Int.reduceLT, Int.reduceLE, Int.reduceBEq, Int.reduceBNe, Int.reduceToNat, c1', c2']
    rw [e, fin1 (by rw [e]; decide)]
    exact ⟨rfl, hs.drop⟩
  have c2' : decide ((100 : Int) < (key.length : Int)) = false := by simp; omega
  by_cases c3 : m.1 < 1
  · have e : putE L key m = 1 := by simp [putE, c3]
    have c3' : decide (m.1 < 1) = true := by simpa using c3
    simp (disch := omega) only [go_sem, reduceCtorEq, ↓reduceIte, Nat.reduceEqDiff, Nat.reduceAdd, Nat.reduceSub, Nat.reduceMul, Nat.reduceLT, Nat.reduceLeDiff, Int.reduceEq, Int.reduceNe, Int.reduceLT, Int.reduceLE, Int.reduceBEq, Int.reduceBNe, Int.reduceToNat, c1', c2', c3', hs.at]
    rw [e, fin1 (by rw [e]; decide)]
    exact ⟨rfl, hs.drop⟩
  have c3' : decide (m.1 < 1) = false := by simpa using c3
  simp (disch := omega) only [go_sem, reduceCtorEq, ↓reduceIte, Nat.reduceEqDiff, Nat.reduceAdd, Nat.reduceSub, Nat.reduceMul, Nat.reduceLT, Nat.reduceLeDiff, Int.reduceEq, Int.reduceNe, Int.reduceLT, Int.reduceLE, Int.reduceBEq, Int.reduceBNe, Int.reduceToNat, c1', c2', c3', hs.at]
  obtain ⟨its, hL, hq⟩ := sat_ixp.1 hs.p1
  have hS := SrtI.kv.2 (hL ▸ hw.1)
  refine call_use (ixFind (key := key) hq hS) ?_
  rintro r h ⟨hr, hs⟩
  subst hr
  rcases kv_cut (its := its) key with ⟨l1, x, l2, rfl, rfl⟩ | hnk
  · rw [findV_mid hS]
    have hLe : L = l1.map Ixt.kv ++ (x.key, x.ms) :: l2.map Ixt.kv := by rw [← hL]; simp [Ixt.kv]
    have hg : getL L x.key = x.ms := by rw [hLe, getL_mid (by rw [← hLe]; exact hw.1)]
    have hne : x.ms ≠ [] := (hw.2 (x.key, x.ms) (by rw [hLe]; simp)).1
    have hxl : x.ms.length ≤ 1000000000 := hl (x.key, x.ms) (by rw [hLe]; simp)
    obtain ⟨R, g, back⟩ := ixq_open hs
    have hs := sat_it.1 g
    have hpos : 0 < x.ms.length := List.length_pos_iff.2 hne
    have hlast : (x.ms.map mkE)[x.ms.length - 1]? = some (mkE (x.ms.getLast hne)) := by
      rw [List.getElem?_map, List.getLast_eq_getElem, List.getElem?_eq_getElem (by omega)]; rfl
    have hlm : lastM (getL L x.key) = x.ms.getLast hne := by rw [hg, lastM, List.getLast?_eq_some_getLast hne]; rfl
    have hE := putE_in (m := m) c1 (by omega) (by omega) hlm
    generalize x.ms.getLast hne = la at hlast hlm hE
    obtain ⟨bm, cm, hmv, hbm, hcm⟩ := hs.drop.owr.row hlast
    rw [List.length_map] at hmv
    have hlen := hs.drop.owr.len
    rw [List.length_map] at hlen
    have e1 : ((x.ms.length : Int) - 1) = ((x.ms.length - 1 : Nat) : Int) := by omega
    have hia : iaA 2 (.arr bm 2 0 x.ms.length cm) (.int .i64 ((x.ms.length - 1 : Nat) : Int)) = some (.ptr bm 2 (x.ms.length - 1) 0) := by
      rw [iaA_go (by omega) (by omega)]; simp
    simp (disch := omega) only [go_sem, reduceCtorEq, ↓reduceIte, Nat.reduceEqDiff, Nat.reduceAdd, Nat.reduceSub, Nat.reduceMul, Nat.reduceLT, Nat.reduceLeDiff, Int.reduceEq, Int.reduceNe, Int.reduceLT, Int.reduceLE, Int.reduceBEq, Int.reduceBNe, Int.reduceToNat]
    refine new_opq hs fun b8 h hs => ?_
    simp (disch := omega) only [go_sem, reduceCtorEq, ↓reduceIte, Nat.reduceEqDiff, Nat.reduceAdd, Nat.reduceSub, Nat.reduceMul, Nat.reduceLT, Nat.reduceLeDiff, Int.reduceEq, Int.reduceNe, Int.reduceLT, Int.reduceLE, Int.reduceBEq, Int.reduceBNe, Int.reduceToNat, hs.at]
    have hsB := hs.set (o' := .row 2 [[.int .i64 la.1, .bool la.2]] 1)
    have hs := hs.set (o' := .row 2 [[.int .i64 0, .bool true]] 1)
    have hbm2 := (hs.p1.p1.p2)
    rw [show x.m = Ow 2 (.arr bm 2 0 x.ms.length cm) (x.ms.map mkE) by unfold Ixt.m; rw [hmv]] at hbm2
    have hbm3 := (hbm2.arr).1.at
    simp (disch := omega) only [go_sem, reduceCtorEq, ↓reduceIte, Nat.reduceEqDiff, Nat.reduceAdd, Nat.reduceSub, Nat.reduceMul, Nat.reduceLT, Nat.reduceLeDiff, Int.reduceEq, Int.reduceNe, Int.reduceLT, Int.reduceLE, Int.reduceBEq, Int.reduceBNe, Int.reduceToNat, hs.p1.at, hlen, hmv, e1, hia, hbm3, hlast, mkE, hs.at]
    have hb5 := (hsB.p3.p3.p3.p3.p4).at
    simp (disch := omega) only [go_sem, reduceCtorEq, ↓reduceIte, Nat.reduceEqDiff, Nat.reduceAdd, Nat.reduceSub, Nat.reduceMul, Nat.reduceLT, Nat.reduceLeDiff, Int.reduceEq, Int.reduceNe, Int.reduceLT, Int.reduceLE, Int.reduceBEq, Int.reduceBNe, Int.reduceToNat, hb5]
    by_cases t1 : m.1 ≤ la.1
    · have t1' : decide (m.1 ≤ la.1) = true := by simpa using t1
      have e : putE L x.key m = 15 := by rw [hE, if_pos t1]
      simp (disch := omega) only [go_sem, reduceCtorEq, ↓reduceIte, Nat.reduceEqDiff, Nat.reduceAdd, Nat.reduceSub, Nat.reduceMul, Nat.reduceLT, Nat.reduceLeDiff, Int.reduceEq, Int.reduceNe, Int.reduceLT, Int.reduceLE, Int.reduceBEq, Int.reduceBNe, Int.reduceToNat, t1']
      rw [e, fin1 (by rw [e]; decide)]
      refine ⟨rfl, ?_⟩
      have g := (hsB.drop.p3.p3.p3.p3).d3
      exact sat_ixp.2 ⟨_, hL, back x _ F rfl rfl (sat_it.2 g)⟩
    have t1' : decide (m.1 ≤ la.1) = false := by simpa using t1
    simp (disch := omega) only [go_sem, reduceCtorEq, ↓reduceIte, Nat.reduceEqDiff, Nat.reduceAdd, Nat.reduceSub, Nat.reduceMul, Nat.reduceLT, Nat.reduceLeDiff, Int.reduceEq, Int.reduceNe, Int.reduceLT, Int.reduceLE, Int.reduceBEq, Int.reduceBNe, Int.reduceToNat, t1', hb5]
    by_cases t2 : m.2 = true ∧ la.2 = true
    · have e : putE L x.key m = 2 := by rw [hE, if_neg t1, if_pos t2]
      simp (disch := omega) only [go_sem, reduceCtorEq, ↓reduceIte, Nat.reduceEqDiff, Nat.reduceAdd, Nat.reduceSub, Nat.reduceMul, Nat.reduceLT, Nat.reduceLeDiff, Int.reduceEq, Int.reduceNe, Int.reduceLT, Int.reduceLE, Int.reduceBEq, Int.reduceBNe, Int.reduceToNat, t2.1, t2.2, hsB.at]
      rw [e, fin1 (by rw [e]; decide)]
      refine ⟨rfl, ?_⟩
      have g := (hsB.drop.p3.p3.p3.p3).d3
      rw [t2.2] at g
      exact sat_ixp.2 ⟨_, hL, back x _ F rfl rfl (sat_it.2 g)⟩
    have e : putE L x.key m = 0 := by rw [hE, if_neg t1, if_neg t2]
    have hput : putL L x.key m = (l1 ++ ⟨x.a, x.key, x.mv, x.ms ++ [m]⟩ :: l2).map Ixt.kv := by
      rw [putL, if_pos e, hg, hLe, layL_mid (by rw [← hLe]; exact hw.1)]; simp [Ixt.kv]
    rw [e, hput]
    have hy2 : ∀ h bn, h bn = some (.row 2 [mkE m] 1) → srcA 2 h (.arr bn 2 0 1 1) = some [mkE m] := fun h bn hh => src_one hh
    have hxk : x.k = pto x.a (.row 2 [[.str x.key, x.mv]] 1) := rfl
    have hxm : x.m = Ow 2 x.mv (x.ms.map mkE) := rfl
    obtain ⟨mr, md⟩ := m
    obtain ⟨lr, ld⟩ := la
    have t3 : md = false ∨ (md = true ∧ ld = false) := by
      cases md
      · exact .inl rfl
      · right; refine ⟨rfl, ?_⟩
        cases ld
        · rfl
        · exact absurd ⟨rfl, rfl⟩ t2
    rcases t3 with rfl | ⟨rfl, rfl⟩
    · simp (disch := omega) only [go_sem, reduceCtorEq, ↓reduceIte, Nat.reduceEqDiff, Nat.reduceAdd, Nat.reduceSub, Nat.reduceMul, Nat.reduceLT, Nat.reduceLeDiff, Int.reduceEq, Int.reduceNe, Int.reduceLT, Int.reduceLE, Int.reduceBEq, Int.reduceBNe, Int.reduceToNat, hb5, hsB.p1.at, hsB.at]
      have hs := hsB.p3.p3.p3.p3.p4
      refine new_opq hs fun bn h hs => ?_
      simp (disch := omega) only [go_sem, reduceCtorEq, ↓reduceIte, Nat.reduceEqDiff, Nat.reduceAdd, Nat.reduceSub, Nat.reduceMul, Nat.reduceLT, Nat.reduceLeDiff, Int.reduceEq, Int.reduceNe, Int.reduceLT, Int.reduceLE, Int.reduceBEq, Int.reduceBNe, Int.reduceToNat, hs.at]
      refine app_sat (es := x.ms.map mkE) (s := 2) (v := x.mv) (F := x.k :: R :: F) (hs.drop.drop.drop.p2.p1.p2.imp fun _ g => g) (hy2 _ bn hs.at) (atoms_mkE [_]) (by simp; omega) fun v' h hs hc' ha' => ?_
      simp (disch := omega) only [go_sem, reduceCtorEq, ↓reduceIte, Nat.reduceEqDiff, Nat.reduceAdd, Nat.reduceSub, Nat.reduceMul, Nat.reduceLT, Nat.reduceLeDiff, Int.reduceEq, Int.reduceNe, Int.reduceLT, Int.reduceLE, Int.reduceBEq, Int.reduceBNe, Int.reduceToNat, hc', ha', hs.p1.at]
      have g := hs.p1.set (o' := .row 2 [[.str x.key, v']] 1)
      refine sat_ixp.2 ⟨l1 ++ ⟨x.a, x.key, v', x.ms ++ [(mr, false)]⟩ :: l2, by simp [Ixt.kv], back ⟨x.a, x.key, v', x.ms ++ [(mr, false)]⟩ _ F rfl rfl (sat_it.2 ?_)⟩
      simpa [Ixt.k, Ixt.m, mkE] using g
    · simp (disch := omega) only [go_sem, reduceCtorEq, ↓reduceIte, Nat.reduceEqDiff, Nat.reduceAdd, Nat.reduceSub, Nat.reduceMul, Nat.reduceLT, Nat.reduceLeDiff, Int.reduceEq, Int.reduceNe, Int.reduceLT, Int.reduceLE, Int.reduceBEq, Int.reduceBNe, Int.reduceToNat, hb5, hsB.p1.at, hsB.at]
      have hs := hsB.p3.p3.p3.p3.p4
      refine new_opq hs fun bn h hs => ?_
      simp (disch := omega) only [go_sem, reduceCtorEq, ↓reduceIte, Nat.reduceEqDiff, Nat.reduceAdd, Nat.reduceSub, Nat.reduceMul, Nat.reduceLT, Nat.reduceLeDiff, Int.reduceEq, Int.reduceNe, Int.reduceLT, Int.reduceLE, Int.reduceBEq, Int.reduceBNe, Int.reduceToNat, hs.at]
      refine app_sat (es := x.ms.map mkE) (s := 2) (v := x.mv) (F := x.k :: R :: F) (hs.drop.drop.drop.p2.p1.p2.imp fun _ g => g) (hy2 _ bn hs.at) (atoms_mkE [_]) (by simp; omega) fun v' h hs hc' ha' => ?_
      simp (disch := omega) only [go_sem, reduceCtorEq, ↓reduceIte, Nat.reduceEqDiff, Nat.reduceAdd, Nat.reduceSub, Nat.reduceMul, Nat.reduceLT, Nat.reduceLeDiff, Int.reduceEq, Int.reduceNe, Int.reduceLT, Int.reduceLE, Int.reduceBEq, Int.reduceBNe, Int.reduceToNat, hc', ha', hs.p1.at]
      have g := hs.p1.set (o' := .row 2 [[.str x.key, v']] 1)
      refine sat_ixp.2 ⟨l1 ++ ⟨x.a, x.key, v', x.ms ++ [(mr, true)]⟩ :: l2, by simp [Ixt.kv], back ⟨x.a, x.key, v', x.ms ++ [(mr, true)]⟩ _ F rfl rfl (sat_it.2 ?_)⟩
      simpa [Ixt.k, Ixt.m, mkE] using g
  · rw [findV_none hnk]
    have hLk : ∀ y ∈ L, y.1 ≠ key := fun y hy => by
      rw [← hL] at hy
      obtain ⟨z, hz, rfl⟩ := List.mem_map.1 hy
      exact hnk z hz
    have hg : getL L key = [] := getL_none hLk
    have hlm : lastM (getL L key) = (0, true) := by rw [hg]; rfl
    have hE := putE_in (m := m) c1 (by omega) (by omega) hlm
    obtain ⟨mr, md⟩ := m
    simp (disch := omega) only [go_sem, reduceCtorEq, ↓reduceIte, Nat.reduceEqDiff, Nat.reduceAdd, Nat.reduceSub, Nat.reduceMul, Nat.reduceLT, Nat.reduceLeDiff, Int.reduceEq, Int.reduceNe, Int.reduceLT, Int.reduceLE, Int.reduceBEq, Int.reduceBNe, Int.reduceToNat]
    refine new_opq hs fun b8 h hs => ?_
    simp (disch := omega) only [go_sem, reduceCtorEq, ↓reduceIte, Nat.reduceEqDiff, Nat.reduceAdd, Nat.reduceSub, Nat.reduceMul, Nat.reduceLT, Nat.reduceLeDiff, Int.reduceEq, Int.reduceNe, Int.reduceLT, Int.reduceLE, Int.reduceBEq, Int.reduceBNe, Int.reduceToNat, hs.at]
    have hsB := hs.set (o' := .row 2 [[.int .i64 0, .bool true]] 1)
    have hb5 := (hsB.p1.p1.p2).at
    have t1' : decide (mr ≤ 0) = false := by simp at c3 ⊢; omega
    simp (disch := omega) only [go_sem, reduceCtorEq, ↓reduceIte, Nat.reduceEqDiff, Nat.reduceAdd, Nat.reduceSub, Nat.reduceMul, Nat.reduceLT, Nat.reduceLeDiff, Int.reduceEq, Int.reduceNe, Int.reduceLT, Int.reduceLE, Int.reduceBEq, Int.reduceBNe, Int.reduceToNat, hb5, t1']
    have t1 : ¬ mr ≤ 0 := by simpa using t1'
    cases md
    · have e : putE L key (mr, false) = 0 := by rw [hE, if_neg t1, if_neg (by simp)]
      simp (disch := omega) only [go_sem, reduceCtorEq, ↓reduceIte, Nat.reduceEqDiff, Nat.reduceAdd, Nat.reduceSub, Nat.reduceMul, Nat.reduceLT, Nat.reduceLeDiff, Int.reduceEq, Int.reduceNe, Int.reduceLT, Int.reduceLE, Int.reduceBEq, Int.reduceBNe, Int.reduceToNat, hb5]
      have hs := hsB.p1.p1.p2
      refine new_opq hs fun bn h hs => ?_
      simp (disch := omega) only [go_sem, reduceCtorEq, ↓reduceIte, Nat.reduceEqDiff, Nat.reduceAdd, Nat.reduceSub, Nat.reduceMul, Nat.reduceLT, Nat.reduceLeDiff, Int.reduceEq, Int.reduceNe, Int.reduceLT, Int.reduceLE, Int.reduceBEq, Int.reduceBNe, Int.reduceToNat, hs.at]
      refine new_opq hs fun ba h hs => ?_
      simp (disch := omega) only [go_sem, reduceCtorEq, ↓reduceIte, Nat.reduceEqDiff, Nat.reduceAdd, Nat.reduceSub, Nat.reduceMul, Nat.reduceLT, Nat.reduceLeDiff, Int.reduceEq, Int.reduceNe, Int.reduceLT, Int.reduceLE, Int.reduceBEq, Int.reduceBNe, Int.reduceToNat, hs.at]
      have hs := hs.p2.drop.p2.drop.p1.p1.p2
      have hx : ∀ y ∈ its, y.key ≠ (Ixt.mk ba key (.arr bn 2 0 1 1) [(mr, false)]).key := hnk
      have hq : sat h (IxQ b its :: (Ixt.mk ba key (.arr bn 2 0 1 1) [(mr, false)]).p :: F) :=
        hs.tl fun h g => sat_it.2 (g.tl fun h g => g.ow (by simp))
      refine call_use (ixAdd hq hS hx (by rw [← hL, List.length_map] at hn; exact hn)) ?_
      intro r h hs
      simp (disch := omega) only [go_sem, reduceCtorEq, ↓reduceIte, Nat.reduceEqDiff, Nat.reduceAdd, Nat.reduceSub, Nat.reduceMul, Nat.reduceLT, Nat.reduceLeDiff, Int.reduceEq, Int.reduceNe, Int.reduceLT, Int.reduceLE, Int.reduceBEq, Int.reduceBNe, Int.reduceToNat]
      rw [e]
      refine ⟨rfl, sat_ixp.2 ⟨_, ?_, hs⟩⟩
      rw [putL, if_pos e, ← hL, ← layL_new hS hx, hL, hg]; rfl
    · have e : putE L key (mr, true) = 2 := by rw [hE, if_neg t1, if_pos ⟨rfl, rfl⟩]
      simp (disch := omega) only [go_sem, reduceCtorEq, ↓reduceIte, Nat.reduceEqDiff, Nat.reduceAdd, Nat.reduceSub, Nat.reduceMul, Nat.reduceLT, Nat.reduceLeDiff, Int.reduceEq, Int.reduceNe, Int.reduceLT, Int.reduceLE, Int.reduceBEq, Int.reduceBNe, Int.reduceToNat, hsB.at]
      rw [e, fin1 (by rw [e]; decide)]
      exact ⟨rfl, sat_ixp.2 ⟨_, hL, (hsB.p1).d1.d1⟩⟩
end
end Go.Proofs.Ytkclojjeepomfaa
/- Keys; trimmed. -/
set_option linter.unusedSimpArgs false
set_option linter.unusedVariables false
set_option maxRecDepth 10000
namespace Go.Proofs.Ytkclojjeepomfaa
open Go.Hz

section
variable {h : Hp} {F : List Asr}
theorem atoms_str (l : List Key) : AtomsL (l.map fun k => [AV.str k]) := by
  intro e he v hv
  obtain ⟨k, _, rfl⟩ := List.mem_map.1 he
  simp only [List.mem_cons, List.not_mem_nil, or_false] at hv
  subst hv; rfl
theorem keys_filter {its : List Ixt} {lo hi : Key} : ((its.map Ixt.kp).filter (rngK lo hi)).map (fun x => x.2) = keysL (its.map Ixt.kv) lo hi := by
  unfold keysL
  rw [List.filter_map, List.map_map, List.map_map, List.filter_map]
  rfl

/-- The values of strings. -/
def strsV (l : List Key) : AV := .lst (l.map fun k => [.str k])

/-- What is added to a list, key by key. -/
def outA (bo : Nat) (pre : List Key) (done : List Kp) : Asr := fun h => ∃ ov, sat h [pto bo (.row 1 [[ov]] 1), Ow 1 ov ((pre ++ done.map fun x => x.2).map fun k => [.str k])]
theorem sat_outA {bo : Nat} {pre : List Key} {done : List Kp} : sat h (outA bo pre done :: F) ↔ ∃ ov, sat h (pto bo (.row 1 [[ov]] 1) :: Ow 1 ov ((pre ++ done.map fun x => x.2).map fun k => [.str k]) :: F) := by
  unfold outA
  rw [sat_ex]
  exact ⟨fun ⟨r, hs⟩ => ⟨r, sat_sl.1 hs⟩, fun ⟨r, hs⟩ => ⟨r, sat_sl (l1 := [_, _]) |>.2 hs⟩⟩

theorem ixKeysO {b : Nat} {L : IL} {lo hi : Key} (hs : sat h (IxP b L :: F)) (hw : WfL L) (hn : L.length ≤ 1000000000) :
    Triple Try.prog 54 [.ptr b 2 0 0, .str lo, .str hi] h (fun r h => sat h (Ow 1 r ((keysL L lo hi).map fun k => [.str k]) :: IxP b L :: F)) := by
  obtain ⟨its, hL, hq⟩ := sat_ixp.1 hs
  have hS := SrtI.kv.2 (hL ▸ hw.1)
  have hn2 : its.length ≤ 1000000000 := by rw [← hL, List.length_map] at hn; exact hn
  obtain ⟨r, hok, g⟩ := sat_ixq.1 hq
  clear hs hq
  refine t54 (Nat.le_of_ble_eq_true rfl) ?_
  simp (disch := omega) only [F54, go_sem, reduceCtorEq, ↓reduceIte, Nat.reduceEqDiff, Nat.reduceAdd, Nat.reduceSub, Nat.reduceMul, Nat.reduceLT, Nat.reduceLeDiff, Int.reduceEq, Int.reduceNe, Int.reduceLT, Int.reduceLE, Int.reduceBEq, Int.reduceBNe, Int.reduceToNat]
  have hs := g
  refine new_opq hs fun bo h hs => ?_
  simp (disch := omega) only [go_sem, reduceCtorEq, ↓reduceIte, Nat.reduceEqDiff, Nat.reduceAdd, Nat.reduceSub, Nat.reduceMul, Nat.reduceLT, Nat.reduceLeDiff, Int.reduceEq, Int.reduceNe, Int.reduceLT, Int.reduceLE, Int.reduceBEq, Int.reduceBNe, Int.reduceToNat, hs.at]
  have hb := hs.p1.at
  simp (disch := omega) only [go_sem, reduceCtorEq, ↓reduceIte, Nat.reduceEqDiff, Nat.reduceAdd, Nat.reduceSub, Nat.reduceMul, Nat.reduceLT, Nat.reduceLeDiff, Int.reduceEq, Int.reduceNe, Int.reduceLT, Int.reduceLE, Int.reduceBEq, Int.reduceBNe, Int.reduceToNat, hb]
  have hs0 : sat h (outA bo [] [] :: pto b (.row 2 [[rootV r, .int .i64 its.length]] 1) :: rootA r :: (its.map Ixt.p ++ F)) := sat_outA.2 ⟨.nils, hs.tl fun _ g => g.add ow_nil⟩
  have fin : ∀ h, sat h (outA bo [] ((its.map Ixt.kp).filter (rngK lo hi)) :: pto b (.row 2 [[rootV r, .int .i64 its.length]] 1) :: rootA r :: (its.map Ixt.p ++ F)) →
      ∃ ov, sat h (pto bo (.row 1 [[ov]] 1) :: Ow 1 ov ((keysL L lo hi).map fun k => [.str k]) :: IxP b L :: F) := by
    intro h hs
    obtain ⟨ov, hs⟩ := sat_outA.1 hs
    rw [List.nil_append, keys_filter, hL] at hs
    exact ⟨ov, hs.tl fun _ g => g.tl fun _ g => sat_ixp.2 ⟨its, hL, sat_ixq.2 ⟨r, hok, g⟩⟩⟩
  cases r with
  | none =>
    have h0 : its.map Ixt.kp = [] := hok
    refine call_use (walk0 hs0 lo hi _) ?_
    intro r h hs
    obtain ⟨ov, hs⟩ := fin h (by rw [h0]; exact hs)
    simp (disch := omega) only [go_sem, reduceCtorEq, ↓reduceIte, Nat.reduceEqDiff, Nat.reduceAdd, Nat.reduceSub, Nat.reduceMul, Nat.reduceLT, Nat.reduceLeDiff, Int.reduceEq, Int.reduceNe, Int.reduceLT, Int.reduceLE, Int.reduceBEq, Int.reduceBNe, Int.reduceToNat, hs.at]
    exact hs.drop
  | some dt =>
    obtain ⟨d, t⟩ := dt
    have hlf : ((its.map Ixt.kp).filter (rngK lo hi)).length ≤ 1000000000 := Nat.le_trans (List.length_filter_le _ _) (by simpa using hn2)
    refine call_use (walk (A := outA bo []) (full := (its.map Ixt.kp).filter (rngK lo hi)) (f := 81) (caps := [.ptr bo 1 0 0]) rfl ?_ d t [] h hok.1 (by rw [hok.2]; exact hS) (fun h hs => ?_) (by rw [hok.2, List.nil_append]; exact List.prefix_refl _) hs0) ?_
    · intro done x h hpre hs
      obtain ⟨ov, hs⟩ := sat_outA.1 hs
      have hx : x ∈ its.map Ixt.kp := (List.mem_filter.1 (hpre.subset (by simp))).1
      have hdl := hpre.length_le
      simp only [List.length_append, List.length_cons, List.length_nil] at hdl
      obtain ⟨mv, hm⟩ := IR.of (hs.drop.drop.drop.drop) x hx
      refine t81 (Nat.le_of_ble_eq_true rfl) ?_
      simp (disch := omega) only [F81, go_sem, reduceCtorEq, ↓reduceIte, Nat.reduceEqDiff, Nat.reduceAdd, Nat.reduceSub, Nat.reduceMul, Nat.reduceLT, Nat.reduceLeDiff, Int.reduceEq, Int.reduceNe, Int.reduceLT, Int.reduceLE, Int.reduceBEq, Int.reduceBNe, Int.reduceToNat]
      simp (disch := omega) only [go_sem, reduceCtorEq, ↓reduceIte, Nat.reduceEqDiff, Nat.reduceAdd, Nat.reduceSub, Nat.reduceMul, Nat.reduceLT, Nat.reduceLeDiff, Int.reduceEq, Int.reduceNe, Int.reduceLT, Int.reduceLE, Int.reduceBEq, Int.reduceBNe, Int.reduceToNat, hs.at, hm]
      refine new_opq hs fun bn h hs => ?_
      simp (disch := omega) only [go_sem, reduceCtorEq, ↓reduceIte, Nat.reduceEqDiff, Nat.reduceAdd, Nat.reduceSub, Nat.reduceMul, Nat.reduceLT, Nat.reduceLeDiff, Int.reduceEq, Int.reduceNe, Int.reduceLT, Int.reduceLE, Int.reduceBEq, Int.reduceBNe, Int.reduceToNat, hs.at]
      refine app_sat (hs.drop.p1) (src_one hs.at) (atoms_str [x.2]) (by simp; omega) fun v' h hs hc' ha' => ?_
      simp (disch := omega) only [go_sem, reduceCtorEq, ↓reduceIte, Nat.reduceEqDiff, Nat.reduceAdd, Nat.reduceSub, Nat.reduceMul, Nat.reduceLT, Nat.reduceLeDiff, Int.reduceEq, Int.reduceNe, Int.reduceLT, Int.reduceLE, Int.reduceBEq, Int.reduceBNe, Int.reduceToNat, hs.p1.at, hc', ha']
      have := hs.p1.set (o' := .row 1 [[v']] 1)
      refine sat_outA.2 ⟨v', ?_⟩
      simpa using this
    · exact RT.of d t hok.1 hs.drop (by rw [hok.2]; exact IR.of hs.drop.drop)
    · intro r h hs
      rw [hok.2, List.nil_append] at hs
      obtain ⟨ov, hs⟩ := fin h hs
      simp (disch := omega) only [go_sem, reduceCtorEq, ↓reduceIte, Nat.reduceEqDiff, Nat.reduceAdd, Nat.reduceSub, Nat.reduceMul, Nat.reduceLT, Nat.reduceLeDiff, Int.reduceEq, Int.reduceNe, Int.reduceLT, Int.reduceLE, Int.reduceBEq, Int.reduceBNe, Int.reduceToNat, hs.at]
      exact hs.drop
theorem clone_mark {b off len cap rc : Nat} {ms : List Mk} (hs : sat h (pto b (.row 2 (ms.map mkE) rc) :: F)) (h1 : off + len ≤ ms.length) (h2 : ms.length ≤ 1000000000) :
    Triple Try.prog 92 [.arr b 2 off len cap] h (fun r h => sat h (Ow 2 r (((ms.drop off).take len).map mkE) :: pto b (.row 2 (ms.map mkE) rc) :: F)) := by
  refine t92 (Nat.le_of_ble_eq_true rfl) ?_
  simp (disch := omega) only [F92, go_sem, reduceCtorEq, ↓reduceIte, Nat.reduceEqDiff, Nat.reduceAdd, Nat.reduceSub, Nat.reduceMul, Nat.reduceLT, Nat.reduceLeDiff, Int.reduceEq, Int.reduceNe, Int.reduceLT, Int.reduceLE, Int.reduceBEq, Int.reduceBNe, Int.reduceToNat]
  refine new_opq hs fun n h hs => ?_
  simp (disch := omega) only [go_sem, reduceCtorEq, ↓reduceIte, Nat.reduceEqDiff, Nat.reduceAdd, Nat.reduceSub, Nat.reduceMul, Nat.reduceLT, Nat.reduceLeDiff, Int.reduceEq, Int.reduceNe, Int.reduceLT, Int.reduceLE, Int.reduceBEq, Int.reduceBNe, Int.reduceToNat, hs.at]
  have hy : srcA 2 h (.arr b 2 off len cap) = some (((ms.drop off).take len).map mkE) := by
    have := src_part (c := cap) hs.p1 (off := off) (len := len) (by simpa using h1)
    rw [this]; simp
  refine app_sat (hs.ow (by simp)) hy (atoms_mkE _) (by simp; omega) fun v' h hs hc' ha' => ?_
  simp (disch := omega) only [go_sem, reduceCtorEq, ↓reduceIte, Nat.reduceEqDiff, Nat.reduceAdd, Nat.reduceSub, Nat.reduceMul, Nat.reduceLT, Nat.reduceLeDiff, Int.reduceEq, Int.reduceNe, Int.reduceLT, Int.reduceLE, Int.reduceBEq, Int.reduceBNe, Int.reduceToNat]
  simpa using hs
end
end Go.Proofs.Ytkclojjeepomfaa
/- trimmed, Trim, Height. -/
set_option linter.unusedSimpArgs false
set_option linter.unusedVariables false
set_option maxRecDepth 10000
namespace Go.Proofs.Ytkclojjeepomfaa
open Go.Hz

section
variable {h : Hp} {F : List Asr}
theorem trimmed {mv : AV} {ms : List Mk} {rev : Int} (hs : sat h (Ow 2 mv (ms.map mkE) :: F)) (hne : ms ≠ []) (hr : RisM ms) (hl : ms.length ≤ 1000000000) :
    Triple Try.prog 76 [mv, .int .i64 rev] h (fun r h => sat h (Ow 2 r ((trimM ms rev).map mkE) :: F)) := by
  obtain ⟨m0, hm0⟩ : ∃ m, ms[0]? = some m := ⟨_, List.getElem?_eq_getElem (List.length_pos_iff.2 hne)⟩
  obtain ⟨b, cap, rfl, g, hc⟩ : ∃ b cap, mv = .arr b 2 0 ms.length cap ∧ sat h (pto b (.row 2 (ms.map mkE) cap) :: F) ∧ ms.length ≤ cap := by
    rcases hs.cases with ⟨_, h0, _⟩ | ⟨b, cap, hv, g, hc⟩
    · exact absurd (by simpa using h0) hne
    · rw [List.length_map] at hv hc; exact ⟨b, cap, hv, g, hc⟩
  clear hs
  refine t76 (Nat.le_of_ble_eq_true rfl) ?_
  simp (disch := omega) only [F76, go_sem, reduceCtorEq, ↓reduceIte, Nat.reduceEqDiff, Nat.reduceAdd, Nat.reduceSub, Nat.reduceMul, Nat.reduceLT, Nat.reduceLeDiff, Int.reduceEq, Int.reduceNe, Int.reduceLT, Int.reduceLE, Int.reduceBEq, Int.reduceBNe, Int.reduceToNat]
  have hs := g
  refine new_opq hs fun b2 h hs => ?_
  simp (disch := omega) only [go_sem, reduceCtorEq, ↓reduceIte, Nat.reduceEqDiff, Nat.reduceAdd, Nat.reduceSub, Nat.reduceMul, Nat.reduceLT, Nat.reduceLeDiff, Int.reduceEq, Int.reduceNe, Int.reduceLT, Int.reduceLE, Int.reduceBEq, Int.reduceBNe, Int.reduceToNat, hs.at]
  refine new_opq hs fun b3 h hs => ?_
  simp (disch := omega) only [go_sem, reduceCtorEq, ↓reduceIte, Nat.reduceEqDiff, Nat.reduceAdd, Nat.reduceSub, Nat.reduceMul, Nat.reduceLT, Nat.reduceLeDiff, Int.reduceEq, Int.reduceNe, Int.reduceLT, Int.reduceLE, Int.reduceBEq, Int.reduceBNe, Int.reduceToNat, hs.at]
  have hb2 := hs.p1.at
  simp (disch := omega) only [go_sem, reduceCtorEq, ↓reduceIte, Nat.reduceEqDiff, Nat.reduceAdd, Nat.reduceSub, Nat.reduceMul, Nat.reduceLT, Nat.reduceLeDiff, Int.reduceEq, Int.reduceNe, Int.reduceLT, Int.reduceLE, Int.reduceBEq, Int.reduceBNe, Int.reduceToNat, hb2]
  refine call_use (search (N := ms.length) (f := 91) (caps := [.ptr b2 1 0 0, .ptr b3 1 0 0]) (pr := fun i => match ms[i]? with | some m => decide (rev < m.1) | none => true) hs (by omega) rfl ?_ ?_) ?_
  · intro i j hij hj hp
    have hx := List.getElem?_eq_getElem hj
    have hy := List.getElem?_eq_getElem (Nat.lt_of_le_of_lt hij hj)
    simp only [hx, hy, decide_eq_true_eq] at hp ⊢
    by_cases hij' : i = j
    · subst hij'; exact hp
    · have := hr.mono (by omega) hy hx
      omega
  · intro i h hi hs
    have hx := List.getElem?_eq_getElem hi
    have hrow : (ms.map mkE)[i]? = some (mkE ms[i]) := by simp [hx]
    have hia : iaA 2 (.arr b 2 0 ms.length cap) (.int .i64 i) = some (.ptr b 2 i 0) := by rw [iaA_go (by omega) (by omega)]; simp
    refine t91 (Nat.le_of_ble_eq_true rfl) ?_
    simp (disch := omega) only [F91, go_sem, reduceCtorEq, ↓reduceIte, Nat.reduceEqDiff, Nat.reduceAdd, Nat.reduceSub, Nat.reduceMul, Nat.reduceLT, Nat.reduceLeDiff, Int.reduceEq, Int.reduceNe, Int.reduceLT, Int.reduceLE, Int.reduceBEq, Int.reduceBNe, Int.reduceToNat]
    have hb3 := hs.at
    have hb2 := hs.p1.at
    have hb := hs.p2.at
    simp (disch := omega) only [go_sem, reduceCtorEq, ↓reduceIte, Nat.reduceEqDiff, Nat.reduceAdd, Nat.reduceSub, Nat.reduceMul, Nat.reduceLT, Nat.reduceLeDiff, Int.reduceEq, Int.reduceNe, Int.reduceLT, Int.reduceLE, Int.reduceBEq, Int.reduceBNe, Int.reduceToNat, hb2, hb3, hia, hb, hrow, mkE]
    simp only [hx]
    exact ⟨trivial, hs⟩
  · rintro r h ⟨k, rfl, hk, hlo, hhi, hs⟩
    have hcnt : cntM ms rev = k := cntM_eq hk (fun i m hi hik => by
      have := hlo i hik
      simp only [hi, decide_eq_false_iff_not] at this; omega) (fun i m hi hik => by
      have := hhi i hik (List.getElem?_eq_some_iff.1 hi).1
      simpa [hi] using this)
    have hb2 := hs.p1.at
    simp (disch := omega) only [go_sem, reduceCtorEq, ↓reduceIte, Nat.reduceEqDiff, Nat.reduceAdd, Nat.reduceSub, Nat.reduceMul, Nat.reduceLT, Nat.reduceLeDiff, Int.reduceEq, Int.reduceNe, Int.reduceLT, Int.reduceLE, Int.reduceBEq, Int.reduceBNe, Int.reduceToNat, hb2]
    by_cases hk0 : k = 0
    · have c1 : decide ((k : Int) - 1 < 0) = true := by simp; omega
      simp (disch := omega) only [go_sem, reduceCtorEq, ↓reduceIte, Nat.reduceEqDiff, Nat.reduceAdd, Nat.reduceSub, Nat.reduceMul, Nat.reduceLT, Nat.reduceLeDiff, Int.reduceEq, Int.reduceNe, Int.reduceLT, Int.reduceLE, Int.reduceBEq, Int.reduceBNe, Int.reduceToNat, c1, hb2]
      rw [trimM, if_pos (by rw [hcnt, hk0])]
      have := (hs.drop.drop).ow (by simpa using hc)
      rw [List.length_map] at this
      exact this
    · have c1 : decide (((k - 1 : Nat) : Int) < 0) = false := by simp
      have e1 : ((k : Int) - 1) = ((k - 1 : Nat) : Int) := by omega
      have hx := List.getElem?_eq_getElem (l := ms) (i := k - 1) (by omega)
      have hrow : (ms.map mkE)[k - 1]? = some (mkE ms[k - 1]) := by simp [hx]
      have hia : iaA 2 (.arr b 2 0 ms.length cap) (.int .i64 ((k - 1 : Nat) : Int)) = some (.ptr b 2 (k - 1) 0) := by rw [iaA_go (by omega) (by omega)]; simp
      have hb := hs.p2.at
      simp (disch := omega) only [go_sem, reduceCtorEq, ↓reduceIte, Nat.reduceEqDiff, Nat.reduceAdd, Nat.reduceSub, Nat.reduceMul, Nat.reduceLT, Nat.reduceLeDiff, Int.reduceEq, Int.reduceNe, Int.reduceLT, Int.reduceLE, Int.reduceBEq, Int.reduceBNe, Int.reduceToNat, c1, hb2, e1, hia, hb, hrow, mkE]
      have ht : trimM ms rev = ms.drop (if ms[k - 1].2 = true then k else k - 1) := by
        rw [trimM, if_neg (by rw [hcnt]; exact hk0), hcnt, List.getD_eq_getElem?_getD, hx]; rfl
      generalize ha : (if ms[k - 1].2 = true then k else k - 1) = a at ht
      have hal : a ≤ ms.length := by subst ha; split <;> omega
      refine cnd_join (Q := fun e' h' => h' = h ∧ (e' 2 = .ptr b2 1 0 0 ∧ e' 5 = .int .i64 (a : Nat))) ?_ ?_
      · cases hd : ms[k - 1].2
        · rw [hd] at ha
          subst ha
          simp (disch := omega) only [go_sem, reduceCtorEq, ↓reduceIte, Nat.reduceEqDiff, Nat.reduceAdd, Nat.reduceSub, Nat.reduceMul, Nat.reduceLT, Nat.reduceLeDiff, Int.reduceEq, Int.reduceNe, Int.reduceLT, Int.reduceLE, Int.reduceBEq, Int.reduceBNe, Int.reduceToNat]
        · rw [hd] at ha
          subst ha
          have e2 : ((k - 1 : Nat) : Int) + 1 = (k : Int) := by omega
          simp (disch := omega) only [go_sem, reduceCtorEq, ↓reduceIte, Nat.reduceEqDiff, Nat.reduceAdd, Nat.reduceSub, Nat.reduceMul, Nat.reduceLT, Nat.reduceLeDiff, Int.reduceEq, Int.reduceNe, Int.reduceLT, Int.reduceLE, Int.reduceBEq, Int.reduceBNe, Int.reduceToNat, e2]
      · rintro e h' ⟨rfl, he⟩
        simp (disch := omega) only [go_sem, reduceCtorEq, ↓reduceIte, Nat.reduceEqDiff, Nat.reduceAdd, Nat.reduceSub, Nat.reduceMul, Nat.reduceLT, Nat.reduceLeDiff, Int.reduceEq, Int.reduceNe, Int.reduceLT, Int.reduceLE, Int.reduceBEq, Int.reduceBNe, Int.reduceToNat, he, hb2, slcL_lo]
        refine call_use (clone_mark (off := a) (len := ms.length - a) (hs.drop.drop) (by omega) hl) ?_
        intro r h hs
        simp (disch := omega) only [go_sem, reduceCtorEq, ↓reduceIte, Nat.reduceEqDiff, Nat.reduceAdd, Nat.reduceSub, Nat.reduceMul, Nat.reduceLT, Nat.reduceLeDiff, Int.reduceEq, Int.reduceNe, Int.reduceLT, Int.reduceLE, Int.reduceBEq, Int.reduceBNe, Int.reduceToNat]
        rw [ht]
        have := hs.d1
        rw [List.take_of_length_le (by simp)] at this
        exact this

def trimA (bp bn : Nat) (its : List Ixt) (rev : Int) (done : List Kp) : Asr := fun h => ∃ its', its'.map Ixt.kv = trimL ((its.take done.length).map Ixt.kv) rev ∧ sat h (pto bp (.row 1 [[.ptr bn 2 0 0]] 1) :: IxQ bn its' :: (its.drop done.length).map Ixt.m)
theorem sat_trimA {bp bn : Nat} {its : List Ixt} {rev : Int} {done : List Kp} : sat h (trimA bp bn its rev done :: F) ↔ ∃ its', its'.map Ixt.kv = trimL ((its.take done.length).map Ixt.kv) rev ∧ sat h (pto bp (.row 1 [[.ptr bn 2 0 0]] 1) :: IxQ bn its' :: ((its.drop done.length).map Ixt.m ++ F)) := by
  unfold trimA
  rw [sat_ex]
  exact ⟨fun ⟨r, hs⟩ => ⟨r, (sat_and.1 hs).1, sat_sl.1 (sat_and.1 hs).2⟩, fun ⟨r, h1, hs⟩ => ⟨r, sat_and.2 ⟨h1, sat_sl.2 hs⟩⟩⟩

theorem trim1 {bp bn b3 : Nat} {its : List Ixt} {rev : Int} {done : List Kp} {x : Kp} {G : List Asr} (hS : SrtI its) (hms : ∀ x ∈ its, x.ms ≠ [] ∧ RisM x.ms ∧ x.ms.length ≤ 1000000000) (hn : its.length ≤ 1000000000)
    (hpre : (done ++ [x]) <+: its.map Ixt.kp) (hs : sat h (trimA bp bn its rev done :: pto b3 (.row 1 [[.int .i64 rev]] 1) :: (its.map Ixt.k ++ G))) :
    Triple Try.prog 75 [.ptr x.1 2 0 0, .ptr b3 1 0 0, .ptr bp 1 0 0] h (fun r h => sat h (trimA bp bn its rev (done ++ [x]) :: pto b3 (.row 1 [[.int .i64 rev]] 1) :: (its.map Ixt.k ++ G))) := by
  have hi : done.length < its.length := by
    have := hpre.length_le
    simp at this; omega
  have hxe : x = its[done.length].kp := by
    obtain ⟨t, ht⟩ := hpre
    have := congrArg (fun l => l[done.length]?) ht
    simpa [List.getElem?_append, hi] using this
  have hd : its.drop done.length = its[done.length] :: its.drop (done.length + 1) := List.drop_eq_getElem_cons hi
  generalize hy : its[done.length] = y at hd hxe
  have hym : y ∈ its := by rw [← hy]; exact List.getElem_mem _
  obtain ⟨y1, y2, y3⟩ := hms y hym
  subst hxe
  obtain ⟨its', hkv, hs⟩ := sat_trimA.1 hs
  rw [hd, List.map_cons, List.cons_append] at hs
  have hk : ∀ {h : Hp}, sat h (pto b3 (.row 1 [[.int .i64 rev]] 1) :: (its.map Ixt.k ++ G)) → h y.a = some (.row 2 [[.str y.key, y.mv]] 1) := by
    intro h hs
    obtain ⟨l1, l2, rfl⟩ := List.append_of_mem hym
    have g := hs.drop
    rw [List.map_append, List.map_cons, List.append_assoc] at g
    exact g.mid.at
  have hti : its.take (done ++ [y.kp]).length = its.take done.length ++ [y] := by
    rw [List.length_append, List.length_singleton, List.take_succ_eq_append_getElem hi, hy]
  have hdi : its.drop (done ++ [y.kp]).length = its.drop (done.length + 1) := by simp
  have hts : trimL ((its.take (done ++ [y.kp]).length).map Ixt.kv) rev = trimL ((its.take done.length).map Ixt.kv) rev ++ (if (trimM y.ms rev).isEmpty then [] else [(y.key, trimM y.ms rev)]) := by
    rw [hti, List.map_append]; exact trimL_snoc _ _ _ _
  have hkl : ∀ z ∈ its', ltK z.key y.key = true := by
    intro z hz
    have h1 : z.kv ∈ trimL ((its.take done.length).map Ixt.kv) rev := by rw [← hkv]; exact List.mem_map_of_mem hz
    obtain ⟨w, hw, hwz⟩ := List.mem_map.1 (List.mem_filter.1 h1).1
    obtain ⟨v, hv, rfl⟩ := List.mem_map.1 hw
    have e : v.key = z.key := by
      have := congrArg Prod.fst hwz
      simpa [Ixt.kv] using this
    have hS2 := hS
    unfold SrtI at hS2
    rw [← List.take_append_drop done.length its, List.map_append, hd] at hS2
    have := (Srt.app.1 hS2).2.2 v.kp (List.mem_map_of_mem hv) y.kp (by simp)
    rw [← e]; exact this
  have hS' : SrtI its' := by
    rw [SrtI.kv, hkv]
    have : SrtL ((its.take done.length).map Ixt.kv) := SrtI.kv.1 (hS.take _)
    refine List.Pairwise.filter _ ?_
    rw [List.pairwise_map]; exact this
  have hl' : its'.length ≤ 1000000000 := by
    have e1 := congrArg List.length hkv
    rw [List.length_map] at e1
    have e2 : (trimL ((its.take done.length).map Ixt.kv) rev).length ≤ its.length := by
      unfold trimL
      refine Nat.le_trans (List.length_filter_le _ _) ?_
      simp; omega
    omega
  change Triple Try.prog 75 [.ptr y.a 2 0 0, .ptr b3 1 0 0, .ptr bp 1 0 0] h _
  refine t75 (Nat.le_of_ble_eq_true rfl) ?_
  simp (disch := omega) only [F75, go_sem, reduceCtorEq, ↓reduceIte, Nat.reduceEqDiff, Nat.reduceAdd, Nat.reduceSub, Nat.reduceMul, Nat.reduceLT, Nat.reduceLeDiff, Int.reduceEq, Int.reduceNe, Int.reduceLT, Int.reduceLE, Int.reduceBEq, Int.reduceBNe, Int.reduceToNat]
  have hb3 := (hs.drop.drop.drop.right).at
  have hya := hk hs.drop.drop.drop.right
  simp (disch := omega) only [go_sem, reduceCtorEq, ↓reduceIte, Nat.reduceEqDiff, Nat.reduceAdd, Nat.reduceSub, Nat.reduceMul, Nat.reduceLT, Nat.reduceLeDiff, Int.reduceEq, Int.reduceNe, Int.reduceLT, Int.reduceLE, Int.reduceBEq, Int.reduceBNe, Int.reduceToNat, hya, hb3]
  have hq : sat h (Ow 2 y.mv (y.ms.map mkE) :: pto bp (.row 1 [[.ptr bn 2 0 0]] 1) :: IxQ bn its' :: ((its.drop (done.length + 1)).map Ixt.m ++ pto b3 (.row 1 [[.int .i64 rev]] 1) :: (its.map Ixt.k ++ G))) := hs.p1.p1.p2
  refine call_use (trimmed hq y1 y2 y3) ?_
  intro r h hs
  have hrl := hs.owr.len
  rw [List.length_map] at hrl
  have hrc := hs.els.cells
  have hra := hs.els.atom
  simp (disch := omega) only [go_sem, reduceCtorEq, ↓reduceIte, Nat.reduceEqDiff, Nat.reduceAdd, Nat.reduceSub, Nat.reduceMul, Nat.reduceLT, Nat.reduceLeDiff, Int.reduceEq, Int.reduceNe, Int.reduceLT, Int.reduceLE, Int.reduceBEq, Int.reduceBNe, Int.reduceToNat, hrl]
  by_cases he : trimM y.ms rev = []
  · have c : decide ((0 : Int) < ((trimM y.ms rev).length : Int)) = false := by rw [he]; rfl
    simp (disch := omega) only [go_sem, reduceCtorEq, ↓reduceIte, Nat.reduceEqDiff, Nat.reduceAdd, Nat.reduceSub, Nat.reduceMul, Nat.reduceLT, Nat.reduceLeDiff, Int.reduceEq, Int.reduceNe, Int.reduceLT, Int.reduceLE, Int.reduceBEq, Int.reduceBNe, Int.reduceToNat, c]
    refine sat_trimA.2 ⟨its', ?_, ?_⟩
    · rw [hts, he, hkv]; simp
    · rw [hdi]; exact hs.drop
  · have c : decide ((0 : Int) < ((trimM y.ms rev).length : Int)) = true := by
      have := List.length_pos_iff.2 he
      simp; omega
    have hbp := hs.p1.at
    have hya := hk hs.drop.drop.drop.right
    simp (disch := omega) only [go_sem, reduceCtorEq, ↓reduceIte, Nat.reduceEqDiff, Nat.reduceAdd, Nat.reduceSub, Nat.reduceMul, Nat.reduceLT, Nat.reduceLeDiff, Int.reduceEq, Int.reduceNe, Int.reduceLT, Int.reduceLE, Int.reduceBEq, Int.reduceBNe, Int.reduceToNat, c, hbp, hya, hrc, hra]
    refine new_opq hs fun ba h hs => ?_
    simp (disch := omega) only [go_sem, reduceCtorEq, ↓reduceIte, Nat.reduceEqDiff, Nat.reduceAdd, Nat.reduceSub, Nat.reduceMul, Nat.reduceLT, Nat.reduceLeDiff, Int.reduceEq, Int.reduceNe, Int.reduceLT, Int.reduceLE, Int.reduceBEq, Int.reduceBNe, Int.reduceToNat, hs.at]
    have hx : insIt (Ixt.mk ba y.key r (trimM y.ms rev)) its' = its' ++ [Ixt.mk ba y.key r (trimM y.ms rev)] := insIt_last hkl
    have hq2 : sat h (IxQ bn its' :: (Ixt.mk ba y.key r (trimM y.ms rev)).p :: pto bp (.row 1 [[.ptr bn 2 0 0]] 1) :: ((its.drop (done.length + 1)).map Ixt.m ++ pto b3 (.row 1 [[.int .i64 rev]] 1) :: (its.map Ixt.k ++ G))) :=
      (hs.p2.p2.p2.p3).tl fun h g => sat_it.2 g
    refine call_use (ixAdd hq2 hS' (fun z hz e => ?_) hl') ?_
    · have := hkl z hz
      rw [e, ltK_irrefl] at this; cases this
    · intro r2 h hs
      simp (disch := omega) only [go_sem, reduceCtorEq, ↓reduceIte, Nat.reduceEqDiff, Nat.reduceAdd, Nat.reduceSub, Nat.reduceMul, Nat.reduceLT, Nat.reduceLeDiff, Int.reduceEq, Int.reduceNe, Int.reduceLT, Int.reduceLE, Int.reduceBEq, Int.reduceBNe, Int.reduceToNat]
      rw [hx] at hs
      refine sat_trimA.2 ⟨its' ++ [Ixt.mk ba y.key r (trimM y.ms rev)], ?_, ?_⟩
      rotate_left
      · rw [hdi]; exact hs.p1
      · have : (trimM y.ms rev).isEmpty = false := by simpa using he
        rw [hts, List.map_append, hkv, this]
        simp [Ixt.kv]

theorem ixTrim {b : Nat} {L : IL} {rev : Int} (hs : sat h (IxP b L :: F)) (hw : WfL L) (hl : ∀ x ∈ L, x.2.length ≤ 1000000000) (hn : L.length ≤ 1000000000) :
    Triple Try.prog 49 [.ptr b 2 0 0, .int .i64 rev] h (fun r h => sat h (IxP b (trimL L rev) :: F)) := by
  obtain ⟨its, hL, hq⟩ := sat_ixp.1 hs
  have hS := SrtI.kv.2 (hL ▸ hw.1)
  have hn2 : its.length ≤ 1000000000 := by rw [← hL, List.length_map] at hn; exact hn
  have hms : ∀ x ∈ its, x.ms ≠ [] ∧ RisM x.ms ∧ x.ms.length ≤ 1000000000 := fun x hx => by
    have hm : x.kv ∈ L := by rw [← hL]; exact List.mem_map_of_mem hx
    exact ⟨(hw.2 _ hm).1, (hw.2 _ hm).2, hl _ hm⟩
  obtain ⟨r, hok, g⟩ := sat_ixq.1 hq
  clear hs hq
  refine t49 (Nat.le_of_ble_eq_true rfl) ?_
  simp (disch := omega) only [F49, go_sem, reduceCtorEq, ↓reduceIte, Nat.reduceEqDiff, Nat.reduceAdd, Nat.reduceSub, Nat.reduceMul, Nat.reduceLT, Nat.reduceLeDiff, Int.reduceEq, Int.reduceNe, Int.reduceLT, Int.reduceLE, Int.reduceBEq, Int.reduceBNe, Int.reduceToNat]
  have hs := g
  refine new_opq hs fun b3 h hs => ?_
  simp (disch := omega) only [go_sem, reduceCtorEq, ↓reduceIte, Nat.reduceEqDiff, Nat.reduceAdd, Nat.reduceSub, Nat.reduceMul, Nat.reduceLT, Nat.reduceLeDiff, Int.reduceEq, Int.reduceNe, Int.reduceLT, Int.reduceLE, Int.reduceBEq, Int.reduceBNe, Int.reduceToNat, hs.at]
  refine new_opq hs fun bn h hs => ?_
  simp (disch := omega) only [go_sem, reduceCtorEq, ↓reduceIte, Nat.reduceEqDiff, Nat.reduceAdd, Nat.reduceSub, Nat.reduceMul, Nat.reduceLT, Nat.reduceLeDiff, Int.reduceEq, Int.reduceNe, Int.reduceLT, Int.reduceLE, Int.reduceBEq, Int.reduceBNe, Int.reduceToNat, hs.at]
  refine new_opq hs fun bp h hs => ?_
  simp (disch := omega) only [go_sem, reduceCtorEq, ↓reduceIte, Nat.reduceEqDiff, Nat.reduceAdd, Nat.reduceSub, Nat.reduceMul, Nat.reduceLT, Nat.reduceLeDiff, Int.reduceEq, Int.reduceNe, Int.reduceLT, Int.reduceLE, Int.reduceBEq, Int.reduceBNe, Int.reduceToNat, hs.at]
  have hs := hs.set (o' := .row 1 [[.ptr bn 2 0 0]] 1)
  have hb := hs.p2.p2.p2.p3.at
  simp (disch := omega) only [go_sem, reduceCtorEq, ↓reduceIte, Nat.reduceEqDiff, Nat.reduceAdd, Nat.reduceSub, Nat.reduceMul, Nat.reduceLT, Nat.reduceLeDiff, Int.reduceEq, Int.reduceNe, Int.reduceLT, Int.reduceLE, Int.reduceBEq, Int.reduceBNe, Int.reduceToNat, hb]
  generalize hhh : Hp.set _ bp (.row 1 [[.ptr bn 2 0 0]] 1) = h2 at hs hb ⊢
  have hs0 : sat h2 (trimA bp bn its rev [] :: pto b3 (.row 1 [[.int .i64 rev]] 1) :: (its.map Ixt.k ++ (pto b (.row 2 [[rootV r, .int .i64 its.length]] 1) :: rootA r :: F))) := by
    refine sat_trimA.2 ⟨[], rfl, ?_⟩
    have g1 : sat h2 ([pto bp (.row 1 [[.ptr bn 2 0 0]] 1), pto bn (.row 2 [[.nilp, .int .i64 0]] 1), pto b3 (.row 1 [[.int .i64 rev]] 1), pto b (.row 2 [[rootV r, .int .i64 its.length]] 1), rootA r] ++ (its.map Ixt.k ++ (its.map Ixt.m ++ F))) :=
      sat.tls (l1 := [_, _, _, _, _]) hs fun h g => (sat_km its).1 g
    have g2 : sat h2 (pto bp (.row 1 [[.ptr bn 2 0 0]] 1) :: IxQ bn [] :: pto b3 (.row 1 [[.int .i64 rev]] 1) :: pto b (.row 2 [[rootV r, .int .i64 its.length]] 1) :: rootA r :: (its.map Ixt.k ++ (its.map Ixt.m ++ F))) :=
      g1.tl fun h g => sat_ixq.2 ⟨none, rfl, g.tl fun h g => g.add trivial⟩
    refine g2.tl fun h g => g.tl fun h g => ?_
    have g3 : sat h ([pto b3 (.row 1 [[.int .i64 rev]] 1), pto b (.row 2 [[rootV r, .int .i64 its.length]] 1), rootA r] ++ (its.map Ixt.m ++ (its.map Ixt.k ++ F))) := g.tls (l1 := [_, _, _]) fun h g => g.swapl
    have g4 := g3.swapl
    refine g4.tls fun h g => g.tl fun h g => ?_
    exact sat.swapl (l1 := [_, _]) g
  have fin : ∀ h, sat h (trimA bp bn its rev (its.map Ixt.kp) :: pto b3 (.row 1 [[.int .i64 rev]] 1) :: (its.map Ixt.k ++ (pto b (.row 2 [[rootV r, .int .i64 its.length]] 1) :: rootA r :: F))) →
      ∃ (its' : List Ixt) (r' : Option (Nat × Tr)), its'.map Ixt.kv = trimL L rev ∧ rootOK (its'.map Ixt.kp) r' ∧ sat h (pto b (.row 2 [[rootV r, .int .i64 its.length]] 1) :: pto bp (.row 1 [[.ptr bn 2 0 0]] 1) :: pto bn (.row 2 [[rootV r', .int .i64 its'.length]] 1) :: rootA r' :: (its'.map Ixt.p ++ F)) := by
    intro h hs
    obtain ⟨its', hkv, hs⟩ := sat_trimA.1 hs
    rw [List.length_map, List.take_length, hL] at hkv
    have g := hs.p1
    obtain ⟨r', hok', g⟩ := sat_ixq.1 g
    refine ⟨its', r', hkv, hok', ?_⟩
    have e : (its.drop (its.map Ixt.kp).length).map Ixt.m = [] := by simp
    rw [e, List.nil_append] at g
    have g2 : sat h ([pto bn (.row 2 [[rootV r', .int .i64 its'.length]] 1), rootA r'] ++ (its'.map Ixt.p ++ (pto bp (.row 1 [[.ptr bn 2 0 0]] 1) :: pto b (.row 2 [[rootV r, .int .i64 its.length]] 1) :: F))) := by
      refine sat.tls (l1 := [_, _]) g fun h g => g.tls fun h g => g.tl fun h g => ?_
      have g3 := g.drop.right
      exact g3.tl fun h g => g.drop
    have g3 := sat.swapl (l1 := its'.map Ixt.p) (l2 := [pto bp (.row 1 [[.ptr bn 2 0 0]] 1), pto b (.row 2 [[rootV r, .int .i64 its.length]] 1)]) (g2.drop.drop)
    have g4 : sat h ([pto bn (.row 2 [[rootV r', .int .i64 its'.length]] 1), rootA r'] ++ ([pto bp (.row 1 [[.ptr bn 2 0 0]] 1), pto b (.row 2 [[rootV r, .int .i64 its.length]] 1)] ++ (its'.map Ixt.p ++ F))) :=
      g2.tls fun h g => sat.swapl (l1 := its'.map Ixt.p) (l2 := [_, _]) g
    exact g4.p1.p1.p2.p3
  cases r with
  | none =>
    have h0 : its = [] := by
      have : its.map Ixt.kp = [] := hok
      simpa using this
    refine call_use (walk0 hs0 [] [] _) ?_
    intro r h hs
    obtain ⟨its', r', hkv, hok', hs⟩ := fin h (by rw [h0] at hs ⊢; exact hs)
    have h1 := hs.at
    have h2 := hs.p1.at
    have h3 := hs.p2.at
    have hrc := root_cells r'
    have hra := root_atom r'
    simp (disch := omega) only [go_sem, reduceCtorEq, ↓reduceIte, Nat.reduceEqDiff, Nat.reduceAdd, Nat.reduceSub, Nat.reduceMul, Nat.reduceLT, Nat.reduceLeDiff, Int.reduceEq, Int.reduceNe, Int.reduceLT, Int.reduceLE, Int.reduceBEq, Int.reduceBNe, Int.reduceToNat, h1, h2, h3, hrc, hra]
    have g := (hs.set (o' := .row 2 [[rootV r', .int .i64 its'.length]] 1)).d1.d1
    exact sat_ixp.2 ⟨its', hkv, sat_ixq.2 ⟨r', hok', g⟩⟩
  | some dt =>
    obtain ⟨d, t⟩ := dt
    have hfl : (its.map Ixt.kp).filter (rngK [] []) = its.map Ixt.kp := List.filter_eq_self.2 fun x hx => by
      have : ltK x.2 [] = false := by cases x.2 <;> rfl
      simp [rngK, this]
    refine call_use (walk (lo := []) (hi := []) (A := trimA bp bn its rev) (full := its.map Ixt.kp) (f := 75) (caps := [.ptr b3 1 0 0, .ptr bp 1 0 0]) rfl ?_ d t [] h2 hok.1 (by rw [hok.2]; exact hS) (fun h hs => ?_) (by rw [hok.2, hfl, List.nil_append]; exact List.prefix_refl _) hs0) ?_
    · intro done x h hpre hs
      exact trim1 hS hms hn2 hpre hs
    · have g := hs.drop.right.drop
      refine RT.of d t hok.1 g ?_
      rw [hok.2]
      intro y hy
      obtain ⟨x, hx, rfl⟩ := List.mem_map.1 hy
      obtain ⟨l1, l2, rfl⟩ := List.append_of_mem hx
      have g := hs.drop
      rw [List.map_append, List.map_cons, List.append_assoc] at g
      exact ⟨x.mv, g.mid.at⟩
    · intro r h hs
      rw [hok.2, hfl, List.nil_append] at hs
      obtain ⟨its', r', hkv, hok', hs⟩ := fin h hs
      have h1 := hs.at
      have h2 := hs.p1.at
      have h3 := hs.p2.at
      have hrc := root_cells r'
      have hra := root_atom r'
      simp (disch := omega) only [go_sem, reduceCtorEq, ↓reduceIte, Nat.reduceEqDiff, Nat.reduceAdd, Nat.reduceSub, Nat.reduceMul, Nat.reduceLT, Nat.reduceLeDiff, Int.reduceEq, Int.reduceNe, Int.reduceLT, Int.reduceLE, Int.reduceBEq, Int.reduceBNe, Int.reduceToNat, h1, h2, h3, hrc, hra]
      have g := (hs.set (o' := .row 2 [[rootV r', .int .i64 its'.length]] 1)).d1.d1
      exact sat_ixp.2 ⟨its', hkv, sat_ixq.2 ⟨r', hok', g⟩⟩
end
end Go.Proofs.Ytkclojjeepomfaa
/- Height. -/
set_option linter.unusedSimpArgs false
set_option linter.unusedVariables false
set_option maxRecDepth 10000
namespace Go.Proofs.Ytkclojjeepomfaa
open Go.Hz

section
variable {h : Hp} {F : List Asr}
end
end Go.Proofs.Ytkclojjeepomfaa
/- The store: a key at a revision. -/
set_option linter.unusedSimpArgs false
set_option linter.unusedVariables false
set_option maxRecDepth 10000
namespace Go.Proofs.Ytkclojjeepomfaa
open Go.Hz

abbrev tp : Nat := 87
abbrev td : Nat := 93
abbrev StP (s : Nat) (A : Sto) (o : AV) : Asr := MvP tp td s A o

section
variable {h : Hp} {F : List Asr} {s : Nat} {A : Sto} {o : AV}

theorem putKey {kv : Kv} (hs : sat h F) : Triple Try.prog 146 [.agg (kvC kv)] h (fun r h => r = .str kv.key ∧ sat h F) := by
  refine t146 (Nat.le_of_ble_eq_true rfl) ?_
  simp (disch := omega) only [F146, kvC, go_sem, reduceCtorEq, ↓reduceIte, Nat.reduceEqDiff, Nat.reduceAdd, Nat.reduceSub, Nat.reduceMul, Nat.reduceLT, Nat.reduceLeDiff, Int.reduceEq, Int.reduceNe, Int.reduceLT, Int.reduceLE, Int.reduceBEq, Int.reduceBNe, Int.reduceToNat]
  refine new_opq hs fun a h hs => ?_
  have ha := hs.at
  simp (disch := omega) only [go_sem, reduceCtorEq, ↓reduceIte, Nat.reduceEqDiff, Nat.reduceAdd, Nat.reduceSub, Nat.reduceMul, Nat.reduceLT, Nat.reduceLeDiff, Int.reduceEq, Int.reduceNe, Int.reduceLT, Int.reduceLE, Int.reduceBEq, Int.reduceBNe, Int.reduceToNat, ha]
  exact hs.drop
theorem delKey {k : Key} (hs : sat h F) : Triple Try.prog 147 [.agg [.str k]] h (fun r h => r = .str k ∧ sat h F) := by
  refine t147 (Nat.le_of_ble_eq_true rfl) ?_
  simp (disch := omega) only [F147, go_sem, reduceCtorEq, ↓reduceIte, Nat.reduceEqDiff, Nat.reduceAdd, Nat.reduceSub, Nat.reduceMul, Nat.reduceLT, Nat.reduceLeDiff, Int.reduceEq, Int.reduceNe, Int.reduceLT, Int.reduceLE, Int.reduceBEq, Int.reduceBNe, Int.reduceToNat]
  refine new_opq hs fun a h hs => ?_
  have ha := hs.at
  simp (disch := omega) only [go_sem, reduceCtorEq, ↓reduceIte, Nat.reduceEqDiff, Nat.reduceAdd, Nat.reduceSub, Nat.reduceMul, Nat.reduceLT, Nat.reduceLeDiff, Int.reduceEq, Int.reduceNe, Int.reduceLT, Int.reduceLE, Int.reduceBEq, Int.reduceBNe, Int.reduceToNat, ha]
  exact hs.drop
theorem meth_put : methOf Try.prog tp "horologe/mvcc.key" = some 146 := by kernel_rfl
theorem meth_del : methOf Try.prog td "horologe/mvcc.key" = some 147 := by kernel_rfl
/-- A change's key. -/
theorem inv_key {st : List Fr} {e : Env} {k : Kt} {d : Option Nat} {r : List (AItem × List AItem)} {obl : List AItem} (hs : sat h F) (c : Ch)
    (hk : ∀ h', sat h' F → obls Try.prog obl (e.put d (.str c.key)) h' ∧ runS Try.prog r st (e.put d (.str c.key)) h' k) : effR Try.prog (invE Try.prog "horologe/mvcc.key" (chV tp td c) [] h) obl d r st e k := by
  unfold effR
  cases c with
  | put kv =>
    simp only [invE, chV, meth_put]
    exact ⟨okFn_ok rfl, (putKey hs).mono fun v h' ⟨h1, h2⟩ => by subst h1; exact hk h' h2⟩
  | del k =>
    simp only [invE, chV, meth_del]
    exact ⟨okFn_ok rfl, (delKey hs).mono fun v h' ⟨h1, h2⟩ => by subst h1; exact hk h' h2⟩
theorem mvRev (hs : sat h (StP s A o :: F)) : Triple Try.prog 17 [.ptr s 7 0 0] h (fun r h => r = .int .i64 A.rev ∧ sat h (StP s A o :: F)) := by
  obtain ⟨ix, vm, cv, L, X, hok, hs2⟩ := mvP.1 hs
  have hp := hs2.at
  refine t17 (Nat.le_of_ble_eq_true rfl) ?_
  simp (disch := omega) only [F17, hp, go_sem, reduceCtorEq, ↓reduceIte, Nat.reduceEqDiff, Nat.reduceAdd, Nat.reduceSub, Nat.reduceMul, Nat.reduceLT, Nat.reduceLeDiff, Int.reduceEq, Int.reduceNe, Int.reduceLT, Int.reduceLE, Int.reduceBEq, Int.reduceBNe, Int.reduceToNat]
  exact mvP.2 ⟨ix, vm, cv, L, X, hok, hs2⟩
theorem at1 {b c q : Nat} {vs : List Ver} {rev : Int} {cap : Nat} (hs : sat h (pto b (.row 1 [[.arr q 2 0 vs.length cap]] 1) :: pto c (.row 1 [[.int .i64 rev]] 1) :: pto q (.row 2 (vs.map (verC tp td)) cap) :: F)) {i : Nat} (hi : i < vs.length) :
    Triple Try.prog 71 [.int .i64 i, .ptr b 1 0 0, .ptr c 1 0 0] h (fun r h => r = .bool (decide (vs[i].rev > rev)) ∧ sat h (pto b (.row 1 [[.arr q 2 0 vs.length cap]] 1) :: pto c (.row 1 [[.int .i64 rev]] 1) :: pto q (.row 2 (vs.map (verC tp td)) cap) :: F)) := by
  have hb := hs.at
  have hc := hs.p1.at
  have hq := hs.p2.at
  have hrow : (vs.map (verC tp td))[i]? = some (verC tp td vs[i]) := by simp [hi]
  refine t71 (Nat.le_of_ble_eq_true rfl) ?_
  simp (disch := omega) only [F71, hb, hc, hq, hrow, verC, Int.toNat_natCast, go_sem, reduceCtorEq, ↓reduceIte, Nat.reduceEqDiff, Nat.reduceAdd, Nat.reduceSub, Nat.reduceMul, Nat.reduceLT, Nat.reduceLeDiff, Int.reduceEq, Int.reduceNe, Int.reduceLT, Int.reduceLE, Int.reduceBEq, Int.reduceBNe, Int.reduceToNat]
  exact hs
/-- A key at a revision. -/
theorem mvAt {key : Key} {rev : Int} (hs : sat h (StP s A o :: F)) (hz : A.chs.length ≤ 100000000) : Triple Try.prog 38 [.ptr s 7 0 0, .str key, .int .i64 rev] h (fun r h =>
    r = .tup [.agg (kvC ((vAt (A.vers key) rev).getD kv0)), .bool (vAt (A.vers key) rev).isSome] ∧ sat h (StP s A o :: F)) := by
  obtain ⟨ix, vm, cv, L, X, hok, hs2⟩ := mvP.1 hs
  refine t38 (Nat.le_of_ble_eq_true rfl) ?_
  simp (disch := omega) only [F38, go_sem, reduceCtorEq, ↓reduceIte, Nat.reduceEqDiff, Nat.reduceAdd, Nat.reduceSub, Nat.reduceMul, Nat.reduceLT, Nat.reduceLeDiff, Int.reduceEq, Int.reduceNe, Int.reduceLT, Int.reduceLE, Int.reduceBEq, Int.reduceBNe, Int.reduceToNat]
  refine new_opq hs2 fun a h hs => ?_
  simp (disch := omega) only [go_sem, reduceCtorEq, ↓reduceIte, Nat.reduceEqDiff, Nat.reduceAdd, Nat.reduceSub, Nat.reduceMul, Nat.reduceLT, Nat.reduceLeDiff, Int.reduceEq, Int.reduceNe, Int.reduceLT, Int.reduceLE, Int.reduceBEq, Int.reduceBNe, Int.reduceToNat]
  refine new_opq hs fun b h hs => ?_
  have hp := hs.p2.at
  have back : ∀ {h : Hp} {R : List Asr}, sat h (pto b (.row 6 [kvC kv0] 1) :: R) → True := fun _ => trivial
  have mk : ∀ {h : Hp}, sat h (MvL tp td s ix vm cv o A L X ++ F) → sat h (StP s A o :: F) := fun hs => mvP.2 ⟨ix, vm, cv, L, X, hok, hs⟩
  by_cases hx : ∃ x ∈ X, x.key = key
  · obtain ⟨x, hx, rfl⟩ := hx
    have hl := lk_hit keyOK_str (show sat h (MpA (fun k : Key => AV.str k) Vn.key Vn.v vm X :: _) from hs.p5) hok.2.2.1 hx (ok := false) (z := .nils)
    simp only [Bool.false_eq_true, if_false] at hl
    simp (disch := omega) only [go_sem, reduceCtorEq, ↓reduceIte, Nat.reduceEqDiff, Nat.reduceAdd, Nat.reduceSub, Nat.reduceMul, Nat.reduceLT, Nat.reduceLeDiff, Int.reduceEq, Int.reduceNe, Int.reduceLT, Int.reduceLE, Int.reduceBEq, Int.reduceBNe, Int.reduceToNat, hp, hl]
    refine new_opq hs fun c h hs => ?_
    have hc := hs.at
    obtain ⟨hv1, hv2⟩ := hok.2.2.2.1 x hx
    obtain ⟨l1, l2, rfl⟩ := List.append_of_mem hx
    have hs : sat h ((pto c (.row 1 [[.nils]] 1) :: pto b (.row 6 [kvC kv0] 1) :: pto a (.row 1 [[.int .i64 rev]] 1) :: ([pto s (.row 7 [[.int .i64 A.rev, .int .i64 A.past, .int .i64 A.now.length, .ptr ix 2 0 0, .map vm, cv, o]] 1), IxP ix L, Ow 2 cv (A.chs.map (verC tp td)), MpA (fun k : Key => AV.str k) Vn.key Vn.v vm (l1 ++ x :: l2)] ++ l1.map (VnP tp td))) ++ VnP tp td x :: (l2.map (VnP tp td) ++ F)) := by
      simpa [MvL, kvC, kv0] using hs
    have hs := hs.mid
    have mk2 : ∀ {h : Hp}, sat h (VnP tp td x :: (([pto s (.row 7 [[.int .i64 A.rev, .int .i64 A.past, .int .i64 A.now.length, .ptr ix 2 0 0, .map vm, cv, o]] 1), IxP ix L, Ow 2 cv (A.chs.map (verC tp td)), MpA (fun k : Key => AV.str k) Vn.key Vn.v vm (l1 ++ x :: l2)] ++ l1.map (VnP tp td)) ++ (l2.map (VnP tp td) ++ F))) → sat h (StP s A o :: F) := by
      intro h hs
      refine mk ?_
      have := hs.unmid
      simpa [MvL] using this
    have hs : sat h (VnP tp td x :: pto c (.row 1 [[.nils]] 1) :: pto b (.row 6 [kvC kv0] 1) :: pto a (.row 1 [[.int .i64 rev]] 1) :: (([pto s (.row 7 [[.int .i64 A.rev, .int .i64 A.past, .int .i64 A.now.length, .ptr ix 2 0 0, .map vm, cv, o]] 1), IxP ix L, Ow 2 cv (A.chs.map (verC tp td)), MpA (fun k : Key => AV.str k) Vn.key Vn.v vm (l1 ++ x :: l2)] ++ l1.map (VnP tp td)) ++ (l2.map (VnP tp td) ++ F))) := hs
    generalize (([pto s (.row 7 [[.int .i64 A.rev, .int .i64 A.past, .int .i64 A.now.length, .ptr ix 2 0 0, .map vm, cv, o]] 1), IxP ix L, Ow 2 cv (A.chs.map (verC tp td)), MpA (fun k : Key => AV.str k) Vn.key Vn.v vm (l1 ++ x :: l2)] ++ l1.map (VnP tp td)) ++ (l2.map (VnP tp td) ++ F)) = R at hs mk2
    obtain ⟨xk, xv, vs⟩ := x
    simp only [] at hv1 hv2
    have hris := vers_ris hok.1 xk
    have hlen := vers_le (A := A) xk
    rw [← hv1] at hris hlen
    rcases hs.cases with ⟨_, hn0, _⟩ | ⟨q, cap, hv, hs3, hle⟩
    · exact absurd (List.map_eq_nil_iff.1 hn0) hv2
    simp only [] at hv
    subst hv
    have hll : (vs.map (verC tp td)).length = vs.length := by simp
    simp only [hll] at hs3 hle hc mk2
    have hs4 := hs3.p1.set (o' := .row 1 [[.arr q 2 0 vs.length cap]] 1)
    have hc4 := hs4.at
    simp (disch := omega) only [go_sem, reduceCtorEq, ↓reduceIte, Nat.reduceEqDiff, Nat.reduceAdd, Nat.reduceSub, Nat.reduceMul, Nat.reduceLT, Nat.reduceLeDiff, Int.reduceEq, Int.reduceNe, Int.reduceLT, Int.reduceLE, Int.reduceBEq, Int.reduceBNe, Int.reduceToNat, hc, hc4, hll]
    generalize Hp.set h c _ = h2 at hs4 hc4 ⊢
    refine call_use (search (N := vs.length) (f := 71) (caps := [.ptr c 1 0 0, .ptr a 1 0 0]) (pr := fun i => match vs[i]? with | some w => decide (w.rev > rev) | none => true) hs4.p2.p2.p3.p3 (by omega) rfl ?_ ?_) ?_
    · intro i j hij hj hi
      rw [List.getElem?_eq_getElem (by omega)] at hi ⊢
      have h3 : vs[i].rev > rev := by simpa using hi
      have : vs[i].rev ≤ vs[j].rev := by
        rcases Nat.lt_or_eq_of_le hij with h | h
        · exact Int.le_of_lt (List.pairwise_iff_getElem.1 hris i j (by omega) hj h)
        · subst h; exact Int.le_refl _
      simp; omega
    · intro i h hi hs
      refine (at1 hs hi).mono fun r h ⟨h1, h2⟩ => ⟨?_, h2⟩
      rw [h1, List.getElem?_eq_getElem hi]
    rintro r h ⟨k, hr, hk, hk1, hk2, hs⟩
    subst hr
    have hva := vAt_k (l := vs) (r := rev) hk (fun i hi hik => by
      have := hk1 i hik
      rw [List.getElem?_eq_getElem hi] at this
      have : ¬ vs[i].rev > rev := by simpa using this
      omega) (fun i hi hik => by
      have := hk2 i hik hi
      rw [List.getElem?_eq_getElem hi] at this
      simpa using this)
    have hva2 : vAt (A.vers xk) rev = if hk0 : 0 < k then (vs[k - 1]'(by omega)).c.kv else none := by rw [← hv1]; exact hva
    have hc := hs.at
    have hb := hs.p3.at
    have hq := hs.p2.at
    have mk3 : ∀ {h : Hp}, sat h (pto q (.row 2 (vs.map (verC tp td)) cap) :: R) → sat h (StP s A o :: F) := by
      intro h hs
      have := hs.ow (by simpa using hle)
      rw [hll] at this
      exact mk2 this
    by_cases hk0 : 0 < k
    · rw [dif_pos hk0] at hva2
      have e0 : ((k : Int) == 0) = false := by simp; omega
      have e1 : (k : Int) - 1 = ((k - 1 : Nat) : Int) := by omega
      have hrow : (vs.map (verC tp td))[k - 1]? = some (verC tp td (vs[k - 1]'(by omega))) := by rw [List.getElem?_map, List.getElem?_eq_getElem (by omega)]; rfl
      generalize (vs[k - 1]'(by omega)) = w at hva2 hrow
      rw [hva2]
      obtain ⟨wr, wc⟩ := w
      cases wc with
      | put kv =>
        simp (disch := omega) only [go_sem, reduceCtorEq, ↓reduceIte, Nat.reduceEqDiff, Nat.reduceAdd, Nat.reduceSub, Nat.reduceMul, Nat.reduceLT, Nat.reduceLeDiff, Int.reduceEq, Int.reduceNe, Int.reduceLT, Int.reduceLE, Int.reduceBEq, Int.reduceBNe, Int.reduceToNat, e0, hc, e1, hq, hrow, verC, chV, Int.toNat_natCast, taA, tp, td, kvC]
        refine new_opq hs fun y h hs => ?_
        have hy := hs.at
        have hs5 := hs.set (o' := .row 6 [kvC kv] 1)
        have hy5 := hs5.at
        have hb5 := hs5.p4.at
        simp only [kvC, kv0] at hy5 hb5 hs5
        simp (disch := omega) only [go_sem, reduceCtorEq, ↓reduceIte, Nat.reduceEqDiff, Nat.reduceAdd, Nat.reduceSub, Nat.reduceMul, Nat.reduceLT, Nat.reduceLeDiff, Int.reduceEq, Int.reduceNe, Int.reduceLT, Int.reduceLE, Int.reduceBEq, Int.reduceBNe, Int.reduceToNat, hy, hy5, hb5, kvC]
        exact ⟨rfl, mk3 hs5.p4.set.drop.drop.drop.drop⟩
      | del dk =>
        simp (disch := omega) only [go_sem, reduceCtorEq, ↓reduceIte, Nat.reduceEqDiff, Nat.reduceAdd, Nat.reduceSub, Nat.reduceMul, Nat.reduceLT, Nat.reduceLeDiff, Int.reduceEq, Int.reduceNe, Int.reduceLT, Int.reduceLE, Int.reduceBEq, Int.reduceBNe, Int.reduceToNat, e0, hc, e1, hq, hrow, verC, chV, Int.toNat_natCast, taA, tp, td, kvC]
        refine new_opq hs fun y h hs => ?_
        have hy := hs.at
        have hs5 := hs.set (o' := .row 6 [kvC kv0] 1)
        have hy5 := hs5.at
        have hb5 := hs5.p4.at
        simp only [kvC, kv0] at hy5 hb5 hs5
        simp (disch := omega) only [go_sem, reduceCtorEq, ↓reduceIte, Nat.reduceEqDiff, Nat.reduceAdd, Nat.reduceSub, Nat.reduceMul, Nat.reduceLT, Nat.reduceLeDiff, Int.reduceEq, Int.reduceNe, Int.reduceLT, Int.reduceLE, Int.reduceBEq, Int.reduceBNe, Int.reduceToNat, hy, hy5, hb5, kvC]
        exact ⟨rfl, mk3 hs5.p4.set.drop.drop.drop.drop⟩
    · rw [dif_neg hk0] at hva2
      have : k = 0 := by omega
      subst this
      have e0 : (((0 : Nat) : Int) == 0) = true := rfl
      rw [hva2]
      simp (disch := omega) only [go_sem, reduceCtorEq, ↓reduceIte, Nat.reduceEqDiff, Nat.reduceAdd, Nat.reduceSub, Nat.reduceMul, Nat.reduceLT, Nat.reduceLeDiff, Int.reduceEq, Int.reduceNe, Int.reduceLT, Int.reduceLE, Int.reduceBEq, Int.reduceBNe, Int.reduceToNat, e0, hb, kvC, kv0]
      exact ⟨rfl, mk3 hs.p3.set.drop.drop.drop⟩
  · have hv0 : A.vers key = [] := by
      cases hh : A.vers key with
      | nil => rfl
      | cons y l => exact absurd (hok.2.2.2.2 key (by rw [hh]; simp)) hx
    have hl := lk_miss keyOK_str (show sat h (MpA (fun k : Key => AV.str k) Vn.key Vn.v vm X :: _) from hs.p5) (q := key) (fun x h1 h2 => hx ⟨x, h1, h2⟩) (ok := false) (z := .nils)
    simp only [Bool.false_eq_true, if_false] at hl
    simp (disch := omega) only [go_sem, reduceCtorEq, ↓reduceIte, Nat.reduceEqDiff, Nat.reduceAdd, Nat.reduceSub, Nat.reduceMul, Nat.reduceLT, Nat.reduceLeDiff, Int.reduceEq, Int.reduceNe, Int.reduceLT, Int.reduceLE, Int.reduceBEq, Int.reduceBNe, Int.reduceToNat, hp, hl]
    refine new_opq hs fun c h hs => ?_
    have hc := hs.at
    simp (disch := omega) only [go_sem, reduceCtorEq, ↓reduceIte, Nat.reduceEqDiff, Nat.reduceAdd, Nat.reduceSub, Nat.reduceMul, Nat.reduceLT, Nat.reduceLeDiff, Int.reduceEq, Int.reduceNe, Int.reduceLT, Int.reduceLE, Int.reduceBEq, Int.reduceBNe, Int.reduceToNat, hc]
    have hs5 := hs.set (o' := .row 1 [[.nils]] 1)
    generalize Hp.set h c _ = h2 at hs5 ⊢
    refine call_use (search (N := 0) (f := 71) (caps := [.ptr c 1 0 0, .ptr a 1 0 0]) (pr := fun i => true) hs5 (by omega) rfl (fun _ _ _ _ _ => rfl) (fun i h hi => absurd hi (by omega))) ?_
    rintro r h ⟨k, hr, hk, _, _, hs⟩
    subst hr
    have : k = 0 := by omega
    subst this
    have e0 : (((0 : Nat) : Int) == 0) = true := rfl
    have hb := hs.p1.at
    rw [hv0]
    simp (disch := omega) only [go_sem, reduceCtorEq, ↓reduceIte, Nat.reduceEqDiff, Nat.reduceAdd, Nat.reduceSub, Nat.reduceMul, Nat.reduceLT, Nat.reduceLeDiff, Int.reduceEq, Int.reduceNe, Int.reduceLT, Int.reduceLE, Int.reduceBEq, Int.reduceBNe, Int.reduceToNat, e0, hb, kvC, kv0]
    exact ⟨rfl, mk hs.p1.set.drop.drop.drop⟩
end
end Go.Proofs.Ytkclojjeepomfaa
/- The store: the keys of a range; a range; a new store; a write that begins. -/
set_option linter.unusedSimpArgs false
set_option linter.unusedVariables false
set_option maxRecDepth 10000
namespace Go.Proofs.Ytkclojjeepomfaa
open Go.Hz

section
variable {h : Hp} {F : List Asr} {s : Nat} {A : Sto} {o : AV}

theorem mvNew (hs : sat h F) : Triple Try.prog 11 [] h (fun r h => ∃ s, r = .ptr s 7 0 0 ∧ sat h (StP s ⟨0, 0, [], []⟩ .nilp :: F)) := by
  refine t11 (Nat.le_of_ble_eq_true rfl) ?_
  simp (disch := omega) only [F11, go_sem, reduceCtorEq, ↓reduceIte, Nat.reduceEqDiff, Nat.reduceAdd, Nat.reduceSub, Nat.reduceMul, Nat.reduceLT, Nat.reduceLeDiff, Int.reduceEq, Int.reduceNe, Int.reduceLT, Int.reduceLE, Int.reduceBEq, Int.reduceBNe, Int.reduceToNat]
  refine call_use (ixNew hs) ?_
  rintro r h ⟨b, hr, hs⟩
  subst hr
  simp (disch := omega) only [go_sem, reduceCtorEq, ↓reduceIte, Nat.reduceEqDiff, Nat.reduceAdd, Nat.reduceSub, Nat.reduceMul, Nat.reduceLT, Nat.reduceLeDiff, Int.reduceEq, Int.reduceNe, Int.reduceLT, Int.reduceLE, Int.reduceBEq, Int.reduceBNe, Int.reduceToNat]
  refine new_opq hs fun m h hs => ?_
  simp (disch := omega) only [go_sem, reduceCtorEq, ↓reduceIte, Nat.reduceEqDiff, Nat.reduceAdd, Nat.reduceSub, Nat.reduceMul, Nat.reduceLT, Nat.reduceLeDiff, Int.reduceEq, Int.reduceNe, Int.reduceLT, Int.reduceLE, Int.reduceBEq, Int.reduceBNe, Int.reduceToNat]
  refine new_opq hs fun q h hs => ?_
  simp (disch := omega) only [go_sem, reduceCtorEq, ↓reduceIte, Nat.reduceEqDiff, Nat.reduceAdd, Nat.reduceSub, Nat.reduceMul, Nat.reduceLT, Nat.reduceLeDiff, Int.reduceEq, Int.reduceNe, Int.reduceLT, Int.reduceLE, Int.reduceBEq, Int.reduceBNe, Int.reduceToNat]
  refine ⟨q, rfl, mvP.2 ⟨b, m, .nils, [], [], ⟨?_, ?_, ?_⟩, ?_⟩⟩
  · exact ⟨Int.le_refl _, Int.le_refl _, .nil, by simp, .nil, by simp, by simp, fun a v b h => by simp at h, by simp⟩
  · exact ⟨WfL.nil, fun k => rfl⟩
  · exact ⟨.nil, by simp, fun k h => absurd rfl h⟩
  · have h1 := mpA_new (K := fun k : Key => AV.str k) (key := Vn.key) (v := Vn.v) hs.p1
    have h2 : sat h (Ow 2 .nils [] :: MpA (fun k : Key => AV.str k) Vn.key Vn.v m [] :: pto q (.row 7 [[.int .i64 0, .int .i64 0, .int .i64 0, .ptr b 2 0 0, .map m, .nils, .nilp]] 1) :: IxQ b [] :: F) := h1.add ow_nil
    have h3 : sat h (IxP b [] :: pto q (.row 7 [[.int .i64 0, .int .i64 0, .int .i64 0, .ptr b 2 0 0, .map m, .nils, .nilp]] 1) :: Ow 2 .nils [] :: MpA (fun k : Key => AV.str k) Vn.key Vn.v m [] :: F) := sat_ixp.2 ⟨[], rfl, h2.p1.p1.p2.p3⟩
    exact h3.p1
/-- The keys of a range that there were ever. -/
def StKeys (A : Sto) (lo hi : Key) (ks : List Key) : Prop := SrtS ks ∧ ks.length ≤ A.old.length + A.chs.length + 1 ∧ if hi = [] then ks = [lo] else ∀ k, k ∈ ks ↔ A.vers k ≠ [] ∧ inR lo hi k = true
theorem mvKeys {lo hi : Key} (hs : sat h (StP s A o :: F)) (hz : A.old.length + A.chs.length ≤ 100000000) : Triple Try.prog 37 [.ptr s 7 0 0, .str lo, .str hi] h (fun r h => ∃ ks, StKeys A lo hi ks ∧ sat h (Ow 1 r (ks.map fun k => [.str k]) :: StP s A o :: F)) := by
  obtain ⟨ix, vm, cv, L, X, hok, hs2⟩ := mvP.1 hs
  refine t37 (Nat.le_of_ble_eq_true rfl) ?_
  simp (disch := omega) only [F37, go_sem, reduceCtorEq, ↓reduceIte, Nat.reduceEqDiff, Nat.reduceAdd, Nat.reduceSub, Nat.reduceMul, Nat.reduceLT, Nat.reduceLeDiff, Int.reduceEq, Int.reduceNe, Int.reduceLT, Int.reduceLE, Int.reduceBEq, Int.reduceBNe, Int.reduceToNat]
  by_cases hh : hi = []
  · subst hh
    have e0 : (([] : List UInt8) == []) = true := rfl
    simp (disch := omega) only [go_sem, reduceCtorEq, ↓reduceIte, Nat.reduceEqDiff, Nat.reduceAdd, Nat.reduceSub, Nat.reduceMul, Nat.reduceLT, Nat.reduceLeDiff, Int.reduceEq, Int.reduceNe, Int.reduceLT, Int.reduceLE, Int.reduceBEq, Int.reduceBNe, Int.reduceToNat, e0]
    refine new_opq hs fun a h hs => ?_
    simp (disch := omega) only [go_sem, reduceCtorEq, ↓reduceIte, Nat.reduceEqDiff, Nat.reduceAdd, Nat.reduceSub, Nat.reduceMul, Nat.reduceLT, Nat.reduceLeDiff, Int.reduceEq, Int.reduceNe, Int.reduceLT, Int.reduceLE, Int.reduceBEq, Int.reduceBNe, Int.reduceToNat]
    refine ⟨[lo], ⟨List.pairwise_singleton _ _, by simp, by simp⟩, ?_⟩
    have := hs.ow (by simp)
    simpa using this
  · have e0 : (hi == []) = false := by simpa using hh
    have hp := hs2.at
    simp (disch := omega) only [go_sem, reduceCtorEq, ↓reduceIte, Nat.reduceEqDiff, Nat.reduceAdd, Nat.reduceSub, Nat.reduceMul, Nat.reduceLT, Nat.reduceLeDiff, Int.reduceEq, Int.reduceNe, Int.reduceLT, Int.reduceLE, Int.reduceBEq, Int.reduceBNe, Int.reduceToNat, e0, hp]
    have hs3 : sat h (IxP ix L :: pto s (.row 7 [[.int .i64 A.rev, .int .i64 A.past, .int .i64 A.now.length, .ptr ix 2 0 0, .map vm, cv, o]] 1) :: Ow 2 cv (A.chs.map (verC tp td)) :: MpA (fun k : Key => AV.str k) Vn.key Vn.v vm X :: (X.map (VnP tp td) ++ F)) := hs2.p1
    refine call_use (ixKeysO (lo := lo) (hi := hi) hs3 hok.2.1.1 (by have := ix_num hok.2.1; omega)) ?_
    intro r h hs
    simp (disch := omega) only [go_sem, reduceCtorEq, ↓reduceIte, Nat.reduceEqDiff, Nat.reduceAdd, Nat.reduceSub, Nat.reduceMul, Nat.reduceLT, Nat.reduceLeDiff, Int.reduceEq, Int.reduceNe, Int.reduceLT, Int.reduceLE, Int.reduceBEq, Int.reduceBNe, Int.reduceToNat]
    refine ⟨keysL L lo hi, ⟨keysL_srt hok.2.1.1.1, ?_, ?_⟩, ?_⟩
    · have h1 := ix_num hok.2.1
      have : (keysL L lo hi).length ≤ L.length := by unfold keysL; exact Nat.le_trans (List.length_filter_le _ _) (by simp)
      omega
    · rw [if_neg hh]
      exact fun k => keysL_mem hok.2.1
    · have hs4 := hs.tl fun h hs => (mvP.2 ⟨ix, vm, cv, L, X, hok, hs.p1⟩ : sat h (StP s A o :: F))
      exact hs4
theorem stkeys_at {ks : List Key} {lo hi : Key} (ok : StoOK A) (hk : StKeys A lo hi ks) {r : Int} (hr : A.past ≤ r) : ks.filterMap (fun k => vAt (A.vers k) r) = (A.at r).filter fun x => inK lo hi x.key := by
  by_cases hh : hi = []
  · subst hh
    have := hk.2.2
    rw [if_pos rfl] at this
    subst this
    exact rng_at1 ok hr
  · have h1 := hk.2.2
    rw [if_neg hh] at h1
    have e : (fun k => vAt (A.vers k) r) = kvget (A.at r) := funext fun k => vAt_at ok hr k
    rw [e]
    refine pick_keys (at_srt ok r) hk.1 (fun k hk' => ?_) fun x hx hin => ?_
    · rw [inK, if_neg hh]; exact ((h1 k).1 hk').2
    · rw [inK, if_neg hh] at hin
      exact (h1 _).2 ⟨at_vers ok hr hx, hin⟩
end
end Go.Proofs.Ytkclojjeepomfaa
/- The store: a range. -/
set_option linter.unusedSimpArgs false
set_option linter.unusedVariables false
set_option maxRecDepth 10000
namespace Go.Proofs.Ytkclojjeepomfaa
open Go.Hz

section
variable {h : Hp} {F : List Asr} {s : Nat} {A : Sto} {o : AV}

theorem mvKeysR {lo hi : Key} (hs : sat h (StP s A o :: F)) (hz : A.old.length + A.chs.length ≤ 100000000) : Triple Try.prog 37 [.ptr s 7 0 0, .str lo, .str hi] h (fun r h => ∃ ks, StKeys A lo hi ks ∧ r = strsV ks ∧ sat h (StP s A o :: F)) :=
  Triple.lst 1 ((mvKeys hs hz).mono fun r h ⟨ks, h1, hs⟩ => ⟨_, _, hs, fun h hs => ⟨ks, h1, rfl, hs⟩⟩)
theorem mvRangeO {lo hi : Key} {rev lim : Int} (hs : sat h (StP s A o :: F)) (hz : A.old.length + A.chs.length ≤ 100000000) : Triple Try.prog 18 [.ptr s 7 0 0, .str lo, .str hi, .int .i64 rev, .int .i64 lim] h
    (fun r h => ∃ v, r = .tup [v, .int .i64 (stRange A lo hi rev lim).2.1, .int .i64 (stRange A lo hi rev lim).2.2] ∧ sat h (Ow 6 v ((stRange A lo hi rev lim).1.map kvC) :: StP s A o :: F)) := by
  have ok := MvP.ok hs
  have hz2 : A.chs.length ≤ 100000000 := by omega
  obtain ⟨ix, vm, cv, L, X, hok, hs2⟩ := mvP.1 hs
  have hp := hs2.at
  have mk : ∀ {h : Hp}, sat h (MvL tp td s ix vm cv o A L X ++ F) → sat h (StP s A o :: F) := fun hs => mvP.2 ⟨ix, vm, cv, L, X, hok, hs⟩
  refine t18 (Nat.le_of_ble_eq_true rfl) ?_
  simp (disch := omega) only [F18, go_sem, reduceCtorEq, ↓reduceIte, Nat.reduceEqDiff, Nat.reduceAdd, Nat.reduceSub, Nat.reduceMul, Nat.reduceLT, Nat.reduceLeDiff, Int.reduceEq, Int.reduceNe, Int.reduceLT, Int.reduceLE, Int.reduceBEq, Int.reduceBNe, Int.reduceToNat]
  by_cases c1 : rev < 0
  · have ef : stRange A lo hi rev lim = ([], 0, 1) := by rw [stRange, if_pos c1]
    rw [ef]
    simp (disch := omega) only [go_sem, reduceCtorEq, ↓reduceIte, Nat.reduceEqDiff, Nat.reduceAdd, Nat.reduceSub, Nat.reduceMul, Nat.reduceLT, Nat.reduceLeDiff, Int.reduceEq, Int.reduceNe, Int.reduceLT, Int.reduceLE, Int.reduceBEq, Int.reduceBNe, Int.reduceToNat, c1]
    exact ⟨.nils, rfl, (mk hs2).add ow_nil⟩
  by_cases c2 : A.rev < rev
  · have ef : stRange A lo hi rev lim = ([], 0, 17) := by rw [stRange, if_neg c1, if_pos c2]
    rw [ef]
    simp (disch := omega) only [go_sem, reduceCtorEq, ↓reduceIte, Nat.reduceEqDiff, Nat.reduceAdd, Nat.reduceSub, Nat.reduceMul, Nat.reduceLT, Nat.reduceLeDiff, Int.reduceEq, Int.reduceNe, Int.reduceLT, Int.reduceLE, Int.reduceBEq, Int.reduceBNe, Int.reduceToNat, c1, hp, show (rev > A.rev) = True by simp; omega]
    exact ⟨.nils, rfl, (mk hs2).add ow_nil⟩
  have d2 : (rev > A.rev) = False := by simp; omega
  by_cases c3 : 0 < rev ∧ rev < A.past
  · have ef : stRange A lo hi rev lim = ([], 0, 16) := by rw [stRange, if_neg c1, if_neg c2, if_pos c3]
    rw [ef]
    simp (disch := omega) only [go_sem, reduceCtorEq, ↓reduceIte, Nat.reduceEqDiff, Nat.reduceAdd, Nat.reduceSub, Nat.reduceMul, Nat.reduceLT, Nat.reduceLeDiff, Int.reduceEq, Int.reduceNe, Int.reduceLT, Int.reduceLE, Int.reduceBEq, Int.reduceBNe, Int.reduceToNat, c1, hp, d2, show (rev > 0) = True by simp; omega, show (rev < A.past) = True by simp; omega]
    exact ⟨.nils, rfl, (mk hs2).add ow_nil⟩
  obtain ⟨r, hr, hrp⟩ : ∃ r, r = (if rev = 0 then A.rev else rev) ∧ A.past ≤ r := ⟨_, rfl, by have := ok.rev; split <;> omega⟩
  have ef : stRange A lo hi rev lim = ((rngL (A.at r) lo hi lim).1, (rngL (A.at r) lo hi lim).2, 0) := by rw [stRange, if_neg c1, if_neg c2, if_neg c3, hr]
  rw [ef]
  refine cnd_join (Q := fun e h => sat h (StP s A o :: F) ∧ (e 0 = .ptr s 7 0 0 ∧ e 1 = .str lo ∧ e 2 = .str hi ∧ e 3 = .int .i64 r ∧ e 4 = .int .i64 lim)) ?_ ?_
  · by_cases r0 : rev = 0
    · subst r0
      rw [if_pos rfl] at hr
      subst hr
      simp (disch := omega) only [go_sem, reduceCtorEq, ↓reduceIte, Nat.reduceEqDiff, Nat.reduceAdd, Nat.reduceSub, Nat.reduceMul, Nat.reduceLT, Nat.reduceLeDiff, Int.reduceEq, Int.reduceNe, Int.reduceLT, Int.reduceLE, Int.reduceBEq, Int.reduceBNe, Int.reduceToNat, c1, hp, d2]
      exact mk hs2
    · rw [if_neg r0] at hr
      subst hr
      have e0 : (r == 0) = false := by simpa using r0
      simp (disch := omega) only [go_sem, reduceCtorEq, ↓reduceIte, Nat.reduceEqDiff, Nat.reduceAdd, Nat.reduceSub, Nat.reduceMul, Nat.reduceLT, Nat.reduceLeDiff, Int.reduceEq, Int.reduceNe, Int.reduceLT, Int.reduceLE, Int.reduceBEq, Int.reduceBNe, Int.reduceToNat, c1, hp, d2, show (r > 0) = True by simp; omega, show (r < A.past) = False by simp; omega, e0]
      exact mk hs2
  clear hs hs2 hp
  rintro e h ⟨hs, he⟩
  simp (disch := omega) only [go_sem, reduceCtorEq, ↓reduceIte, Nat.reduceEqDiff, Nat.reduceAdd, Nat.reduceSub, Nat.reduceMul, Nat.reduceLT, Nat.reduceLeDiff, Int.reduceEq, Int.reduceNe, Int.reduceLT, Int.reduceLE, Int.reduceBEq, Int.reduceBNe, Int.reduceToNat, he]
  refine call_use (mvKeysR (lo := lo) (hi := hi) hs hz) ?_
  rintro v h ⟨ks, hk, hv, hs⟩
  subst hv
  have hsel := stkeys_at ok hk hrp
  have hkl := hk.2.1
  have lenK : lenL (strsV ks) = some (.int .i64 ks.length) := by simp [strsV, lenL]
  simp (disch := omega) only [go_sem, reduceCtorEq, ↓reduceIte, Nat.reduceEqDiff, Nat.reduceAdd, Nat.reduceSub, Nat.reduceMul, Nat.reduceLT, Nat.reduceLeDiff, Int.reduceEq, Int.reduceNe, Int.reduceLT, Int.reduceLE, Int.reduceBEq, Int.reduceBNe, Int.reduceToNat, lenK]
  generalize hpf : (fun k => vAt (A.vers k) r) = pf at hsel
  have hpf2 : ∀ k, vAt (A.vers k) r = pf k := fun k => by rw [← hpf]
  refine run_up (N := ks.length) (fun i e h => sat h (Ow 6 (e 13) ((cutL lim ((ks.take i).filterMap pf)).map kvC) :: StP s A o :: F) ∧ (e 0 = .ptr s 7 0 0 ∧ e 3 = .int .i64 r ∧ e 4 = .int .i64 lim ∧ e 14 = .int .i64 ((ks.take i).filterMap pf).length ∧ e 50 = strsV ks ∧ e 51 = .int .i64 ks.length ∧ e 52 = .int .i64 i)) ⟨?_, ?_⟩ ?_
  · have : (cutL lim (([] : List Key).filterMap pf)).map kvC = [] := by simp [cutL]
    rw [List.take_zero, this]
    exact hs.add ow_nil
  · simp [Env.upd_apply, he]
  clear hs he
  rintro i e h hi ⟨hs, he⟩
  have m1 : (i : Int) + 1 = ((i + 1 : Nat) : Int) := by omega
  simp (disch := omega) only [go_sem, reduceCtorEq, ↓reduceIte, Nat.reduceEqDiff, Nat.reduceAdd, Nat.reduceSub, Nat.reduceMul, Nat.reduceLT, Nat.reduceLeDiff, Int.reduceEq, Int.reduceNe, Int.reduceLT, Int.reduceLE, Int.reduceBEq, Int.reduceBNe, Int.reduceToNat, he, m1]
  refine cnd_dec (fun h1 => ?_) (fun h1 => ?_)
  · have hi : i < ks.length := by omega
    have hik : iaA 1 (strsV ks) (.int .i64 (i : Int)) = some (.ro [.str ks[i]]) := ia_lst (f := fun k => [AV.str k]) hi fun _ => rfl
    have hfl : ((ks.take i).filterMap pf).length ≤ 100000001 := by
      have := List.length_filterMap_le pf (ks.take i)
      rw [List.length_take] at this
      omega
    have hst : (ks.take (i + 1)).filterMap pf = (ks.take i).filterMap pf ++ (pf ks[i]).toList := by
      rw [List.take_succ_eq_append_getElem hi, List.filterMap_append]
      cases h : pf ks[i] <;> simp [h]
    simp (disch := omega) only [go_sem, reduceCtorEq, ↓reduceIte, Nat.reduceEqDiff, Nat.reduceAdd, Nat.reduceSub, Nat.reduceMul, Nat.reduceLT, Nat.reduceLeDiff, Int.reduceEq, Int.reduceNe, Int.reduceLT, Int.reduceLE, Int.reduceBEq, Int.reduceBNe, Int.reduceToNat, he, hik]
    refine call_use (mvAt (key := ks[i]) (rev := r) hs.p1 hz2) ?_
    rintro r h ⟨hr, hs⟩
    subst hr
    simp (disch := omega) only [go_sem, reduceCtorEq, ↓reduceIte, Nat.reduceEqDiff, Nat.reduceAdd, Nat.reduceSub, Nat.reduceMul, Nat.reduceLT, Nat.reduceLeDiff, Int.reduceEq, Int.reduceNe, Int.reduceLT, Int.reduceLE, Int.reduceBEq, Int.reduceBNe, Int.reduceToNat, hpf2]
    refine new_opq hs fun a h hs => ?_
    have ha := hs.at
    cases hpk : pf ks[i] with
    | none =>
      rw [hpk, Option.toList_none, List.append_nil] at hst
      have hs := hs.set (o' := .row 6 [kvC kv0] 1)
      simp only [kvC, kv0] at hs
      simp (disch := omega) only [go_sem, reduceCtorEq, ↓reduceIte, Nat.reduceEqDiff, Nat.reduceAdd, Nat.reduceSub, Nat.reduceMul, Nat.reduceLT, Nat.reduceLeDiff, Int.reduceEq, Int.reduceNe, Int.reduceLT, Int.reduceLE, Int.reduceBEq, Int.reduceBNe, Int.reduceToNat, ha, hpk, Option.getD_none, Option.isSome_none, kvC, kv0, he, m1]
      rw [hst]
      exact ⟨by omega, hs.drop.p1, rfl⟩
    | some kv =>
      rw [hpk, Option.toList_some] at hst
      have hs2 := hs.set (o' := .row 6 [kvC kv] 1)
      have ha2 := hs2.at
      simp only [kvC] at hs2 ha2
      simp (disch := omega) only [go_sem, reduceCtorEq, ↓reduceIte, Nat.reduceEqDiff, Nat.reduceAdd, Nat.reduceSub, Nat.reduceMul, Nat.reduceLT, Nat.reduceLeDiff, Int.reduceEq, Int.reduceNe, Int.reduceLT, Int.reduceLE, Int.reduceBEq, Int.reduceBNe, Int.reduceToNat, ha, hpk, Option.getD_some, Option.isSome_some, kvC, he]
      generalize Hp.set h a _ = h3 at hs2 ha2 ⊢
      have hol := hs2.p2.els.len
      have hcl : (cutL lim ((ks.take i).filterMap pf)).length ≤ 100000001 := Nat.le_trans cutL_len hfl
      have hsn := cutL_snoc (lim := lim) (l := (ks.take i).filterMap pf) (x := kv)
      have hlen14 : ((((ks.take i).filterMap pf).length : Nat) : Int) + 1 = (((ks.take i).filterMap pf ++ [kv]).length : Int) := by simp
      rw [List.length_map] at hol
      by_cases l1 : lim < 1
      · rw [if_pos (.inl l1)] at hsn
        simp (disch := omega) only [go_sem, reduceCtorEq, ↓reduceIte, Nat.reduceEqDiff, Nat.reduceAdd, Nat.reduceSub, Nat.reduceMul, Nat.reduceLT, Nat.reduceLeDiff, Int.reduceEq, Int.reduceNe, Int.reduceLT, Int.reduceLE, Int.reduceBEq, Int.reduceBNe, Int.reduceToNat, l1, he, ha2]
        refine new_opq hs2 fun b h hs => ?_
        simp (disch := omega) only [go_sem, reduceCtorEq, ↓reduceIte, Nat.reduceEqDiff, Nat.reduceAdd, Nat.reduceSub, Nat.reduceMul, Nat.reduceLT, Nat.reduceLeDiff, Int.reduceEq, Int.reduceNe, Int.reduceLT, Int.reduceLE, Int.reduceBEq, Int.reduceBNe, Int.reduceToNat]
        refine app_sat hs.p3 (src_one hs.at) (atoms_one (by simp [AV.isAtom])) (by simp; omega) fun v' h hs ca aa => ?_
        simp (disch := omega) only [go_sem, reduceCtorEq, ↓reduceIte, Nat.reduceEqDiff, Nat.reduceAdd, Nat.reduceSub, Nat.reduceMul, Nat.reduceLT, Nat.reduceLeDiff, Int.reduceEq, Int.reduceNe, Int.reduceLT, Int.reduceLE, Int.reduceBEq, Int.reduceBNe, Int.reduceToNat, he, m1]
        rw [hst, hsn]
        refine ⟨by omega, ?_, ?_⟩
        · have := hs.p1.drop.p1.drop.p1.p1
          simpa [kvC] using this
        · rw [hlen14]
      · by_cases l2 : ((cutL lim ((ks.take i).filterMap pf)).length : Int) < lim
        · rw [if_pos (.inr l2)] at hsn
          simp (disch := omega) only [go_sem, reduceCtorEq, ↓reduceIte, Nat.reduceEqDiff, Nat.reduceAdd, Nat.reduceSub, Nat.reduceMul, Nat.reduceLT, Nat.reduceLeDiff, Int.reduceEq, Int.reduceNe, Int.reduceLT, Int.reduceLE, Int.reduceBEq, Int.reduceBNe, Int.reduceToNat, l1, l2, hol, he, ha2]
          refine new_opq hs2 fun b h hs => ?_
          simp (disch := omega) only [go_sem, reduceCtorEq, ↓reduceIte, Nat.reduceEqDiff, Nat.reduceAdd, Nat.reduceSub, Nat.reduceMul, Nat.reduceLT, Nat.reduceLeDiff, Int.reduceEq, Int.reduceNe, Int.reduceLT, Int.reduceLE, Int.reduceBEq, Int.reduceBNe, Int.reduceToNat]
          refine app_sat hs.p3 (src_one hs.at) (atoms_one (by simp [AV.isAtom])) (by simp; omega) fun v' h hs ca aa => ?_
          simp (disch := omega) only [go_sem, reduceCtorEq, ↓reduceIte, Nat.reduceEqDiff, Nat.reduceAdd, Nat.reduceSub, Nat.reduceMul, Nat.reduceLT, Nat.reduceLeDiff, Int.reduceEq, Int.reduceNe, Int.reduceLT, Int.reduceLE, Int.reduceBEq, Int.reduceBNe, Int.reduceToNat, he, m1]
          rw [hst, hsn]
          refine ⟨by omega, ?_, ?_⟩
          · have := hs.p1.drop.p1.drop.p1.p1
            simpa [kvC] using this
          · rw [hlen14]
        · rw [if_neg (by intro hh; rcases hh with hh | hh; exact l1 hh; exact l2 hh)] at hsn
          simp (disch := omega) only [go_sem, reduceCtorEq, ↓reduceIte, Nat.reduceEqDiff, Nat.reduceAdd, Nat.reduceSub, Nat.reduceMul, Nat.reduceLT, Nat.reduceLeDiff, Int.reduceEq, Int.reduceNe, Int.reduceLT, Int.reduceLE, Int.reduceBEq, Int.reduceBNe, Int.reduceToNat, l1, l2, hol, he, m1]
          rw [hst, hsn]
          exact ⟨by omega, hs2.drop.p1, by rw [hlen14]⟩
  · have hi : i = ks.length := by omega
    subst hi
    simp (disch := omega) only [go_sem, reduceCtorEq, ↓reduceIte, Nat.reduceEqDiff, Nat.reduceAdd, Nat.reduceSub, Nat.reduceMul, Nat.reduceLT, Nat.reduceLeDiff, Int.reduceEq, Int.reduceNe, Int.reduceLT, Int.reduceLE, Int.reduceBEq, Int.reduceBNe, Int.reduceToNat, he]
    rw [List.take_length, hsel] at hs
    refine ⟨_, ?_, hs⟩
    rw [List.take_length, hsel]
    rfl
theorem mvRange {lo hi : Key} {rev lim : Int} (hs : sat h (StP s A o :: F)) (hz : A.old.length + A.chs.length ≤ 100000000) : Triple Try.prog 18 [.ptr s 7 0 0, .str lo, .str hi, .int .i64 rev, .int .i64 lim] h
    (fun r h => r = .tup [kvsV (stRange A lo hi rev lim).1, .int .i64 (stRange A lo hi rev lim).2.1, .int .i64 (stRange A lo hi rev lim).2.2] ∧ sat h (StP s A o :: F)) :=
  Triple.lst1 6 ((mvRangeO hs hz).mono fun r h ⟨v, hr, hs⟩ => ⟨v, _, _, _, hr, hs, fun h hs => ⟨rfl, hs⟩⟩)
end
end Go.Proofs.Ytkclojjeepomfaa
/- The store: the changes from a revision on. -/
set_option linter.unusedSimpArgs false
set_option linter.unusedVariables false
set_option maxRecDepth 10000
namespace Go.Proofs.Ytkclojjeepomfaa
open Go.Hz

/-- A change, as it is told. -/
def evC (v : Ver) : List AV := .int .i64 v.rev :: .bool v.c.kv.isNone :: kvC (v.c.kv.getD ⟨v.c.key, [], 0, v.rev, 0, 0⟩)
abbrev evsV (l : List Ver) : AV := .lst (l.map evC)
def stSince (A : Sto) (r : Int) : List Ver × Int := if r < 1 then ([], 1) else if r ≤ A.past then ([], 16) else (A.chs.filter fun v => decide (r ≤ v.rev), 0)
theorem drop_filter {α : Type} {p : α → Bool} {l : List α} {k : Nat} (h1 : ∀ i (hi : i < l.length), i < k → p l[i] = false) (h2 : ∀ i (hi : i < l.length), k ≤ i → p l[i] = true) : l.filter p = l.drop k := by
  have e : l.filter p = (l.take k).filter p ++ (l.drop k).filter p := by rw [← List.filter_append, List.take_append_drop]
  rw [e, List.filter_eq_nil_iff.2, List.nil_append, List.filter_eq_self.2]
  · intro x hx
    obtain ⟨i, hi, rfl⟩ := List.getElem_of_mem hx
    rw [List.length_drop] at hi
    rw [List.getElem_drop]
    exact h2 _ (by omega) (by omega)
  · intro x hx
    obtain ⟨i, hi, rfl⟩ := List.getElem_of_mem hx
    rw [List.length_take] at hi
    rw [List.getElem_take, h1 i (by omega) (by omega)]; simp
section
variable {h : Hp} {F : List Asr} {s : Nat} {A : Sto} {o : AV}
theorem mvEvent {v : Ver} (hs : sat h F) : Triple Try.prog 41 [.agg (verC tp td v)] h (fun r h => r = .agg (evC v) ∧ sat h F) := by
  have cc := chV_cells (tp := tp) (td := td) v.c
  have ca := chV_atom (tp := tp) (td := td) v.c
  refine t41 (Nat.le_of_ble_eq_true rfl) ?_
  simp (disch := omega) only [F41, verC, ca, go_sem, reduceCtorEq, ↓reduceIte, Nat.reduceEqDiff, Nat.reduceAdd, Nat.reduceSub, Nat.reduceMul, Nat.reduceLT, Nat.reduceLeDiff, Int.reduceEq, Int.reduceNe, Int.reduceLT, Int.reduceLE, Int.reduceBEq, Int.reduceBNe, Int.reduceToNat]
  refine new_opq hs fun a h hs => ?_
  simp (disch := omega) only [go_sem, reduceCtorEq, ↓reduceIte, Nat.reduceEqDiff, Nat.reduceAdd, Nat.reduceSub, Nat.reduceMul, Nat.reduceLT, Nat.reduceLeDiff, Int.reduceEq, Int.reduceNe, Int.reduceLT, Int.reduceLE, Int.reduceBEq, Int.reduceBNe, Int.reduceToNat]
  refine new_opq hs fun b h hs => ?_
  have ha := hs.p1.at
  obtain ⟨rv, c⟩ := v
  cases c with
  | put kv =>
    simp (disch := omega) only [go_sem, reduceCtorEq, ↓reduceIte, Nat.reduceEqDiff, Nat.reduceAdd, Nat.reduceSub, Nat.reduceMul, Nat.reduceLT, Nat.reduceLeDiff, Int.reduceEq, Int.reduceNe, Int.reduceLT, Int.reduceLE, Int.reduceBEq, Int.reduceBNe, Int.reduceToNat, ha, taA, chV, tp, td, kvC]
    refine new_opq hs fun y h hs => ?_
    have hy := hs.at
    have hs5 := hs.set (o' := .row 6 [kvC kv] 1)
    have hy5 := hs5.at
    have hb5 := hs5.p1.at
    have ha5 := hs5.p2.at
    simp only [kvC, kv0, chV] at hy5 hb5 ha5 hs5
    simp (disch := omega) only [go_sem, reduceCtorEq, ↓reduceIte, Nat.reduceEqDiff, Nat.reduceAdd, Nat.reduceSub, Nat.reduceMul, Nat.reduceLT, Nat.reduceLeDiff, Int.reduceEq, Int.reduceNe, Int.reduceLT, Int.reduceLE, Int.reduceBEq, Int.reduceBNe, Int.reduceToNat, hy, hy5, hb5, ha5, kvC]
    have hs6 := hs5.p1.set (o' := .row 8 [evC ⟨rv, .put kv⟩] 1)
    refine ⟨by simp [evC, Ch.kv, kvC], hs6.drop.drop.drop⟩
  | del k =>
    simp (disch := omega) only [go_sem, reduceCtorEq, ↓reduceIte, Nat.reduceEqDiff, Nat.reduceAdd, Nat.reduceSub, Nat.reduceMul, Nat.reduceLT, Nat.reduceLeDiff, Int.reduceEq, Int.reduceNe, Int.reduceLT, Int.reduceLE, Int.reduceBEq, Int.reduceBNe, Int.reduceToNat, ha, taA, chV, tp, td, kvC]
    refine new_opq hs fun y h hs => ?_
    have hy := hs.at
    have hs5 := hs.set (o' := .row 6 [kvC kv0] 1)
    have ha5 := hs5.p2.at
    simp only [kvC, kv0, chV] at ha5 hs5
    simp (disch := omega) only [go_sem, reduceCtorEq, ↓reduceIte, Nat.reduceEqDiff, Nat.reduceAdd, Nat.reduceSub, Nat.reduceMul, Nat.reduceLT, Nat.reduceLeDiff, Int.reduceEq, Int.reduceNe, Int.reduceLT, Int.reduceLE, Int.reduceBEq, Int.reduceBNe, Int.reduceToNat, hy, ha5, kvC]
    generalize Hp.set h y _ = h3 at hs5 ha5 ⊢
    refine inv_key hs5 (.del k) fun h hs => ?_
    have ha := hs.p2.at
    have hb := hs.p1.at
    simp (disch := omega) only [go_sem, reduceCtorEq, ↓reduceIte, Nat.reduceEqDiff, Nat.reduceAdd, Nat.reduceSub, Nat.reduceMul, Nat.reduceLT, Nat.reduceLeDiff, Int.reduceEq, Int.reduceNe, Int.reduceLT, Int.reduceLE, Int.reduceBEq, Int.reduceBNe, Int.reduceToNat, ha, hb]
    refine ⟨by simp [evC, Ch.kv, Ch.key, kvC], ?_⟩
    exact hs.p1.set.drop.drop.drop
theorem since1 {b c cap ix vm q : Nat} {vs : List Ver} {rev r p n : Int} (hs : sat h (pto b (.row 1 [[.ptr s 7 0 0]] 1) :: pto c (.row 1 [[.int .i64 rev]] 1) :: pto s (.row 7 [[.int .i64 r, .int .i64 p, .int .i64 n, .ptr ix 2 0 0, .map vm, .arr q 2 0 vs.length cap, o]] 1) :: pto q (.row 2 (vs.map (verC tp td)) cap) :: F)) {i : Nat} (hi : i < vs.length) :
    Triple Try.prog 40 [.int .i64 i, .ptr b 1 0 0, .ptr c 1 0 0] h (fun r' h => r' = .bool (decide (rev ≤ vs[i].rev)) ∧ sat h (pto b (.row 1 [[.ptr s 7 0 0]] 1) :: pto c (.row 1 [[.int .i64 rev]] 1) :: pto s (.row 7 [[.int .i64 r, .int .i64 p, .int .i64 n, .ptr ix 2 0 0, .map vm, .arr q 2 0 vs.length cap, o]] 1) :: pto q (.row 2 (vs.map (verC tp td)) cap) :: F)) := by
  have hb := hs.at
  have hc := hs.p1.at
  have hq := hs.p3.at
  have hp := hs.p2.at
  have hrow : (vs.map (verC tp td))[i]? = some (verC tp td vs[i]) := by simp [hi]
  refine t40 (Nat.le_of_ble_eq_true rfl) ?_
  simp (disch := omega) only [F40, hb, hc, hq, hp, hrow, verC, Int.toNat_natCast, go_sem, reduceCtorEq, ↓reduceIte, Nat.reduceEqDiff, Nat.reduceAdd, Nat.reduceSub, Nat.reduceMul, Nat.reduceLT, Nat.reduceLeDiff, Int.reduceEq, Int.reduceNe, Int.reduceLT, Int.reduceLE, Int.reduceBEq, Int.reduceBNe, Int.reduceToNat]
  exact hs
theorem mvSinceO {rev : Int} (hs : sat h (StP s A o :: F)) (hz : A.chs.length ≤ 100000000) : Triple Try.prog 21 [.ptr s 7 0 0, .int .i64 rev] h
    (fun r h => ∃ v, r = .tup [v, .int .i64 (stSince A rev).2] ∧ sat h (Ow 8 v ((stSince A rev).1.map evC) :: StP s A o :: F)) := by
  obtain ⟨ix, vm, cv, L, X, hok, hs2⟩ := mvP.1 hs
  have mk : ∀ {h : Hp}, sat h (MvL tp td s ix vm cv o A L X ++ F) → sat h (StP s A o :: F) := fun hs => mvP.2 ⟨ix, vm, cv, L, X, hok, hs⟩
  refine t21 (Nat.le_of_ble_eq_true rfl) ?_
  simp (disch := omega) only [F21, go_sem, reduceCtorEq, ↓reduceIte, Nat.reduceEqDiff, Nat.reduceAdd, Nat.reduceSub, Nat.reduceMul, Nat.reduceLT, Nat.reduceLeDiff, Int.reduceEq, Int.reduceNe, Int.reduceLT, Int.reduceLE, Int.reduceBEq, Int.reduceBNe, Int.reduceToNat]
  refine new_opq hs2 fun b h hs => ?_
  simp (disch := omega) only [go_sem, reduceCtorEq, ↓reduceIte, Nat.reduceEqDiff, Nat.reduceAdd, Nat.reduceSub, Nat.reduceMul, Nat.reduceLT, Nat.reduceLeDiff, Int.reduceEq, Int.reduceNe, Int.reduceLT, Int.reduceLE, Int.reduceBEq, Int.reduceBNe, Int.reduceToNat]
  refine new_opq hs fun c h hs => ?_
  have hb := hs.p1.at
  have hc := hs.at
  have hp := hs.p2.at
  by_cases c1 : rev < 1
  · have ef : stSince A rev = ([], 1) := by rw [stSince, if_pos c1]
    rw [ef]
    simp (disch := omega) only [go_sem, reduceCtorEq, ↓reduceIte, Nat.reduceEqDiff, Nat.reduceAdd, Nat.reduceSub, Nat.reduceMul, Nat.reduceLT, Nat.reduceLeDiff, Int.reduceEq, Int.reduceNe, Int.reduceLT, Int.reduceLE, Int.reduceBEq, Int.reduceBNe, Int.reduceToNat, hb, hc, c1]
    exact ⟨.nils, rfl, (mk hs.drop.drop).add ow_nil⟩
  by_cases c2 : rev ≤ A.past
  · have ef : stSince A rev = ([], 16) := by rw [stSince, if_neg c1, if_pos c2]
    rw [ef]
    simp (disch := omega) only [go_sem, reduceCtorEq, ↓reduceIte, Nat.reduceEqDiff, Nat.reduceAdd, Nat.reduceSub, Nat.reduceMul, Nat.reduceLT, Nat.reduceLeDiff, Int.reduceEq, Int.reduceNe, Int.reduceLT, Int.reduceLE, Int.reduceBEq, Int.reduceBNe, Int.reduceToNat, hb, hc, hp, c1, c2]
    exact ⟨.nils, rfl, (mk hs.drop.drop).add ow_nil⟩
  have ef : stSince A rev = (A.chs.filter fun v => decide (rev ≤ v.rev), 0) := by rw [stSince, if_neg c1, if_neg c2]
  rw [ef]
  have hlv := hs.p4.els.len
  rw [List.length_map] at hlv
  simp (disch := omega) only [go_sem, reduceCtorEq, ↓reduceIte, Nat.reduceEqDiff, Nat.reduceAdd, Nat.reduceSub, Nat.reduceMul, Nat.reduceLT, Nat.reduceLeDiff, Int.reduceEq, Int.reduceNe, Int.reduceLT, Int.reduceLE, Int.reduceBEq, Int.reduceBNe, Int.reduceToNat, hb, hc, hp, c1, c2, hlv]
  rcases hs.p4.cases with ⟨hv, hn0, hs3⟩ | ⟨q, cap, hv, hs3, hle⟩
  · have hn1 : A.chs = [] := List.map_eq_nil_iff.1 hn0
    subst hv
    rw [hn1, List.length_nil]
    refine call_use (search (N := 0) (f := 40) (caps := [.ptr b 1 0 0, .ptr c 1 0 0]) (pr := fun i => true) hs (by omega) rfl (fun _ _ _ _ _ => rfl) (fun i h hi => absurd hi (by omega))) ?_
    rintro r h ⟨k, hr, hk, _, _, hs⟩
    subst hr
    have : k = 0 := by omega
    subst this
    have hb := hs.p1.at
    have hp := hs.p2.at
    have hsl : slcL 2 .nils (some (.int .i64 0)) none = some .nils := rfl
    simp (disch := omega) only [go_sem, reduceCtorEq, ↓reduceIte, Nat.reduceEqDiff, Nat.reduceAdd, Nat.reduceSub, Nat.reduceMul, Nat.reduceLT, Nat.reduceLeDiff, Int.reduceEq, Int.reduceNe, Int.reduceLT, Int.reduceLE, Int.reduceBEq, Int.reduceBNe, Int.reduceToNat, hb, hp, hsl]
    refine run_up (N := 0) (fun i e h => sat h (StP s A o :: F) ∧ (e 7 = .nils ∧ e 34 = .int .i64 i ∧ e 33 = .int .i64 0)) ⟨mk hs.drop.drop, by simp [Env.upd_apply]⟩ ?_
    clear hs hb hp hc hlv
    rintro i e h hi ⟨hs, he⟩
    have : i = 0 := by omega
    subst this
    simp (disch := omega) only [go_sem, reduceCtorEq, ↓reduceIte, Nat.reduceEqDiff, Nat.reduceAdd, Nat.reduceSub, Nat.reduceMul, Nat.reduceLT, Nat.reduceLeDiff, Int.reduceEq, Int.reduceNe, Int.reduceLT, Int.reduceLE, Int.reduceBEq, Int.reduceBNe, Int.reduceToNat, he]
    exact ⟨.nils, rfl, hs.add ow_nil⟩
  · subst hv
    have hll : (A.chs.map (verC tp td)).length = A.chs.length := by simp
    simp only [hll] at hs3 hle
    have hs4 : sat h (pto b (.row 1 [[.ptr s 7 0 0]] 1) :: pto c (.row 1 [[.int .i64 rev]] 1) :: pto s (.row 7 [[.int .i64 A.rev, .int .i64 A.past, .int .i64 A.now.length, .ptr ix 2 0 0, .map vm, .arr q 2 0 A.chs.length cap, o]] 1) :: pto q (.row 2 (A.chs.map (verC tp td)) cap) :: IxP ix L :: MpA (fun k : Key => AV.str k) Vn.key Vn.v vm X :: (X.map (VnP tp td) ++ F)) := hs3.p5.p5.p2.p5.p4.p5
    simp only [hll] at hlv mk
    refine call_use (search (N := A.chs.length) (f := 40) (caps := [.ptr b 1 0 0, .ptr c 1 0 0]) (pr := fun i => match A.chs[i]? with | some w => decide (rev ≤ w.rev) | none => true) hs4 (by omega) rfl ?_ ?_) ?_
    · intro i j hij hj hi
      rw [List.getElem?_eq_getElem (by omega)] at hi ⊢
      have h3 : rev ≤ A.chs[i].rev := by simpa using hi
      have : A.chs[i].rev ≤ A.chs[j].rev := by
        rcases Nat.lt_or_eq_of_le hij with h | h
        · exact (List.pairwise_iff_getElem.1 hok.1.chs i j (by omega) hj h).1
        · subst h; exact Int.le_refl _
      simp; omega
    · intro i h hi hs
      refine (since1 hs hi).mono fun r h ⟨h1, h2⟩ => ⟨?_, h2⟩
      rw [h1, List.getElem?_eq_getElem hi]
    rintro r h ⟨k, hr, hk, hk1, hk2, hs⟩
    subst hr
    have hflt : (A.chs.filter fun v => decide (rev ≤ v.rev)) = A.chs.drop k := drop_filter (fun i hi hik => by
      have := hk1 i hik
      rw [List.getElem?_eq_getElem hi] at this
      exact this) (fun i hi hik => by
      have := hk2 i hik hi
      rw [List.getElem?_eq_getElem hi] at this
      exact this)
    rw [hflt]
    have hb := hs.at
    have hp := hs.p2.at
    have hsl : slcL 2 (.arr q 2 0 A.chs.length cap) (some (.int .i64 (k : Int))) none = some (.arr q 2 k (A.chs.length - k) (cap - k)) := by
      rw [slcL_lo (by omega) (by omega) hle]; simp
    simp (disch := omega) only [go_sem, reduceCtorEq, ↓reduceIte, Nat.reduceEqDiff, Nat.reduceAdd, Nat.reduceSub, Nat.reduceMul, Nat.reduceLT, Nat.reduceLeDiff, Int.reduceEq, Int.reduceNe, Int.reduceLT, Int.reduceLE, Int.reduceBEq, Int.reduceBNe, Int.reduceToNat, hb, hp, hsl]
    have mk2 : ∀ {h : Hp}, sat h (pto s (.row 7 [[.int .i64 A.rev, .int .i64 A.past, .int .i64 A.now.length, .ptr ix 2 0 0, .map vm, .arr q 2 0 A.chs.length cap, o]] 1) :: pto q (.row 2 (A.chs.map (verC tp td)) cap) :: IxP ix L :: MpA (fun k : Key => AV.str k) Vn.key Vn.v vm X :: (X.map (VnP tp td) ++ F)) → sat h (StP s A o :: F) := by
      intro h hs
      have := hs.p1.ow (by simpa using hle)
      rw [hll] at this
      exact mk this.p3.p1.p3.p3
    refine run_up (N := A.chs.length - k) (fun i e h => sat h (Ow 8 (e 7) (((A.chs.drop k).take i).map evC) :: pto s (.row 7 [[.int .i64 A.rev, .int .i64 A.past, .int .i64 A.now.length, .ptr ix 2 0 0, .map vm, .arr q 2 0 A.chs.length cap, o]] 1) :: pto q (.row 2 (A.chs.map (verC tp td)) cap) :: IxP ix L :: MpA (fun k : Key => AV.str k) Vn.key Vn.v vm X :: (X.map (VnP tp td) ++ F)) ∧
      (e 32 = .arr q 2 k (A.chs.length - k) (cap - k) ∧ e 33 = .int .i64 (A.chs.length - k : Nat) ∧ e 34 = .int .i64 i)) ⟨?_, ?_⟩ ?_
    · rw [List.take_zero]
      exact (hs.drop.drop).add ow_nil
    · simp [Env.upd_apply]
    clear hs hs3 hs4 hb hp hc hlv
    rintro i e h hi ⟨hs, he⟩
    have m1 : (i : Int) + 1 = ((i + 1 : Nat) : Int) := by omega
    simp (disch := omega) only [go_sem, reduceCtorEq, ↓reduceIte, Nat.reduceEqDiff, Nat.reduceAdd, Nat.reduceSub, Nat.reduceMul, Nat.reduceLT, Nat.reduceLeDiff, Int.reduceEq, Int.reduceNe, Int.reduceLT, Int.reduceLE, Int.reduceBEq, Int.reduceBNe, Int.reduceToNat, he, m1]
    refine cnd_dec (fun h1 => ?_) (fun h1 => ?_)
    · have hi' : k + i < A.chs.length := by omega
      have hq := hs.p2.at
      have hrow : (A.chs.map (verC tp td))[k + i]? = some (verC tp td A.chs[k + i]) := by simp [hi']
      have ca := chV_atom (tp := tp) (td := td) A.chs[k + i].c
      have cc := chV_cells (tp := tp) (td := td) A.chs[k + i].c
      have hst : (A.chs.drop k).take (i + 1) = (A.chs.drop k).take i ++ [A.chs[k + i]] := by
        rw [List.take_succ_eq_append_getElem (by rw [List.length_drop]; omega), List.getElem_drop]
      rw [hst]
      generalize A.chs[k + i] = v at *
      simp (disch := omega) only [go_sem, reduceCtorEq, ↓reduceIte, Nat.reduceEqDiff, Nat.reduceAdd, Nat.reduceSub, Nat.reduceMul, Nat.reduceLT, Nat.reduceLeDiff, Int.reduceEq, Int.reduceNe, Int.reduceLT, Int.reduceLE, Int.reduceBEq, Int.reduceBNe, Int.reduceToNat, he, hq, hrow, Int.toNat_natCast, verC]
      refine new_opq hs fun y h hs => ?_
      have hy := hs.at
      have hs2 := hs.set (o' := .row 2 [verC tp td v] 1)
      have hy2 := hs2.at
      simp only [verC] at hy2 hs2
      simp (disch := omega) only [go_sem, reduceCtorEq, ↓reduceIte, Nat.reduceEqDiff, Nat.reduceAdd, Nat.reduceSub, Nat.reduceMul, Nat.reduceLT, Nat.reduceLeDiff, Int.reduceEq, Int.reduceNe, Int.reduceLT, Int.reduceLE, Int.reduceBEq, Int.reduceBNe, Int.reduceToNat, hy, ca, cc, hy2, he]
      generalize Hp.set h y _ = h3 at hs2 hy2 ⊢
      refine call_use (mvEvent (v := v) hs2) ?_
      rintro r h ⟨hr, hs⟩
      subst hr
      simp (disch := omega) only [go_sem, reduceCtorEq, ↓reduceIte, Nat.reduceEqDiff, Nat.reduceAdd, Nat.reduceSub, Nat.reduceMul, Nat.reduceLT, Nat.reduceLeDiff, Int.reduceEq, Int.reduceNe, Int.reduceLT, Int.reduceLE, Int.reduceBEq, Int.reduceBNe, Int.reduceToNat, evC, kvC]
      refine new_opq hs fun z h hs => ?_
      simp (disch := omega) only [go_sem, reduceCtorEq, ↓reduceIte, Nat.reduceEqDiff, Nat.reduceAdd, Nat.reduceSub, Nat.reduceMul, Nat.reduceLT, Nat.reduceLeDiff, Int.reduceEq, Int.reduceNe, Int.reduceLT, Int.reduceLE, Int.reduceBEq, Int.reduceBNe, Int.reduceToNat]
      refine app_sat hs.p2 (src_one hs.at) (atoms_one (by simp [AV.isAtom])) (by simp; omega) fun v' h hs ca' aa => ?_
      simp (disch := omega) only [go_sem, reduceCtorEq, ↓reduceIte, Nat.reduceEqDiff, Nat.reduceAdd, Nat.reduceSub, Nat.reduceMul, Nat.reduceLT, Nat.reduceLeDiff, Int.reduceEq, Int.reduceNe, Int.reduceLT, Int.reduceLE, Int.reduceBEq, Int.reduceBNe, Int.reduceToNat, he, m1]
      refine ⟨by omega, ?_⟩
      have := hs.p1.drop.p1.drop.p4.p4.p4.p4.p4
      simpa [evC, kvC] using this
    · have hi' : i = A.chs.length - k := by omega
      subst hi'
      rw [List.take_of_length_le (by rw [List.length_drop]; omega)] at hs
      simp (disch := omega) only [go_sem, reduceCtorEq, ↓reduceIte, Nat.reduceEqDiff, Nat.reduceAdd, Nat.reduceSub, Nat.reduceMul, Nat.reduceLT, Nat.reduceLeDiff, Int.reduceEq, Int.reduceNe, Int.reduceLT, Int.reduceLE, Int.reduceBEq, Int.reduceBNe, Int.reduceToNat, he]
      rw [← show (stSince A rev).1 = A.chs.drop k by rw [ef]; exact hflt] at hs
      exact ⟨_, rfl, by rw [ef] at hs; rw [← hflt]; exact hs.tl fun _ h => mk2 h⟩
theorem mvSince {rev : Int} (hs : sat h (StP s A o :: F)) (hz : A.chs.length ≤ 100000000) : Triple Try.prog 21 [.ptr s 7 0 0, .int .i64 rev] h
    (fun r h => r = .tup [evsV (stSince A rev).1, .int .i64 (stSince A rev).2] ∧ sat h (StP s A o :: F)) :=
  Triple.lst1 8 ((mvSinceO hs hz).mono fun r h ⟨v, hr, hs⟩ => ⟨v, _, _, _, hr, hs, fun h hs => ⟨rfl, hs⟩⟩)
end
end Go.Proofs.Ytkclojjeepomfaa
/- The store: a front is forgotten. -/
set_option linter.unusedSimpArgs false
set_option linter.unusedVariables false
set_option maxRecDepth 10000
namespace Go.Proofs.Ytkclojjeepomfaa
open Go.Hz

def stCompE (A : Sto) (r : Int) : Int := if r < 1 then 1 else if A.rev < r then 17 else if r ≤ A.past then 16 else 0
section
variable {h : Hp} {F : List Asr} {s : Nat} {A : Sto} {o : AV}
theorem cloneV_arr {b off len cap rc : Nat} {ms : List Ver} (hs : sat h (pto b (.row 2 (ms.map (verC tp td)) rc) :: F)) (h1 : off + len ≤ ms.length) (h2 : ms.length ≤ 1000000000) :
    Triple Try.prog 48 [.arr b 2 off len cap] h (fun r h => sat h (Ow 2 r (((ms.drop off).take len).map (verC tp td)) :: pto b (.row 2 (ms.map (verC tp td)) rc) :: F)) := by
  refine t48 (Nat.le_of_ble_eq_true rfl) ?_
  simp (disch := omega) only [F48, go_sem, reduceCtorEq, ↓reduceIte, Nat.reduceEqDiff, Nat.reduceAdd, Nat.reduceSub, Nat.reduceMul, Nat.reduceLT, Nat.reduceLeDiff, Int.reduceEq, Int.reduceNe, Int.reduceLT, Int.reduceLE, Int.reduceBEq, Int.reduceBNe, Int.reduceToNat]
  refine new_opq hs fun n h hs => ?_
  simp (disch := omega) only [go_sem, reduceCtorEq, ↓reduceIte, Nat.reduceEqDiff, Nat.reduceAdd, Nat.reduceSub, Nat.reduceMul, Nat.reduceLT, Nat.reduceLeDiff, Int.reduceEq, Int.reduceNe, Int.reduceLT, Int.reduceLE, Int.reduceBEq, Int.reduceBNe, Int.reduceToNat, hs.at]
  have hy : srcA 2 h (.arr b 2 off len cap) = some (((ms.drop off).take len).map (verC tp td)) := by
    have := src_part (c := cap) hs.p1 (off := off) (len := len) (by simpa using h1)
    rw [this]; simp
  refine app_sat (hs.ow (by simp)) hy (atoms_ver _) (by simp; omega) fun v' h hs hc' ha' => ?_
  simp (disch := omega) only [go_sem, reduceCtorEq, ↓reduceIte, Nat.reduceEqDiff, Nat.reduceAdd, Nat.reduceSub, Nat.reduceMul, Nat.reduceLT, Nat.reduceLeDiff, Int.reduceEq, Int.reduceNe, Int.reduceLT, Int.reduceLE, Int.reduceBEq, Int.reduceBNe, Int.reduceToNat]
  simpa using hs
theorem cloneV_nil (hs : sat h F) : Triple Try.prog 48 [.nils] h (fun r h => sat h (Ow 2 r [] :: F)) := by
  refine t48 (Nat.le_of_ble_eq_true rfl) ?_
  simp (disch := omega) only [F48, go_sem, reduceCtorEq, ↓reduceIte, Nat.reduceEqDiff, Nat.reduceAdd, Nat.reduceSub, Nat.reduceMul, Nat.reduceLT, Nat.reduceLeDiff, Int.reduceEq, Int.reduceNe, Int.reduceLT, Int.reduceLE, Int.reduceBEq, Int.reduceBNe, Int.reduceToNat]
  exact hs.add ow_nil
/-- The end of a slice, cloned. -/
theorem cloneV {cv : AV} {ms : List Ver} {k : Nat} (hk : k ≤ ms.length) (h2 : ms.length ≤ 1000000000) (hs : sat h (Ow 2 cv (ms.map (verC tp td)) :: F)) :
    ∃ sv, slcL 2 cv (some (.int .i64 (k : Int))) none = some sv ∧ Triple Try.prog 48 [sv] h (fun r h => sat h (Ow 2 r ((ms.drop k).map (verC tp td)) :: Ow 2 cv (ms.map (verC tp td)) :: F)) := by
  rcases hs.cases with ⟨rfl, hn0, _⟩ | ⟨b, cap, rfl, hs2, hle⟩
  · have h0 := List.map_eq_nil_iff.1 hn0
    subst h0
    have : k = 0 := by simpa using hk
    subst this
    exact ⟨.nils, rfl, cloneV_nil hs⟩
  · rw [List.length_map] at hle ⊢
    refine ⟨_, slcL_lo (by omega) (by omega) hle, ?_⟩
    rw [Nat.zero_add, show ((k : Int).toNat) = k by omega]
    refine (cloneV_arr hs2 (by omega) h2).mono fun r h hs => ?_
    rw [List.take_of_length_le (by rw [List.length_drop]; omega)] at hs
    have := hs.p1.ow (by simpa using hle)
    rw [List.length_map] at this
    exact this.p1
theorem comp1 {b c ix vm : Nat} {cv : AV} {vs : List Ver} {rev r p n : Int} (hs : sat h (pto b (.row 1 [[.ptr s 7 0 0]] 1) :: pto c (.row 1 [[.int .i64 rev]] 1) :: pto s (.row 7 [[.int .i64 r, .int .i64 p, .int .i64 n, .ptr ix 2 0 0, .map vm, cv, o]] 1) :: Ow 2 cv (vs.map (verC tp td)) :: F)) {i : Nat} (hi : i < vs.length) :
    Triple Try.prog 47 [.int .i64 i, .ptr b 1 0 0, .ptr c 1 0 0] h (fun r' h => r' = .bool (decide (vs[i].rev > rev)) ∧ sat h (pto b (.row 1 [[.ptr s 7 0 0]] 1) :: pto c (.row 1 [[.int .i64 rev]] 1) :: pto s (.row 7 [[.int .i64 r, .int .i64 p, .int .i64 n, .ptr ix 2 0 0, .map vm, cv, o]] 1) :: Ow 2 cv (vs.map (verC tp td)) :: F)) := by
  have hb := hs.at
  have hc := hs.p1.at
  have hp := hs.p2.at
  have hrow : (vs.map (verC tp td))[i]? = some (verC tp td vs[i]) := by simp [hi]
  obtain ⟨q, cap, hv, hq, _⟩ := hs.p3.owr.row hrow
  subst hv
  have hll : (vs.map (verC tp td)).length = vs.length := by simp
  refine t47 (Nat.le_of_ble_eq_true rfl) ?_
  simp (disch := omega) only [F47, hb, hc, hq, hp, hrow, hll, verC, Int.toNat_natCast, go_sem, reduceCtorEq, ↓reduceIte, Nat.reduceEqDiff, Nat.reduceAdd, Nat.reduceSub, Nat.reduceMul, Nat.reduceLT, Nat.reduceLeDiff, Int.reduceEq, Int.reduceNe, Int.reduceLT, Int.reduceLE, Int.reduceBEq, Int.reduceBNe, Int.reduceToNat]
  rw [hll] at hs
  exact hs
theorem mvCompact {rev : Int} (hs : sat h (StP s A o :: F)) (hz : A.old.length + A.chs.length ≤ 100000000) : Triple Try.prog 28 [.ptr s 7 0 0, .int .i64 rev] h
    (fun r h => r = .int .i64 (stCompE A rev) ∧ sat h (StP s (if stCompE A rev = 0 then stComp A rev else A) o :: F)) := by
  obtain ⟨ix, vm, cv, L, X, hok, hs2⟩ := mvP.1 hs
  have mk : ∀ {h : Hp}, sat h (MvL tp td s ix vm cv o A L X ++ F) → sat h (StP s A o :: F) := fun hs => mvP.2 ⟨ix, vm, cv, L, X, hok, hs⟩
  have ok := hok.1
  refine t28 (Nat.le_of_ble_eq_true rfl) ?_
  simp (disch := omega) only [F28, go_sem, reduceCtorEq, ↓reduceIte, Nat.reduceEqDiff, Nat.reduceAdd, Nat.reduceSub, Nat.reduceMul, Nat.reduceLT, Nat.reduceLeDiff, Int.reduceEq, Int.reduceNe, Int.reduceLT, Int.reduceLE, Int.reduceBEq, Int.reduceBNe, Int.reduceToNat]
  refine new_opq hs2 fun b h hs => ?_
  simp (disch := omega) only [go_sem, reduceCtorEq, ↓reduceIte, Nat.reduceEqDiff, Nat.reduceAdd, Nat.reduceSub, Nat.reduceMul, Nat.reduceLT, Nat.reduceLeDiff, Int.reduceEq, Int.reduceNe, Int.reduceLT, Int.reduceLE, Int.reduceBEq, Int.reduceBNe, Int.reduceToNat]
  refine new_opq hs fun c h hs => ?_
  have hb := hs.p1.at
  have hc := hs.at
  have hp := hs.p2.at
  by_cases c1 : rev < 1
  · have ef : stCompE A rev = 1 := by rw [stCompE, if_pos c1]
    rw [ef, if_neg (by decide)]
    simp (disch := omega) only [go_sem, reduceCtorEq, ↓reduceIte, Nat.reduceEqDiff, Nat.reduceAdd, Nat.reduceSub, Nat.reduceMul, Nat.reduceLT, Nat.reduceLeDiff, Int.reduceEq, Int.reduceNe, Int.reduceLT, Int.reduceLE, Int.reduceBEq, Int.reduceBNe, Int.reduceToNat, hb, hc, c1]
    exact mk hs.drop.drop
  by_cases c2 : A.rev < rev
  · have ef : stCompE A rev = 17 := by rw [stCompE, if_neg c1, if_pos c2]
    rw [ef, if_neg (by decide)]
    simp (disch := omega) only [go_sem, reduceCtorEq, ↓reduceIte, Nat.reduceEqDiff, Nat.reduceAdd, Nat.reduceSub, Nat.reduceMul, Nat.reduceLT, Nat.reduceLeDiff, Int.reduceEq, Int.reduceNe, Int.reduceLT, Int.reduceLE, Int.reduceBEq, Int.reduceBNe, Int.reduceToNat, hb, hc, hp, c1, show (rev > A.rev) = True by simp; omega]
    exact mk hs.drop.drop
  have d2 : (rev > A.rev) = False := by simp; omega
  by_cases c3 : rev ≤ A.past
  · have ef : stCompE A rev = 16 := by rw [stCompE, if_neg c1, if_neg c2, if_pos c3]
    rw [ef, if_neg (by decide)]
    simp (disch := omega) only [go_sem, reduceCtorEq, ↓reduceIte, Nat.reduceEqDiff, Nat.reduceAdd, Nat.reduceSub, Nat.reduceMul, Nat.reduceLT, Nat.reduceLeDiff, Int.reduceEq, Int.reduceNe, Int.reduceLT, Int.reduceLE, Int.reduceBEq, Int.reduceBNe, Int.reduceToNat, hb, hc, hp, c1, d2, c3]
    exact mk hs.drop.drop
  have ef : stCompE A rev = 0 := by rw [stCompE, if_neg c1, if_neg c2, if_neg c3]
  rw [ef, if_pos rfl]
  have okC := comp_ok ok (r := rev) (by omega) (by omega)
  have ixC := comp_ix ok hok.2.1 (r := rev) (by omega)
  have nowC := comp_now ok (r := rev)
  have hlv := hs.p4.els.len
  rw [List.length_map] at hlv
  have hs3 : sat h (pto b (.row 1 [[.ptr s 7 0 0]] 1) :: pto c (.row 1 [[.int .i64 rev]] 1) :: pto s (.row 7 [[.int .i64 A.rev, .int .i64 A.past, .int .i64 A.now.length, .ptr ix 2 0 0, .map vm, cv, o]] 1) :: Ow 2 cv (A.chs.map (verC tp td)) :: IxP ix L :: MpA (fun k : Key => AV.str k) Vn.key Vn.v vm X :: (X.map (VnP tp td) ++ F)) := hs.p5.p4.p5.p5.p4.p5
  have hs4 := hs3.p2.set (o' := .row 7 [[.int .i64 A.rev, .int .i64 rev, .int .i64 A.now.length, .ptr ix 2 0 0, .map vm, cv, o]] 1)
  have hb4 := hs4.p1.at
  have hp4 := hs4.at
  simp (disch := omega) only [go_sem, reduceCtorEq, ↓reduceIte, Nat.reduceEqDiff, Nat.reduceAdd, Nat.reduceSub, Nat.reduceMul, Nat.reduceLT, Nat.reduceLeDiff, Int.reduceEq, Int.reduceNe, Int.reduceLT, Int.reduceLE, Int.reduceBEq, Int.reduceBNe, Int.reduceToNat, hb, hc, hp, c1, d2, c3, hb4, hp4, hlv]
  generalize Hp.set h s _ = h2 at hs4 hb4 hp4 ⊢
  refine call_use (search (N := A.chs.length) (f := 47) (caps := [.ptr b 1 0 0, .ptr c 1 0 0]) (pr := fun i => match A.chs[i]? with | some w => decide (w.rev > rev) | none => true) (hs4.p5.p5.p5.p3.p5.p5) (by omega) rfl ?_ ?_) ?_
  · intro i j hij hj hi
    rw [List.getElem?_eq_getElem (by omega)] at hi ⊢
    have h3 : A.chs[i].rev > rev := by simpa using hi
    have : A.chs[i].rev ≤ A.chs[j].rev := by
      rcases Nat.lt_or_eq_of_le hij with h | h
      · exact (List.pairwise_iff_getElem.1 hok.1.chs i j (by omega) hj h).1
      · subst h; exact Int.le_refl _
    simp; omega
  · intro i h hi hs
    refine (comp1 hs hi).mono fun r h ⟨h1, h2⟩ => ⟨?_, h2⟩
    rw [h1, List.getElem?_eq_getElem hi]
  rintro r h ⟨k, hr, hk, hk1, hk2, hs⟩
  subst hr
  have hflt : (A.chs.filter fun v => decide (rev < v.rev)) = A.chs.drop k := drop_filter (fun i hi hik => by
    have := hk1 i hik
    rw [List.getElem?_eq_getElem hi] at this
    exact this) (fun i hi hik => by
    have := hk2 i hik hi
    rw [List.getElem?_eq_getElem hi] at this
    exact this)
  have hcc : (stComp A rev).chs = A.chs.drop k := hflt
  have hb := hs.at
  have hp := hs.p2.at
  obtain ⟨sv, hsv, hcl⟩ := cloneV hk (by omega) hs.p3
  simp (disch := omega) only [go_sem, reduceCtorEq, ↓reduceIte, Nat.reduceEqDiff, Nat.reduceAdd, Nat.reduceSub, Nat.reduceMul, Nat.reduceLT, Nat.reduceLeDiff, Int.reduceEq, Int.reduceNe, Int.reduceLT, Int.reduceLE, Int.reduceBEq, Int.reduceBNe, Int.reduceToNat, hb, hp, hsv]
  refine call_use' hcl ?_
  intro v h hs
  have hb := hs.p2.at
  have hp := hs.p4.at
  have cv' := hs.els.cells
  have av' := hs.els.atom
  have hs5 := hs.p4.set (o' := .row 7 [[.int .i64 A.rev, .int .i64 rev, .int .i64 A.now.length, .ptr ix 2 0 0, .map vm, v, o]] 1)
  have hb5 := hs5.p3.at
  have hc5 := hs5.p4.at
  have hp5 := hs5.at
  simp (disch := omega) only [go_sem, reduceCtorEq, ↓reduceIte, Nat.reduceEqDiff, Nat.reduceAdd, Nat.reduceSub, Nat.reduceMul, Nat.reduceLT, Nat.reduceLeDiff, Int.reduceEq, Int.reduceNe, Int.reduceLT, Int.reduceLE, Int.reduceBEq, Int.reduceBNe, Int.reduceToNat, hb, hp, cv', av', hb5, hc5, hp5]
  generalize Hp.set h s _ = h3 at hs5 hb5 hc5 hp5 ⊢
  have hLn := ix_num hok.2.1
  have hLl := ix_len hok.2.1
  refine call_use (ixTrim (rev := rev) (hs5.p2.drop.p3.drop.p4.p3.p3.p3.p4) hok.2.1.1 (fun x hx => by have := hLl x hx; omega) (by omega)) ?_
  intro r h hs
  obtain ⟨pl, cn, ⟨q1, q2, q3⟩, hs⟩ := mpA.1 (hs.p2.p2.p3.p4)
  have hb := hs.p1.at
  have hp := hs.p2.at
  simp (disch := omega) only [go_sem, reduceCtorEq, ↓reduceIte, Nat.reduceEqDiff, Nat.reduceAdd, Nat.reduceSub, Nat.reduceMul, Nat.reduceLT, Nat.reduceLeDiff, Int.reduceEq, Int.reduceNe, Int.reduceLT, Int.reduceLE, Int.reduceBEq, Int.reduceBNe, Int.reduceToNat, hb, hp]
  refine rng_use hs fun q h hs => ?_
  simp (disch := omega) only [go_sem, reduceCtorEq, ↓reduceIte, Nat.reduceEqDiff, Nat.reduceAdd, Nat.reduceSub, Nat.reduceMul, Nat.reduceLT, Nat.reduceLeDiff, Int.reduceEq, Int.reduceNe, Int.reduceLT, Int.reduceLE, Int.reduceBEq, Int.reduceBNe, Int.reduceToNat]
  have hI0 : CompI A (stComp A rev) pl [] cn := by
    have hkn : (pl.map fun p => p.1.key).Nodup := by
      have := (q1.map Vn.key).nodup_iff.2 hok.2.2.1
      simpa [Function.comp_def] using this
    refine ⟨hkn, q2, q3, fun p hp => ?_, fun k hk => ?_⟩
    · have := hok.2.2.2.1 p.1 (q1.mem_iff.1 (List.mem_map_of_mem hp))
      exact ⟨this.2, by simpa using this.1⟩
    · have hA : A.vers k ≠ [] := by
        intro h
        rw [comp_vers ok k (by omega), h] at hk
        simp at hk
      obtain ⟨x, hx, hxk⟩ := hok.2.2.2.2 k hA
      obtain ⟨p, hp, rfl⟩ := List.mem_map.1 (q1.mem_iff.2 hx)
      exact ⟨p, hp, hxk⟩
  have hX0 : sat h (pto q (.itr (some vm) cn [] cn) :: pto vm (.mp (kvOf (fun k : Key => AV.str k) Vn.key Vn.v pl) cn) :: pto b (.row 1 [[.ptr s 7 0 0]] 1) :: pto s (.row 7 [[.int .i64 A.rev, .int .i64 rev, .int .i64 A.now.length, .ptr ix 2 0 0, .map vm, v, o]] 1) :: Ow 2 v ((stComp A rev).chs.map (verC tp td)) :: IxP ix (trimL L rev) :: ((pl.map fun p => p.1).map (VnP tp td) ++ F)) := by
    rw [hcc]
    refine hs.perm ?_
    have h1 : (X.map (VnP tp td)).Perm ((pl.map fun p => p.1).map (VnP tp td)) := (q1.map _).symm
    exact ((((((h1.append_right F).cons _).cons _).cons _).cons _).cons _).cons _
  clear hs hs2 hs3 hs4 hs5 hb hc hp hb4 hp4 hb5 hc5 hp5 hsv hcl q1 q2 q3
  generalize hB : stComp A rev = B at *
  refine run_loopN (fun n e h => ∃ pl seen, n = toCome seen pl ∧ CompI A B pl seen cn ∧ sat h (pto q (.itr (some vm) cn seen cn) :: pto vm (.mp (kvOf (fun k : Key => AV.str k) Vn.key Vn.v pl) cn) :: pto b (.row 1 [[.ptr s 7 0 0]] 1) :: pto s (.row 7 [[.int .i64 A.rev, .int .i64 rev, .int .i64 A.now.length, .ptr ix 2 0 0, .map vm, v, o]] 1) :: Ow 2 v (B.chs.map (verC tp td)) :: IxP ix (trimL L rev) :: ((pl.map fun p => p.1).map (VnP tp td) ++ F)) ∧ (e 2 = .ptr b 1 0 0 ∧ e 57 = .ptr q 1 0 0)) _
    ⟨pl, [], rfl, hI0, hX0, rfl, rfl⟩ ?_
  clear hI0 hX0
  rintro n e h ⟨pl, seen, rfl, hI, hs, he⟩
  have hc : ∀ x ∈ kvOf (fun k : Key => AV.str k) Vn.key Vn.v pl, x.2.2 < cn := by
    intro x hx
    obtain ⟨p, hp, rfl⟩ := List.mem_map.1 hx
    exact hI.lt p hp
  have hn : ((kvOf (fun k : Key => AV.str k) Vn.key Vn.v pl).map (·.2.2)).Nodup := by simpa [kvOf, Function.comp_def] using hI.born
  simp (disch := omega) only [go_sem, reduceCtorEq, ↓reduceIte, Nat.reduceEqDiff, Nat.reduceAdd, Nat.reduceSub, Nat.reduceMul, Nat.reduceLT, Nat.reduceLeDiff, Int.reduceEq, Int.reduceNe, Int.reduceLT, Int.reduceLE, Int.reduceBEq, Int.reduceBNe, Int.reduceToNat, he]
  refine nxt_use hs (Nat.le_refl _) hc (fun x hx hns h hs => ?_) (fun hall => ?_)
  · obtain ⟨⟨y, m⟩, hp, rfl⟩ := List.mem_map.1 hx
    have hen := ent_at hs hx hn
    obtain ⟨la, lb, rfl, ha, hb'⟩ := hI.cut hp
    simp only [] at hns hen ha hb' hs
    have hb := hs.p2.at
    have hp := hs.p3.at
    obtain ⟨n1, n2⟩ := hI.come hns ha hb'
    have hvy := hI.vs (y, m) (by simp)
    rw [if_neg hns] at hvy
    simp only [] at hvy
    have hyl := vers_le (A := A) y.key
    rw [← hvy.2] at hyl
    simp (disch := omega) only [go_sem, reduceCtorEq, ↓reduceIte, Nat.reduceEqDiff, Nat.reduceAdd, Nat.reduceSub, Nat.reduceMul, Nat.reduceLT, Nat.reduceLeDiff, Int.reduceEq, Int.reduceNe, Int.reduceLT, Int.reduceLE, Int.reduceBEq, Int.reduceBNe, Int.reduceToNat, he]
    rw [hen]
    simp (disch := omega) only [go_sem, reduceCtorEq, ↓reduceIte, Nat.reduceEqDiff, Nat.reduceAdd, Nat.reduceSub, Nat.reduceMul, Nat.reduceLT, Nat.reduceLeDiff, Int.reduceEq, Int.reduceNe, Int.reduceLT, Int.reduceLE, Int.reduceBEq, Int.reduceBNe, Int.reduceToNat, he, hb, hp]
    have hLl := ix_len hok.2.1
    have hwC := ixC.1
    have hmk := ixC.2 y.key
    refine call_use (ixMarks (key := y.key) (hs.p1.p4.p4.p4.p5) hwC (fun x hx => MaxM.trim (n := 1000000000) (fun x hx => by have := hLl x hx; omega) x hx)) ?_
    rintro r h ⟨hr, hs⟩
    subst hr
    rw [hmk]
    have lenM : lenL (.lst (((B.vers y.key).map mkV).map mkE)) = some (.int .i64 (B.vers y.key).length) := by simp [lenL]
    have hvd : B.vers y.key = y.vs.drop (dropN y.vs rev) := by rw [← hB, comp_vers ok y.key (by omega), ← hvy.2]
    have hs6 : sat h (pto vm (.mp (kvOf (fun k : Key => AV.str k) Vn.key Vn.v (la ++ (y, m) :: lb)) cn) :: pto q (.itr (some vm) cn (seen ++ [m]) cn) :: pto b (.row 1 [[.ptr s 7 0 0]] 1) :: pto s (.row 7 [[.int .i64 A.rev, .int .i64 rev, .int .i64 A.now.length, .ptr ix 2 0 0, .map vm, v, o]] 1) :: VnP tp td y :: Ow 2 v (B.chs.map (verC tp td)) :: IxP ix (trimL L rev) :: (((la ++ lb).map fun p => p.1).map (VnP tp td) ++ F)) := by
      refine (hs.p3.p3.p3.p5.p5).perm ?_
      have hp : ((((la ++ (y, m) :: lb).map fun p => p.1).map (VnP tp td)) ++ F).Perm (VnP tp td y :: ((((la ++ lb).map fun p => p.1).map (VnP tp td)) ++ F)) := by
        simp only [List.map_append, List.map_cons, List.append_assoc, List.cons_append]
        exact List.perm_middle
      refine (((((hp.cons _).cons _).trans ?_).cons _).cons _).cons _ |>.cons _
      exact (((List.Perm.swap _ _ _).cons _).trans (List.Perm.swap _ _ _))
    have hb := hs6.p2.at
    have hp := hs6.p3.at
    by_cases hB0 : B.vers y.key = []
    · have hl0 : (((B.vers y.key).length : Int) == 0) = true := by rw [hB0]; rfl
      simp (disch := omega) only [go_sem, reduceCtorEq, ↓reduceIte, Nat.reduceEqDiff, Nat.reduceAdd, Nat.reduceSub, Nat.reduceMul, Nat.reduceLT, Nat.reduceLeDiff, Int.reduceEq, Int.reduceNe, Int.reduceLT, Int.reduceLE, Int.reduceBEq, Int.reduceBNe, Int.reduceToNat, lenM, hl0, hb, hp, he]
      refine del_raw keyOK_str hs6 (fun p hp => (ha p hp).1) fun h hs => ?_
      simp (disch := omega) only [go_sem, reduceCtorEq, ↓reduceIte, Nat.reduceEqDiff, Nat.reduceAdd, Nat.reduceSub, Nat.reduceMul, Nat.reduceLT, Nat.reduceLeDiff, Int.reduceEq, Int.reduceNe, Int.reduceLT, Int.reduceLE, Int.reduceBEq, Int.reduceBNe, Int.reduceToNat, he]
      refine ⟨_, by rw [n1]; exact Nat.lt_succ_self _, la ++ lb, seen ++ [m], rfl, hI.del hB0 ha hb', ?_⟩
      exact hs.p4.drop.p5.p5.p5.p5.p4.p5
    · have hl0 : (((B.vers y.key).length : Int) == 0) = false := by
        have := List.length_pos_iff.2 hB0
        simp; omega
      have hle : (B.vers y.key).length ≤ y.vs.length ∧ y.vs.length - (B.vers y.key).length = dropN y.vs rev := by
        have h1 := List.length_pos_iff.2 hB0
        rw [hvd, List.length_drop] at h1 ⊢
        omega
      have hyl2 := hs6.p4.els.len
      rw [List.length_map] at hyl2
      have esub : (y.vs.length : Int) - (B.vers y.key).length = ((dropN y.vs rev : Nat) : Int) := by omega
      obtain ⟨sv, hsv, hcl⟩ := cloneV (cv := y.v) (ms := y.vs) (k := dropN y.vs rev) (by omega) (by omega) hs6.p4
      simp (disch := omega) only [go_sem, reduceCtorEq, ↓reduceIte, Nat.reduceEqDiff, Nat.reduceAdd, Nat.reduceSub, Nat.reduceMul, Nat.reduceLT, Nat.reduceLeDiff, Int.reduceEq, Int.reduceNe, Int.reduceLT, Int.reduceLE, Int.reduceBEq, Int.reduceBNe, Int.reduceToNat, lenM, hl0, hb, hp, he, hyl2, esub, hsv]
      refine call_use' hcl ?_
      intro w h hs
      have hb := hs.p4.at
      have hp := hs.p5.at
      simp (disch := omega) only [go_sem, reduceCtorEq, ↓reduceIte, Nat.reduceEqDiff, Nat.reduceAdd, Nat.reduceSub, Nat.reduceMul, Nat.reduceLT, Nat.reduceLeDiff, Int.reduceEq, Int.reduceNe, Int.reduceLT, Int.reduceLE, Int.reduceBEq, Int.reduceBNe, Int.reduceToNat, he, hb, hp]
      rw [← hvd] at hs
      refine set_raw keyOK_str (hs.p1.drop.p6.p6.p6.p6.p6.p5.p6) (y := (⟨y.key, w, B.vers y.key⟩ : Vn)) (fun p hp => (ha p hp).1) rfl fun h hs => ?_
      simp (disch := omega) only [go_sem, reduceCtorEq, ↓reduceIte, Nat.reduceEqDiff, Nat.reduceAdd, Nat.reduceSub, Nat.reduceMul, Nat.reduceLT, Nat.reduceLeDiff, Int.reduceEq, Int.reduceNe, Int.reduceLT, Int.reduceLE, Int.reduceBEq, Int.reduceBNe, Int.reduceToNat, he]
      refine ⟨_, by rw [n2 (⟨y.key, w, B.vers y.key⟩ : Vn)]; exact Nat.lt_succ_self _, la ++ (⟨y.key, w, B.vers y.key⟩, m) :: lb, seen ++ [m], rfl, hI.set hB0 ha hb' w, ?_⟩
      refine (hs.p1.p6.p6.p6.p6.p5.p6).perm ?_
      have hp2 : (VnP tp td ⟨y.key, w, B.vers y.key⟩ :: ((((la ++ lb).map fun p => p.1).map (VnP tp td)) ++ F)).Perm ((((la ++ ((⟨y.key, w, B.vers y.key⟩ : Vn), m) :: lb).map fun p => p.1).map (VnP tp td)) ++ F) := by
        simp only [List.map_append, List.map_cons, List.append_assoc, List.cons_append]
        exact List.perm_middle.symm
      exact (((((hp2.cons _).cons _).cons _).cons _).cons _).cons _
  · simp (disch := omega) only [go_sem, reduceCtorEq, ↓reduceIte, Nat.reduceEqDiff, Nat.reduceAdd, Nat.reduceSub, Nat.reduceMul, Nat.reduceLT, Nat.reduceLeDiff, Int.reduceEq, Int.reduceNe, Int.reduceLT, Int.reduceLE, Int.reduceBEq, Int.reduceBNe, Int.reduceToNat]
    have hfin := hI.fin fun p hp => by simpa using hall _ (List.mem_map_of_mem (f := fun p : Vn × Nat => (AV.str p.1.key, p.1.v, p.2)) hp)
    refine mvP.2 ⟨ix, vm, v, trimL L rev, pl.map fun p => p.1, ⟨okC, ixC, hfin⟩, ?_⟩
    have hs7 : sat h (MpA (fun k : Key => AV.str k) Vn.key Vn.v vm (pl.map fun p => p.1) :: pto q (.itr (some vm) cn seen cn) :: pto b (.row 1 [[.ptr s 7 0 0]] 1) :: pto s (.row 7 [[.int .i64 A.rev, .int .i64 rev, .int .i64 A.now.length, .ptr ix 2 0 0, .map vm, v, o]] 1) :: Ow 2 v (B.chs.map (verC tp td)) :: IxP ix (trimL L rev) :: ((pl.map fun p => p.1).map (VnP tp td) ++ F)) :=
      mpA.2 ⟨pl, cn, ⟨.refl _, hI.born, hI.lt⟩, hs.p1⟩
    have hs8 := hs7.p1.drop.p1.drop.p2.p3.p3
    have e1 : B.rev = A.rev := by rw [← hB]; rfl
    have e2 : B.past = rev := by rw [← hB]; rfl
    unfold MvL
    rw [nowC, e1, e2]
    exact hs8
end
end Go.Proofs.Ytkclojjeepomfaa
/- The store: a write that begins; what it says of a key; a change laid down; Put. -/
set_option linter.unusedSimpArgs false
set_option linter.unusedVariables false
set_option maxRecDepth 10000
namespace Go.Proofs.Ytkclojjeepomfaa
open Go.Hz

abbrev WtP (w s : Nat) (A : Sto) (W : Wr) : Asr := WrP tp td w s A W
section
variable {h : Hp} {F : List Asr} {s w : Nat} {A : Sto} {o : AV} {W : Wr}

theorem mvWrite (hs : sat h (StP s A o :: F)) : Triple Try.prog 13 [.ptr s 7 0 0] h (fun r h => ∃ w, r = .ptr w 4 0 0 ∧ sat h (WtP w s A ⟨A.now, []⟩ :: StP s A (.ptr w 4 0 0) :: F)) := by
  obtain ⟨ix, vm, cv, L, X, hok, hs2⟩ := mvP.1 hs
  refine t13 (Nat.le_of_ble_eq_true rfl) ?_
  simp (disch := omega) only [F13, go_sem, reduceCtorEq, ↓reduceIte, Nat.reduceEqDiff, Nat.reduceAdd, Nat.reduceSub, Nat.reduceMul, Nat.reduceLT, Nat.reduceLeDiff, Int.reduceEq, Int.reduceNe, Int.reduceLT, Int.reduceLE, Int.reduceBEq, Int.reduceBNe, Int.reduceToNat]
  refine new_opq hs2 fun m h hs => ?_
  have hp := hs.p1.at
  simp (disch := omega) only [go_sem, reduceCtorEq, ↓reduceIte, Nat.reduceEqDiff, Nat.reduceAdd, Nat.reduceSub, Nat.reduceMul, Nat.reduceLT, Nat.reduceLeDiff, Int.reduceEq, Int.reduceNe, Int.reduceLT, Int.reduceLE, Int.reduceBEq, Int.reduceBNe, Int.reduceToNat, hp]
  refine new_opq hs fun w h hs => ?_
  have hp := hs.p2.at
  simp (disch := omega) only [go_sem, reduceCtorEq, ↓reduceIte, Nat.reduceEqDiff, Nat.reduceAdd, Nat.reduceSub, Nat.reduceMul, Nat.reduceLT, Nat.reduceLeDiff, Int.reduceEq, Int.reduceNe, Int.reduceLT, Int.reduceLE, Int.reduceBEq, Int.reduceBNe, Int.reduceToNat, hp]
  have hs3 : sat (h.set s (.row 7 [[.int .i64 A.rev, .int .i64 A.past, .int .i64 A.now.length, .ptr ix 2 0 0, .map vm, cv, .ptr w 4 0 0]] 1)) (pto s (.row 7 [[.int .i64 A.rev, .int .i64 A.past, .int .i64 A.now.length, .ptr ix 2 0 0, .map vm, cv, .ptr w 4 0 0]] 1) :: pto w (.row 4 [[.ptr s 7 0 0, .nils, .map m, .int .i64 A.now.length]] 1) :: pto m (.mp [] 0) :: IxP ix L :: Ow 2 cv (A.chs.map (verC tp td)) :: MpA (fun k : Key => AV.str k) Vn.key Vn.v vm X :: (X.map (VnP tp td) ++ F)) := hs.p2.set
  refine ⟨w, rfl, wrP.2 ⟨.nils, m, wrOK_nil A, ?_⟩⟩
  have hs4 := hs3.p2.p2
  exact hs4.tl fun _ h => (mpA_new (h.tl fun _ h => (mvP.2 ⟨ix, vm, cv, L, X, hok, h⟩ : sat _ (StP s A (.ptr w 4 0 0) :: F)))).add ow_nil
theorem mvClosed (hs : sat h (WtP w s A W :: StP s A (.ptr w 4 0 0) :: F)) : Triple Try.prog 33 [.ptr w 4 0 0] h (fun r h => r = .bool false ∧ sat h (WtP w s A W :: StP s A (.ptr w 4 0 0) :: F)) := by
  obtain ⟨lv, bm, hw, hs1⟩ := wrP.1 hs
  obtain ⟨ix, vm, cv, L, X, hok, hs2⟩ := mvP.1 hs1.p3
  have hp := hs2.at
  have hq := hs1.at
  refine t33 (Nat.le_of_ble_eq_true rfl) ?_
  simp (disch := omega) only [F33, hp, hq, go_sem, reduceCtorEq, ↓reduceIte, Nat.reduceEqDiff, Nat.reduceAdd, Nat.reduceSub, Nat.reduceMul, Nat.reduceLT, Nat.reduceLeDiff, Int.reduceEq, Int.reduceNe, Int.reduceLT, Int.reduceLE, Int.reduceBEq, Int.reduceBNe, Int.reduceToNat]
  exact hs
/-- What a write says of a key. -/
theorem mvNow {key : Key} (hs : sat h (WtP w s A W :: StP s A o :: F)) (hz : A.chs.length ≤ 100000000) : Triple Try.prog 32 [.ptr w 4 0 0, .str key] h (fun r h =>
    r = .tup [.agg (kvC ((kvget W.cur key).getD kv0)), .bool (kvget W.cur key).isSome] ∧ sat h (WtP w s A W :: StP s A o :: F)) := by
  have ok := MvP.ok hs.p1
  obtain ⟨lv, bm, hw, hs1⟩ := wrP.1 hs
  have mk : ∀ {h : Hp}, sat h (pto w (.row 4 [[.ptr s 7 0 0, lv, .map bm, .int .i64 W.cur.length]] 1) :: Ow 1 lv (W.l.map fun c => [chV tp td c]) :: MpA (fun k : Key => AV.str k) Ch.key (chV tp td) bm W.l :: StP s A o :: F) → sat h (WtP w s A W :: StP s A o :: F) := fun hs => wrP.2 ⟨lv, bm, hw, hs⟩
  refine t32 (Nat.le_of_ble_eq_true rfl) ?_
  simp (disch := omega) only [F32, go_sem, reduceCtorEq, ↓reduceIte, Nat.reduceEqDiff, Nat.reduceAdd, Nat.reduceSub, Nat.reduceMul, Nat.reduceLT, Nat.reduceLeDiff, Int.reduceEq, Int.reduceNe, Int.reduceLT, Int.reduceLE, Int.reduceBEq, Int.reduceBNe, Int.reduceToNat]
  refine new_opq hs1 fun a h hs => ?_
  have hp := hs.p1.at
  cases hc : wChg W key with
  | true =>
    obtain ⟨c, hcm, rfl⟩ := wChg_t hc
    have hl := lk_hit keyOK_str hs.p3 hw.nd hcm (ok := true) (z := .nili)
    have hnow := now_chg ok hw hcm
    rw [hnow]
    simp (disch := omega) only [go_sem, reduceCtorEq, ↓reduceIte, Nat.reduceEqDiff, Nat.reduceAdd, Nat.reduceSub, Nat.reduceMul, Nat.reduceLT, Nat.reduceLeDiff, Int.reduceEq, Int.reduceNe, Int.reduceLT, Int.reduceLE, Int.reduceBEq, Int.reduceBNe, Int.reduceToNat, hp, hl]
    cases c with
    | put kv =>
      simp (disch := omega) only [go_sem, reduceCtorEq, ↓reduceIte, Nat.reduceEqDiff, Nat.reduceAdd, Nat.reduceSub, Nat.reduceMul, Nat.reduceLT, Nat.reduceLeDiff, Int.reduceEq, Int.reduceNe, Int.reduceLT, Int.reduceLE, Int.reduceBEq, Int.reduceBNe, Int.reduceToNat, chV, taA, tp, td, kvC]
      refine new_opq hs fun y h hs => ?_
      have hy := hs.at
      have hs5 := hs.set (o' := .row 6 [kvC kv] 1)
      have hy5 := hs5.at
      have hb5 := hs5.p1.at
      simp only [kvC, kv0] at hy5 hb5 hs5
      simp (disch := omega) only [go_sem, reduceCtorEq, ↓reduceIte, Nat.reduceEqDiff, Nat.reduceAdd, Nat.reduceSub, Nat.reduceMul, Nat.reduceLT, Nat.reduceLeDiff, Int.reduceEq, Int.reduceNe, Int.reduceLT, Int.reduceLE, Int.reduceBEq, Int.reduceBNe, Int.reduceToNat, hy, hy5, hb5, kvC]
      exact ⟨rfl, mk hs5.p1.set.drop.drop⟩
    | del dk =>
      simp (disch := omega) only [go_sem, reduceCtorEq, ↓reduceIte, Nat.reduceEqDiff, Nat.reduceAdd, Nat.reduceSub, Nat.reduceMul, Nat.reduceLT, Nat.reduceLeDiff, Int.reduceEq, Int.reduceNe, Int.reduceLT, Int.reduceLE, Int.reduceBEq, Int.reduceBNe, Int.reduceToNat, chV, taA, tp, td, kvC]
      refine new_opq hs fun y h hs => ?_
      have hy := hs.at
      have hs5 := hs.set (o' := .row 6 [kvC kv0] 1)
      have hy5 := hs5.at
      have hb5 := hs5.p1.at
      simp only [kvC, kv0] at hy5 hb5 hs5
      simp (disch := omega) only [go_sem, reduceCtorEq, ↓reduceIte, Nat.reduceEqDiff, Nat.reduceAdd, Nat.reduceSub, Nat.reduceMul, Nat.reduceLT, Nat.reduceLeDiff, Int.reduceEq, Int.reduceNe, Int.reduceLT, Int.reduceLE, Int.reduceBEq, Int.reduceBNe, Int.reduceToNat, hy, hy5, hb5, kvC]
      exact ⟨rfl, mk hs5.p1.set.drop.drop⟩
  | false =>
    have hl := lk_miss keyOK_str hs.p3 (q := key) (wChg_f hc) (ok := true) (z := .nili)
    simp (disch := omega) only [go_sem, reduceCtorEq, ↓reduceIte, Nat.reduceEqDiff, Nat.reduceAdd, Nat.reduceSub, Nat.reduceMul, Nat.reduceLT, Nat.reduceLeDiff, Int.reduceEq, Int.reduceNe, Int.reduceLT, Int.reduceLE, Int.reduceBEq, Int.reduceBNe, Int.reduceToNat, hp, hl]
    obtain ⟨ix, vm, cv, L, X, hok, hs2⟩ := mvP.1 hs.p4
    have hq := hs2.at
    simp (disch := omega) only [go_sem, reduceCtorEq, ↓reduceIte, Nat.reduceEqDiff, Nat.reduceAdd, Nat.reduceSub, Nat.reduceMul, Nat.reduceLT, Nat.reduceLeDiff, Int.reduceEq, Int.reduceNe, Int.reduceLT, Int.reduceLE, Int.reduceBEq, Int.reduceBNe, Int.reduceToNat, hp, hq]
    refine call_use (mvAt (key := key) (rev := A.rev) hs.p4 hz) ?_
    rintro r h ⟨hr, hs⟩
    subst hr
    simp (disch := omega) only [go_sem, reduceCtorEq, ↓reduceIte, Nat.reduceEqDiff, Nat.reduceAdd, Nat.reduceSub, Nat.reduceMul, Nat.reduceLT, Nat.reduceLeDiff, Int.reduceEq, Int.reduceNe, Int.reduceLT, Int.reduceLE, Int.reduceBEq, Int.reduceBNe, Int.reduceToNat]
    have hv : vAt (A.vers key) A.rev = kvget W.cur key := by rw [vAt_at ok ok.rev, at_rev ok, now_same ok hw hc]
    rw [hv]
    have ha := hs.p1.at
    simp (disch := omega) only [go_sem, reduceCtorEq, ↓reduceIte, Nat.reduceEqDiff, Nat.reduceAdd, Nat.reduceSub, Nat.reduceMul, Nat.reduceLT, Nat.reduceLeDiff, Int.reduceEq, Int.reduceNe, Int.reduceLT, Int.reduceLE, Int.reduceBEq, Int.reduceBNe, Int.reduceToNat, ha, kvC]
    exact mk hs.p1.set.drop.p3.p3.p3
/-- A change, laid down. -/
theorem mvLay {c : Ch} {lv : AV} {bm : Nat} {n : Int} (hw : WrOK A W) (hs : sat h (pto w (.row 4 [[.ptr s 7 0 0, lv, .map bm, .int .i64 n]] 1) :: Ow 1 lv (W.l.map fun c => [chV tp td c]) :: MpA (fun k : Key => AV.str k) Ch.key (chV tp td) bm W.l :: F)) (hz : W.l.length ≤ 100000000) (hc : wChg W c.key = false) (hk : c.key ≠ [] ∧ c.key.length ≤ 100) (hd : c.kv = none → kvget W.cur c.key ≠ none) (hnum : ∀ kv, c = .put kv → kv.mod = A.rev + 1 ∧ KvIn (A.rev + 1) kv) : Triple Try.prog 34 [.ptr w 4 0 0, chV tp td c] h (fun r h =>
    ∃ lv, WrOK A ⟨done W.cur c, W.l ++ [c]⟩ ∧ sat h (pto w (.row 4 [[.ptr s 7 0 0, lv, .map bm, .int .i64 n]] 1) :: Ow 1 lv ((W.l ++ [c]).map fun c => [chV tp td c]) :: MpA (fun k : Key => AV.str k) Ch.key (chV tp td) bm (W.l ++ [c]) :: F)) := by
  have hp := hs.at
  have ca := chV_atom (tp := tp) (td := td) c
  have cc := chV_cells (tp := tp) (td := td) c
  refine t34 (Nat.le_of_ble_eq_true rfl) ?_
  simp (disch := omega) only [F34, hp, cc, ca, go_sem, reduceCtorEq, ↓reduceIte, Nat.reduceEqDiff, Nat.reduceAdd, Nat.reduceSub, Nat.reduceMul, Nat.reduceLT, Nat.reduceLeDiff, Int.reduceEq, Int.reduceNe, Int.reduceLT, Int.reduceLE, Int.reduceBEq, Int.reduceBNe, Int.reduceToNat]
  refine new_opq hs fun a h hs => ?_
  simp (disch := omega) only [go_sem, reduceCtorEq, ↓reduceIte, Nat.reduceEqDiff, Nat.reduceAdd, Nat.reduceSub, Nat.reduceMul, Nat.reduceLT, Nat.reduceLeDiff, Int.reduceEq, Int.reduceNe, Int.reduceLT, Int.reduceLE, Int.reduceBEq, Int.reduceBNe, Int.reduceToNat]
  refine app_sat hs.p2 (src_one hs.at) (atoms_one (by simp [ca])) (by simp; omega) fun v' h hs ca' aa => ?_
  have hp := hs.p2.at
  have hs2 := hs.p2.set (o' := .row 4 [[.ptr s 7 0 0, v', .map bm, .int .i64 n]] 1)
  have hp2 := hs2.at
  simp (disch := omega) only [go_sem, reduceCtorEq, ↓reduceIte, Nat.reduceEqDiff, Nat.reduceAdd, Nat.reduceSub, Nat.reduceMul, Nat.reduceLT, Nat.reduceLeDiff, Int.reduceEq, Int.reduceNe, Int.reduceLT, Int.reduceLE, Int.reduceBEq, Int.reduceBNe, Int.reduceToNat, hp, ca', aa, hp2]
  generalize Hp.set h w _ = h3 at hs2 hp2 ⊢
  refine inv_key hs2 c fun h hs => ?_
  have hp := hs.at
  simp (disch := omega) only [go_sem, reduceCtorEq, ↓reduceIte, Nat.reduceEqDiff, Nat.reduceAdd, Nat.reduceSub, Nat.reduceMul, Nat.reduceLT, Nat.reduceLeDiff, Int.reduceEq, Int.reduceNe, Int.reduceLT, Int.reduceLE, Int.reduceBEq, Int.reduceBNe, Int.reduceToNat, hp]
  refine mup_new keyOK_str hs.p3 (y := c) (wChg_f hc) fun h hs => ?_
  simp (disch := omega) only [go_sem, reduceCtorEq, ↓reduceIte, Nat.reduceEqDiff, Nat.reduceAdd, Nat.reduceSub, Nat.reduceMul, Nat.reduceLT, Nat.reduceLeDiff, Int.reduceEq, Int.reduceNe, Int.reduceLT, Int.reduceLE, Int.reduceBEq, Int.reduceBNe, Int.reduceToNat]
  refine ⟨v', hw.lay hc hk hd hnum, ?_⟩
  simpa using hs.p3.drop.p2.p2
theorem mvPut {key val : Key} {lease : Int} (hs : sat h (WtP w s A W :: StP s A (.ptr w 4 0 0) :: F)) (hz : A.chs.length ≤ 100000000) (hzl : W.l.length ≤ 100000000) (hzc : W.cur.length ≤ 200000000) (hr : A.rev ≤ 1000000000000000) :
    Triple Try.prog 14 [.ptr w 4 0 0, .str key, .str val, .int .i64 lease] h (fun r h => r = .int .i64 (wPut (A.rev + 1) W key val lease).1 ∧ sat h (WtP w s A (wPut (A.rev + 1) W key val lease).2 :: StP s A (.ptr w 4 0 0) :: F)) := by
  have ok := MvP.ok hs.p1
  have hw := WrP.ok hs
  have hpast := ok.past
  have hrev := ok.rev
  obtain ⟨lv, bm, _, hs1⟩ := wrP.1 hs
  have hp := hs1.at
  obtain ⟨tw, hl⟩ : ∃ v, lkA true true .nili h (.map bm) (.str key) = some (.tup [v, .bool (wChg W key)]) := by
    cases hc : wChg W key with
    | true =>
      obtain ⟨c, hcm, rfl⟩ := wChg_t hc
      exact ⟨_, lk_hit keyOK_str hs1.p2 hw.nd hcm⟩
    | false => exact ⟨_, lk_miss keyOK_str hs1.p2 (wChg_f hc)⟩
  refine t14 (Nat.le_of_ble_eq_true rfl) ?_
  simp (disch := omega) only [F14, hp, hl, go_sem, reduceCtorEq, ↓reduceIte, Nat.reduceEqDiff, Nat.reduceAdd, Nat.reduceSub, Nat.reduceMul, Nat.reduceLT, Nat.reduceLeDiff, Int.reduceEq, Int.reduceNe, Int.reduceLT, Int.reduceLE, Int.reduceBEq, Int.reduceBNe, Int.reduceToNat]
  refine call_use (mvNow (key := key) hs hz) ?_
  rintro r h ⟨hr, hs⟩
  subst hr
  simp (disch := omega) only [go_sem, reduceCtorEq, ↓reduceIte, Nat.reduceEqDiff, Nat.reduceAdd, Nat.reduceSub, Nat.reduceMul, Nat.reduceLT, Nat.reduceLeDiff, Int.reduceEq, Int.reduceNe, Int.reduceLT, Int.reduceLE, Int.reduceBEq, Int.reduceBNe, Int.reduceToNat]
  refine new_opq hs fun a h hs => ?_
  have ha := hs.at
  generalize hkv : (kvget W.cur key).getD kv0 = kv
  have hs2 := hs.set (o' := .row 6 [kvC kv] 1)
  have ha2 := hs2.at
  simp only [kvC] at hs2 ha2
  simp (disch := omega) only [go_sem, reduceCtorEq, ↓reduceIte, Nat.reduceEqDiff, Nat.reduceAdd, Nat.reduceSub, Nat.reduceMul, Nat.reduceLT, Nat.reduceLeDiff, Int.reduceEq, Int.reduceNe, Int.reduceLT, Int.reduceLE, Int.reduceBEq, Int.reduceBNe, Int.reduceToNat, ha, kvC]
  generalize Hp.set h a _ = h2 at hs2 ha2 ⊢
  by_cases k0 : key = []
  · subst k0
    have ef : wPut (A.rev + 1) W [] val lease = (1, W) := by simp [wPut]
    rw [ef]
    have e0 : (([] : List UInt8) == []) = true := rfl
    simp (disch := omega) only [go_sem, reduceCtorEq, ↓reduceIte, Nat.reduceEqDiff, Nat.reduceAdd, Nat.reduceSub, Nat.reduceMul, Nat.reduceLT, Nat.reduceLeDiff, Int.reduceEq, Int.reduceNe, Int.reduceLT, Int.reduceLE, Int.reduceBEq, Int.reduceBNe, Int.reduceToNat, e0]
    exact hs2.drop
  have e0 : (key == []) = false := by simpa using k0
  by_cases k1 : 100 < key.length
  · have ef : wPut (A.rev + 1) W key val lease = (1, W) := by simp [wPut, k1]
    rw [ef]
    simp (disch := omega) only [go_sem, reduceCtorEq, ↓reduceIte, Nat.reduceEqDiff, Nat.reduceAdd, Nat.reduceSub, Nat.reduceMul, Nat.reduceLT, Nat.reduceLeDiff, Int.reduceEq, Int.reduceNe, Int.reduceLT, Int.reduceLE, Int.reduceBEq, Int.reduceBNe, Int.reduceToNat, e0, show ((key.length : Int) > 100) = True by simp; omega]
    exact hs2.drop
  have e1 : ((key.length : Int) > 100) = False := by simp; omega
  by_cases k2 : lease < 0
  · have ef : wPut (A.rev + 1) W key val lease = (1, W) := by simp [wPut, k2]
    rw [ef]
    simp (disch := omega) only [go_sem, reduceCtorEq, ↓reduceIte, Nat.reduceEqDiff, Nat.reduceAdd, Nat.reduceSub, Nat.reduceMul, Nat.reduceLT, Nat.reduceLeDiff, Int.reduceEq, Int.reduceNe, Int.reduceLT, Int.reduceLE, Int.reduceBEq, Int.reduceBNe, Int.reduceToNat, e0, e1, k2]
    exact hs2.drop
  have hn1 : ¬ (key = [] ∨ 100 < key.length ∨ lease < 0) := by rintro (h | h | h); exact k0 h; exact k1 h; exact k2 h
  by_cases k3 : 4096 < val.length
  · have ef : wPut (A.rev + 1) W key val lease = (5, W) := by rw [wPut, if_neg hn1, if_pos k3]
    rw [ef]
    simp (disch := omega) only [go_sem, reduceCtorEq, ↓reduceIte, Nat.reduceEqDiff, Nat.reduceAdd, Nat.reduceSub, Nat.reduceMul, Nat.reduceLT, Nat.reduceLeDiff, Int.reduceEq, Int.reduceNe, Int.reduceLT, Int.reduceLE, Int.reduceBEq, Int.reduceBNe, Int.reduceToNat, e0, e1, k2, show ((val.length : Int) > 4096) = True by simp; omega]
    exact hs2.drop
  have e3 : ((val.length : Int) > 4096) = False := by simp; omega
  cases hchg : wChg W key with
  | true =>
    have ef : wPut (A.rev + 1) W key val lease = (18, W) := by rw [wPut, if_neg hn1, if_neg k3, if_pos hchg]
    rw [ef]
    simp (disch := omega) only [go_sem, reduceCtorEq, ↓reduceIte, Nat.reduceEqDiff, Nat.reduceAdd, Nat.reduceSub, Nat.reduceMul, Nat.reduceLT, Nat.reduceLeDiff, Int.reduceEq, Int.reduceNe, Int.reduceLT, Int.reduceLE, Int.reduceBEq, Int.reduceBNe, Int.reduceToNat, e0, e1, k2, e3, hchg]
    exact hs2.drop
  | false =>
  have hnc : ¬ wChg W key = true := by simp [hchg]
  obtain ⟨lv2, bm2, _, hs3⟩ := wrP.1 hs2.p1
  obtain ⟨ix, vm, cv, L, X, hok, hs4⟩ := mvP.1 hs2.p2
  have hp := hs3.at
  have hq := hs4.at
  cases hg : kvget W.cur key with
  | none =>
    rw [hg, Option.getD_none] at hkv
    subst hkv
    by_cases k4 : 4096 ≤ W.cur.length
    · have ef : wPut (A.rev + 1) W key val lease = (14, W) := by rw [wPut, if_neg hn1, if_neg k3, if_neg hnc, if_pos ⟨hg, k4⟩]
      rw [ef]
      simp (disch := omega) only [go_sem, reduceCtorEq, ↓reduceIte, Nat.reduceEqDiff, Nat.reduceAdd, Nat.reduceSub, Nat.reduceMul, Nat.reduceLT, Nat.reduceLeDiff, Int.reduceEq, Int.reduceNe, Int.reduceLT, Int.reduceLE, Int.reduceBEq, Int.reduceBNe, Int.reduceToNat, e0, e1, k2, e3, hchg, hg, Option.isSome_none, hp, show ((W.cur.length : Int) ≥ 4096) = True by simp; omega]
      exact hs2.drop
    have ef : wPut (A.rev + 1) W key val lease = (0, ⟨done W.cur (.put (wNew (A.rev + 1) W key val lease)), W.l ++ [.put (wNew (A.rev + 1) W key val lease)]⟩) := by rw [wPut, if_neg hn1, if_neg k3, if_neg hnc, if_neg (fun h => k4 h.2)]
    rw [ef]
    simp (disch := omega) only [go_sem, reduceCtorEq, ↓reduceIte, Nat.reduceEqDiff, Nat.reduceAdd, Nat.reduceSub, Nat.reduceMul, Nat.reduceLT, Nat.reduceLeDiff, Int.reduceEq, Int.reduceNe, Int.reduceLT, Int.reduceLE, Int.reduceBEq, Int.reduceBNe, Int.reduceToNat, e0, e1, k2, e3, hchg, hg, Option.isSome_none, hp, show ((W.cur.length : Int) ≥ 4096) = False by simp; omega]
    refine call_use (mvClosed hs2.p2.p2) ?_
    rintro r h ⟨hr, hs⟩
    subst hr
    simp (disch := omega) only [go_sem, reduceCtorEq, ↓reduceIte, Nat.reduceEqDiff, Nat.reduceAdd, Nat.reduceSub, Nat.reduceMul, Nat.reduceLT, Nat.reduceLeDiff, Int.reduceEq, Int.reduceNe, Int.reduceLT, Int.reduceLE, Int.reduceBEq, Int.reduceBNe, Int.reduceToNat, Option.isSome_none]
    obtain ⟨lv3, bm3, _, hs5⟩ := wrP.1 hs
    obtain ⟨ix, vm, cv, L, X, hok, hs6⟩ := mvP.1 hs5.p3
    have hp := hs5.at
    have hq := hs6.at
    have ha := hs5.p4.at
    simp (disch := omega) only [go_sem, reduceCtorEq, ↓reduceIte, Nat.reduceEqDiff, Nat.reduceAdd, Nat.reduceSub, Nat.reduceMul, Nat.reduceLT, Nat.reduceLeDiff, Int.reduceEq, Int.reduceNe, Int.reduceLT, Int.reduceLE, Int.reduceBEq, Int.reduceBNe, Int.reduceToNat, hp, hq, ha, Option.isSome_none]
    have hsA := hs5.p4.set (o' := .row 6 [[.str key, .str [], .int .i64 (A.rev + 1), .int .i64 0, .int .i64 0, .int .i64 0]] 1)
    have hwA := hsA.p1.at
    have haA := hsA.at
    generalize Hp.set h a _ = h4 at hsA hwA haA ⊢
    have hsB := hsA.p1.set (o' := .row 4 [[.ptr s 7 0 0, lv3, .map bm3, .int .i64 (W.cur.length + 1)]] 1)
    have haB := hsB.p1.at
    simp (disch := omega) only [go_sem, reduceCtorEq, ↓reduceIte, Nat.reduceEqDiff, Nat.reduceAdd, Nat.reduceSub, Nat.reduceMul, Nat.reduceLT, Nat.reduceLeDiff, Int.reduceEq, Int.reduceNe, Int.reduceLT, Int.reduceLE, Int.reduceBEq, Int.reduceBNe, Int.reduceToNat, hwA, haA, haB]
    generalize Hp.set h4 w _ = h5 at hsB haB ⊢
    have hsC := hsB.p1.set (o' := .row 6 [[.str key, .str val, .int .i64 (A.rev + 1), .int .i64 (A.rev + 1), .int .i64 1, .int .i64 lease]] 1)
    have hwn : wNew (A.rev + 1) W key val lease = ⟨key, val, A.rev + 1, A.rev + 1, 1, lease⟩ := by simp [wNew, hg]
    have hlay : Triple Try.prog 34 [.ptr w 4 0 0, chV tp td (.put ⟨key, val, A.rev + 1, A.rev + 1, 1, lease⟩)] _ _ := mvLay hw hsC.p4.p4.p4.p4 hzl (by rw [← hwn]; exact wNew_chg hchg) (by rw [← hwn]; exact wNew_len k0 (by omega)) (fun h => by cases h) (by rw [← hwn]; exact wNew_num ok hw hchg (by omega) (by omega))
    rw [hwn]
    refine call_use hlay ?_
    rintro r h ⟨lv4, hok', hs⟩
    simp (disch := omega) only [go_sem, reduceCtorEq, ↓reduceIte, Nat.reduceEqDiff, Nat.reduceAdd, Nat.reduceSub, Nat.reduceMul, Nat.reduceLT, Nat.reduceLeDiff, Int.reduceEq, Int.reduceNe, Int.reduceLT, Int.reduceLE, Int.reduceBEq, Int.reduceBNe, Int.reduceToNat]
    have hdl := done_len (c := .put ⟨key, val, A.rev + 1, A.rev + 1, 1, lease⟩) (hw.srt ok)
    rw [show (Ch.put ⟨key, val, A.rev + 1, A.rev + 1, 1, lease⟩).key = key from rfl, hg] at hdl
    have hdl2 : ((done W.cur (.put ⟨key, val, A.rev + 1, A.rev + 1, 1, lease⟩)).length : Int) = (W.cur.length : Int) + 1 := by rw [hdl]; simp [Ch.kv]
    refine wrP.2 ⟨lv4, bm3, hok', ?_⟩
    rw [hdl2]
    exact hs.p4.drop.p3.p3.p3.p3
  | some x =>
    rw [hg, Option.getD_some] at hkv
    subst hkv
    have ef : wPut (A.rev + 1) W key val lease = (0, ⟨done W.cur (.put (wNew (A.rev + 1) W key val lease)), W.l ++ [.put (wNew (A.rev + 1) W key val lease)]⟩) := by rw [wPut, if_neg hn1, if_neg k3, if_neg hnc, if_neg (fun h => by rw [hg] at h; cases h.1)]
    rw [ef]
    simp (disch := omega) only [go_sem, reduceCtorEq, ↓reduceIte, Nat.reduceEqDiff, Nat.reduceAdd, Nat.reduceSub, Nat.reduceMul, Nat.reduceLT, Nat.reduceLeDiff, Int.reduceEq, Int.reduceNe, Int.reduceLT, Int.reduceLE, Int.reduceBEq, Int.reduceBNe, Int.reduceToNat, e0, e1, k2, e3, hchg, hg, Option.isSome_some]
    refine call_use (mvClosed hs2.p2.p2) ?_
    rintro r h ⟨hr, hs⟩
    subst hr
    simp (disch := omega) only [go_sem, reduceCtorEq, ↓reduceIte, Nat.reduceEqDiff, Nat.reduceAdd, Nat.reduceSub, Nat.reduceMul, Nat.reduceLT, Nat.reduceLeDiff, Int.reduceEq, Int.reduceNe, Int.reduceLT, Int.reduceLE, Int.reduceBEq, Int.reduceBNe, Int.reduceToNat, Option.isSome_some]
    obtain ⟨lv3, bm3, _, hs5⟩ := wrP.1 hs
    obtain ⟨ix, vm, cv, L, X, hok, hs6⟩ := mvP.1 hs5.p3
    have hp := hs5.at
    have hq := hs6.at
    have ha := hs5.p4.at
    have hxm := cur_num ok hw x (kvget_some hg).1
    have hxk := (kvget_some hg).2
    unfold KvIn at hxm
    have hwn : wNew (A.rev + 1) W key val lease = ⟨key, val, x.create, A.rev + 1, x.ver + 1, lease⟩ := by simp [wNew, hg]
    simp (disch := omega) only [go_sem, reduceCtorEq, ↓reduceIte, Nat.reduceEqDiff, Nat.reduceAdd, Nat.reduceSub, Nat.reduceMul, Nat.reduceLT, Nat.reduceLeDiff, Int.reduceEq, Int.reduceNe, Int.reduceLT, Int.reduceLE, Int.reduceBEq, Int.reduceBNe, Int.reduceToNat, hp, hq, ha, Option.isSome_some]
    have hsC := hs5.p4.set (o' := .row 6 [[.str x.key, .str val, .int .i64 x.create, .int .i64 (A.rev + 1), .int .i64 (x.ver + 1), .int .i64 lease]] 1)
    rw [hxk] at hsC ⊢
    have hlay : Triple Try.prog 34 [.ptr w 4 0 0, chV tp td (.put ⟨key, val, x.create, A.rev + 1, x.ver + 1, lease⟩)] _ _ := mvLay hw hsC.p4.p4.p4.p4 hzl (by rw [← hwn]; exact wNew_chg hchg) (by rw [← hwn]; exact wNew_len k0 (by omega)) (fun h => by cases h) (by rw [← hwn]; exact wNew_num ok hw hchg (by omega) (by omega))
    rw [hwn]
    refine call_use hlay ?_
    rintro r h ⟨lv4, hok', hs⟩
    simp (disch := omega) only [go_sem, reduceCtorEq, ↓reduceIte, Nat.reduceEqDiff, Nat.reduceAdd, Nat.reduceSub, Nat.reduceMul, Nat.reduceLT, Nat.reduceLeDiff, Int.reduceEq, Int.reduceNe, Int.reduceLT, Int.reduceLE, Int.reduceBEq, Int.reduceBNe, Int.reduceToNat]
    have hdl := done_len (c := .put ⟨key, val, x.create, A.rev + 1, x.ver + 1, lease⟩) (hw.srt ok)
    rw [show (Ch.put ⟨key, val, x.create, A.rev + 1, x.ver + 1, lease⟩).key = key from rfl, hg] at hdl
    have hdl2 : (done W.cur (.put ⟨key, val, x.create, A.rev + 1, x.ver + 1, lease⟩)).length = W.cur.length := by rw [hdl]; simp [Ch.kv]
    refine wrP.2 ⟨lv4, bm3, hok', ?_⟩
    rw [hdl2]
    exact hs.p4.drop.p3.p3.p3.p3
end
end Go.Proofs.Ytkclojjeepomfaa
