/- slices: insertion sort. -/
import Derived.Test.YtkclojjeepomfaaR5MvccSavesLawPD
set_option linter.unusedSimpArgs false
set_option linter.unusedVariables false
set_option maxRecDepth 10000
namespace Go.Proofs.Ytkclojjeepomfaa
open Go.Hz Go.Sort

section
variable {h : Hp} {F : List Asr} {G : List AV → Prop} {lt : List AV → List AV → Bool}

theorem ins_S (hc : LessT Try.prog false G lt 101) (E : GoodE 1 false G) {d : Array (List AV)} {a bb b cap : Nat} (hs : sat h (pto b (.row 1 d.toList cap) :: F)) (hg : GA G d) (ha : a ≤ bb) (hb : bb ≤ d.size) (hsz : d.size ≤ 1000000000000) :
    Triple Try.prog 95 [.arr b 1 0 d.size cap, .int .i64 a, .int .i64 bb] h (fun r h => GA G (insertionSort lt d a bb) ∧ (insertionSort lt d a bb).size = d.size ∧ sat h (pto b (.row 1 (insertionSort lt d a bb).toList cap) :: F)) := by
  refine t95 (Nat.le_of_ble_eq_true rfl) ?_
  simp (disch := omega) only [F95, go_sem, simprocAttr]
  refine run_loopN (fun n e h => ∃ (i : Nat) (d' : Array (List AV)), n = bb + 1 - i ∧ a + 1 ≤ i ∧ i ≤ bb + 1 ∧ insOuter lt a bb i d' = insertionSort lt d a bb ∧ GA G d' ∧ d'.size = d.size ∧ sat h (pto b (.row 1 d'.toList cap) :: F) ∧
    (e 0 = .arr b 1 0 d.size cap ∧ e 1 = .int .i64 a ∧ e 2 = .int .i64 bb ∧ e 6 = .int .i64 i)) (bb + 1 - (a + 1)) ⟨a + 1, d, rfl, Nat.le_refl _, by omega, rfl, hg, rfl, hs, rfl, rfl, rfl, rfl⟩ ?_
  rintro n e h ⟨i, d', rfl, hi1, hi2, hI, hg', hz', hs, he⟩
  simp (disch := omega) only [go_sem, simprocAttr, he]
  refine cnd_dec (fun hlt => ?_) (fun hge => ?_)
  · simp (disch := omega) only [go_sem, simprocAttr, he]
    refine blk_join (Q := fun e h => ∃ d2 : Array (List AV), d2 = insInner lt a i d' ∧ GA G d2 ∧ d2.size = d.size ∧ sat h (pto b (.row 1 d2.toList cap) :: F) ∧
      (e 0 = .arr b 1 0 d.size cap ∧ e 1 = .int .i64 a ∧ e 2 = .int .i64 bb ∧ e 6 = .int .i64 i)) ?_ ?_
    · refine run_loopN (fun n e h => ∃ (j : Nat) (d2 : Array (List AV)), n = j ∧ j ≤ i ∧ insInner lt a j d2 = insInner lt a i d' ∧ GA G d2 ∧ d2.size = d.size ∧ sat h (pto b (.row 1 d2.toList cap) :: F) ∧
        (e 0 = .arr b 1 0 d.size cap ∧ e 1 = .int .i64 a ∧ e 2 = .int .i64 bb ∧ e 6 = .int .i64 i ∧ e 7 = .int .i64 j)) i ⟨i, d', rfl, Nat.le_refl _, rfl, hg', hz', hs, ?_⟩ ?_
      · simp only [Env.upd_apply, he, and_self, reduceIte, Nat.reduceEqDiff]
      · rintro j e h ⟨_, d2, rfl, hj, hJ, hg2, hz2, hs, he⟩
        simp (disch := omega) only [go_sem, simprocAttr, he]
        refine cnd_dec (fun hgt => ?_) (fun hle => ?_)
        · obtain ⟨j, rfl⟩ : ∃ k, j = k + 1 := ⟨j - 1, by omega⟩
          have hm : ((j + 1 : Nat) : Int) - 1 = (j : Int) := by omega
          have r1 := rd_o E hg2 (i := j + 1) (by omega)
          have r2 := rd_o E hg2 (i := j) (by omega)
          simp (disch := omega) only [go_sem, simprocAttr, he, hm, hs.at, r1, r2]
          refine call_use (hc _ _ _ _ (hg2 _ (by omega)) (hg2 _ (by omega)) hs) ?_
          rintro r h ⟨hr, hs⟩
          subst hr
          simp (disch := omega) only [go_sem, simprocAttr, he, hm, hgt]
          have hst : insInner lt a (j + 1) d2 = if lt d2[j + 1]! d2[j]! = true then insInner lt a j (swp d2 (j + 1) j) else d2 := by
            rw [insInner]; simp only [show (j + 1 > a) from by omega, decide_true, Bool.true_and]
          cases hq : lt d2[j + 1]! d2[j]!
          · simp (disch := omega) only [go_sem, simprocAttr, he]
            refine ⟨d2, ?_, hg2, hz2, hs⟩
            rw [← hJ, hst, hq]; rfl
          · simp (disch := omega) only [go_sem, simprocAttr, he]
            obtain ⟨k1, k2, k3, k4, k5, k6, k7, k8, k9, k10, k11, ⟨ky, y1, y2, y3, y4⟩, hw⟩ := sw_o E hg2 (i := j + 1) (j := j) (by omega) (by omega)
            simp (disch := omega) only [go_sem, simprocAttr, he, hm, hs.at, k1, k2, k3, k4, k5, k6, k7, k8, k9, k10, k11, y1, y2, y3, y4, hw]
            refine ⟨j, by omega, j, swp d2 (j + 1) j, rfl, by omega, ?_, hg2.swp (by omega) (by omega), by rw [Go.Sort.swp_size]; exact hz2, hs.set, rfl⟩
            rw [← hJ, hst, hq]; rfl
        · simp (disch := omega) only [go_sem, simprocAttr, he, hle]
          refine ⟨d2, ?_, hg2, hz2, hs⟩
          rw [← hJ]
          cases j with
          | zero => rw [insInner]
          | succ j => rw [insInner, if_neg]; simp; omega
    · rintro e h ⟨d2, hd2, hg2, hz2, hs, he⟩
      simp (disch := omega) only [go_sem, simprocAttr, he]
      refine ⟨_, ?_, i + 1, d2, rfl, by omega, by omega, ?_, hg2, hz2, hs, rfl⟩
      · omega
      · rw [← hI, insOuter.eq_1 lt a bb i, if_pos (by omega), hd2]
  · simp (disch := omega) only [go_sem, simprocAttr, he]
    rw [insOuter, if_neg (by omega)] at hI
    subst hI
    exact ⟨hg', hz', hs⟩

theorem sift_step {α : Type} [Inhabited α] {lt : α → α → Bool} {hi first root : Nat} {d : Array α} (h : 2 * root + 1 < hi) {w : Bool} (hw : w = (decide (2 * root + 1 + 1 < hi) && lt d[first + (2 * root + 1)]! d[first + (2 * root + 1) + 1]!)) {c : Nat} (hc : c = if w = true then 2 * root + 2 else 2 * root + 1) :
    siftDown lt hi first root d = if lt d[first + root]! d[first + c]! = true then siftDown lt hi first c (swp d (first + root) (first + c)) else d := by
  rw [siftDown, dif_neg (by omega)]
  cases w with
  | true =>
    simp only [if_true] at hc
    rw [← hw, if_pos rfl, ← hc, dif_pos (by have := hw; simp at this; omega)]
    cases lt d[first + root]! d[first + c]! <;> rfl
  | false =>
    simp only [Bool.false_eq_true, if_false] at hc
    rw [← hw, if_neg (by simp), ← hc]
    cases lt d[first + root]! d[first + c]! <;> rfl

theorem sift_S (hc : LessT Try.prog false G lt 101) (E : GoodE 1 false G) {d : Array (List AV)} {root hi first b cap : Nat} (hs : sat h (pto b (.row 1 d.toList cap) :: F)) (hg : GA G d) (hr : root ≤ hi) (hb : first + hi ≤ d.size) (hsz : d.size ≤ 1000000000000) :
    Triple Try.prog 110 [.arr b 1 0 d.size cap, .int .i64 root, .int .i64 hi, .int .i64 first] h (fun r h => GA G (siftDown lt hi first root d) ∧ (siftDown lt hi first root d).size = d.size ∧ sat h (pto b (.row 1 (siftDown lt hi first root d).toList cap) :: F)) := by
  refine t110 (Nat.le_of_ble_eq_true rfl) ?_
  simp (disch := omega) only [F110, go_sem, simprocAttr]
  refine run_loopN (fun n e h => ∃ (i : Nat) (d' : Array (List AV)), n = hi - i ∧ i ≤ hi ∧ siftDown lt hi first i d' = siftDown lt hi first root d ∧ GA G d' ∧ d'.size = d.size ∧ sat h (pto b (.row 1 d'.toList cap) :: F) ∧
    (e 0 = .arr b 1 0 d.size cap ∧ e 2 = .int .i64 hi ∧ e 3 = .int .i64 first ∧ e 8 = .int .i64 i)) (hi - root) ⟨root, d, rfl, hr, rfl, hg, rfl, hs, rfl, rfl, rfl, rfl⟩ ?_
  rintro n e h ⟨i, d', rfl, hi1, hI, hg', hz', hs, he⟩
  have n1 : (2 : Int) * i + 1 = ((2 * i + 1 : Nat) : Int) := by omega
  simp (disch := omega) only [go_sem, simprocAttr, he, n1]
  refine cnd_dec (fun hge => ?_) (fun hlt => ?_)
  · simp (disch := omega) only [go_sem, simprocAttr, he]
    rw [siftDown, dif_pos (by omega)] at hI
    subst hI
    exact ⟨hg', hz', hs⟩
  · have n2 : ((2 * i + 1 : Nat) : Int) + 1 = ((2 * i + 2 : Nat) : Int) := by omega
    simp (disch := omega) only [go_sem, simprocAttr, he, n1, n2]
    obtain ⟨w, hw⟩ : ∃ w, w = (decide (2 * i + 1 + 1 < hi) && lt d'[first + (2 * i + 1)]! d'[first + (2 * i + 1) + 1]!) := ⟨_, rfl⟩
    obtain ⟨c', hc'⟩ : ∃ c', c' = if w = true then 2 * i + 2 else 2 * i + 1 := ⟨_, rfl⟩
    refine cnd_join (Q := fun e' h' => ∃ (q : Bool) (v : AV), (if q = true then v else AV.bool false) = .bool w ∧ sat h' (pto b (.row 1 d'.toList cap) :: F) ∧
      (e' 21 = .bool q ∧ e' 35 = v ∧ e' 0 = .arr b 1 0 d.size cap ∧ e' 2 = .int .i64 hi ∧ e' 3 = .int .i64 first ∧ e' 8 = .int .i64 i ∧ e' 9 = .int .i64 (2 * i + 1 : Nat))) ?_ ?_
    · refine cnd_dec (fun h1 => ?_) (fun h1 => ?_)
      · have m1 : (first : Int) + ((2 * i + 1 : Nat) : Int) = ((first + (2 * i + 1) : Nat) : Int) := by omega
        have m2 : ((first + (2 * i + 1) : Nat) : Int) + 1 = ((first + (2 * i + 1) + 1 : Nat) : Int) := by omega
        have r1 := rd_o E hg' (i := first + (2 * i + 1)) (by omega)
        have r2 := rd_o E hg' (i := first + (2 * i + 1) + 1) (by omega)
        simp (disch := omega) only [go_sem, simprocAttr, he, hs.at, r1, r2, m1, m2, h1, n1]
        refine call_use (hc _ _ _ _ (hg' _ (by omega)) (hg' _ (by omega)) hs) ?_
        rintro r h ⟨hr, hs⟩
        subst hr
        simp (disch := omega) only [go_sem, simprocAttr, he, h1, n1]
        refine ⟨_, _, ?_, hs, rfl, rfl⟩
        rw [if_pos rfl, hw, decide_eq_true (show 2 * i + 1 + 1 < hi from by omega), Bool.true_and]
      · simp (disch := omega) only [go_sem, simprocAttr, he, h1, n1]
        refine ⟨_, _, ?_, hs, rfl, rfl⟩
        rw [if_neg (by simp), hw, decide_eq_false (show ¬ 2 * i + 1 + 1 < hi from by omega), Bool.false_and]
    · rintro e h ⟨q, v, hq, hs, he⟩
      simp (disch := omega) only [go_sem, simprocAttr, he, hq]
      refine cnd_join (Q := fun e' h' => sat h' (pto b (.row 1 d'.toList cap) :: F) ∧
        (e' 0 = .arr b 1 0 d.size cap ∧ e' 2 = .int .i64 hi ∧ e' 3 = .int .i64 first ∧ e' 8 = .int .i64 i ∧ e' 9 = .int .i64 c')) ?_ ?_
      · cases w with
        | true =>
          rw [if_pos rfl] at hc'
          have n2 : ((2 * i + 1 : Nat) : Int) + 1 = (c' : Int) := by omega
          have : c' < hi := by simp at hw; omega
          simp (disch := omega) only [go_sem, simprocAttr, he, n2]
          exact hs
        | false =>
          rw [if_neg (by simp)] at hc'
          subst hc'
          simp (disch := omega) only [go_sem, simprocAttr, he]
          exact hs
      · have hch : c' < hi := by
          cases w with
          | true => rw [if_pos rfl] at hc'; simp at hw; omega
          | false => rw [if_neg (by simp)] at hc'; omega
        have hci : i < c' := by
          cases w with
          | true => rw [if_pos rfl] at hc'; omega
          | false => rw [if_neg (by simp)] at hc'; omega
        have hst := sift_step (d := d') (lt := lt) (first := first) (root := i) (by omega) hw hc'
        rintro e h ⟨hs, he⟩
        have m1 : (first : Int) + (i : Int) = ((first + i : Nat) : Int) := by omega
        have m2 : (first : Int) + (c' : Int) = ((first + c' : Nat) : Int) := by omega
        have r1 := rd_o E hg' (i := first + i) (by omega)
        have r2 := rd_o E hg' (i := first + c') (by omega)
        simp (disch := omega) only [go_sem, simprocAttr, he, hs.at, r1, r2, m1, m2]
        refine call_use (hc _ _ _ _ (hg' _ (by omega)) (hg' _ (by omega)) hs) ?_
        rintro r h ⟨hr, hs⟩
        subst hr
        simp (disch := omega) only [go_sem, simprocAttr, he]
        cases hq : lt d'[first + i]! d'[first + c']!
        · simp (disch := omega) only [go_sem, simprocAttr, he]
          rw [← hI, hst, hq]
          exact ⟨hg', hz', hs⟩
        · simp (disch := omega) only [go_sem, simprocAttr, he]
          obtain ⟨k1, k2, k3, k4, k5, k6, k7, k8, k9, k10, k11, ⟨ky, y1, y2, y3, y4⟩, hw⟩ := sw_o E hg' (i := first + i) (j := first + c') (by omega) (by omega)
          simp (disch := omega) only [go_sem, simprocAttr, he, m1, m2, hs.at, k1, k2, k3, k4, k5, k6, k7, k8, k9, k10, k11, y1, y2, y3, y4, hw]
          refine ⟨hi - c', by omega, c', swp d' (first + i) (first + c'), rfl, by omega, ?_, hg'.swp (by omega) (by omega), by rw [Go.Sort.swp_size]; exact hz', hs.set, rfl⟩
          rw [← hI, hst, hq]; rfl
theorem heap_S (hc : LessT Try.prog false G lt 101) (E : GoodE 1 false G) {d : Array (List AV)} {a bb b cap : Nat} (hs : sat h (pto b (.row 1 d.toList cap) :: F)) (hg : GA G d) (ha : a ≤ bb) (hb : bb ≤ d.size) (hsz : d.size ≤ 1000000000000) :
    Triple Try.prog 96 [.arr b 1 0 d.size cap, .int .i64 a, .int .i64 bb] h (fun r h => GA G (heapSort lt d a bb) ∧ (heapSort lt d a bb).size = d.size ∧ sat h (pto b (.row 1 (heapSort lt d a bb).toList cap) :: F)) := by
  obtain ⟨hi, hhi⟩ : ∃ hi, hi = bb - a := ⟨_, rfl⟩
  have n1 : (bb : Int) - a = (hi : Int) := by omega
  have n2 : ((hi : Int) - 1).tdiv 2 = (((hi - 1) / 2 + 1 : Nat) : Int) - 1 := by
    rcases Nat.eq_zero_or_pos hi with h0 | h0
    · subst h0; decide
    · rw [Int.tdiv_eq_ediv_of_nonneg (by omega)]; omega
  refine t96 (Nat.le_of_ble_eq_true rfl) ?_
  simp (disch := omega) only [F96, n1, n2, go_sem, simprocAttr]
  refine blk_join (Q := fun e h => ∃ d2 : Array (List AV), d2 = heapBuild lt hi a ((hi - 1) / 2 + 1) d ∧ GA G d2 ∧ d2.size = d.size ∧ sat h (pto b (.row 1 d2.toList cap) :: F) ∧
    (e 0 = .arr b 1 0 d.size cap ∧ e 6 = .int .i64 a ∧ e 7 = .int .i64 0 ∧ e 8 = .int .i64 hi)) ?_ ?_
  · refine run_loopN (fun n e h => ∃ (k : Nat) (d2 : Array (List AV)), n = k ∧ k ≤ (hi - 1) / 2 + 1 ∧ heapBuild lt hi a k d2 = heapBuild lt hi a ((hi - 1) / 2 + 1) d ∧ GA G d2 ∧ d2.size = d.size ∧ sat h (pto b (.row 1 d2.toList cap) :: F) ∧
      (e 0 = .arr b 1 0 d.size cap ∧ e 6 = .int .i64 a ∧ e 7 = .int .i64 0 ∧ e 8 = .int .i64 hi ∧ e 9 = .int .i64 ((k : Int) - 1))) ((hi - 1) / 2 + 1) ⟨_, d, rfl, Nat.le_refl _, rfl, hg, rfl, hs, rfl, rfl, rfl, rfl, rfl⟩ ?_
    rintro k e h ⟨_, d2, rfl, hk, hI, hg2, hz2, hs, he⟩
    simp (disch := omega) only [go_sem, simprocAttr, he]
    refine cnd_dec (fun hge => ?_) (fun hlt => ?_)
    · obtain ⟨k, rfl⟩ : ∃ j, k = j + 1 := ⟨k - 1, by omega⟩
      have m1 : ((k + 1 : Nat) : Int) - 1 = (k : Int) := by omega
      simp (disch := omega) only [go_sem, simprocAttr, he, m1]
      refine call_use (by rw [← hz2]; exact sift_S hc E hs hg2 (by omega) (by omega) (by omega)) ?_
      rintro r h ⟨hg3, hz3, hs⟩
      simp (disch := omega) only [go_sem, simprocAttr, he, m1]
      refine ⟨k, by omega, k, _, rfl, by omega, ?_, hg3, by rw [hz3]; exact hz2, hs, rfl⟩
      rw [← hI]; rfl
    · obtain rfl : k = 0 := by omega
      simp (disch := omega) only [go_sem, simprocAttr, he]
      exact ⟨d2, hI, hg2, hz2, hs⟩
  · rintro e h ⟨d2, hd2, hg2, hz2, hs, he⟩
    simp (disch := omega) only [go_sem, simprocAttr, he]
    refine run_loopN (fun n e h => ∃ (k : Nat) (d3 : Array (List AV)), n = k ∧ k ≤ hi ∧ heapPop lt a k d3 = heapPop lt a hi d2 ∧ GA G d3 ∧ d3.size = d.size ∧ sat h (pto b (.row 1 d3.toList cap) :: F) ∧
      (e 0 = .arr b 1 0 d.size cap ∧ e 6 = .int .i64 a ∧ e 7 = .int .i64 0 ∧ e 10 = .int .i64 ((k : Int) - 1))) hi ⟨_, d2, rfl, Nat.le_refl _, rfl, hg2, hz2, hs, ?_⟩ ?_
    · simp only [Env.upd_apply, he, and_self, reduceIte, Nat.reduceEqDiff]
    · rintro k e h ⟨_, d3, rfl, hk, hI, hg3, hz3, hs, he⟩
      simp (disch := omega) only [go_sem, simprocAttr, he]
      refine cnd_dec (fun hge => ?_) (fun hlt => ?_)
      · obtain ⟨k, rfl⟩ : ∃ j, k = j + 1 := ⟨k - 1, by omega⟩
        have m1 : ((k + 1 : Nat) : Int) - 1 = (k : Int) := by omega
        have m2 : (a : Int) + k = ((a + k : Nat) : Int) := by omega
        obtain ⟨k1, k2, k3, k4, k5, k6, k7, k8, k9, k10, k11, ⟨ky, y1, y2, y3, y4⟩, hw⟩ := sw_o E hg3 (i := a) (j := a + k) (by omega) (by omega)
        simp (disch := omega) only [go_sem, simprocAttr, he, m1, m2, hs.at, k1, k2, k3, k4, k5, k6, k7, k8, k9, k10, k11, y1, y2, y3, y4, hw]
        have hs2 := hs.set (o' := .row 1 (swp d3 a (a + k)).toList cap)
        refine call_use (by rw [← hz3, ← Go.Sort.swp_size d3 a (a + k)]; exact sift_S (root := 0) hc E hs2 (hg3.swp (by omega) (by omega)) (Nat.zero_le _) (by rw [Go.Sort.swp_size]; omega) (by rw [Go.Sort.swp_size]; omega)) ?_
        rintro r h ⟨hg4, hz4, hs⟩
        simp (disch := omega) only [go_sem, simprocAttr, he, m1]
        refine ⟨k, by omega, k, _, rfl, by omega, ?_, hg4, by rw [hz4, Go.Sort.swp_size]; exact hz3, hs, rfl⟩
        rw [← hI]; rfl
      · obtain rfl : k = 0 := by omega
        simp (disch := omega) only [go_sem, simprocAttr, he]
        have : d3 = heapSort lt d a bb := by
          rw [heapSort, ← hhi, ← hd2, ← hI]; rfl
        subst this
        exact ⟨hg3, hz3, hs⟩
end
end Go.Proofs.Ytkclojjeepomfaa
/- slices: the pivot; reverseRange. -/
set_option linter.unusedSimpArgs false
set_option linter.unusedVariables false
set_option maxRecDepth 10000
namespace Go.Proofs.Ytkclojjeepomfaa
open Go.Hz Go.Sort

section
variable {h : Hp} {F : List Asr} {G : List AV → Prop} {lt : List AV → List AV → Bool}

theorem ord_S (hc : LessT Try.prog false G lt 101) (E : GoodE 1 false G) {d : Array (List AV)} {x y n b cap q : Nat} (hs : sat h (pto b (.row 1 d.toList cap) :: pto q (.row 1 [[.int .i64 n]] 1) :: F)) (hg : GA G d) (hx : x < d.size) (hy : y < d.size) (hn : n ≤ 1000) (hsz : d.size ≤ 1000000000000) :
    Triple Try.prog 122 [.arr b 1 0 d.size cap, .int .i64 x, .int .i64 y, .ptr q 1 0 0] h (fun r h => ∃ u v m : Nat, r = .tup [.int .i64 u, .int .i64 v] ∧ (u = x ∧ v = y ∨ u = y ∧ v = x) ∧ m ≤ n + 1 ∧ sat h (pto b (.row 1 d.toList cap) :: pto q (.row 1 [[.int .i64 m]] 1) :: F)) := by
  have r1 := rd_o E hg hy
  have r2 := rd_o E hg hx
  refine t122 (Nat.le_of_ble_eq_true rfl) ?_
  simp (disch := omega) only [F122, hs.at, r1, r2, go_sem, simprocAttr]
  refine call_use (hc _ _ _ _ (hg _ hy) (hg _ hx) hs) ?_
  rintro r h ⟨hr, hs⟩
  subst hr
  simp (disch := omega) only [go_sem, simprocAttr]
  cases hq : lt d[y]! d[x]!
  · simp (disch := omega) only [go_sem, simprocAttr]
    exact ⟨x, y, n, rfl, .inl ⟨rfl, rfl⟩, by omega, hs⟩
  · simp (disch := omega) only [go_sem, simprocAttr, hs.p1.at]
    have e : ((n : Int) + 1) = ((n + 1 : Nat) : Int) := by omega
    refine ⟨y, x, n + 1, rfl, .inr ⟨rfl, rfl⟩, by omega, ?_⟩
    rw [← e]
    exact hs.p1.set.p1
theorem med_S (hc : LessT Try.prog false G lt 101) (E : GoodE 1 false G) {d : Array (List AV)} {x y z n b cap q : Nat} (hs : sat h (pto b (.row 1 d.toList cap) :: pto q (.row 1 [[.int .i64 n]] 1) :: F)) (hg : GA G d) (hx : x < d.size) (hy : y < d.size) (hz : z < d.size) (hn : n ≤ 990) (hsz : d.size ≤ 1000000000000) :
    Triple Try.prog 114 [.arr b 1 0 d.size cap, .int .i64 x, .int .i64 y, .int .i64 z, .ptr q 1 0 0] h (fun r h => ∃ u m : Nat, r = .int .i64 u ∧ (u = x ∨ u = y ∨ u = z) ∧ m ≤ n + 3 ∧ sat h (pto b (.row 1 d.toList cap) :: pto q (.row 1 [[.int .i64 m]] 1) :: F)) := by
  refine t114 (Nat.le_of_ble_eq_true rfl) ?_
  simp (disch := omega) only [F114, go_sem, simprocAttr]
  refine call_use (ord_S hc E hs hg hx hy (by omega) hsz) ?_
  rintro r h ⟨u1, v1, n1, hr, h1, m1, hs⟩
  subst hr
  simp (disch := omega) only [go_sem, simprocAttr]
  refine call_use (ord_S hc E hs hg (by omega) hz (by omega) hsz) ?_
  rintro r h ⟨u2, v2, n2, hr, h2, m2, hs⟩
  subst hr
  simp (disch := omega) only [go_sem, simprocAttr]
  refine call_use (ord_S hc E hs hg (by omega) (by omega) (by omega) hsz) ?_
  rintro r h ⟨u3, v3, n3, hr, h3, m3, hs⟩
  subst hr
  simp (disch := omega) only [go_sem, simprocAttr]
  exact ⟨v3, n3, rfl, by omega, by omega, hs⟩
theorem mea_S (hc : LessT Try.prog false G lt 101) (E : GoodE 1 false G) {d : Array (List AV)} {x n b cap q : Nat} (hs : sat h (pto b (.row 1 d.toList cap) :: pto q (.row 1 [[.int .i64 n]] 1) :: F)) (hg : GA G d) (hx0 : 1 ≤ x) (hx : x + 1 < d.size) (hn : n ≤ 990) (hsz : d.size ≤ 1000000000000) :
    Triple Try.prog 113 [.arr b 1 0 d.size cap, .int .i64 x, .ptr q 1 0 0] h (fun r h => ∃ u m : Nat, r = .int .i64 u ∧ x ≤ u + 1 ∧ u ≤ x + 1 ∧ m ≤ n + 3 ∧ sat h (pto b (.row 1 d.toList cap) :: pto q (.row 1 [[.int .i64 m]] 1) :: F)) := by
  have n1 : (x : Int) - 1 = ((x - 1 : Nat) : Int) := by omega
  have n2 : (x : Int) + 1 = ((x + 1 : Nat) : Int) := by omega
  refine t113 (Nat.le_of_ble_eq_true rfl) ?_
  simp (disch := omega) only [F113, n1, n2, go_sem, simprocAttr]
  refine call_use (med_S hc E hs hg (by omega) (by omega) (by omega) (by omega) hsz) ?_
  rintro r h ⟨u, m, hr, h1, m1, hs⟩
  subst hr
  simp (disch := omega) only [go_sem, simprocAttr]
  exact ⟨u, m, rfl, by omega, by omega, by omega, hs⟩
theorem piv_S (hc : LessT Try.prog false G lt 101) (E : GoodE 1 false G) {d : Array (List AV)} {a bb b cap : Nat} (hs : sat h (pto b (.row 1 d.toList cap) :: F)) (hg : GA G d) (ha : a + 12 < bb) (hb : bb ≤ d.size) (hsz : d.size ≤ 1000000000000) :
    Triple Try.prog 98 [.arr b 1 0 d.size cap, .int .i64 a, .int .i64 bb] h (fun r h => ∃ (u : Nat) (t : Nat), r = .tup [.int .i64 u, .int .i64 t] ∧ a ≤ u ∧ u < bb ∧ t ≤ 2 ∧ sat h (pto b (.row 1 d.toList cap) :: F)) := by
  obtain ⟨l, hl⟩ : ∃ l, l = bb - a := ⟨_, rfl⟩
  have n0 : (bb : Int) - a = (l : Int) := by omega
  obtain ⟨g, hgg⟩ : ∃ g, g = l / 4 := ⟨_, rfl⟩
  have n1 : (l : Int).tdiv 4 = (g : Int) := by rw [Int.tdiv_eq_ediv_of_nonneg (by omega)]; omega
  have n2 : (a : Int) + (g : Int) = ((a + g : Nat) : Int) := by omega
  have n3 : (a : Int) + (g : Int) * 2 = ((a + g * 2 : Nat) : Int) := by omega
  have n4 : (a : Int) + (g : Int) * 3 = ((a + g * 3 : Nat) : Int) := by omega
  have n5 : (8 : Int) ≤ (l : Int) := by omega
  refine t98 (Nat.le_of_ble_eq_true rfl) ?_
  simp (disch := omega) only [F98, n0, go_sem, simprocAttr]
  refine new_sat hs fun q hq hs => ?_
  have hs := hs.p1
  simp (disch := omega) only [go_sem, simprocAttr, n0, n1, n2, n3, n4, n5, Int.mul_one]
  refine cnd_join (Q := fun e h => ∃ i j k m : Nat, a ≤ i ∧ i < bb ∧ a ≤ j ∧ j < bb ∧ a ≤ k ∧ k < bb ∧ m ≤ 9 ∧ sat h (pto b (.row 1 d.toList cap) :: pto q (.row 1 [[.int .i64 m]] 1) :: F) ∧
    (e 0 = .arr b 1 0 d.size cap ∧ e 9 = .ptr q 1 0 0 ∧ e 10 = .int .i64 i ∧ e 11 = .int .i64 j ∧ e 12 = .int .i64 k)) ?_ ?_
  · refine cnd_dec (fun h50 => ?_) (fun h50 => ?_)
    · simp (disch := omega) only [go_sem, simprocAttr]
      refine call_use (mea_S (n := 0) hc E hs hg (by omega) (by omega) (by omega) hsz) ?_
      rintro r h ⟨u1, m1, hr, h1, h1', hm1, hs⟩
      subst hr
      simp (disch := omega) only [go_sem, simprocAttr]
      refine call_use (mea_S hc E hs hg (by omega) (by omega) (by omega) hsz) ?_
      rintro r h ⟨u2, m2, hr, h2, h2', hm2, hs⟩
      subst hr
      simp (disch := omega) only [go_sem, simprocAttr]
      refine call_use (mea_S hc E hs hg (by omega) (by omega) (by omega) hsz) ?_
      rintro r h ⟨u3, m3, hr, h3, h3', hm3, hs⟩
      subst hr
      simp (disch := omega) only [go_sem, simprocAttr]
      exact ⟨u1, u2, u3, m3, by omega, by omega, by omega, by omega, by omega, by omega, by omega, hs, rfl, rfl, rfl⟩
    · simp (disch := omega) only [go_sem, simprocAttr]
      exact ⟨a + g, a + g * 2, a + g * 3, 0, by omega, by omega, by omega, by omega, by omega, by omega, by omega, hs, rfl, rfl, rfl⟩
  · rintro e h ⟨i, j, k, m, i1, i2, j1, j2, k1, k2, hm, hs, he⟩
    simp (disch := omega) only [go_sem, simprocAttr, he]
    refine call_use (med_S hc E hs hg (by omega) (by omega) (by omega) (by omega) hsz) ?_
    rintro r h ⟨u, m', hr, hu, hm', hs⟩
    subst hr
    simp (disch := omega) only [go_sem, simprocAttr, he, hs.p1.at]
    have hd := hs.p1.drop
    cases e0 : ((m' : Int) == 0)
    · cases e1 : ((m' : Int) == 12)
      · simp (disch := omega) only [go_sem, simprocAttr, he, e0, e1]
        exact ⟨u, 0, rfl, by omega, by omega, by omega, hd⟩
      · simp (disch := omega) only [go_sem, simprocAttr, he, e0, e1]
        exact ⟨u, 2, rfl, by omega, by omega, by omega, hd⟩
    · simp (disch := omega) only [go_sem, simprocAttr, he, e0]
      exact ⟨u, 1, rfl, by omega, by omega, by omega, hd⟩
theorem rev_S (E : GoodE 1 false G) {d : Array (List AV)} {a bb b cap : Nat} {cf : AV} (hs : sat h (pto b (.row 1 d.toList cap) :: F)) (hg : GA G d) (ha : a < bb) (hb : bb ≤ d.size) (hsz : d.size ≤ 1000000000000) :
    Triple Try.prog 99 [.arr b 1 0 d.size cap, .int .i64 a, .int .i64 bb] h (fun r h => PermIn a bb d (reverseRange d a bb) ∧ GA G (reverseRange d a bb) ∧ (reverseRange d a bb).size = d.size ∧ sat h (pto b (.row 1 (reverseRange d a bb).toList cap) :: F)) := by
  have n1 : (bb : Int) - 1 = ((bb - 1 : Nat) : Int) := by omega
  have hP := reverseRange_holds d a bb (by omega) hb
  refine t99 (Nat.le_of_ble_eq_true rfl) ?_
  simp (disch := omega) only [F99, n1, go_sem, simprocAttr]
  refine run_loopN (fun n e h => ∃ (i j : Nat) (d2 : Array (List AV)), n = j + 1 - i ∧ a ≤ i ∧ i ≤ j + 1 ∧ j < bb ∧ reverseLoop i j d2 = reverseRange d a bb ∧ GA G d2 ∧ d2.size = d.size ∧ sat h (pto b (.row 1 d2.toList cap) :: F) ∧
    (e 0 = .arr b 1 0 d.size cap ∧ e 6 = .int .i64 i ∧ e 7 = .int .i64 j)) _ ⟨a, bb - 1, d, rfl, Nat.le_refl _, by omega, by omega, rfl, hg, rfl, hs, rfl, rfl, rfl⟩ ?_
  rintro n e h ⟨i, j, d2, rfl, hi, hij, hj, hI, hg2, hz2, hs, he⟩
  simp (disch := omega) only [go_sem, simprocAttr, he]
  refine cnd_dec (fun hlt => ?_) (fun hge => ?_)
  · have m1 : (i : Int) + 1 = ((i + 1 : Nat) : Int) := by omega
    have m2 : (j : Int) - 1 = ((j - 1 : Nat) : Int) := by omega
    obtain ⟨k1, k2, k3, k4, k5, k6, k7, k8, k9, k10, k11, ⟨ky, y1, y2, y3, y4⟩, hw⟩ := sw_o E hg2 (i := i) (j := j) (by omega) (by omega)
    simp (disch := omega) only [go_sem, simprocAttr, he, m1, m2, hs.at, k1, k2, k3, k4, k5, k6, k7, k8, k9, k10, k11, y1, y2, y3, y4, hw]
    refine ⟨j - 1 + 1 - (i + 1), by omega, i + 1, j - 1, _, rfl, by omega, by omega, by omega, ?_, hg2.swp (by omega) (by omega), by rw [Go.Sort.swp_size]; exact hz2, hs.set, rfl, rfl⟩
    rw [← hI, reverseLoop.eq_1 i j, if_pos (by omega)]
  · simp (disch := omega) only [go_sem, simprocAttr, he]
    rw [reverseLoop, if_neg (by omega)] at hI
    subst hI
    exact ⟨hP, hg2, hz2, hs⟩
end
end Go.Proofs.Ytkclojjeepomfaa
/- math/bits.Len, slices.nextPowerOfTwo, xorshift, breakPatterns. -/
set_option linter.unusedSimpArgs false
set_option linter.unusedVariables false
set_option maxRecDepth 10000
namespace Go.Proofs.Ytkclojjeepomfaa
open Go.Hz Go.Sort

section
variable {h : Hp} {F : List Asr} {G : List AV → Prop} {lt : List AV → List AV → Bool}

theorem len64 {n : Nat} (hs : sat h F) (hn : n < 4294967296) : Triple Try.prog 105 [.int .u64 n] h (fun r h => ∃ t : Nat, r = .int .i64 t ∧ n < 2 ^ t ∧ (1 ≤ n → 2 ^ t ≤ 2 * n) ∧ t ≤ 32 ∧ sat h F) := by
  have s16 : (n : Int).fdiv (2 ^ min 16 64) = ((n / 65536 : Nat) : Int) := by simp [Int.fdiv_eq_ediv]
  refine t105 (Nat.le_of_ble_eq_true rfl) ?_
  simp (disch := omega) only [F105, go_sem, simprocAttr]
  refine cnd_dec (fun h1 => absurd h1 (by omega)) (fun h1 => ?_)
  simp (disch := omega) only [go_sem, simprocAttr]
  refine cnd_join (Q := fun e h => ∃ k t : Nat, k = n / 2 ^ t ∧ (t = 0 ∨ t = 16 ∧ 1 ≤ k) ∧ k < 65536 ∧ sat h F ∧ (e 0 = .int .u64 k ∧ e 2 = .int .i64 t)) ?_ ?_
  · refine cnd_dec (fun h2 => ?_) (fun h2 => ?_)
    · simp (disch := omega) only [go_sem, simprocAttr, s16]
      exact ⟨n / 65536, 16, rfl, .inr ⟨rfl, by omega⟩, by omega, hs, rfl, rfl⟩
    · simp (disch := omega) only [go_sem, simprocAttr]
      exact ⟨n, 0, by simp, .inl rfl, by omega, hs, rfl, rfl⟩
  · rintro e h ⟨k, t, hk, ht, hk2, hs, he⟩
    have s8 : (k : Int).fdiv (2 ^ min 8 64) = ((k / 256 : Nat) : Int) := by simp [Int.fdiv_eq_ediv]
    simp (disch := omega) only [go_sem, simprocAttr, he]
    refine cnd_join (Q := fun e h => ∃ k t : Nat, k = n / 2 ^ t ∧ (t = 0 ∨ t ≤ 24 ∧ 1 ≤ k) ∧ k < 256 ∧ sat h F ∧ (e 0 = .int .u64 k ∧ e 2 = .int .i64 t)) ?_ ?_
    · refine cnd_dec (fun h2 => ?_) (fun h2 => ?_)
      · have w2 : (t : Int) + 8 = ((t + 8 : Nat) : Int) := by omega
        simp (disch := omega) only [go_sem, simprocAttr, he, s8, w2]
        exact ⟨k / 256, t + 8, by rw [Nat.pow_add, ← Nat.div_div_eq_div_mul, ← hk], .inr ⟨by omega, by omega⟩, by omega, hs, rfl, rfl⟩
      · simp (disch := omega) only [go_sem, simprocAttr, he]
        exact ⟨k, t, hk, by omega, by omega, hs, rfl, rfl⟩
    · rintro e h ⟨k, t, hk, ht, hk2, hs, he⟩
      have w3 : IntKind.u8.wrap (k : Int) = (k : Int) := by simp [IntKind.wrap, IntKind.signed, IntKind.bits]; omega
      simp (disch := omega) only [go_sem, simprocAttr, he, w3]
      refine ixs_use (by kernel_rfl) hk2 fun u hu1 hu2 hu3 => ?_
      have w4 : IntKind.i64.wrap (u : Int) = (u : Int) := by simp [IntKind.wrap, IntKind.signed, IntKind.bits]; omega
      have w5 : (t : Int) + (u : Int) = ((t + u : Nat) : Int) := by omega
      simp (disch := omega) only [go_sem, simprocAttr, he, w4, w5]
      have p0 : 0 < 2 ^ t := Nat.pow_pos (by omega)
      have e1 : 2 ^ t * k ≤ n := by rw [hk]; exact Nat.mul_div_le n _
      have e2 : n < 2 ^ t * (k + 1) := by rw [hk]; exact Nat.lt_mul_div_succ n p0
      refine ⟨t + u, rfl, ?_, fun hn1 => ?_, by omega, hs⟩
      · rw [Nat.pow_add]
        exact Nat.lt_of_lt_of_le e2 (Nat.mul_le_mul_left _ hu1)
      · rw [Nat.pow_add]
        have hk1 : 1 ≤ k := by
          rcases ht with h0 | h0
          · subst h0; simp at hk; omega
          · exact h0.2
        calc 2 ^ t * 2 ^ u ≤ 2 ^ t * (2 * k) := Nat.mul_le_mul_left _ (hu2 hk1)
          _ = 2 * (2 ^ t * k) := by rw [← Nat.mul_assoc, Nat.mul_comm (2 ^ t) 2, Nat.mul_assoc]
          _ ≤ 2 * n := Nat.mul_le_mul_left _ e1

theorem len0 {n : Nat} (hs : sat h F) (hn : n < 4294967296) : Triple Try.prog 89 [.int .u64 n] h (fun r h => ∃ t : Nat, r = .int .i64 t ∧ n < 2 ^ t ∧ (1 ≤ n → 2 ^ t ≤ 2 * n) ∧ t ≤ 32 ∧ sat h F) := by
  refine t89 (Nat.le_of_ble_eq_true rfl) ?_
  simp (disch := omega) only [F89, go_sem, simprocAttr]
  refine call_use (len64 hs hn) ?_
  rintro r h ⟨t, hr, h1, h2, h3, hs⟩
  subst hr
  simp (disch := omega) only [go_sem, simprocAttr]
  exact ⟨t, rfl, h1, h2, h3, hs⟩

theorem npow {n : Nat} (hs : sat h F) (hn : n < 1000000000) (hn1 : 1 ≤ n) : Triple Try.prog 111 [.int .i64 n] h (fun r h => ∃ t : Nat, r = .int .u64 ((2 ^ t : Nat) : Int) ∧ n < 2 ^ t ∧ 2 ^ t ≤ 2 * n ∧ t ≤ 32 ∧ sat h F) := by
  have w1 : IntKind.u64.wrap (n : Int) = (n : Int) := by simp [IntKind.wrap, IntKind.signed, IntKind.bits]; omega
  refine t111 (Nat.le_of_ble_eq_true rfl) ?_
  simp (disch := omega) only [F111, w1, go_sem, simprocAttr]
  refine call_use (len0 hs (by omega)) ?_
  rintro r h ⟨t, hr, h1, h2, h3, hs⟩
  subst hr
  have w2 : IntKind.u64.wrap (1 * 2 ^ min t 64) = ((2 ^ t : Nat) : Int) := by
    rw [Nat.min_eq_left (by omega)]
    have : (2 : Nat) ^ t < 2 ^ 33 := Nat.pow_lt_pow_right (by omega) (by omega)
    have e : (1 : Int) * 2 ^ t = ((2 ^ t : Nat) : Int) := by simp
    rw [e]
    exact wu64 (by omega)
  simp (disch := omega) only [go_sem, simprocAttr, Int.toNat_natCast, w2]
  exact ⟨by omega, t, rfl, h1, h2 hn1, h3, hs⟩

theorem xnext {q : Nat} {z : Int} (hs : sat h (pto q (.row 1 [[.int .u64 z]] 1) :: F)) : Triple Try.prog 112 [.ptr q 1 0 0] h (fun r h => ∃ z' : Int, r = .int .u64 z' ∧ sat h (pto q (.row 1 [[.int .u64 z']] 1) :: F)) := by
  refine t112 (Nat.le_of_ble_eq_true rfl) ?_
  simp (disch := omega) only [F112, hs.at, go_sem, simprocAttr]
  exact ⟨_, rfl, hs.set⟩
theorem brk_S (E : GoodE 1 false G) {d : Array (List AV)} {a bb b cap : Nat} {cf : AV} (hs : sat h (pto b (.row 1 d.toList cap) :: F)) (hg : GA G d) (ha : a + 12 < bb) (hb : bb ≤ d.size) (hsz : d.size ≤ 100000000) :
    Triple Try.prog 97 [.arr b 1 0 d.size cap, .int .i64 a, .int .i64 bb] h (fun r h => ∃ d2 : Array (List AV), PermIn a bb d d2 ∧ GA G d2 ∧ d2.size = d.size ∧ sat h (pto b (.row 1 d2.toList cap) :: F)) := by
  obtain ⟨l, hl⟩ : ∃ l, l = bb - a := ⟨_, rfl⟩
  have n0 : (bb : Int) - a = (l : Int) := by omega
  obtain ⟨g, hgg⟩ : ∃ g, g = l / 4 := ⟨_, rfl⟩
  have n1 : (l : Int).tdiv 4 = (g : Int) := by rw [Int.tdiv_eq_ediv_of_nonneg (by omega)]; omega
  have n2 : (a : Int) + (g : Int) * 2 = ((a + g * 2 : Nat) : Int) := by omega
  have n3 : ((a + g * 2 : Nat) : Int) - 1 = ((a + g * 2 - 1 : Nat) : Int) := by omega
  have n4 : ((a + g * 2 : Nat) : Int) + 1 = ((a + g * 2 + 1 : Nat) : Int) := by omega
  have n5 : (8 : Int) ≤ (l : Int) := by omega
  have w1 := wu64 (n := l) (by omega)
  refine t97 (Nat.le_of_ble_eq_true rfl) ?_
  simp (disch := omega) only [F97, n0, n5, w1, go_sem, simprocAttr]
  refine new_opq hs fun q h hs => ?_
  simp (disch := omega) only [go_sem, simprocAttr, hs.at, n0, w1]
  refine call_use (npow (hs.set (o' := .row 1 [[.int .u64 l]] 1)) (n := l) (by omega) (by omega)) ?_
  rintro r h ⟨t, hr, h1, h2, h3, hs⟩
  subst hr
  simp (disch := omega) only [go_sem, simprocAttr, n1, n2, n3]
  have ht : (2 : Nat) ^ t < 2 ^ 33 := Nat.pow_lt_pow_right (by omega) (by omega)
  refine run_loopN (fun n e h => ∃ (i : Nat) (d2 : Array (List AV)) (z : Int), n = a + g * 2 + 2 - i ∧ a + g * 2 - 1 ≤ i ∧ i ≤ a + g * 2 + 2 ∧ PermIn a bb d d2 ∧ GA G d2 ∧ d2.size = d.size ∧ sat h (pto q (.row 1 [[.int .u64 z]] 1) :: pto b (.row 1 d2.toList cap) :: F) ∧
    (e 0 = .arr b 1 0 d.size cap ∧ e 1 = .int .i64 a ∧ e 6 = .int .i64 l ∧ e 7 = .ptr q 1 0 0 ∧ e 8 = .int .u64 ((2 ^ t : Nat) : Int) ∧ e 9 = .int .i64 i)) _ ⟨a + g * 2 - 1, d, _, rfl, Nat.le_refl _, by omega, permIn_refl d a bb, hg, rfl, hs, rfl, rfl, rfl, rfl, rfl, rfl⟩ ?_
  rintro n e h ⟨i, d2, z, rfl, hi1, hi2, hp, hg2, hz2, hs, he⟩
  simp (disch := omega) only [go_sem, simprocAttr, he, n1, n2, n4]
  refine cnd_dec (fun hle => ?_) (fun hgt => ?_)
  · simp (disch := omega) only [go_sem, simprocAttr, he]
    refine call_use (xnext hs) ?_
    rintro r h ⟨z', hr, hs⟩
    subst hr
    have m1 : ((2 ^ t : Nat) : Int) - 1 = ((2 ^ t - 1 : Nat) : Int) := by omega
    obtain ⟨o, ho, hol⟩ := and_lt z' (m := 2 ^ t - 1) (by omega)
    have w2 := wi64 (n := o) (by omega)
    have w3 := wu64 (n := 2 ^ t - 1) (by omega)
    simp (disch := omega) only [go_sem, simprocAttr, he, m1, w3, ho, w2]
    refine cnd_join (Q := fun e h => ∃ u : Nat, u < l ∧ sat h (pto q (.row 1 [[.int .u64 z']] 1) :: pto b (.row 1 d2.toList cap) :: F) ∧
      (e 0 = .arr b 1 0 d.size cap ∧ e 1 = .int .i64 a ∧ e 6 = .int .i64 l ∧ e 7 = .ptr q 1 0 0 ∧ e 8 = .int .u64 ((2 ^ t : Nat) : Int) ∧ e 9 = .int .i64 i ∧ e 10 = .int .i64 u)) ?_ ?_
    · refine cnd_dec (fun hge => ?_) (fun hlt => ?_)
      · have m2 : (o : Int) - (l : Int) = ((o - l : Nat) : Int) := by omega
        simp (disch := omega) only [go_sem, simprocAttr, he, m2]
        exact ⟨o - l, by omega, hs, rfl⟩
      · simp (disch := omega) only [go_sem, simprocAttr, he]
        exact ⟨o, by omega, hs, rfl⟩
    · rintro e h ⟨u, hu, hs, he⟩
      have hs := hs.p1
      have m3 : (a : Int) + (u : Int) = ((a + u : Nat) : Int) := by omega
      have m4 : (i : Int) + 1 = ((i + 1 : Nat) : Int) := by omega
      obtain ⟨k1, k2, k3, k4, k5, k6, k7, k8, k9, k10, k11, ⟨ky, y1, y2, y3, y4⟩, hw⟩ := sw_o E hg2 (i := i) (j := a + u) (by omega) (by omega)
      simp (disch := omega) only [go_sem, simprocAttr, he, m3, m4, hs.at, k1, k2, k3, k4, k5, k6, k7, k8, k9, k10, k11, y1, y2, y3, y4, hw]
      have hs2 := (hs.set (o' := .row 1 (swp d2 i (a + u)).toList cap)).p1
      exact ⟨a + g * 2 + 2 - (i + 1), by omega, i + 1, _, z', rfl, by omega, by omega, permIn_trans _ _ _ _ _ hp (swp_permIn d2 a bb i (a + u) (by omega) (by omega) (by omega) (by omega) (by omega)), hg2.swp (by omega) (by omega), by rw [Go.Sort.swp_size]; exact hz2, hs2, rfl⟩
  · simp (disch := omega) only [go_sem, simprocAttr, he]
    exact ⟨d2, hp, hg2, hz2, hs.drop⟩
end
end Go.Proofs.Ytkclojjeepomfaa
/- slices: partial insertion sort, the partitions. -/
set_option linter.unusedSimpArgs false
set_option linter.unusedVariables false
set_option maxRecDepth 10000
namespace Go.Proofs.Ytkclojjeepomfaa
open Go.Hz Go.Sort

section
variable {h : Hp} {F : List Asr} {G : List AV → Prop} {lt : List AV → List AV → Bool}

theorem par_S (hc : LessT Try.prog false G lt 101) (E : GoodE 1 false G) {d : Array (List AV)} {a bb b cap : Nat} (hs : sat h (pto b (.row 1 d.toList cap) :: F)) (hg : GA G d) (ha : a < bb) (hb : bb ≤ d.size) (hsz : d.size ≤ 1000000000000) :
    Triple Try.prog 100 [.arr b 1 0 d.size cap, .int .i64 a, .int .i64 bb] h (fun r h => r = .bool (partialInsertionSort lt d a bb).2 ∧ GA G (partialInsertionSort lt d a bb).1 ∧ (partialInsertionSort lt d a bb).1.size = d.size ∧ sat h (pto b (.row 1 (partialInsertionSort lt d a bb).1.toList cap) :: F)) := by
  have w0 : (a : Int) + 1 = ((a + 1 : Nat) : Int) := by omega
  refine t100 (Nat.le_of_ble_eq_true rfl) ?_
  simp (disch := omega) only [F100, w0, go_sem, simprocAttr]
  refine run_loopN (fun n e h => ∃ (k i : Nat) (d1 : Array (List AV)), n = 5 - k ∧ k ≤ 5 ∧ a + 1 ≤ i ∧ i ≤ bb ∧ partialIns lt a bb (5 - k) i d1 = partialInsertionSort lt d a bb ∧ GA G d1 ∧ d1.size = d.size ∧ sat h (pto b (.row 1 d1.toList cap) :: F) ∧
    (e 0 = .arr b 1 0 d.size cap ∧ e 1 = .int .i64 a ∧ e 2 = .int .i64 bb ∧ e 7 = .int .i64 i ∧ e 8 = .int .i64 k)) 5 ⟨0, a + 1, d, rfl, by omega, Nat.le_refl _, by omega, rfl, hg, rfl, hs, rfl, rfl, rfl, rfl, rfl⟩ ?_
  rintro n e h ⟨k, i, d1, rfl, hk, hi1, hi2, hI, hg1, hz1, hs, he⟩
  simp (disch := omega) only [go_sem, simprocAttr, he]
  refine cnd_dec (fun hk5 => ?_) (fun hk5 => ?_)
  rotate_left
  · obtain rfl : k = 5 := by omega
    simp (disch := omega) only [go_sem, simprocAttr, he]
    rw [← hI]
    exact ⟨rfl, hg1, hz1, hs⟩
  obtain ⟨s, hs5⟩ : ∃ s, 5 - k = s + 1 := ⟨4 - k, by omega⟩
  rw [hs5, partialIns_succ] at hI
  simp (disch := omega) only [go_sem, simprocAttr, he]
  refine blk_join (Q := fun e h => ∃ i2 : Nat, i2 = scanSorted lt d1 bb i ∧ i ≤ i2 ∧ i2 ≤ bb ∧ sat h (pto b (.row 1 d1.toList cap) :: F) ∧
    (e 0 = .arr b 1 0 d.size cap ∧ e 1 = .int .i64 a ∧ e 2 = .int .i64 bb ∧ e 7 = .int .i64 i2 ∧ e 8 = .int .i64 k)) ?_ ?_
  · refine run_loopN (fun n e h => ∃ i2 : Nat, n = bb - i2 ∧ scanSorted lt d1 bb i2 = scanSorted lt d1 bb i ∧ i ≤ i2 ∧ i2 ≤ bb ∧ sat h (pto b (.row 1 d1.toList cap) :: F) ∧
      (e 0 = .arr b 1 0 d.size cap ∧ e 1 = .int .i64 a ∧ e 2 = .int .i64 bb ∧ e 7 = .int .i64 i2 ∧ e 8 = .int .i64 k)) _ ⟨i, rfl, rfl, Nat.le_refl _, hi2, hs, ?_⟩ ?_
    · simp only [Env.upd_apply, he, and_self, reduceIte, Nat.reduceEqDiff]
    rintro n e h ⟨i2, rfl, hJ, hj1, hj2, hs, he⟩
    simp (disch := omega) only [go_sem, simprocAttr, he]
    refine cnd_dec (fun hlt => ?_) (fun hge => ?_)
    · have m1 : (i2 : Int) - 1 = ((i2 - 1 : Nat) : Int) := by omega
      have m2 : (i2 : Int) + 1 = ((i2 + 1 : Nat) : Int) := by omega
      have r1 := rd_o E hg1 (i := i2) (by omega)
      have r2 := rd_o E hg1 (i := i2 - 1) (by omega)
      simp (disch := omega) only [go_sem, simprocAttr, he, hs.at, r1, r2, m1]
      refine call_use (hc _ _ _ _ (hg1 _ (by omega)) (hg1 _ (by omega)) hs) ?_
      rintro r h ⟨hr, hs⟩
      subst hr
      simp (disch := omega) only [go_sem, simprocAttr, he, hlt, m1]
      have hst : scanSorted lt d1 bb i2 = if lt d1[i2]! d1[i2 - 1]! = true then i2 else scanSorted lt d1 bb (i2 + 1) := by
        rw [scanSorted.eq_1 lt d1 bb i2]
        cases lt d1[i2]! d1[i2 - 1]! <;> simp [show i2 < bb from by omega]
      cases hq : lt d1[i2]! d1[i2 - 1]!
      · simp (disch := omega) only [go_sem, simprocAttr, he, m2]
        exact ⟨bb - (i2 + 1), by omega, i2 + 1, rfl, by rw [← hJ, hst, hq]; rfl, by omega, by omega, hs, rfl⟩
      · simp (disch := omega) only [go_sem, simprocAttr, he]
        exact ⟨i2, by rw [← hJ, hst, hq]; rfl, by omega, by omega, hs, rfl⟩
    · simp (disch := omega) only [go_sem, simprocAttr, he, hge]
      exact ⟨i2, by rw [← hJ, scanSorted, if_neg (by simp; omega)], by omega, by omega, hs, rfl⟩
  · rintro e h ⟨i2, hi2', hi3, hi4, hs, he⟩
    rw [← hi2'] at hI
    have hbe : ((i2 : Int) == (bb : Int)) = decide (i2 = bb) := by
      by_cases hq : i2 = bb
      · subst hq; simp
      · simp [hq]; omega
    simp (disch := omega) only [go_sem, simprocAttr, he, hbe]
    refine cnd_bool (fun hq => ?_) (fun hq => ?_)
    · have hq : i2 = bb := by simpa using hq
      rw [if_pos hq] at hI
      simp (disch := omega) only [go_sem, simprocAttr, he]
      rw [← hI]
      exact ⟨rfl, hg1, hz1, hs⟩
    have hq : i2 ≠ bb := by simpa using hq
    rw [if_neg hq] at hI
    have m0 : (bb : Int) - a = ((bb - a : Nat) : Int) := by omega
    simp (disch := omega) only [go_sem, simprocAttr, he, m0]
    refine cnd_dec (fun h50 => ?_) (fun h50 => ?_)
    · rw [if_pos (by omega)] at hI
      simp (disch := omega) only [go_sem, simprocAttr, he]
      rw [← hI]
      exact ⟨rfl, hg1, hz1, hs⟩
    rw [if_neg (by omega)] at hI
    have m1 : (i2 : Int) - 1 = ((i2 - 1 : Nat) : Int) := by omega
    have m2 : (i2 : Int) - a = ((i2 - a : Nat) : Int) := by omega
    simp (disch := omega) only [go_sem, simprocAttr, he]
    obtain ⟨k1, k2, k3, k4, k5, k6, k7, k8, k9, k10, k11, ⟨ky, y1, y2, y3, y4⟩, hw⟩ := sw_o E hg1 (i := i2) (j := i2 - 1) (by omega) (by omega)
    simp (disch := omega) only [go_sem, simprocAttr, he, m1, m2, hs.at, k1, k2, k3, k4, k5, k6, k7, k8, k9, k10, k11, y1, y2, y3, y4, hw]
    have hs2 := hs.set (o' := .row 1 (swp d1 i2 (i2 - 1)).toList cap)
    have hg2 := hg1.swp (i := i2) (j := i2 - 1) (by omega) (by omega)
    have hz2 : (swp d1 i2 (i2 - 1)).size = d.size := by rw [Go.Sort.swp_size]; exact hz1
    generalize swp d1 i2 (i2 - 1) = dS at *
    refine cnd_join (Q := fun e h => ∃ d3 : Array (List AV), d3 = fixDown lt a i2 dS ∧ GA G d3 ∧ d3.size = d.size ∧ sat h (pto b (.row 1 d3.toList cap) :: F) ∧
      (e 0 = .arr b 1 0 d.size cap ∧ e 1 = .int .i64 a ∧ e 2 = .int .i64 bb ∧ e 7 = .int .i64 i2 ∧ e 8 = .int .i64 k)) ?_ ?_
    · refine cnd_dec (fun hge => ?_) (fun hlt => ?_)
      rotate_left
      · simp (disch := omega) only [go_sem, simprocAttr, he]
        exact ⟨dS, by rw [fixDown, if_neg (by omega)], hg2, hz2, hs2⟩
      simp (disch := omega) only [go_sem, simprocAttr, he, m1]
      refine run_loopN (fun n e h => ∃ (j : Nat) (d3 : Array (List AV)), n = j ∧ j ≤ i2 - 1 ∧ shiftDown lt j d3 = fixDown lt a i2 dS ∧ GA G d3 ∧ d3.size = d.size ∧ sat h (pto b (.row 1 d3.toList cap) :: F) ∧
        (e 0 = .arr b 1 0 d.size cap ∧ e 1 = .int .i64 a ∧ e 2 = .int .i64 bb ∧ e 7 = .int .i64 i2 ∧ e 8 = .int .i64 k ∧ e 9 = .int .i64 j)) (i2 - 1) ⟨i2 - 1, dS, rfl, Nat.le_refl _, by rw [fixDown, if_pos (by omega)], hg2, hz2, hs2, ?_⟩ ?_
      · simp only [Env.upd_apply, he, and_self, reduceIte, Nat.reduceEqDiff]
      rintro j e h ⟨_, d3, rfl, hj, hJ, hg3, hz3, hs, he⟩
      simp (disch := omega) only [go_sem, simprocAttr, he]
      refine cnd_dec (fun hj1 => ?_) (fun hj1 => ?_)
      · obtain ⟨j, rfl⟩ : ∃ q, j = q + 1 := ⟨j - 1, by omega⟩
        have m3 : ((j + 1 : Nat) : Int) - 1 = (j : Int) := by omega
        have r1 := rd_o E hg3 (i := j + 1) (by omega)
        have r2 := rd_o E hg3 (i := j) (by omega)
        simp (disch := omega) only [go_sem, simprocAttr, he, hs.at, r1, r2, m3]
        refine call_use (hc _ _ _ _ (hg3 _ (by omega)) (hg3 _ (by omega)) hs) ?_
        rintro r h ⟨hr, hs⟩
        subst hr
        simp (disch := omega) only [go_sem, simprocAttr, he, m3]
        rw [shiftDown] at hJ
        cases hq2 : lt d3[j + 1]! d3[j]!
        · simp (disch := omega) only [go_sem, simprocAttr, he]
          exact ⟨d3, by rw [← hJ, hq2]; rfl, hg3, hz3, hs⟩
        · simp (disch := omega) only [go_sem, simprocAttr, he]
          obtain ⟨k1, k2, k3, k4, k5, k6, k7, k8, k9, k10, k11, ⟨ky, y1, y2, y3, y4⟩, hw⟩ := sw_o E hg3 (i := j + 1) (j := j) (by omega) (by omega)
          simp (disch := omega) only [go_sem, simprocAttr, he, m3, hs.at, k1, k2, k3, k4, k5, k6, k7, k8, k9, k10, k11, y1, y2, y3, y4, hw]
          exact ⟨j, by omega, j, _, rfl, by omega, by rw [← hJ, hq2]; rfl, hg3.swp (by omega) (by omega), by rw [Go.Sort.swp_size]; exact hz3, hs.set, rfl⟩
      · obtain rfl : j = 0 := by omega
        simp (disch := omega) only [go_sem, simprocAttr, he]
        exact ⟨d3, by rw [← hJ, shiftDown], hg3, hz3, hs⟩
    · rintro e h ⟨d3, hd3, hg3, hz3, hs, he⟩
      have m4 : (bb : Int) - i2 = ((bb - i2 : Nat) : Int) := by omega
      have m5 : (i2 : Int) + 1 = ((i2 + 1 : Nat) : Int) := by omega
      have m6 : (k : Int) + 1 = ((k + 1 : Nat) : Int) := by omega
      rw [← hd3] at hI
      have hk5' : 5 - (k + 1) = s := by omega
      simp (disch := omega) only [go_sem, simprocAttr, he, m4]
      refine cnd_join (Q := fun e h => ∃ d4 : Array (List AV), d4 = fixUp lt bb i2 d3 ∧ GA G d4 ∧ d4.size = d.size ∧ sat h (pto b (.row 1 d4.toList cap) :: F) ∧
        (e 0 = .arr b 1 0 d.size cap ∧ e 1 = .int .i64 a ∧ e 2 = .int .i64 bb ∧ e 7 = .int .i64 i2 ∧ e 8 = .int .i64 k)) ?_ ?_
      · refine cnd_dec (fun hge => ?_) (fun hlt => ?_)
        rotate_left
        · simp (disch := omega) only [go_sem, simprocAttr, he]
          exact ⟨d3, by rw [fixUp, if_neg (by omega)], hg3, hz3, hs⟩
        simp (disch := omega) only [go_sem, simprocAttr, he, m5]
        refine run_loopN (fun n e h => ∃ (j : Nat) (d4 : Array (List AV)), n = bb - j ∧ i2 + 1 ≤ j ∧ j ≤ bb ∧ shiftUp lt bb j d4 = fixUp lt bb i2 d3 ∧ GA G d4 ∧ d4.size = d.size ∧ sat h (pto b (.row 1 d4.toList cap) :: F) ∧
          (e 0 = .arr b 1 0 d.size cap ∧ e 1 = .int .i64 a ∧ e 2 = .int .i64 bb ∧ e 7 = .int .i64 i2 ∧ e 8 = .int .i64 k ∧ e 10 = .int .i64 j)) _ ⟨i2 + 1, d3, rfl, Nat.le_refl _, by omega, by rw [fixUp, if_pos (by omega)], hg3, hz3, hs, ?_⟩ ?_
        · simp only [Env.upd_apply, he, and_self, reduceIte, Nat.reduceEqDiff]
        rintro n e h ⟨j, d4, rfl, hj, hj2, hJ, hg4, hz4, hs, he⟩
        simp (disch := omega) only [go_sem, simprocAttr, he]
        refine cnd_dec (fun hj1 => ?_) (fun hj1 => ?_)
        · have m3 : (j : Int) - 1 = ((j - 1 : Nat) : Int) := by omega
          have m7 : (j : Int) + 1 = ((j + 1 : Nat) : Int) := by omega
          have r1 := rd_o E hg4 (i := j) (by omega)
          have r2 := rd_o E hg4 (i := j - 1) (by omega)
          simp (disch := omega) only [go_sem, simprocAttr, he, hs.at, r1, r2, m3]
          refine call_use (hc _ _ _ _ (hg4 _ (by omega)) (hg4 _ (by omega)) hs) ?_
          rintro r h ⟨hr, hs⟩
          subst hr
          simp (disch := omega) only [go_sem, simprocAttr, he, m3]
          rw [shiftUp, if_pos (by omega)] at hJ
          cases hq2 : lt d4[j]! d4[j - 1]!
          · simp (disch := omega) only [go_sem, simprocAttr, he]
            exact ⟨d4, by rw [← hJ, hq2]; rfl, hg4, hz4, hs⟩
          · simp (disch := omega) only [go_sem, simprocAttr, he]
            obtain ⟨k1, k2, k3, k4, k5, k6, k7, k8, k9, k10, k11, ⟨ky, y1, y2, y3, y4⟩, hw⟩ := sw_o E hg4 (i := j) (j := j - 1) (by omega) (by omega)
            simp (disch := omega) only [go_sem, simprocAttr, he, m3, m7, hs.at, k1, k2, k3, k4, k5, k6, k7, k8, k9, k10, k11, y1, y2, y3, y4, hw]
            exact ⟨bb - (j + 1), by omega, j + 1, _, rfl, by omega, by omega, by rw [← hJ, hq2]; rfl, hg4.swp (by omega) (by omega), by rw [Go.Sort.swp_size]; exact hz4, hs.set, rfl⟩
        · simp (disch := omega) only [go_sem, simprocAttr, he]
          exact ⟨d4, by rw [← hJ, shiftUp, if_neg (by omega)], hg4, hz4, hs⟩
      · rintro e h ⟨d4, hd4, hg4, hz4, hs, he⟩
        rw [← hd4] at hI
        simp (disch := omega) only [go_sem, simprocAttr, he, m6]
        exact ⟨5 - (k + 1), by omega, k + 1, i2, d4, rfl, by omega, by omega, by omega, by rw [hk5']; exact hI, hg4, hz4, hs, rfl, rfl⟩
end
end Go.Proofs.Ytkclojjeepomfaa
/- slices: the partitions. -/
set_option linter.unusedSimpArgs false
set_option linter.unusedVariables false
set_option maxRecDepth 10000
namespace Go.Proofs.Ytkclojjeepomfaa
open Go.Hz Go.Sort

section
variable {h : Hp} {F : List Asr} {G : List AV → Prop} {lt : List AV → List AV → Bool}

theorem peq_S (hc : LessT Try.prog false G lt 101) (E : GoodE 1 false G) {d : Array (List AV)} {a bb p b cap : Nat} (hs : sat h (pto b (.row 1 d.toList cap) :: F)) (hg : GA G d) (hp1 : a ≤ p) (hp2 : p < bb) (hb : bb ≤ d.size) (hsz : d.size ≤ 1000000000000) :
    Triple Try.prog 102 [.arr b 1 0 d.size cap, .int .i64 a, .int .i64 bb, .int .i64 p] h (fun r h => r = .int .i64 (partitionEqual lt d a bb p).1 ∧ GA G (partitionEqual lt d a bb p).2 ∧ (partitionEqual lt d a bb p).2.size = d.size ∧ sat h (pto b (.row 1 (partitionEqual lt d a bb p).2.toList cap) :: F)) := by
  have w0 : (a : Int) + 1 = ((a + 1 : Nat) : Int) := by omega
  have w1 : (bb : Int) - 1 = ((bb - 1 : Nat) : Int) := by omega
  obtain ⟨k1, k2, k3, k4, k5, k6, k7, k8, k9, k10, k11, ⟨ky, y1, y2, y3, y4⟩, hw⟩ := sw_o E hg (i := a) (j := p) (by omega) (by omega)
  refine t102 (Nat.le_of_ble_eq_true rfl) ?_
  simp (disch := omega) only [F102, w0, w1, hs.at, k1, k2, k3, k4, k5, k6, k7, k8, k9, k10, k11, y1, y2, y3, y4, hw, go_sem, simprocAttr]
  have hs2 := hs.set (o' := .row 1 (swp d a p).toList cap)
  have hg2 := hg.swp (i := a) (j := p) (by omega) (by omega)
  have hz2 : (swp d a p).size = d.size := by rw [Go.Sort.swp_size]
  have hR : partEqLoop lt a (a + 1) (bb - 1) (swp d a p) = partitionEqual lt d a bb p := rfl
  refine run_loopN (fun n e h => ∃ (i j : Nat) (D : Array (List AV)), n = j + 1 - i ∧ a < i ∧ i ≤ j + 1 ∧ j < bb ∧ partEqLoop lt a i j D = partitionEqual lt d a bb p ∧ GA G D ∧ D.size = d.size ∧ sat h (pto b (.row 1 D.toList cap) :: F) ∧
    (e 0 = .arr b 1 0 d.size cap ∧ e 1 = .int .i64 a ∧ e 9 = .int .i64 i ∧ e 10 = .int .i64 j)) _ ⟨a + 1, bb - 1, _, rfl, by omega, by omega, by omega, hR, hg2, hz2, hs2, rfl, rfl, rfl, rfl⟩ ?_
  rintro n e h ⟨i, j, D, rfl, hai, hij, hjb, hI, hgD, hzD, hs, he⟩
  rw [partEqLoop_eq] at hI
  simp (disch := omega) only [go_sem, simprocAttr, he]
  refine blk_join (Q := fun e h => ∃ i2 : Nat, i2 = scanUp (fun x => !lt D[a]! x) D j i ∧ i ≤ i2 ∧ i2 ≤ j + 1 ∧ sat h (pto b (.row 1 D.toList cap) :: F) ∧ (e 0 = .arr b 1 0 d.size cap ∧ e 1 = .int .i64 a ∧ e 9 = .int .i64 i2 ∧ e 10 = .int .i64 j)) ?_ ?_
  · refine run_loopN (fun n e h => ∃ i2 : Nat, n = j + 1 - i2 ∧ scanUp (fun x => !lt D[a]! x) D j i2 = scanUp (fun x => !lt D[a]! x) D j i ∧ i ≤ i2 ∧ i2 ≤ j + 1 ∧ sat h (pto b (.row 1 D.toList cap) :: F) ∧ (e 0 = .arr b 1 0 d.size cap ∧ e 1 = .int .i64 a ∧ e 9 = .int .i64 i2 ∧ e 10 = .int .i64 j)) _ ⟨i, rfl, rfl, Nat.le_refl _, by omega, hs, ?_⟩ ?_
    · simp only [Env.upd_apply, he, and_self, reduceIte, Nat.reduceEqDiff]
    rintro n e h ⟨i2, rfl, hJ, hj1, hj2, hs, he⟩
    simp (disch := omega) only [go_sem, simprocAttr, he]
    refine cnd_dec (fun hl1 => ?_) (fun hl1 => ?_)
    · have m2 : (i2 : Int) + 1 = ((i2 + 1 : Nat) : Int) := by omega
      have r1 := rd_o E hgD (i := i2) (by omega)
      have r2 := rd_o E hgD (i := a) (by omega)
      simp (disch := omega) only [go_sem, simprocAttr, he, hs.at, r1, r2]
      refine call_use (hc _ _ _ _ (hgD _ (by omega)) (hgD _ (by omega)) hs) ?_
      rintro r h ⟨hr, hs⟩
      subst hr
      simp (disch := omega) only [go_sem, simprocAttr, he, hl1]
      have hst : scanUp (fun x => !lt D[a]! x) D j i2 = if (!lt D[a]! D[i2]!) = true then scanUp (fun x => !lt D[a]! x) D j (i2 + 1) else i2 := by
        rw [scanUp.eq_1 _ _ _ i2]
        simp only [show i2 ≤ j from by omega, decide_true, Bool.true_and]
      cases hq : lt D[a]! D[i2]!
      · simp (disch := omega) only [go_sem, simprocAttr, he, m2]
        exact ⟨j + 1 - (i2 + 1), by omega, i2 + 1, rfl, by rw [← hJ, hst, hq]; rfl, by omega, by omega, hs, rfl⟩
      · simp (disch := omega) only [go_sem, simprocAttr, he, m2]
        exact ⟨i2, by rw [← hJ, hst, hq]; rfl, by omega, by omega, hs, rfl⟩
    · simp (disch := omega) only [go_sem, simprocAttr, he, hl1]
      exact ⟨i2, by rw [← hJ, scanUp.eq_1 _ _ _ i2, if_neg (by simp; omega)], by omega, by omega, hs, rfl⟩

  rintro e h ⟨i2, hi2, hi3, hi4, hs, he⟩
  rw [← hi2] at hI
  simp (disch := omega) only [go_sem, simprocAttr, he]
  refine blk_join (Q := fun e h => ∃ j2 : Nat, j2 = scanDown (fun x => lt D[a]! x) D i2 j ∧ j2 ≤ j ∧ i2 ≤ j2 + 1 ∧ sat h (pto b (.row 1 D.toList cap) :: F) ∧ (e 0 = .arr b 1 0 d.size cap ∧ e 1 = .int .i64 a ∧ e 9 = .int .i64 i2 ∧ e 10 = .int .i64 j2)) ?_ ?_
  · refine run_loopN (fun n e h => ∃ j2 : Nat, n = j2 ∧ scanDown (fun x => lt D[a]! x) D i2 j2 = scanDown (fun x => lt D[a]! x) D i2 j ∧ j2 ≤ j ∧ i2 ≤ j2 + 1 ∧ sat h (pto b (.row 1 D.toList cap) :: F) ∧ (e 0 = .arr b 1 0 d.size cap ∧ e 1 = .int .i64 a ∧ e 9 = .int .i64 i2 ∧ e 10 = .int .i64 j2)) _ ⟨j, rfl, rfl, Nat.le_refl _, by omega, hs, ?_⟩ ?_
    · simp only [Env.upd_apply, he, and_self, reduceIte, Nat.reduceEqDiff]
    rintro j2 e h ⟨_, rfl, hJ, hj1, hj2, hs, he⟩
    simp (disch := omega) only [go_sem, simprocAttr, he]
    refine cnd_dec (fun hl1 => ?_) (fun hl1 => ?_)
    · obtain ⟨j2, rfl⟩ : ∃ q, j2 = q + 1 := ⟨j2 - 1, by omega⟩
      have m2 : ((j2 + 1 : Nat) : Int) - 1 = (j2 : Int) := by omega
      have r1 := rd_o E hgD (i := j2 + 1) (by omega)
      have r2 := rd_o E hgD (i := a) (by omega)
      simp (disch := omega) only [go_sem, simprocAttr, he, hs.at, r1, r2]
      refine call_use (hc _ _ _ _ (hgD _ (by omega)) (hgD _ (by omega)) hs) ?_
      rintro r h ⟨hr, hs⟩
      subst hr
      simp (disch := omega) only [go_sem, simprocAttr, he, hl1]
      have hst : scanDown (fun x => lt D[a]! x) D i2 (j2 + 1) = if (lt D[a]! D[j2 + 1]!) = true then scanDown (fun x => lt D[a]! x) D i2 j2 else j2 + 1 := by
        rw [scanDown]
        simp only [show i2 ≤ j2 + 1 from by omega, decide_true, Bool.true_and]
      cases hq : lt D[a]! D[j2 + 1]!
      · simp (disch := omega) only [go_sem, simprocAttr, he, m2]
        exact ⟨j2 + 1, by rw [← hJ, hst, hq]; rfl, by omega, by omega, hs, rfl⟩
      · simp (disch := omega) only [go_sem, simprocAttr, he, m2]
        exact ⟨j2, by omega, j2, rfl, by rw [← hJ, hst, hq]; rfl, by omega, by omega, hs, rfl⟩
    · simp (disch := omega) only [go_sem, simprocAttr, he, hl1]
      refine ⟨j2, ?_, by omega, by omega, hs, rfl⟩
      rw [← hJ]
      cases j2 with
      | zero => rw [scanDown]
      | succ j2 => rw [scanDown, if_neg (by simp; omega)]

  rintro e h ⟨j2, hj2, hj3, hj4, hs, he⟩
  rw [← hj2] at hI
  simp (disch := omega) only [go_sem, simprocAttr, he]
  refine cnd_dec (fun hgt => ?_) (fun hle => ?_)
  · rw [if_pos (by omega)] at hI
    simp (disch := omega) only [go_sem, simprocAttr, he]
    rw [← hI]
    exact ⟨rfl, hgD, hzD, hs⟩
  · rw [if_neg (by omega)] at hI
    have m1 : (i2 : Int) + 1 = ((i2 + 1 : Nat) : Int) := by omega
    have m2 : (j2 : Int) - 1 = ((j2 - 1 : Nat) : Int) := by omega
    have hne : i2 ≠ j2 := fun hh => by
      have u := (scanUp_spec (fun x => !lt D[a]! x) D j _ i rfl).2.2.2
      have v := (scanDown_spec (fun x => lt D[a]! x) D i2 j).2.2.2
      rw [← hi2] at u
      rw [← hj2] at v
      have u := u (by omega)
      have v := v (by omega) (by omega)
      rw [← hh] at v
      simp at u v
      rw [u] at v; cases v
    simp (disch := omega) only [go_sem, simprocAttr, he]
    obtain ⟨k1, k2, k3, k4, k5, k6, k7, k8, k9, k10, k11, ⟨ky, y1, y2, y3, y4⟩, hw⟩ := sw_o E hgD (i := i2) (j := j2) (by omega) (by omega)
    simp (disch := omega) only [go_sem, simprocAttr, he, m1, m2, hs.at, k1, k2, k3, k4, k5, k6, k7, k8, k9, k10, k11, y1, y2, y3, y4, hw]
    exact ⟨j2 - 1 + 1 - (i2 + 1), by omega, i2 + 1, j2 - 1, _, rfl, by omega, by omega, by omega, hI, hgD.swp (by omega) (by omega), by rw [Go.Sort.swp_size]; exact hzD, hs.set, rfl, rfl⟩
theorem prt_S (hc : LessT Try.prog false G lt 101) (E : GoodE 1 false G) {d : Array (List AV)} {a bb p b cap : Nat} (hs : sat h (pto b (.row 1 d.toList cap) :: F)) (hg : GA G d) (hp1 : a ≤ p) (hp2 : p < bb) (hb : bb ≤ d.size) (hsz : d.size ≤ 1000000000000) :
    Triple Try.prog 103 [.arr b 1 0 d.size cap, .int .i64 a, .int .i64 bb, .int .i64 p] h (fun r h => r = .tup [.int .i64 (partition lt d a bb p).1, .bool (partition lt d a bb p).2.1] ∧ GA G (partition lt d a bb p).2.2 ∧ (partition lt d a bb p).2.2.size = d.size ∧ sat h (pto b (.row 1 (partition lt d a bb p).2.2.toList cap) :: F)) := by
  have w0 : (a : Int) + 1 = ((a + 1 : Nat) : Int) := by omega
  have w1 : (bb : Int) - 1 = ((bb - 1 : Nat) : Int) := by omega
  obtain ⟨k1, k2, k3, k4, k5, k6, k7, k8, k9, k10, k11, ⟨ky, y1, y2, y3, y4⟩, hw⟩ := sw_o E hg (i := a) (j := p) (by omega) (by omega)
  refine t103 (Nat.le_of_ble_eq_true rfl) ?_
  simp (disch := omega) only [F103, w0, w1, hs.at, k1, k2, k3, k4, k5, k6, k7, k8, k9, k10, k11, y1, y2, y3, y4, hw, go_sem, simprocAttr]
  have hs := hs.set (o' := .row 1 (swp d a p).toList cap)
  have hg2 := hg.swp (i := a) (j := p) (by omega) (by omega)
  have hz2 : (swp d a p).size = d.size := by rw [Go.Sort.swp_size]
  clear k1 k2 k3 k4 k5 k6 k7 k8 k9 k10 k11 y1 y2 y3 y4 hw
  have hpd : partition lt d a bb p = partition lt d a bb p := rfl
  conv at hpd => lhs; unfold partition
  simp only at hpd
  generalize partition lt d a bb p = res at *
  generalize swp d a p = D at *
  obtain ⟨B, hB⟩ : ∃ B, B = bb - 1 := ⟨_, rfl⟩
  obtain ⟨A, hA⟩ : ∃ A, A = a + 1 := ⟨_, rfl⟩
  rw [← hB, ← hA] at hpd
  refine run_cut (fun e h => sat h (pto b (.row 1 D.toList cap) :: F) ∧ (e 0 = .arr b 1 0 d.size cap ∧ e 1 = .int .i64 a ∧ e 10 = .int .i64 A ∧ e 11 = .int .i64 B)) ⟨hs, rfl, rfl, by rw [hA]; rfl, by rw [hB]; rfl⟩ ?_
  rintro e h ⟨hs, he⟩
  refine blk_join (Q := fun e h => ∃ i2 : Nat, i2 = scanUp (fun x => lt x D[a]!) D B A ∧ A ≤ i2 ∧ i2 ≤ B + 1 ∧ sat h (pto b (.row 1 D.toList cap) :: F) ∧ (e 0 = .arr b 1 0 d.size cap ∧ e 1 = .int .i64 a ∧ e 10 = .int .i64 i2 ∧ e 11 = .int .i64 B)) ?_ ?_
  · refine run_loopN (fun n e h => ∃ i2 : Nat, n = B + 1 - i2 ∧ scanUp (fun x => lt x D[a]!) D B i2 = scanUp (fun x => lt x D[a]!) D B A ∧ A ≤ i2 ∧ i2 ≤ B + 1 ∧ sat h (pto b (.row 1 D.toList cap) :: F) ∧ (e 0 = .arr b 1 0 d.size cap ∧ e 1 = .int .i64 a ∧ e 10 = .int .i64 i2 ∧ e 11 = .int .i64 B)) _ ⟨A, rfl, rfl, Nat.le_refl _, by omega, hs, ?_⟩ ?_
    · simp only [Env.upd_apply, he, and_self, reduceIte, Nat.reduceEqDiff]
    rintro n e h ⟨i2, rfl, hJ, hj1, hj2, hs, he⟩
    simp (disch := omega) only [go_sem, simprocAttr, he]
    refine cnd_dec (fun hl1 => ?_) (fun hl1 => ?_)
    · have m2 : (i2 : Int) + 1 = ((i2 + 1 : Nat) : Int) := by omega
      have r1 := rd_o E hg2 (i := i2) (by omega)
      have r2 := rd_o E hg2 (i := a) (by omega)
      simp (disch := omega) only [go_sem, simprocAttr, he, hs.at, r1, r2]
      refine call_use (hc _ _ _ _ (hg2 _ (by omega)) (hg2 _ (by omega)) hs) ?_
      rintro r h ⟨hr, hs⟩
      subst hr
      simp (disch := omega) only [go_sem, simprocAttr, he, hl1]
      have hst : scanUp (fun x => lt x D[a]!) D B i2 = if (lt D[i2]! D[a]!) = true then scanUp (fun x => lt x D[a]!) D B (i2 + 1) else i2 := by
        rw [scanUp.eq_1 _ _ _ i2]
        simp only [show i2 ≤ B from by omega, decide_true, Bool.true_and]
      cases hq : lt D[i2]! D[a]!
      · simp (disch := omega) only [go_sem, simprocAttr, he, m2]
        exact ⟨i2, by rw [← hJ, hst, hq]; rfl, by omega, by omega, hs, rfl⟩
      · simp (disch := omega) only [go_sem, simprocAttr, he, m2]
        exact ⟨B + 1 - (i2 + 1), by omega, i2 + 1, rfl, by rw [← hJ, hst, hq]; rfl, by omega, by omega, hs, rfl⟩
    · simp (disch := omega) only [go_sem, simprocAttr, he, hl1]
      exact ⟨i2, by rw [← hJ, scanUp.eq_1 _ _ _ i2, if_neg (by simp; omega)], by omega, by omega, hs, rfl⟩

  rintro e h ⟨i1, hi1, hi3, hi4, hs, he⟩
  rw [← hi1] at hpd
  simp (disch := omega) only [go_sem, simprocAttr, he]
  refine blk_join (Q := fun e h => ∃ j2 : Nat, j2 = scanDown (fun x => !lt x D[a]!) D i1 B ∧ j2 ≤ B ∧ i1 ≤ j2 + 1 ∧ sat h (pto b (.row 1 D.toList cap) :: F) ∧ (e 0 = .arr b 1 0 d.size cap ∧ e 1 = .int .i64 a ∧ e 10 = .int .i64 i1 ∧ e 11 = .int .i64 j2)) ?_ ?_
  · refine run_loopN (fun n e h => ∃ j2 : Nat, n = j2 ∧ scanDown (fun x => !lt x D[a]!) D i1 j2 = scanDown (fun x => !lt x D[a]!) D i1 B ∧ j2 ≤ B ∧ i1 ≤ j2 + 1 ∧ sat h (pto b (.row 1 D.toList cap) :: F) ∧ (e 0 = .arr b 1 0 d.size cap ∧ e 1 = .int .i64 a ∧ e 10 = .int .i64 i1 ∧ e 11 = .int .i64 j2)) _ ⟨B, rfl, rfl, Nat.le_refl _, by omega, hs, ?_⟩ ?_
    · simp only [Env.upd_apply, he, and_self, reduceIte, Nat.reduceEqDiff]
    rintro j2 e h ⟨_, rfl, hJ, hj1, hj2, hs, he⟩
    simp (disch := omega) only [go_sem, simprocAttr, he]
    refine cnd_dec (fun hl1 => ?_) (fun hl1 => ?_)
    · obtain ⟨j2, rfl⟩ : ∃ q, j2 = q + 1 := ⟨j2 - 1, by omega⟩
      have m2 : ((j2 + 1 : Nat) : Int) - 1 = (j2 : Int) := by omega
      have r1 := rd_o E hg2 (i := j2 + 1) (by omega)
      have r2 := rd_o E hg2 (i := a) (by omega)
      simp (disch := omega) only [go_sem, simprocAttr, he, hs.at, r1, r2]
      refine call_use (hc _ _ _ _ (hg2 _ (by omega)) (hg2 _ (by omega)) hs) ?_
      rintro r h ⟨hr, hs⟩
      subst hr
      simp (disch := omega) only [go_sem, simprocAttr, he, hl1]
      have hst : scanDown (fun x => !lt x D[a]!) D i1 (j2 + 1) = if (!lt D[j2 + 1]! D[a]!) = true then scanDown (fun x => !lt x D[a]!) D i1 j2 else j2 + 1 := by
        rw [scanDown]
        simp only [show i1 ≤ j2 + 1 from by omega, decide_true, Bool.true_and]
      cases hq : lt D[j2 + 1]! D[a]!
      · simp (disch := omega) only [go_sem, simprocAttr, he, m2]
        exact ⟨j2, by omega, j2, rfl, by rw [← hJ, hst, hq]; rfl, by omega, by omega, hs, rfl⟩
      · simp (disch := omega) only [go_sem, simprocAttr, he, m2]
        exact ⟨j2 + 1, by rw [← hJ, hst, hq]; rfl, by omega, by omega, hs, rfl⟩
    · simp (disch := omega) only [go_sem, simprocAttr, he, hl1]
      refine ⟨j2, ?_, by omega, by omega, hs, rfl⟩
      rw [← hJ]
      cases j2 with
      | zero => rw [scanDown]
      | succ j2 => rw [scanDown, if_neg (by simp; omega)]

  rintro e h ⟨j1, hj1, hj3, hj4, hs, he⟩
  rw [← hj1] at hpd
  simp (disch := omega) only [go_sem, simprocAttr, he]
  refine cnd_dec (fun hgt => ?_) (fun hle => ?_)
  · rw [if_pos (by omega)] at hpd
    simp (disch := omega) only [go_sem, simprocAttr, he]
    obtain ⟨k1, k2, k3, k4, k5, k6, k7, k8, k9, k10, k11, ⟨ky, y1, y2, y3, y4⟩, hw⟩ := sw_o E hg2 (i := j1) (j := a) (by omega) (by omega)
    simp (disch := omega) only [go_sem, simprocAttr, he, hs.at, k1, k2, k3, k4, k5, k6, k7, k8, k9, k10, k11, y1, y2, y3, y4, hw]
    rw [← hpd]
    exact ⟨rfl, hg2.swp (by omega) (by omega), by rw [Go.Sort.swp_size]; exact hz2, hs.set⟩
  rw [if_neg (by omega)] at hpd
  have m1 : (i1 : Int) + 1 = ((i1 + 1 : Nat) : Int) := by omega
  have m2 : (j1 : Int) - 1 = ((j1 - 1 : Nat) : Int) := by omega
  have hne : i1 ≠ j1 := fun hh => by
    have u := (scanUp_spec (fun x => lt x D[a]!) D B _ A rfl).2.2.2
    have v := (scanDown_spec (fun x => !lt x D[a]!) D i1 B).2.2.2
    rw [← hi1] at u
    rw [← hj1] at v
    have u := u (by omega)
    have v := v (by omega) (by omega)
    rw [← hh] at v
    simp at u v
    rw [u] at v; cases v
  simp (disch := omega) only [go_sem, simprocAttr, he]
  obtain ⟨k1, k2, k3, k4, k5, k6, k7, k8, k9, k10, k11, ⟨ky, y1, y2, y3, y4⟩, hw⟩ := sw_o E hg2 (i := i1) (j := j1) (by omega) (by omega)
  simp (disch := omega) only [go_sem, simprocAttr, he, m1, m2, hs.at, k1, k2, k3, k4, k5, k6, k7, k8, k9, k10, k11, y1, y2, y3, y4, hw]
  have hs := hs.set (o' := .row 1 (swp D i1 j1).toList cap)
  have hg4 := hg2.swp (i := i1) (j := j1) (by omega) (by omega)
  have hz4 : (swp D i1 j1).size = d.size := by rw [Go.Sort.swp_size]; exact hz2
  clear k1 k2 k3 k4 k5 k6 k7 k8 k9 k10 k11 y1 y2 y3 y4 hw
  generalize swp D i1 j1 = D2 at *
  refine blk_join (Q := fun e h => ∃ (j : Nat) (D3 : Array (List AV)), (j, D3) = partLoop lt a (i1 + 1) (j1 - 1) D2 ∧ a ≤ j ∧ j < bb ∧ GA G D3 ∧ D3.size = d.size ∧ sat h (pto b (.row 1 D3.toList cap) :: F) ∧
    (e 0 = .arr b 1 0 d.size cap ∧ e 1 = .int .i64 a ∧ e 11 = .int .i64 j)) ?_ ?_
  · refine run_loopN (fun n e h => ∃ (i j : Nat) (D3 : Array (List AV)), n = j + 1 - i ∧ a < i ∧ i ≤ j + 1 ∧ j < bb ∧ partLoop lt a i j D3 = partLoop lt a (i1 + 1) (j1 - 1) D2 ∧ GA G D3 ∧ D3.size = d.size ∧ sat h (pto b (.row 1 D3.toList cap) :: F) ∧
      (e 0 = .arr b 1 0 d.size cap ∧ e 1 = .int .i64 a ∧ e 10 = .int .i64 i ∧ e 11 = .int .i64 j)) _ ⟨i1 + 1, j1 - 1, _, rfl, by omega, by omega, by omega, rfl, hg4, hz4, hs, ?_⟩ ?_
    · simp only [Env.upd_apply, he, and_self, reduceIte, Nat.reduceEqDiff]
    rintro n e h ⟨i, j, D3, rfl, hai, hij, hjb, hI, hgD, hzD, hs, he⟩
    rw [partLoop_eq] at hI
    simp (disch := omega) only [go_sem, simprocAttr, he]
    refine blk_join (Q := fun e h => ∃ i2 : Nat, i2 = scanUp (fun x => lt x D3[a]!) D3 j i ∧ i ≤ i2 ∧ i2 ≤ j + 1 ∧ sat h (pto b (.row 1 D3.toList cap) :: F) ∧ (e 0 = .arr b 1 0 d.size cap ∧ e 1 = .int .i64 a ∧ e 10 = .int .i64 i2 ∧ e 11 = .int .i64 j)) ?_ ?_
    · refine run_loopN (fun n e h => ∃ i2 : Nat, n = j + 1 - i2 ∧ scanUp (fun x => lt x D3[a]!) D3 j i2 = scanUp (fun x => lt x D3[a]!) D3 j i ∧ i ≤ i2 ∧ i2 ≤ j + 1 ∧ sat h (pto b (.row 1 D3.toList cap) :: F) ∧ (e 0 = .arr b 1 0 d.size cap ∧ e 1 = .int .i64 a ∧ e 10 = .int .i64 i2 ∧ e 11 = .int .i64 j)) _ ⟨i, rfl, rfl, Nat.le_refl _, by omega, hs, ?_⟩ ?_
      · simp only [Env.upd_apply, he, and_self, reduceIte, Nat.reduceEqDiff]
      rintro n e h ⟨i2, rfl, hJ, hj1, hj2, hs, he⟩
      simp (disch := omega) only [go_sem, simprocAttr, he]
      refine cnd_dec (fun hl1 => ?_) (fun hl1 => ?_)
      · have m2 : (i2 : Int) + 1 = ((i2 + 1 : Nat) : Int) := by omega
        have r1 := rd_o E hgD (i := i2) (by omega)
        have r2 := rd_o E hgD (i := a) (by omega)
        simp (disch := omega) only [go_sem, simprocAttr, he, hs.at, r1, r2]
        refine call_use (hc _ _ _ _ (hgD _ (by omega)) (hgD _ (by omega)) hs) ?_
        rintro r h ⟨hr, hs⟩
        subst hr
        simp (disch := omega) only [go_sem, simprocAttr, he, hl1]
        have hst : scanUp (fun x => lt x D3[a]!) D3 j i2 = if (lt D3[i2]! D3[a]!) = true then scanUp (fun x => lt x D3[a]!) D3 j (i2 + 1) else i2 := by
          rw [scanUp.eq_1 _ _ _ i2]
          simp only [show i2 ≤ j from by omega, decide_true, Bool.true_and]
        cases hq : lt D3[i2]! D3[a]!
        · simp (disch := omega) only [go_sem, simprocAttr, he, m2]
          exact ⟨i2, by rw [← hJ, hst, hq]; rfl, by omega, by omega, hs, rfl⟩
        · simp (disch := omega) only [go_sem, simprocAttr, he, m2]
          exact ⟨j + 1 - (i2 + 1), by omega, i2 + 1, rfl, by rw [← hJ, hst, hq]; rfl, by omega, by omega, hs, rfl⟩
      · simp (disch := omega) only [go_sem, simprocAttr, he, hl1]
        exact ⟨i2, by rw [← hJ, scanUp.eq_1 _ _ _ i2, if_neg (by simp; omega)], by omega, by omega, hs, rfl⟩

    rintro e h ⟨i2, hi2, hi3, hi4, hs, he⟩
    rw [← hi2] at hI
    simp (disch := omega) only [go_sem, simprocAttr, he]
    refine blk_join (Q := fun e h => ∃ j2 : Nat, j2 = scanDown (fun x => !lt x D3[a]!) D3 i2 j ∧ j2 ≤ j ∧ i2 ≤ j2 + 1 ∧ sat h (pto b (.row 1 D3.toList cap) :: F) ∧ (e 0 = .arr b 1 0 d.size cap ∧ e 1 = .int .i64 a ∧ e 10 = .int .i64 i2 ∧ e 11 = .int .i64 j2)) ?_ ?_
    · refine run_loopN (fun n e h => ∃ j2 : Nat, n = j2 ∧ scanDown (fun x => !lt x D3[a]!) D3 i2 j2 = scanDown (fun x => !lt x D3[a]!) D3 i2 j ∧ j2 ≤ j ∧ i2 ≤ j2 + 1 ∧ sat h (pto b (.row 1 D3.toList cap) :: F) ∧ (e 0 = .arr b 1 0 d.size cap ∧ e 1 = .int .i64 a ∧ e 10 = .int .i64 i2 ∧ e 11 = .int .i64 j2)) _ ⟨j, rfl, rfl, Nat.le_refl _, by omega, hs, ?_⟩ ?_
      · simp only [Env.upd_apply, he, and_self, reduceIte, Nat.reduceEqDiff]
      rintro j2 e h ⟨_, rfl, hJ, hj1, hj2, hs, he⟩
      simp (disch := omega) only [go_sem, simprocAttr, he]
      refine cnd_dec (fun hl1 => ?_) (fun hl1 => ?_)
      · obtain ⟨j2, rfl⟩ : ∃ q, j2 = q + 1 := ⟨j2 - 1, by omega⟩
        have m2 : ((j2 + 1 : Nat) : Int) - 1 = (j2 : Int) := by omega
        have r1 := rd_o E hgD (i := j2 + 1) (by omega)
        have r2 := rd_o E hgD (i := a) (by omega)
        simp (disch := omega) only [go_sem, simprocAttr, he, hs.at, r1, r2]
        refine call_use (hc _ _ _ _ (hgD _ (by omega)) (hgD _ (by omega)) hs) ?_
        rintro r h ⟨hr, hs⟩
        subst hr
        simp (disch := omega) only [go_sem, simprocAttr, he, hl1]
        have hst : scanDown (fun x => !lt x D3[a]!) D3 i2 (j2 + 1) = if (!lt D3[j2 + 1]! D3[a]!) = true then scanDown (fun x => !lt x D3[a]!) D3 i2 j2 else j2 + 1 := by
          rw [scanDown]
          simp only [show i2 ≤ j2 + 1 from by omega, decide_true, Bool.true_and]
        cases hq : lt D3[j2 + 1]! D3[a]!
        · simp (disch := omega) only [go_sem, simprocAttr, he, m2]
          exact ⟨j2, by omega, j2, rfl, by rw [← hJ, hst, hq]; rfl, by omega, by omega, hs, rfl⟩
        · simp (disch := omega) only [go_sem, simprocAttr, he, m2]
          exact ⟨j2 + 1, by rw [← hJ, hst, hq]; rfl, by omega, by omega, hs, rfl⟩
      · simp (disch := omega) only [go_sem, simprocAttr, he, hl1]
        refine ⟨j2, ?_, by omega, by omega, hs, rfl⟩
        rw [← hJ]
        cases j2 with
        | zero => rw [scanDown]
        | succ j2 => rw [scanDown, if_neg (by simp; omega)]

    rintro e h ⟨j2, hj2, hj3, hj4, hs, he⟩
    rw [← hj2] at hI
    simp (disch := omega) only [go_sem, simprocAttr, he]
    refine cnd_dec (fun hgt => ?_) (fun hle => ?_)
    · rw [if_pos (by omega)] at hI
      simp (disch := omega) only [go_sem, simprocAttr, he]
      exact ⟨j2, D3, hI, by omega, by omega, hgD, hzD, hs, rfl⟩
    · rw [if_neg (by omega)] at hI
      have m1 : (i2 : Int) + 1 = ((i2 + 1 : Nat) : Int) := by omega
      have m2 : (j2 : Int) - 1 = ((j2 - 1 : Nat) : Int) := by omega
      have hne : i2 ≠ j2 := fun hh => by
        have u := (scanUp_spec (fun x => lt x D3[a]!) D3 j _ i rfl).2.2.2
        have v := (scanDown_spec (fun x => !lt x D3[a]!) D3 i2 j).2.2.2
        rw [← hi2] at u
        rw [← hj2] at v
        have u := u (by omega)
        have v := v (by omega) (by omega)
        rw [← hh] at v
        simp at u v
        rw [u] at v; cases v
      simp (disch := omega) only [go_sem, simprocAttr, he]
      obtain ⟨k1, k2, k3, k4, k5, k6, k7, k8, k9, k10, k11, ⟨ky, y1, y2, y3, y4⟩, hw⟩ := sw_o E hgD (i := i2) (j := j2) (by omega) (by omega)
      simp (disch := omega) only [go_sem, simprocAttr, he, m1, m2, hs.at, k1, k2, k3, k4, k5, k6, k7, k8, k9, k10, k11, y1, y2, y3, y4, hw]
      exact ⟨j2 - 1 + 1 - (i2 + 1), by omega, i2 + 1, j2 - 1, _, rfl, by omega, by omega, by omega, hI, hgD.swp (by omega) (by omega), by rw [Go.Sort.swp_size]; exact hzD, hs.set, rfl, rfl⟩
  · rintro e h ⟨j, D3, hI, haj, hjb, hgD, hzD, hs, he⟩
    rw [← hI] at hpd
    simp (disch := omega) only [go_sem, simprocAttr, he]
    obtain ⟨k1, k2, k3, k4, k5, k6, k7, k8, k9, k10, k11, ⟨ky, y1, y2, y3, y4⟩, hw⟩ := sw_o E hgD (i := j) (j := a) (by omega) (by omega)
    simp (disch := omega) only [go_sem, simprocAttr, he, hs.at, k1, k2, k3, k4, k5, k6, k7, k8, k9, k10, k11, y1, y2, y3, y4, hw]
    rw [← hpd]
    exact ⟨rfl, hgD.swp (by omega) (by omega), by rw [Go.Sort.swp_size]; exact hzD, hs.set⟩
end
end Go.Proofs.Ytkclojjeepomfaa
/- slices: pdqsort. -/
set_option linter.unusedSimpArgs false
set_option linter.unusedVariables false
set_option maxRecDepth 10000
namespace Go.Proofs.Ytkclojjeepomfaa
open Go.Hz Go.Sort

section
variable {h : Hp} {F : List Asr} {G : List AV → Prop} {lt : List AV → List AV → Bool}

theorem pdq_S (hc : LessT Try.prog false G lt 101) (E : GoodE 1 false G) (hO : SWO lt) : ∀ (m : Nat) (F : List Asr) (h : Hp) (d : Array (List AV)) (a bb lim b cap : Nat), bb - a ≤ m → sat h (pto b (.row 1 d.toList cap) :: F) → GA G d → a ≤ bb → bb ≤ d.size → d.size ≤ 100000000 → Below lt a bb d → lim ≤ 64 →
    Triple Try.prog 88 [.arr b 1 0 d.size cap, .int .i64 a, .int .i64 bb, .int .i64 lim] h (fun r h => ∃ R : Array (List AV), PermIn a bb d R ∧ SortedIn lt a bb R ∧ GA G R ∧ R.size = d.size ∧ sat h (pto b (.row 1 R.toList cap) :: F)) := by
  intro m
  induction m using Nat.strongRecOn with
  | _ m ih =>
  intro F h d a0 b0 lim0 b cap hm hs hg ha hb hsz hB hlim
  refine t88 (Nat.le_of_ble_eq_true rfl) ?_
  simp (disch := omega) only [F88, go_sem, simprocAttr]
  refine run_loopN (fun n e h => ∃ (a bb lim : Nat) (wb wp : Bool) (D : Array (List AV)), n = bb - a ∧ bb - a ≤ b0 - a0 ∧ a ≤ bb ∧ bb ≤ d.size ∧ lim ≤ 64 ∧ Below lt a bb D ∧ GA G D ∧ D.size = d.size ∧
    (∀ R, PermIn a bb D R → SortedIn lt a bb R → PermIn a0 b0 d R ∧ SortedIn lt a0 b0 R) ∧ sat h (pto b (.row 1 D.toList cap) :: F) ∧
    (e 0 = .arr b 1 0 d.size cap ∧ e 1 = .int .i64 a ∧ e 2 = .int .i64 bb ∧ e 3 = .int .i64 lim ∧ e 8 = .bool wb ∧ e 9 = .bool wp)) _ ⟨a0, b0, lim0, true, true, d, rfl, Nat.le_refl _, ha, hb, hlim, hB, hg, rfl, fun R h1 h2 => ⟨h1, h2⟩, hs, rfl, rfl, rfl, rfl, rfl, rfl⟩ ?_
  rintro n e h ⟨a, bb, lim, wb, wp, D, rfl, hl, hab, hbs, hlim, hB, hgD, hzD, hC, hs, he⟩
  have n0 : (bb : Int) - a = ((bb - a : Nat) : Int) := by omega
  simp (disch := omega) only [go_sem, simprocAttr, he, n0]
  refine cnd_dec (fun h12 => ?_) (fun h12 => ?_)
  · simp (disch := omega) only [go_sem, simprocAttr, he]
    refine call_use (by rw [← hzD]; exact ins_S hc E hs hgD hab (by omega) (by omega)) ?_
    rintro r h ⟨hg1, hz1, hs⟩
    obtain ⟨p1, p2⟩ := insertionSort_holds (lt := lt) hO D a bb hab (by omega)
    obtain ⟨c1, c2⟩ := hC _ p1 p2
    simp (disch := omega) only [go_sem, simprocAttr]
    exact ⟨_, c1, c2, hg1, by omega, hs⟩
  have hle : ((lim : Int) == 0) = decide (lim = 0) := by
    by_cases hq : lim = 0
    · subst hq; rfl
    · simp [hq]
  simp (disch := omega) only [go_sem, simprocAttr, he, hle]
  refine cnd_bool (fun h0 => ?_) (fun h0 => ?_)
  · simp (disch := omega) only [go_sem, simprocAttr, he]
    refine call_use (by rw [← hzD]; exact heap_S hc E hs hgD hab (by omega) (by omega)) ?_
    rintro r h ⟨hg1, hz1, hs⟩
    obtain ⟨p1, p2⟩ := heapSort_holds (lt := lt) hO D a bb hab (by omega)
    obtain ⟨c1, c2⟩ := hC _ p1 p2
    simp (disch := omega) only [go_sem, simprocAttr]
    exact ⟨_, c1, c2, hg1, by omega, hs⟩
  have h0 : lim ≠ 0 := by simpa using h0
  simp (disch := omega) only [go_sem, simprocAttr, he]
  refine cnd_join (Q := fun e h => ∃ (D1 : Array (List AV)) (lim1 : Nat), PermIn a bb D D1 ∧ GA G D1 ∧ D1.size = d.size ∧ lim1 ≤ 64 ∧ sat h (pto b (.row 1 D1.toList cap) :: F) ∧
    (e 0 = .arr b 1 0 d.size cap ∧ e 1 = .int .i64 a ∧ e 2 = .int .i64 bb ∧ e 3 = .int .i64 lim1 ∧ e 8 = .bool wb ∧ e 9 = .bool wp ∧ e 10 = .int .i64 (bb - a : Nat))) ?_ ?_
  · cases wb
    · have ml : (lim : Int) - 1 = ((lim - 1 : Nat) : Int) := by omega
      simp (disch := omega) only [go_sem, simprocAttr, he]
      refine call_use (by rw [← hzD]; exact brk_S (cf := .nilp) E hs hgD (by omega) (by omega) (by omega)) ?_
      rintro r h ⟨D1, p1, hg1, hz1, hs⟩
      simp (disch := omega) only [go_sem, simprocAttr, he, ml]
      exact ⟨D1, lim - 1, p1, hg1, by omega, by omega, hs, rfl⟩
    · simp (disch := omega) only [go_sem, simprocAttr, he]
      exact ⟨D, lim, permIn_refl D a bb, hgD, hzD, hlim, hs, rfl⟩
  rintro e h ⟨D1, lim1, hp1, hg1, hz1, hlim1, hs, he⟩
  simp (disch := omega) only [go_sem, simprocAttr, he]
  refine call_use (by rw [← hz1]; exact piv_S hc E hs hg1 (by omega) (by omega) (by omega)) ?_
  rintro r h ⟨u, t, hr, hu1, hu2, ht, hs⟩
  subst hr
  simp (disch := omega) only [go_sem, simprocAttr, he]
  have hte : ((t : Int) == 2) = decide (t = 2) := by
    by_cases hq : t = 2
    · subst hq; rfl
    · simp [hq]; omega
  simp (disch := omega) only [go_sem, simprocAttr, hte]
  refine cnd_join (Q := fun e h => ∃ (D2 : Array (List AV)) (u t : Nat), PermIn a bb D D2 ∧ GA G D2 ∧ D2.size = d.size ∧ a ≤ u ∧ u < bb ∧ sat h (pto b (.row 1 D2.toList cap) :: F) ∧
    (e 0 = .arr b 1 0 d.size cap ∧ e 1 = .int .i64 a ∧ e 2 = .int .i64 bb ∧ e 3 = .int .i64 lim1 ∧ e 8 = .bool wb ∧ e 9 = .bool wp ∧ e 10 = .int .i64 (bb - a : Nat) ∧ e 11 = .int .i64 u ∧ e 12 = .int .i64 t)) ?_ ?_
  · refine cnd_bool (fun ht2 => ?_) (fun ht2 => ?_)
    · have q1 : (bb : Int) - 1 = ((bb - 1 : Nat) : Int) := by omega
      have q2 : (u : Int) - a = ((u - a : Nat) : Int) := by omega
      have q3 : ((bb - 1 : Nat) : Int) - ((u - a : Nat) : Int) = ((bb - 1 - (u - a) : Nat) : Int) := by omega
      simp (disch := omega) only [go_sem, simprocAttr, he]
      refine call_use (by rw [← hz1]; exact rev_S (cf := .nilp) E hs hg1 (by omega) (by omega) (by omega)) ?_
      rintro r h ⟨p2, hg2, hz2, hs⟩
      simp (disch := omega) only [go_sem, simprocAttr, he, q1, q2, q3]
      exact ⟨_, bb - 1 - (u - a), 1, permIn_trans _ _ _ _ _ hp1 p2, hg2, by omega, by omega, by omega, hs, rfl, rfl⟩
    · simp (disch := omega) only [go_sem, simprocAttr, he]
      exact ⟨D1, u, t, hp1, hg1, hz1, by omega, by omega, hs, rfl, rfl⟩
  rintro e h ⟨D2, u, t, hp2, hg2, hz2, hu1, hu2, hs, he⟩
  simp (disch := omega) only [go_sem, simprocAttr, he]
  refine cnd_join (Q := fun e h => ∃ (q : Bool) (v : AV) (w : Bool), (if q = true then v else AV.bool false) = .bool w ∧ sat h (pto b (.row 1 D2.toList cap) :: F) ∧ (e 0 = .arr b 1 0 d.size cap ∧ e 1 = .int .i64 a ∧ e 2 = .int .i64 bb ∧ e 3 = .int .i64 lim1 ∧ e 8 = .bool wb ∧ e 9 = .bool wp ∧ e 10 = .int .i64 (bb - a : Nat) ∧ e 11 = .int .i64 u ∧ e 12 = .int .i64 t ∧ e 62 = .bool q ∧ e 63 = v)) ?_ ?_
  · cases wb
    · simp (disch := omega) only [go_sem, simprocAttr, he]
      exact ⟨_, _, false, rfl, hs, rfl, rfl⟩
    · simp (disch := omega) only [go_sem, simprocAttr, he]
      exact ⟨_, _, wp, rfl, hs, rfl, rfl⟩
  rintro e h ⟨q, v, w, hq, hs, he⟩
  simp (disch := omega) only [go_sem, simprocAttr, he, hq]
  refine cnd_join (Q := fun e h => ∃ (q : Bool) (v : AV) (w : Bool), (if q = true then v else AV.bool false) = .bool w ∧ sat h (pto b (.row 1 D2.toList cap) :: F) ∧ (e 0 = .arr b 1 0 d.size cap ∧ e 1 = .int .i64 a ∧ e 2 = .int .i64 bb ∧ e 3 = .int .i64 lim1 ∧ e 8 = .bool wb ∧ e 9 = .bool wp ∧ e 10 = .int .i64 (bb - a : Nat) ∧ e 11 = .int .i64 u ∧ e 65 = .bool q ∧ e 67 = v)) ?_ ?_
  · cases w
    · simp (disch := omega) only [go_sem, simprocAttr, he]
      exact ⟨_, _, false, rfl, hs, rfl, rfl⟩
    · simp (disch := omega) only [go_sem, simprocAttr, he]
      exact ⟨_, _, _, rfl, hs, rfl, rfl⟩
  rintro e h ⟨q2, v2, w2, hq2, hs, he⟩
  simp (disch := omega) only [go_sem, simprocAttr, he, hq2]
  have hB2 : Below lt a bb D2 := Below.permA permIn_all (by omega) hB hp2
  refine cnd_join (Q := fun e h => ∃ D3 : Array (List AV), PermIn a bb D D3 ∧ GA G D3 ∧ D3.size = d.size ∧ sat h (pto b (.row 1 D3.toList cap) :: F) ∧ (e 0 = .arr b 1 0 d.size cap ∧ e 1 = .int .i64 a ∧ e 2 = .int .i64 bb ∧ e 3 = .int .i64 lim1 ∧ e 8 = .bool wb ∧ e 9 = .bool wp ∧ e 10 = .int .i64 (bb - a : Nat) ∧ e 11 = .int .i64 u)) ?_ ?_
  · cases w2
    · simp (disch := omega) only [go_sem, simprocAttr, he]
      exact ⟨D2, hp2, hg2, hz2, hs⟩
    · simp (disch := omega) only [go_sem, simprocAttr, he]
      refine call_use (by rw [← hz2]; exact par_S hc E hs hg2 (by omega) (by omega) (by omega)) ?_
      rintro r h ⟨hr, hg3, hz3, hs⟩
      subst hr
      obtain ⟨p1, p2⟩ := partialInsertionSort_holds (lt := lt) hO D2 a bb (by omega) (by omega) hB2
      have p3 := permIn_trans _ _ _ _ _ hp2 p1
      simp (disch := omega) only [go_sem, simprocAttr, he]
      refine cnd_bool (fun hd => ?_) (fun hd => ?_)
      · obtain ⟨c1, c2⟩ := hC _ p3 (p2 hd)
        simp (disch := omega) only [go_sem, simprocAttr, he]
        exact ⟨_, c1, c2, hg3, by omega, hs⟩
      · simp (disch := omega) only [go_sem, simprocAttr, he]
        exact ⟨_, p3, hg3, by omega, hs⟩
  rintro e h ⟨D3, hp3, hg3, hz3, hs, he⟩
  simp (disch := omega) only [go_sem, simprocAttr, he]
  refine cnd_join (Q := fun e h => ∃ (q : Bool) (v : AV) (w : Bool), (if q = true then v else AV.bool false) = .bool w ∧ w = (decide (0 < a) && !lt D3[a - 1]! D3[u]!) ∧ sat h (pto b (.row 1 D3.toList cap) :: F) ∧ (e 0 = .arr b 1 0 d.size cap ∧ e 1 = .int .i64 a ∧ e 2 = .int .i64 bb ∧ e 3 = .int .i64 lim1 ∧ e 8 = .bool wb ∧ e 9 = .bool wp ∧ e 10 = .int .i64 (bb - a : Nat) ∧ e 11 = .int .i64 u ∧ e 75 = .bool q ∧ e 86 = v)) ?_ ?_
  · refine cnd_dec (fun ha0 => ?_) (fun ha0 => ?_)
    · have m1 : (a : Int) - 1 = ((a - 1 : Nat) : Int) := by omega
      have r1 := rd_o E hg3 (i := a - 1) (by omega)
      have r2 := rd_o E hg3 (i := u) (by omega)
      simp (disch := omega) only [go_sem, simprocAttr, he, hs.at, r1, r2, m1]
      refine call_use (hc _ _ _ _ (hg3 _ (by omega)) (hg3 _ (by omega)) hs) ?_
      rintro r h ⟨hr, hs⟩
      subst hr
      simp (disch := omega) only [go_sem, simprocAttr, he, ha0]
      exact ⟨_, _, _, rfl, by rw [decide_eq_true (by omega), Bool.true_and], hs, rfl, rfl⟩
    · simp (disch := omega) only [go_sem, simprocAttr, he, ha0]
      exact ⟨_, _, _, rfl, by rw [decide_eq_false (by omega), Bool.false_and], hs, rfl, rfl⟩
  rintro e h ⟨q3, v3, w3, hq3, hw3, hs, he⟩
  simp (disch := omega) only [go_sem, simprocAttr, he, hq3]
  have hB3 : Below lt a bb D3 := Below.permA permIn_all (by omega) hB hp3
  have hC3 : ∀ R, PermIn a bb D3 R → SortedIn lt a bb R → PermIn a0 b0 d R ∧ SortedIn lt a0 b0 R := fun R h1 h2 => hC R (permIn_trans _ _ _ _ _ hp3 h1) h2
  refine cnd_bool (fun hw => ?_) (fun hw => ?_)
  · subst hw
    simp only [Bool.true_eq, Bool.and_eq_true, decide_eq_true_eq, Bool.not_eq_true'] at hw3
    simp (disch := omega) only [go_sem, simprocAttr, he]
    refine call_use (by rw [← hz3]; exact peq_S hc E hs hg3 hu1 hu2 (by omega) (by omega)) ?_
    rintro r h ⟨hr, hg4, hz4, hs⟩
    obtain ⟨mid, d4, hx⟩ : ∃ mid d4, partitionEqual lt D3 a bb u = (mid, d4) := ⟨_, _, rfl⟩
    rw [hx] at hr hg4 hz4 hs
    simp only at hr hg4 hz4 hs
    subst hr
    obtain ⟨e1, e2, e3, e4, e5⟩ := round_eq hO (partitionEqual_holds lt) hw3.1 hu1 hu2 (by omega) hB3 hw3.2 hx
    simp (disch := omega) only [go_sem, simprocAttr, he]
    exact ⟨bb - mid, by omega, mid, bb, lim1, wb, wp, d4, rfl, by omega, by omega, by omega, hlim1, e4, hg4, by omega, fun R h1 h2 => hC3 R (e5 R h1 h2).1 (e5 R h1 h2).2, hs, rfl, rfl, rfl, rfl, rfl⟩
  · simp (disch := omega) only [go_sem, simprocAttr, he]
    refine call_use (by rw [← hz3]; exact prt_S hc E hs hg3 hu1 hu2 (by omega) (by omega)) ?_
    rintro r h ⟨hr, hg4, hz4, hs⟩
    obtain ⟨mid, ap, d4, hx⟩ : ∃ mid ap d4, partition lt D3 a bb u = (mid, ap, d4) := ⟨_, _, _, rfl⟩
    rw [hx] at hr hg4 hz4 hs
    simp only at hr hg4 hz4 hs
    subst hr
    obtain ⟨e1, e2, e3, eL, eR, c1, c2⟩ := round_part hO (partition_holds lt) hu1 hu2 (by omega) hB3 hx
    have q1 : (mid : Int) - a = ((mid - a : Nat) : Int) := by omega
    have q2 : (bb : Int) - mid = ((bb - mid : Nat) : Int) := by omega
    have q3 : (mid : Int) + 1 = ((mid + 1 : Nat) : Int) := by omega
    have q4 : ((bb - a : Nat) : Int).tdiv 8 = (((bb - a) / 8 : Nat) : Int) := by rw [Int.tdiv_eq_ediv_of_nonneg (by omega)]; omega
    simp (disch := omega) only [go_sem, simprocAttr, he, q1, q2, q4]
    refine cnd_dec (fun hlt => ?_) (fun hge => ?_)
    · simp (disch := omega) only [go_sem, simprocAttr, he, q3]
      refine call_use (by rw [← hz3, ← e3]; exact ih (mid - a) (by omega) F _ d4 a mid lim1 b cap (Nat.le_refl _) hs hg4 e1 (by omega) (by omega) eL hlim1) ?_
      rintro r h ⟨R1, p1, s1, hg5, hz5, hs⟩
      obtain ⟨f1, f2⟩ := c1 R1 p1 s1
      simp (disch := omega) only [go_sem, simprocAttr, he, q3]
      exact ⟨bb - (mid + 1), by omega, mid + 1, bb, lim1, _, ap, R1, rfl, by omega, by omega, by omega, hlim1, f1, hg5, by omega, fun R h1 h2 => hC3 R (f2 R h1 h2).1 (f2 R h1 h2).2, hs, rfl, rfl, rfl, rfl, rfl⟩
    · simp (disch := omega) only [go_sem, simprocAttr, he, q3]
      refine call_use (by rw [← hz3, ← e3]; exact ih (bb - (mid + 1)) (by omega) F _ d4 (mid + 1) bb lim1 b cap (Nat.le_refl _) hs hg4 (by omega) (by omega) (by omega) eR hlim1) ?_
      rintro r h ⟨R1, p1, s1, hg5, hz5, hs⟩
      obtain ⟨f1, f2⟩ := c2 R1 p1 s1
      simp (disch := omega) only [go_sem, simprocAttr, he, q3]
      exact ⟨mid - a, by omega, a, mid, lim1, _, ap, R1, rfl, by omega, by omega, by omega, hlim1, f1, hg5, by omega, fun R h1 h2 => hC3 R (f2 R h1 h2).1 (f2 R h1 h2).2, hs, rfl, rfl, rfl, rfl, rfl⟩
end
end Go.Proofs.Ytkclojjeepomfaa
/- slices.Sort, slices.Compact of strings. -/
set_option linter.unusedSimpArgs false
set_option linter.unusedVariables false
set_option maxRecDepth 10000
namespace Go.Proofs.Ytkclojjeepomfaa
open Go.Hz Go.Sort

def keyS : List AV → Key
  | .str x :: _ => x
  | _ => []
def ltS (a b : List AV) : Bool := ltK (keyS a) (keyS b)
theorem swo_ltS : SWO ltS := ⟨fun x => ltK_irrefl _, fun x y z h1 h2 => ltK_trans h1 h2, fun x y z h1 h2 => by
  cases h : ltS x z with
  | false => rfl
  | true =>
    have := ltK_lt_of_lt_of_ge (a := keyS x) (b := keyS z) (c := keyS y) h h2
    rw [show ltK (keyS x) (keyS y) = ltS x y from rfl, h1] at this; cases this⟩
def GSt (c : List AV) : Prop := ∃ k : Key, c = [.str k]
theorem goodE_st : GoodE 1 false GSt where
  len := by rintro _ ⟨x, rfl⟩; rfl
  atoms := by rintro _ ⟨x, rfl⟩; rfl
  cells := by rintro _ ⟨x, rfl⟩; rfl
  pos := by omega
  one := fun _ => rfl
section
variable {h : Hp} {F : List Asr}
theorem nan_S {a : Key} (hs : sat h F) : Triple Try.prog 115 [.str a] h (fun r h => r = .bool false ∧ sat h F) := by
  refine t115 (Nat.le_of_ble_eq_true rfl) ?_
  simp (disch := omega) only [F115, go_sem, simprocAttr]
  exact hs
theorem less_S : LessT Try.prog false GSt ltS 101 := by
  rintro _ _ L h ⟨x, rfl⟩ ⟨y, rfl⟩ hs
  show Triple Try.prog _ [.str x, .str y] h _
  refine t101 (Nat.le_of_ble_eq_true rfl) ?_
  simp (disch := omega) only [F101, go_sem, simprocAttr]
  refine call_use (nan_S hs) ?_
  rintro r h ⟨hr, hs⟩
  subst hr
  simp (disch := omega) only [go_sem, simprocAttr]
  exact ⟨rfl, hs⟩
theorem insn_S (hs : sat h F) : Triple Try.prog 95 [.nils, .int .i64 0, .int .i64 0] h (fun r h => sat h F) := by
  refine t95 (Nat.le_of_ble_eq_true rfl) ?_
  simp (disch := omega) only [F95, go_sem, simprocAttr]
  refine run_loopN (fun n e h => sat h F ∧ (e 1 = .int .i64 0 ∧ e 2 = .int .i64 0 ∧ e 6 = .int .i64 1)) 0 ⟨hs, rfl, rfl, rfl⟩ ?_
  rintro n e h ⟨hs, he⟩
  simp (disch := omega) only [go_sem, simprocAttr, he]
  exact hs
theorem pdqn_S {lim : AV} (hs : sat h F) : Triple Try.prog 88 [.nils, .int .i64 0, .int .i64 0, lim] h (fun r h => sat h F) := by
  refine t88 (Nat.le_of_ble_eq_true rfl) ?_
  simp (disch := omega) only [F88, go_sem, simprocAttr]
  refine run_loopN (fun n e h => sat h F ∧ (e 0 = .nils ∧ e 1 = .int .i64 0 ∧ e 2 = .int .i64 0)) 0 ⟨hs, rfl, rfl, rfl⟩ ?_
  rintro n e h ⟨hs, he⟩
  have z0 : decide ((0:Int) - 0 ≤ 12) = true := rfl
  simp (disch := omega) only [go_sem, simprocAttr, he, z0]
  refine call_use (insn_S hs) ?_
  intro r h hs
  simp (disch := omega) only [go_sem, simprocAttr]
  exact hs
theorem ga_strs {l : List Key} : GA GSt (l.map fun k => [AV.str k]).toArray := by
  intro i hi
  have hi : i < l.length := by simpa using hi
  exact ⟨l[i], by simp [hi]⟩
/-- slices.Sort. -/
theorem sort_S {v : AV} {ks : List Key} (hs : sat h (Ow 1 v (ks.map fun k => [.str k]) :: F)) (hz : ks.length ≤ 100000000) : Triple Try.prog 69 [v] h (fun r h => ∃ ks' : List Key, ks'.Perm ks ∧ ks'.Pairwise (fun a b => ltK b a = false) ∧ sat h (Ow 1 v (ks'.map fun k => [.str k]) :: F)) := by
  rcases hs.cases with ⟨rfl, hn, h2⟩ | ⟨b, cap, rfl, h2, hle⟩
  · have : ks = [] := by simpa using hn
    subst this
    refine t69 (Nat.le_of_ble_eq_true rfl) ?_
    simp (disch := omega) only [F69, go_sem, simprocAttr]
    refine call_use (len0 (n := 0) h2 (by omega)) ?_
    rintro r h ⟨t, hr, h1, h2, h3, hs⟩
    subst hr
    simp (disch := omega) only [go_sem, simprocAttr]
    refine call_use (pdqn_S hs) ?_
    intro r h hs
    simp (disch := omega) only [go_sem, simprocAttr]
    exact ⟨[], .refl _, .nil, hs.add ow_nil⟩
  · have hsz : (ks.map fun k => [AV.str k]).toArray.size = ks.length := by simp
    have hll : (ks.map fun k => [AV.str k]).length = ks.length := by simp
    rw [hll] at hle ⊢
    have w1 := wu64 (n := ks.length) (by omega)
    refine t69 (Nat.le_of_ble_eq_true rfl) ?_
    simp (disch := omega) only [F69, w1, go_sem, simprocAttr]
    refine call_use (len0 h2 (by omega)) ?_
    rintro r h ⟨t, hr, h1, _, h3, hs⟩
    subst hr
    simp (disch := omega) only [go_sem, simprocAttr]
    have hp := pdq_S less_S goodE_st swo_ltS _ F h (ks.map fun k => [AV.str k]).toArray 0 ks.length t b cap (Nat.le_refl _) (by simpa using hs) ga_strs (Nat.zero_le _) (by simp) (by simp; omega) (.inl rfl) (by omega)
    rw [hsz] at hp
    refine call_use hp ?_
    rintro r h ⟨R, p1, p2, p3, p4, hs⟩
    simp (disch := omega) only [go_sem, simprocAttr]
    have hR : ∃ ks' : List Key, R.toList = ks'.map fun k => [AV.str k] := by
      have : ∀ x ∈ R.toList, GSt x := by
        intro x hx
        obtain ⟨i, hi, rfl⟩ := List.getElem_of_mem hx
        have := p3 i (by simpa using hi)
        simpa [getElem!_pos R i (by simpa using hi)] using this
      generalize R.toList = l at this
      induction l with
      | nil => exact ⟨[], rfl⟩
      | cons x l ih =>
        obtain ⟨l', hl'⟩ := ih fun y hy => this y (List.mem_cons_of_mem _ hy)
        obtain ⟨k, hk⟩ := this x (by simp)
        exact ⟨k :: l', by rw [hl', hk]; rfl⟩
    obtain ⟨ks', hks⟩ := hR
    have q1 : R.toList.Perm (ks.map fun k => [AV.str k]) := by
      have := p1.2.2
      have e1 : R.extract 0 ks.length = R := by rw [show ks.length = R.size from p4.symm]; simp
      have e2 : (ks.map fun k => [AV.str k]).toArray.extract 0 ks.length = (ks.map fun k => [AV.str k]).toArray := by
        simp [List.take_of_length_le]
      rw [e1, e2] at this
      exact this
    have q2 : R.toList.Pairwise (fun a b => ltS b a = false) := by
      rw [List.pairwise_iff_getElem]
      intro i j hi hj hij
      have hj' : j < R.size := by simpa using hj
      have hi' : i < R.size := by simpa using hi
      have := p2 i j (Nat.zero_le _) hij (by rw [← p4]; exact hj')
      simpa [getElem!_pos R i hi', getElem!_pos R j hj'] using this
    rw [hks] at q1 q2 hs
    refine ⟨ks', ?_, ?_, ?_⟩
    · have := q1.map keyS
      simpa [Function.comp_def, keyS] using this
    · rw [List.pairwise_map] at q2
      exact q2
    · have hl5 : ks'.length = ks.length := by have := q1.length_eq; simpa using this
      have := hs.ow (by simp; omega)
      simpa [hl5] using this
/-- Rising: of what stands there, each once. -/
theorem srtS_app {R : List Key} {y x : Key} {k : Nat} (hR : SrtS R) (hk : k + 1 = R.length) (hy : R[k]? = some y) (hx : ltK y x = true) : SrtS (R ++ [x]) := by
  refine List.pairwise_append.2 ⟨hR, List.pairwise_singleton _ _, fun a ha b hb => ?_⟩
  simp at hb; subst hb
  obtain ⟨m, hm, rfl⟩ := List.getElem_of_mem ha
  have hk2 : k < R.length := by omega
  rw [List.getElem?_eq_getElem hk2] at hy
  cases hy
  by_cases hmk : m = k
  · subst hmk; exact hx
  · exact ltK_trans (List.pairwise_iff_getElem.1 hR m k hm hk2 (by omega)) hx
theorem comp_S {v : AV} {ks : List Key} (hs : sat h (Ow 1 v (ks.map fun k => [.str k]) :: F)) (hk : ks.Pairwise fun a b => ltK b a = false) (hz : ks.length ≤ 100000000) : Triple Try.prog 70 [v] h (fun r h => ∃ R : List Key, SrtS R ∧ (∀ x, x ∈ R ↔ x ∈ ks) ∧ R.length ≤ ks.length ∧ r = .lst (R.map fun k => [.str k]) ∧ sat h F) := by
  refine Triple.view ?_
  have fin : ∀ {h : Hp}, sat h (Ow 1 v (ks.map fun k => [.str k]) :: F) → SrtS ks → ∃ r' h'', GV v h r' h'' ∧ ∃ R : List Key, SrtS R ∧ (∀ x, x ∈ R ↔ x ∈ ks) ∧ R.length ≤ ks.length ∧ r' = .lst (R.map fun k => [.str k]) ∧ sat h'' F := by
    intro h hs h1
    obtain ⟨h', g, hs'⟩ := hs.view
    exact ⟨_, h', g, ks, h1, fun _ => Iff.rfl, Nat.le_refl _, rfl, hs'⟩
  have hlv := hs.els.len
  rw [List.length_map] at hlv
  refine t70 (Nat.le_of_ble_eq_true rfl) ?_
  simp (disch := omega) only [F70, hlv, go_sem, simprocAttr]
  refine cnd_dec (fun h1 => ?_) (fun h1 => ?_)
  · simp (disch := omega) only [go_sem, simprocAttr]
    refine fin hs ?_
    match ks, h1 with
    | [], _ => exact .nil
    | [k], _ => exact List.pairwise_singleton _ _
    | a :: b :: l, h1 => exact absurd h1 (by simp; omega)
  rcases hs.cases with ⟨_, hn, _⟩ | ⟨b, cap, rfl, h2, hle⟩
  · have : ks = [] := by simpa using hn
    subst this
    exact absurd (show ((([] : List Key).length : Nat) : Int) < 2 by simp) h1
  have hll : (ks.map fun k => [AV.str k]).length = ks.length := by simp
  simp only [hll] at hle fin ⊢
  simp (disch := omega) only [go_sem, simprocAttr]
  refine run_loopN (fun n e h => ∃ i : Nat, n = ks.length - i ∧ 1 ≤ i ∧ i ≤ ks.length ∧ SrtS (ks.take i) ∧ sat h (pto b (.row 1 (ks.map fun k => [.str k]) cap) :: F) ∧ (e 0 = .arr b 1 0 ks.length cap ∧ e 3 = .int .i64 i)) (ks.length - 1) ⟨1, rfl, Nat.le_refl _, by omega, ?_, h2, rfl, rfl⟩ ?_
  · cases ks with
    | nil => exact .nil
    | cons k l => exact List.pairwise_singleton _ _
  clear hs h2
  rintro n e h ⟨i, rfl, hi1, hi2, hsr, hs, he⟩
  have hb := hs.at
  have m1 : (i : Int) + 1 = ((i + 1 : Nat) : Int) := by omega
  have m2 : (i : Int) - 1 = ((i - 1 : Nat) : Int) := by omega
  simp (disch := omega) only [go_sem, simprocAttr, he]
  refine cnd_dec (fun h3 => ?_) (fun h3 => ?_)
  · have hi : i < ks.length := by omega
    have hr1 : (ks.map fun k => [AV.str k])[i]? = some [.str ks[i]] := by simp [hi]
    have hr2 : (ks.map fun k => [AV.str k])[i - 1]? = some [.str (ks[i - 1]'(by omega))] := by rw [List.getElem?_map, List.getElem?_eq_getElem (by omega)]; rfl
    by_cases hq : ks[i] = ks[i - 1]'(by omega)
    · have eq : (ks[i] == ks[i - 1]'(by omega)) = true := by simpa using hq
      simp (disch := omega) only [go_sem, simprocAttr, he, hb, hr1, hr2, m2, Int.toNat_natCast, eq]
      have hsl := slcL_lo (s := 1) (b := b) (off := 0) (len := ks.length) (cap := cap) (k1 := .i64) (x := (i : Int)) (by omega) (by omega) hle
      rw [Int.toNat_natCast, Nat.zero_add] at hsl
      simp (disch := omega) only [go_sem, simprocAttr, hsl]
      refine blk_join (Q := fun e h => ∃ (k : Nat) (es : List Key), es.length = ks.length ∧ k ≤ ks.length ∧ SrtS (es.take k) ∧ (∀ x, x ∈ es.take k ↔ x ∈ ks) ∧ sat h (pto b (.row 1 (es.map fun k => [.str k]) cap) :: F) ∧ (e 0 = .arr b 1 0 ks.length cap ∧ e 3 = .int .i64 k)) ?_ ?_
      · refine run_loopN (fun n e h => ∃ (j k : Nat) (es : List Key), n = ks.length - i - j ∧ 1 ≤ j ∧ i + j ≤ ks.length ∧ es.length = ks.length ∧ 1 ≤ k ∧ k + 1 ≤ i + j ∧ SrtS (es.take k) ∧ (∀ x, x ∈ es.take k ↔ x ∈ ks.take (i + j)) ∧ es[k - 1]? = ks[i + j - 1]? ∧ (∀ m, i + j ≤ m + 1 → es[m]? = ks[m]?) ∧ sat h (pto b (.row 1 (es.map fun k => [.str k]) cap) :: F) ∧
          (e 0 = .arr b 1 0 ks.length cap ∧ e 3 = .int .i64 k ∧ e 4 = .arr b 1 i (ks.length - i) (cap - i) ∧ e 5 = .int .i64 j)) (ks.length - i - 1)
          ⟨1, i, ks, rfl, Nat.le_refl _, by omega, rfl, hi1, Nat.le_refl _, hsr, ?_, ?_, fun m _ => rfl, hs, he.1, he.2, rfl, rfl⟩ ?_
        · intro x
          rw [List.take_succ_eq_append_getElem hi, List.mem_append]
          constructor
          · exact fun h => .inl h
          · rintro (h | h)
            · exact h
            · simp at h; subst h
              rw [hq, List.mem_take_iff_getElem]
              exact ⟨i - 1, by omega, rfl⟩
        · rw [show i + 1 - 1 = i by omega, List.getElem?_eq_getElem (by omega), List.getElem?_eq_getElem hi, hq]
        clear hs he hb
        rintro n e h ⟨j, k, es, rfl, j1, j2, hel, k1, k2, hR, hmem, hlast, hrest, hs, he⟩
        have hb := hs.at
        have mj : (j : Int) + 1 = ((j + 1 : Nat) : Int) := by omega
        have mj2 : (j : Int) - 1 = ((j - 1 : Nat) : Int) := by omega
        have mk : (k : Int) + 1 = ((k + 1 : Nat) : Int) := by omega
        simp (disch := omega) only [go_sem, simprocAttr, he]
        refine cnd_dec (fun h4 => ?_) (fun h4 => ?_)
        · have hij : i + j < ks.length := by omega
          have r1 : (es.map fun k => [AV.str k])[i + j]? = some [.str ks[i + j]] := by rw [List.getElem?_map, hrest _ (by omega), List.getElem?_eq_getElem hij]; rfl
          have r2 : (es.map fun k => [AV.str k])[i + (j - 1)]? = some [.str (ks[i + j - 1]'(by omega))] := by
            rw [List.getElem?_map, hrest _ (by omega), show i + (j - 1) = i + j - 1 by omega, List.getElem?_eq_getElem (by omega)]; rfl
          have hkk : k < es.length := by omega
          have rk : (es.map fun k => [AV.str k])[k]? = some [.str es[k]] := by rw [List.getElem?_map, List.getElem?_eq_getElem hkk]; rfl
          have tk : ks.take (i + (j + 1)) = ks.take (i + j) ++ [ks[i + j]] := List.take_succ_eq_append_getElem hij
          by_cases hq2 : ks[i + j] = ks[i + j - 1]'(by omega)
          · have eq2 : (ks[i + j] != ks[i + j - 1]'(by omega)) = false := by simpa using hq2
            simp (disch := omega) only [go_sem, simprocAttr, he, hb, r1, r2, mj2, Int.toNat_natCast, eq2, mj]
            refine ⟨ks.length - i - (j + 1), by omega, j + 1, k, es, rfl, by omega, by omega, hel, k1, by omega, hR, ?_, ?_, fun m hm => hrest m (by omega), hs, rfl, rfl⟩
            · intro x
              rw [tk, List.mem_append, ← hmem]
              constructor
              · exact fun h => .inl h
              · rintro (h | h)
                · exact h
                · simp at h; subst h
                  rw [hq2, hmem, List.mem_take_iff_getElem]
                  exact ⟨i + j - 1, by omega, rfl⟩
            · rw [hlast, show i + (j + 1) - 1 = i + j by omega, List.getElem?_eq_getElem (by omega), List.getElem?_eq_getElem hij, hq2]
          · have eq2 : (ks[i + j] != ks[i + j - 1]'(by omega)) = true := by simpa using hq2
            simp (disch := omega) only [go_sem, simprocAttr, he, hb, r1, r2, rk, mj2, Int.toNat_natCast, eq2, mj, mk]
            have hlt : ltK (ks[i + j - 1]'(by omega)) ks[i + j] = true := by
              have hnd := List.pairwise_iff_getElem.1 hk (i + j - 1) (i + j) (by omega) hij (by omega)
              cases hl : ltK (ks[i + j - 1]'(by omega)) ks[i + j] with
              | true => rfl
              | false => exact absurd (ltK_total hnd hl) hq2
            have hst : (es.set k ks[i + j]).take (k + 1) = es.take k ++ [ks[i + j]] := by
              rw [List.take_succ_eq_append_getElem (by simpa using hkk), List.take_set_of_le (Nat.le_refl _), List.getElem_set_self]
            refine ⟨ks.length - i - (j + 1), by omega, j + 1, k + 1, es.set k ks[i + j], rfl, by omega, by omega, by simpa using hel, by omega, by omega, ?_, ?_, ?_, ?_, ?_, rfl, rfl⟩
            · rw [hst]
              refine srtS_app (k := k - 1) (y := ks[i + j - 1]'(by omega)) hR (by rw [List.length_take]; omega) ?_ hlt
              rw [List.getElem?_take, if_pos (by omega), hlast, List.getElem?_eq_getElem (by omega)]
            · intro x
              rw [hst, tk, List.mem_append, List.mem_append, hmem]
            · rw [show k + 1 - 1 = k by omega, List.getElem?_set_self hkk, show i + (j + 1) - 1 = i + j by omega, List.getElem?_eq_getElem hij]
            · intro m hm
              rw [List.getElem?_set_ne (by omega)]
              exact hrest m (by omega)
            · have := hs.set (o' := .row 1 ((es.set k ks[i + j]).map fun k => [.str k]) cap)
              simpa [List.map_set] using this
        · have hij : i + j = ks.length := by omega
          rw [hij, List.take_length] at hmem
          simp (disch := omega) only [go_sem, simprocAttr, he]
          exact ⟨k, es, hel, by omega, hR, hmem, hs, rfl⟩
      clear hs he hb
      rintro e h ⟨k, es, hel, hkl, hR, hmem, hs, he⟩
      have hsl := slcL_lo (s := 1) (b := b) (off := 0) (len := ks.length) (cap := cap) (k1 := .i64) (x := (k : Int)) (by omega) (by omega) hle
      have hsh := slcL_hi (s := 1) (b := b) (off := 0) (len := ks.length) (cap := cap) (k2 := .i64) (y := (k : Int)) (by omega) (by omega) hle
      rw [Int.toNat_natCast] at hsl hsh
      simp (disch := omega) only [go_sem, simprocAttr, he, hsl]
      refine clr_use hs (by simp; omega) (by omega) fun h hs => ?_
      simp (disch := omega) only [go_sem, simprocAttr, he, hsh]
      have ht : ((List.take k (es.map fun k => [AV.str k]) ++ List.replicate (ks.length - k) [AV.str []] ++ List.drop (k + (ks.length - k)) (es.map fun k => [AV.str k])).take k) = (es.take k).map fun k => [AV.str k] := by
        rw [List.append_assoc, List.take_append_of_le_length (by simp; omega), List.take_take, Nat.min_self, List.map_take]
      have hs3 := hs.set (o' := .row 1 ((es.take k).map fun k => [AV.str k]) cap)
      have g1 := GV.trim (.arr b 1 0 k cap) k hs.at
      rw [ht] at g1
      refine ⟨_, _, g1.trans (GV.arr hs3.at (by simp; omega) (by omega)), es.take k, hR, hmem, by rw [List.length_take]; omega, rfl, hs3.del⟩
    · have eq : (ks[i] == ks[i - 1]'(by omega)) = false := by simpa using hq
      simp (disch := omega) only [go_sem, simprocAttr, he, hb, hr1, hr2, m2, Int.toNat_natCast, eq, m1]
      refine ⟨ks.length - (i + 1), by omega, i + 1, rfl, by omega, by omega, ?_, hs, rfl⟩
      have hlt : ltK (ks[i - 1]'(by omega)) ks[i] = true := by
        have hnd := List.pairwise_iff_getElem.1 hk (i - 1) i (by omega) hi (by omega)
        cases hl : ltK (ks[i - 1]'(by omega)) ks[i] with
        | true => rfl
        | false => exact absurd (ltK_total hnd hl) hq
      rw [List.take_succ_eq_append_getElem hi]
      refine srtS_app (k := i - 1) (y := ks[i - 1]'(by omega)) hsr (by rw [List.length_take]; omega) ?_ hlt
      rw [List.getElem?_take, if_pos (by omega), List.getElem?_eq_getElem (by omega)]
  · have hi : i = ks.length := by omega
    subst hi
    rw [List.take_length] at hsr
    simp (disch := omega) only [go_sem, simprocAttr, he]
    have := hs.ow (by simpa using hle)
    rw [hll] at this
    exact fin this hsr
end
end Go.Proofs.Ytkclojjeepomfaa
/- The store: the keys that a write sees. -/
set_option linter.unusedSimpArgs false
set_option linter.unusedVariables false
set_option maxRecDepth 10000
namespace Go.Proofs.Ytkclojjeepomfaa
open Go.Hz

section
variable {h : Hp} {F : List Asr} {s w : Nat} {A : Sto} {o : AV} {W : Wr}
def kvKey (e : AV × AV × Nat) : Key := match e.1 with | .str k => k | _ => []
/-- The keys of a range that there were ever, or that are changed. -/
def WKeys (A : Sto) (W : Wr) (lo hi : Key) (ks : List Key) : Prop := SrtS ks ∧ ks.length ≤ A.old.length + A.chs.length + W.l.length + 1 ∧ if hi = [] then ks = [lo] else ∀ k, k ∈ ks ↔ (A.vers k ≠ [] ∨ wChg W k = true) ∧ inR lo hi k = true

theorem mvWKeys {lo hi : Key} (hs : sat h (WtP w s A W :: StP s A o :: F)) (hz : A.old.length + A.chs.length + W.l.length ≤ 90000000) : Triple Try.prog 36 [.ptr w 4 0 0, .str lo, .str hi] h (fun r h => ∃ ks, WKeys A W lo hi ks ∧ r = strsV ks ∧ sat h (WtP w s A W :: StP s A o :: F)) := by
  obtain ⟨lv, bm, hw, hs1⟩ := wrP.1 hs
  have hp := hs1.at
  refine t36 (Nat.le_of_ble_eq_true rfl) ?_
  simp (disch := omega) only [F36, hp, go_sem, simprocAttr]
  refine call_use (mvKeys (lo := lo) (hi := hi) hs1.p2.p2.p2.p3 (by omega)) ?_
  rintro v h ⟨ks0, hk, hs⟩
  have tail : ∀ {h : Hp} {v : AV} {ks1 : List Key} {F' : List Asr}, True := trivial
  by_cases hh : hi = []
  · subst hh
    have e0 : (([] : List UInt8) != []) = false := rfl
    have hk0 := hk.2.2
    rw [if_pos rfl] at hk0
    subst hk0
    simp (disch := omega) only [go_sem, simprocAttr, e0]
    refine call_use (sort_S hs (by simp)) ?_
    rintro r h ⟨ks', p1, p2, hs⟩
    simp (disch := omega) only [go_sem, simprocAttr]
    refine call_use (comp_S hs p2 (by rw [p1.length_eq]; simp)) ?_
    rintro r h ⟨R, r1, r2, r3, hr, hs⟩
    subst hr
    simp (disch := omega) only [go_sem, simprocAttr]
    refine ⟨R, ⟨r1, by have := p1.length_eq; simp at this; omega, ?_⟩, rfl, wrP.2 ⟨lv, bm, hw, hs.p3.p3.p3⟩⟩
    rw [if_pos rfl]
    refine srts_ext r1 (List.pairwise_singleton _ _) fun x => ?_
    rw [r2, p1.mem_iff]
  · have e0 : (hi != []) = true := by simpa using hh
    have hk0 := hk.2.2
    rw [if_neg hh] at hk0
    obtain ⟨pl, c, ⟨q1, q2, q3⟩, hs⟩ := mpA.1 hs.p3.p3.p3.p3.p4
    have hp := hs.p3.at
    simp (disch := omega) only [go_sem, simprocAttr, e0, hp]
    refine rng_use hs fun q h hs => ?_
    simp (disch := omega) only [go_sem, simprocAttr]
    generalize hkvs : kvOf (fun k : Key => AV.str k) Ch.key (chV tp td) pl = kvs at hs
    have hx0 : ∀ x ∈ kvs, ∃ p ∈ pl, x = (.str p.1.key, chV tp td p.1, p.2) := by
      intro x hx
      rw [← hkvs] at hx
      obtain ⟨p, hp, rfl⟩ := List.mem_map.1 hx
      exact ⟨p, hp, rfl⟩
    have hlenK : kvs.length = W.l.length := by rw [← hkvs, kvOf, List.length_map, ← q1.length_eq, List.length_map]
    have hc : ∀ x ∈ kvs, x.2.2 < c := fun x hx => by obtain ⟨p, hp, rfl⟩ := hx0 x hx; exact q3 p hp
    have hn : (kvs.map (·.2.2)).Nodup := by rw [← hkvs]; simpa [kvOf, Function.comp_def] using q2
    refine blk_join (Q := fun e h => ∃ (v : AV) (ex : List Key), ex.Perm (W.l.map Ch.key) ∧ sat h (Ow 1 v ((ks0 ++ ex.filter (inR lo hi)).map fun k => [.str k]) :: WtP w s A W :: StP s A o :: F) ∧ (e 7 = v)) ?_ ?_
    · refine run_loopN (fun k e h => ∃ es rest, k = rest.length ∧ (es ++ rest).Perm kvs ∧ sat h (pto q (.itr (some bm) c (es.map (·.2.2)) c) :: pto bm (.mp kvs c) :: Ow 1 (e 7) ((ks0 ++ (es.map kvKey).filter (inR lo hi)).map fun k => [.str k]) :: StP s A o :: pto w (.row 4 [[.ptr s 7 0 0, lv, .map bm, .int .i64 W.cur.length]] 1) :: Ow 1 lv (W.l.map fun c => [chV tp td c]) :: F) ∧
        (e 1 = .str lo ∧ e 2 = .str hi ∧ e 22 = .ptr q 1 0 0)) kvs.length ⟨[], kvs, rfl, .refl _, by simpa [Env.upd_apply] using hs, rfl, rfl, rfl⟩ ?_
      clear hs hp
      rintro k e h ⟨es, rest, rfl, hpm, hs, he⟩
      simp (disch := omega) only [go_sem, simprocAttr, he]
      refine nxt_use hs (Nat.le_refl _) hc (fun x hx hns h hs => ?_) (fun hall => ?_)
      · obtain ⟨p, hp, rfl⟩ := hx0 x hx
        obtain ⟨rest', r1, r2⟩ := rng_step hpm hx hns
        have hen := ent_at hs hx hn
        have hel : es.length ≤ kvs.length := by have := r1.length_eq; simp at this; omega
        simp (disch := omega) only [go_sem, simprocAttr, he]
        rw [hen]
        simp (disch := omega) only [go_sem, simprocAttr, he]
        have hsnoc : ((es ++ [((AV.str p.1.key, chV tp td p.1, p.2) : AV × AV × Nat)]).map kvKey).filter (inR lo hi) = (es.map kvKey).filter (inR lo hi) ++ [p.1.key].filter (inR lo hi) := by
          rw [List.map_append, List.filter_append]; rfl
        have hfl : ((es.map kvKey).filter (inR lo hi)).length ≤ kvs.length := Nat.le_trans (List.length_filter_le _ _) (by simpa using hel)
        have hk1 := hk.2.1
        cases b1 : Op.bytesLess p.1.key lo with
        | true =>
          have hin : inR lo hi p.1.key = false := by show (!(Op.bytesLess p.1.key lo) && _) = false; rw [b1]; rfl
          simp (disch := omega) only [go_sem, simprocAttr, he, b1]
          refine ⟨rest'.length, by omega, es ++ [(AV.str p.1.key, chV tp td p.1, p.2)], rest', rfl, r1, ?_⟩
          rw [hsnoc, List.filter_cons_of_neg (by simp [hin]), List.filter_nil, List.append_nil]
          simpa using hs
        | false =>
          cases b2 : Op.bytesLess p.1.key hi with
          | false =>
            have hin : inR lo hi p.1.key = false := by show (!(Op.bytesLess p.1.key lo) && (hi == [] || Op.bytesLess p.1.key hi)) = false; rw [b1, b2]; simpa using hh
            simp (disch := omega) only [go_sem, simprocAttr, he, b1, b2]
            refine ⟨rest'.length, by omega, es ++ [(AV.str p.1.key, chV tp td p.1, p.2)], rest', rfl, r1, ?_⟩
            rw [hsnoc, List.filter_cons_of_neg (by simp [hin]), List.filter_nil, List.append_nil]
            simpa using hs
          | true =>
            have hin : inR lo hi p.1.key = true := by show (!(Op.bytesLess p.1.key lo) && (hi == [] || Op.bytesLess p.1.key hi)) = true; rw [b1, b2]; simp
            simp (disch := omega) only [go_sem, simprocAttr, he, b1, b2]
            refine new_opq hs fun a h hs => ?_
            simp (disch := omega) only [go_sem, simprocAttr]
            refine app_sat hs.p3 (src_one hs.at) (atoms_one (by simp [AV.isAtom])) (by simp only [List.length_map, List.length_append, List.length_cons, List.length_nil]; omega) fun v' h hs ca aa => ?_
            simp (disch := omega) only [go_sem, simprocAttr, he]
            refine ⟨rest'.length, by omega, es ++ [(AV.str p.1.key, chV tp td p.1, p.2)], rest', rfl, r1, ?_⟩
            rw [hsnoc, List.filter_cons_of_pos hin, List.filter_nil]
            simpa using hs.p1.drop.p5.p5.p5.p3.p5.p5
      · have r1 := rng_end hpm hn hall
        simp (disch := omega) only [go_sem, simprocAttr]
        refine ⟨e 7, es.map kvKey, ?_, ?_⟩
        · refine (r1.map kvKey).trans ?_
          rw [← hkvs]
          have := q1.map Ch.key
          simpa [kvOf, Function.comp_def, kvKey] using this
        · have hs6 := hs.drop.p4.p4.p4.p4.p4
          rw [← hkvs] at hs6
          have hm : sat h (MpA (fun k : Key => AV.str k) Ch.key (chV tp td) bm W.l :: _) := mpA.2 ⟨pl, c, ⟨q1, q2, q3⟩, hs6⟩
          have hm2 := hm.p2.p2.p2.p4.p4
          have hm3 : sat h (WtP w s A W :: Ow 1 (e 7) ((ks0 ++ (es.map kvKey).filter (inR lo hi)).map fun k => [.str k]) :: StP s A o :: F) := wrP.2 ⟨lv, bm, hw, hm2⟩
          exact ⟨hm3.p1, rfl⟩
    clear hs hp
    rintro e h ⟨v, ex, hex, hs, he⟩
    have hk1 := hk.2.1
    have hexl : (ex.filter (inR lo hi)).length ≤ W.l.length := by
      have := hex.length_eq
      rw [List.length_map] at this
      exact this ▸ List.length_filter_le _ _
    simp (disch := omega) only [go_sem, simprocAttr, he]
    refine call_use (sort_S hs (by rw [List.length_append]; omega)) ?_
    rintro r h ⟨ks', p1, p2, hs⟩
    simp (disch := omega) only [go_sem, simprocAttr, he]
    have hpl := p1.length_eq
    rw [List.length_append] at hpl
    refine call_use (comp_S hs p2 (by omega)) ?_
    rintro r h ⟨R, r1, r2, r3, hr, hs⟩
    subst hr
    simp (disch := omega) only [go_sem, simprocAttr]
    refine ⟨R, ⟨r1, by omega, ?_⟩, rfl, hs⟩
    rw [if_neg hh]
    intro k
    rw [r2, p1.mem_iff, List.mem_append, hk0, List.mem_filter, hex.mem_iff]
    have hch : k ∈ W.l.map Ch.key ↔ wChg W k = true := by
      rw [List.mem_map, wChg, List.any_eq_true]
      simp
    rw [hch]
    constructor
    · rintro (⟨h1, h2⟩ | ⟨h1, h2⟩)
      · exact ⟨.inl h1, h2⟩
      · exact ⟨.inr h1, h2⟩
    · rintro ⟨h1 | h1, h2⟩
      · exact .inl ⟨h1, h2⟩
      · exact .inr ⟨h1, h2⟩
end
end Go.Proofs.Ytkclojjeepomfaa
/- The store: a change is taken in; a write is done. -/
set_option linter.unusedSimpArgs false
set_option linter.unusedVariables false
set_option maxRecDepth 10000
namespace Go.Proofs.Ytkclojjeepomfaa
open Go.Hz

section
variable {h : Hp} {F : List Asr} {s w : Nat} {A : Sto} {o : AV} {W : Wr} {n : Int}
theorem mvNoteG {v : Ver} (hs : sat h (MvN tp td s n A o :: F)) (hvr : inI v.rev) (hz : A.old.length + A.chs.length ≤ 90000000) : Triple Try.prog 35 [.ptr s 7 0 0, .agg (verC tp td v)] h (fun r h => ∃ ix vm cv L X, (StoOK (A.snoc v) → StoOK (A.snoc v) ∧ IxOK (A.snoc v) L ∧ VmOK (A.snoc v) X) ∧ sat h (MvLn tp td s ix vm cv o n (A.snoc v) L X ++ F)) := by
  obtain ⟨ix, vm, cv, L, X, hok, hs2⟩ := mvN.1 hs
  have hix := fun ok' : StoOK (A.snoc v) => ix_snoc ok' hok.2.1
  have ca := chV_atom (tp := tp) (td := td) v.c
  have cc := chV_cells (tp := tp) (td := td) v.c
  have e1 : (A.snoc v).rev = A.rev := rfl
  have e2 : (A.snoc v).past = A.past := rfl
  obtain ⟨kv, hta⟩ : ∃ kv : Kv, taA tp true (.agg [.str [], .str [], .int .i64 0, .int .i64 0, .int .i64 0, .int .i64 0]) (chV tp td v.c) = some (.tup [.agg (kvC kv), .bool v.c.kv.isSome]) := by
    cases v.c with
    | put kv => exact ⟨kv, rfl⟩
    | del k => exact ⟨kv0, rfl⟩
  have hta2 : taA 87 true (.agg [.str [], .str [], .int .i64 0, .int .i64 0, .int .i64 0, .int .i64 0]) (chV tp td v.c) = some (.tup [.agg (kvC kv), .bool v.c.kv.isSome]) := hta
  refine t35 (Nat.le_of_ble_eq_true rfl) ?_
  simp (disch := omega) only [F35, verC, ca, go_sem, simprocAttr]
  refine new_opq hs2 fun a h hs => ?_
  have ha := hs.at
  simp (disch := omega) only [go_sem, simprocAttr, ha, hta2, verC]
  refine new_opq hs fun b h hs => ?_
  have hb := hs.at
  have hs3 := hs.set (o' := .row 6 [kvC kv] 1)
  have ha := hs3.p1.at
  have hp := hs3.p2.at
  simp only [kvC, verC] at hs3 ha hp
  simp (disch := omega) only [go_sem, simprocAttr, hb, kvC, ha, hp]
  generalize Hp.set h b _ = h3 at hs3 ha hp ⊢
  refine inv_key hs3 v.c fun h hs => ?_
  have ha := hs.p1.at
  have hp := hs.p2.at
  simp (disch := omega) only [go_sem, simprocAttr, ha, hp]
  have hb1 : (!v.c.kv.isSome) = (mkV v).2 := by show _ = v.c.kv.isNone; cases v.c.kv <;> rfl
  rw [hb1]
  have hs4 : sat h (IxP ix L :: pto b (.row 6 [[.str kv.key, .str kv.val, .int .i64 kv.create, .int .i64 kv.mod, .int .i64 kv.ver, .int .i64 kv.lease]] 1) :: pto a (.row 2 [[.int .i64 v.rev, chV tp td v.c]] 1) :: pto s (.row 7 [[.int .i64 A.rev, .int .i64 A.past, .int .i64 n, .ptr ix 2 0 0, .map vm, cv, o]] 1) :: Ow 2 cv (A.chs.map (verC tp td)) :: MpA (fun k : Key => AV.str k) Vn.key Vn.v vm X :: (X.map (VnP tp td) ++ F)) := hs.p3
  have hLn := ix_num hok.2.1
  have hLl := ix_len hok.2.1
  refine call_use (ixPut (key := v.c.key) (m := mkV v) hs4 hok.2.1.1 (fun x hx => by have := hLl x hx; omega) (by omega) hvr) ?_
  rintro r h ⟨hr', hs⟩
  subst hr'
  have ha := hs.p2.at
  have hp := hs.p3.at
  simp (disch := omega) only [go_sem, simprocAttr, ha, hp]
  refine inv_key hs v.c fun h hs => ?_
  have ha := hs.p2.at
  have hp := hs.p3.at
  simp (disch := omega) only [go_sem, simprocAttr, ha, hp]
  refine inv_key hs v.c fun h hs => ?_
  have ha := hs.p2.at
  have hp := hs.p3.at
  by_cases hx : ∃ x ∈ X, x.key = v.c.key
  · obtain ⟨x, hx, hxk⟩ := hx
    have hl := lk_hit keyOK_str hs.p5 hok.2.2.1 hx (ok := false) (z := .nils)
    simp only [Bool.false_eq_true, if_false] at hl
    rw [hxk] at hl
    simp (disch := omega) only [go_sem, simprocAttr, ha, hp, hl, ca]
    refine new_opq hs fun n2 h hs => ?_
    obtain ⟨l1, l2, rfl⟩ := List.append_of_mem hx
    have hs5 : sat h ((pto n2 (.row 2 [[.int .i64 v.rev, chV tp td v.c]] 1) :: IxP ix (putL L v.c.key (mkV v)) :: pto b (.row 6 [[.str kv.key, .str kv.val, .int .i64 kv.create, .int .i64 kv.mod, .int .i64 kv.ver, .int .i64 kv.lease]] 1) :: pto a (.row 2 [[.int .i64 v.rev, chV tp td v.c]] 1) :: pto s (.row 7 [[.int .i64 A.rev, .int .i64 A.past, .int .i64 n, .ptr ix 2 0 0, .map vm, cv, o]] 1) :: Ow 2 cv (A.chs.map (verC tp td)) :: MpA (fun k : Key => AV.str k) Vn.key Vn.v vm (l1 ++ x :: l2) :: l1.map (VnP tp td)) ++ VnP tp td x :: (l2.map (VnP tp td) ++ F)) := by simpa using hs
    have hs6 : sat h (VnP tp td x :: pto n2 (.row 2 [[.int .i64 v.rev, chV tp td v.c]] 1) :: IxP ix (putL L v.c.key (mkV v)) :: pto b (.row 6 [[.str kv.key, .str kv.val, .int .i64 kv.create, .int .i64 kv.mod, .int .i64 kv.ver, .int .i64 kv.lease]] 1) :: pto a (.row 2 [[.int .i64 v.rev, chV tp td v.c]] 1) :: pto s (.row 7 [[.int .i64 A.rev, .int .i64 A.past, .int .i64 n, .ptr ix 2 0 0, .map vm, cv, o]] 1) :: Ow 2 cv (A.chs.map (verC tp td)) :: MpA (fun k : Key => AV.str k) Vn.key Vn.v vm (l1 ++ x :: l2) :: (l1.map (VnP tp td) ++ (l2.map (VnP tp td) ++ F))) := hs5.mid
    have hxv := (hok.2.2.2.1 x (by simp)).1
    have hxl := vers_le (A := A) x.key
    rw [← hxv] at hxl
    simp (disch := omega) only [go_sem, simprocAttr]
    refine app_satO (s := 2) hs6 (src_one hs6.p1.at) (atoms_one (by simp only [List.all_cons, List.all_nil, atom_int, ca, Bool.and_self])) (by simp; omega) fun v' h hs ca' aa => ?_
    have hp := hs.p5.at
    simp (disch := omega) only [go_sem, simprocAttr, hp, ca', aa]
    rw [← hxk]
    refine mup_set keyOK_str hs.p7 hok.2.2.1 (x := x) (y := (⟨x.key, v', x.vs ++ [v]⟩ : Vn)) (by simp) rfl fun h hs => ?_
    have hX' : ((l1 ++ x :: l2).map fun z => if z.key = x.key then (⟨x.key, v', x.vs ++ [v]⟩ : Vn) else z) = l1 ++ ⟨x.key, v', x.vs ++ [v]⟩ :: l2 := by
      have hnd := hok.2.2.1
      rw [List.map_append, List.map_cons, List.nodup_append, List.nodup_cons] at hnd
      rw [List.map_append, List.map_cons, if_pos rfl]
      congr 1
      · exact (List.map_congr_left fun z hz => if_neg fun e : z.key = x.key => hnd.2.2 _ (List.mem_map_of_mem hz) _ (by simp) e).trans (List.map_id _)
      · congr 1
        exact (List.map_congr_left fun z hz => if_neg fun e : z.key = x.key => hnd.2.1.1 (e ▸ List.mem_map_of_mem hz)).trans (List.map_id _)
    rw [hX'] at hs
    have ha := hs.p5.at
    have hp := hs.p6.at
    simp (disch := omega) only [go_sem, simprocAttr, ha, hp, ca]
    refine new_opq hs fun n3 h hs => ?_
    simp (disch := omega) only [go_sem, simprocAttr]
    refine app_sat hs.p8 (src_one hs.at) (atoms_one (by simp only [List.all_cons, List.all_nil, atom_int, ca, Bool.and_self])) (by simp; omega) fun cv' h hs ca2 aa2 => ?_
    have hp := hs.p8.at
    simp (disch := omega) only [go_sem, simprocAttr, hp, ca2, aa2]
    refine ⟨ix, vm, cv', putL L v.c.key (mkV v), l1 ++ ⟨x.key, v', x.vs ++ [v]⟩ :: l2, fun ok' => ⟨ok', hix ok', vmOK_old hok.2.2 hxk⟩, ?_⟩
    have hs7 := hs.p8.set (o' := .row 7 [[.int .i64 A.rev, .int .i64 A.past, .int .i64 n, .ptr ix 2 0 0, .map vm, cv', o]] 1)
    have t1 : (A.snoc v).chs.map (verC tp td) = A.chs.map (verC tp td) ++ [[.int .i64 v.rev, chV tp td v.c]] := by simp [Sto.snoc, verC]
    rw [← t1] at hs7
    have t2 : VnP tp td ⟨x.key, v', x.vs ++ [v]⟩ = Ow 2 v' (x.vs.map (verC tp td) ++ [[.int .i64 v.rev, chV tp td v.c]]) := by simp [VnP, verC]
    rw [← t2] at hs7
    have hs8 := hs7.p2.drop.p4.drop.p5.drop.p5.drop.p2.p2.p4.p3.p4
    have hs9 := sat.unmid (l1 := [pto s (.row 7 [[.int .i64 A.rev, .int .i64 A.past, .int .i64 n, .ptr ix 2 0 0, .map vm, cv', o]] 1), IxP ix (putL L v.c.key (mkV v)), Ow 2 cv' ((A.snoc v).chs.map (verC tp td)), MpA (fun k : Key => AV.str k) Vn.key Vn.v vm (l1 ++ ⟨x.key, v', x.vs ++ [v]⟩ :: l2)] ++ l1.map (VnP tp td)) (l2 := l2.map (VnP tp td) ++ F) hs8
    simpa [MvLn, e1, e2] using hs9
  · have hl := lk_miss keyOK_str hs.p5 (q := v.c.key) (fun x h1 h2 => hx ⟨x, h1, h2⟩) (ok := false) (z := .nils)
    simp only [Bool.false_eq_true, if_false] at hl
    simp (disch := omega) only [go_sem, simprocAttr, ha, hp, hl, ca]
    refine new_opq hs fun n2 h hs => ?_
    simp (disch := omega) only [go_sem, simprocAttr]
    have hs6 : sat h (Ow 2 .nils [] :: pto n2 (.row 2 [[.int .i64 v.rev, chV tp td v.c]] 1) :: _) := hs.add ow_nil
    refine app_satO (s := 2) hs6 (src_one hs6.p1.at) (atoms_one (by simp only [List.all_cons, List.all_nil, atom_int, ca, Bool.and_self])) (by simp) fun v' h hs ca' aa => ?_
    have hp := hs.p5.at
    simp (disch := omega) only [go_sem, simprocAttr, hp, ca', aa]
    refine mup_new keyOK_str hs.p7 (y := (⟨v.c.key, v', [v]⟩ : Vn)) (fun x h1 h2 => hx ⟨x, h1, h2⟩) fun h hs => ?_
    have ha := hs.p5.at
    have hp := hs.p6.at
    simp (disch := omega) only [go_sem, simprocAttr, ha, hp, ca]
    refine new_opq hs fun n3 h hs => ?_
    simp (disch := omega) only [go_sem, simprocAttr]
    refine app_sat hs.p8 (src_one hs.at) (atoms_one (by simp only [List.all_cons, List.all_nil, atom_int, ca, Bool.and_self])) (by simp; omega) fun cv' h hs ca2 aa2 => ?_
    have hp := hs.p8.at
    simp (disch := omega) only [go_sem, simprocAttr, hp, ca2, aa2]
    refine ⟨ix, vm, cv', putL L v.c.key (mkV v), X ++ [⟨v.c.key, v', [v]⟩], fun ok' => ⟨ok', hix ok', vmOK_new hok.2.2 (fun x h1 h2 => hx ⟨x, h1, h2⟩)⟩, ?_⟩
    have hs7 := hs.p8.set (o' := .row 7 [[.int .i64 A.rev, .int .i64 A.past, .int .i64 n, .ptr ix 2 0 0, .map vm, cv', o]] 1)
    have t1 : (A.snoc v).chs.map (verC tp td) = A.chs.map (verC tp td) ++ [[.int .i64 v.rev, chV tp td v.c]] := by simp [Sto.snoc, verC]
    rw [← t1] at hs7
    have t2 : VnP tp td ⟨v.c.key, v', [v]⟩ = Ow 2 v' ([] ++ [[.int .i64 v.rev, chV tp td v.c]]) := by simp [VnP, verC]
    rw [← t2] at hs7
    have hs8 := hs7.p2.drop.p4.drop.p5.drop.p5.drop.p2.p2.p4.p3.p4
    have hs9 := sat.unmid (l1 := [pto s (.row 7 [[.int .i64 A.rev, .int .i64 A.past, .int .i64 n, .ptr ix 2 0 0, .map vm, cv', o]] 1), IxP ix (putL L v.c.key (mkV v)), Ow 2 cv' ((A.snoc v).chs.map (verC tp td)), MpA (fun k : Key => AV.str k) Vn.key Vn.v vm (X ++ [⟨v.c.key, v', [v]⟩])] ++ X.map (VnP tp td)) (l2 := F) hs8
    simpa [MvLn, e1, e2] using hs9
theorem mvNote {v : Ver} (hs : sat h (MvN tp td s n A o :: F)) (ok' : StoOK (A.snoc v)) (hz : A.old.length + A.chs.length ≤ 90000000) (hr : A.rev ≤ 1000000000000000) : Triple Try.prog 35 [.ptr s 7 0 0, .agg (verC tp td v)] h (fun r h => sat h (MvN tp td s n (A.snoc v) o :: F)) := by
  have hvr := ok'.chr v (by simp [Sto.snoc])
  have hpa := ok'.past
  have e1 : (A.snoc v).rev = A.rev := rfl
  have e2 : (A.snoc v).past = A.past := rfl
  exact (mvNoteG hs (by unfold inI; omega) hz).mono fun r h ⟨ix, vm, cv, L, X, h1, h2⟩ => mvN.2 ⟨ix, vm, cv, L, X, h1 ok', h2⟩
end
end Go.Proofs.Ytkclojjeepomfaa
/- The store: a write is done; keys are deleted. -/
set_option linter.unusedSimpArgs false
set_option linter.unusedVariables false
set_option maxRecDepth 10000
namespace Go.Proofs.Ytkclojjeepomfaa
open Go.Hz

section
variable {h : Hp} {F : List Asr} {s w : Nat} {A : Sto} {o : AV} {W : Wr}
theorem mvDone (hs : sat h (WtP w s A W :: StP s A (.ptr w 4 0 0) :: F)) (hz : A.old.length + A.chs.length + W.l.length ≤ 80000000) (hr : A.rev ≤ 100000000000000) : Triple Try.prog 15 [.ptr w 4 0 0] h (fun r h => r = .int .i64 (stDone A W).rev ∧ sat h (StP s (stDone A W) .nilp :: F)) := by
  have ok := MvP.ok hs.p1
  have hpa := ok.past
  have hre := ok.rev
  obtain ⟨lv0, bm0, hw, hs0⟩ := wrP.1 hs
  have hp0 := hs0.at
  refine t15 (Nat.le_of_ble_eq_true rfl) ?_
  simp (disch := omega) only [F15, hp0, go_sem, simprocAttr]
  refine call_use (mvClosed hs) ?_
  rintro r h ⟨hr, hs⟩
  subst hr
  simp (disch := omega) only [go_sem, simprocAttr]
  obtain ⟨lv, bm, _, hs1⟩ := wrP.1 hs
  obtain ⟨ix, vm, cv, L, X, hok, hs2⟩ := mvP.1 hs1.p3
  have hq := hs2.at
  have hs3 : sat h (pto s (.row 7 [[.int .i64 A.rev, .int .i64 A.past, .int .i64 A.now.length, .ptr ix 2 0 0, .map vm, cv, .ptr w 4 0 0]] 1) :: IxP ix L :: Ow 2 cv (A.chs.map (verC tp td)) :: MpA (fun k : Key => AV.str k) Vn.key Vn.v vm X :: (X.map (VnP tp td) ++ (pto w (.row 4 [[.ptr s 7 0 0, lv, .map bm, .int .i64 W.cur.length]] 1) :: Ow 1 lv (W.l.map fun c => [chV tp td c]) :: MpA (fun k : Key => AV.str k) Ch.key (chV tp td) bm W.l :: F))) := hs2
  have hs4 := hs3.set (o' := .row 7 [[.int .i64 A.rev, .int .i64 A.past, .int .i64 A.now.length, .ptr ix 2 0 0, .map vm, cv, .nilp]] 1)
  have mk : ∀ {h : Hp}, sat h (pto s (.row 7 [[.int .i64 A.rev, .int .i64 A.past, .int .i64 A.now.length, .ptr ix 2 0 0, .map vm, cv, .nilp]] 1) :: IxP ix L :: Ow 2 cv (A.chs.map (verC tp td)) :: MpA (fun k : Key => AV.str k) Vn.key Vn.v vm X :: (X.map (VnP tp td) ++ (pto w (.row 4 [[.ptr s 7 0 0, lv, .map bm, .int .i64 W.cur.length]] 1) :: Ow 1 lv (W.l.map fun c => [chV tp td c]) :: MpA (fun k : Key => AV.str k) Ch.key (chV tp td) bm W.l :: F))) →
      sat h (StP s A .nilp :: pto w (.row 4 [[.ptr s 7 0 0, lv, .map bm, .int .i64 W.cur.length]] 1) :: Ow 1 lv (W.l.map fun c => [chV tp td c]) :: MpA (fun k : Key => AV.str k) Ch.key (chV tp td) bm W.l :: F) := fun hs => mvP.2 ⟨ix, vm, cv, L, X, hok, hs⟩
  have hs5 := mk hs4
  have hw5 := hs5.p1.at
  have hlv := hs5.p2.els.len
  rw [List.length_map] at hlv
  have hsq := hs4.at
  simp (disch := omega) only [go_sem, simprocAttr, hq, hw5, hlv]
  by_cases hl : W.l = []
  · have e0 : ((W.l.length : Int) == 0) = true := by rw [hl]; rfl
    have ef : stDone A W = A := by rw [stDone, if_pos hl]
    rw [ef]
    simp (disch := omega) only [go_sem, simprocAttr, e0, hsq]
    exact hs5.p1.drop.p1.drop.p1.drop
  have e0 : ((W.l.length : Int) == 0) = false := by
    have := List.length_pos_iff.2 hl
    simp; omega
  have okd := stDone_ok ok hw
  have ed : stDone A W = ⟨A.rev + 1, A.past, A.old, A.chs ++ W.l.map fun c => ⟨A.rev + 1, c⟩⟩ := by rw [stDone, if_neg hl]
  have hnow := stDone_now hw
  rw [ed] at okd hnow ⊢
  have ok0 : StoOK ⟨A.rev + 1, A.past, A.old, A.chs⟩ := stOK_front okd
  have mkN : ∀ {h : Hp} {n : Int}, sat h (pto s (.row 7 [[.int .i64 (A.rev + 1), .int .i64 A.past, .int .i64 n, .ptr ix 2 0 0, .map vm, cv, .nilp]] 1) :: IxP ix L :: Ow 2 cv (A.chs.map (verC tp td)) :: MpA (fun k : Key => AV.str k) Vn.key Vn.v vm X :: (X.map (VnP tp td) ++ (pto w (.row 4 [[.ptr s 7 0 0, lv, .map bm, .int .i64 W.cur.length]] 1) :: Ow 1 lv (W.l.map fun c => [chV tp td c]) :: MpA (fun k : Key => AV.str k) Ch.key (chV tp td) bm W.l :: F))) →
      sat h (MvN tp td s n ⟨A.rev + 1, A.past, A.old, A.chs⟩ .nilp :: pto w (.row 4 [[.ptr s 7 0 0, lv, .map bm, .int .i64 W.cur.length]] 1) :: Ow 1 lv (W.l.map fun c => [chV tp td c]) :: MpA (fun k : Key => AV.str k) Ch.key (chV tp td) bm W.l :: F) := fun hs => mvN.2 ⟨ix, vm, cv, L, X, ⟨ok0, hok.2.1, hok.2.2⟩, hs⟩
  generalize Hp.set h s _ = h4 at hs4 hs5 hw5 hsq ⊢
  have hs6 := hs4.set (o' := .row 7 [[.int .i64 (A.rev + 1), .int .i64 A.past, .int .i64 A.now.length, .ptr ix 2 0 0, .map vm, cv, .nilp]] 1)
  have hw6 := (mkN hs6).p1.at
  have hs7 := hs6.set (o' := .row 7 [[.int .i64 (A.rev + 1), .int .i64 A.past, .int .i64 W.cur.length, .ptr ix 2 0 0, .map vm, cv, .nilp]] 1)
  have hs8 := mkN hs7
  have hw8 := hs8.p1.at
  rw [Hp.set_set] at hs8 hw8
  simp (disch := omega) only [go_sem, simprocAttr, e0, hsq, hw6, hw8, hlv]
  generalize Hp.set h4 s _ = h5 at hs8 hw8 ⊢
  rcases hs8.p2.cases with ⟨_, hn0, _⟩ | ⟨b, cap, hv, hs9, hle⟩
  · exact absurd (List.map_eq_nil_iff.1 hn0) hl
  subst hv
  have hll : (W.l.map fun c => [chV tp td c]).length = W.l.length := by simp
  rw [hll] at hle
  simp only [hll]
  refine run_up (N := W.l.length) (fun i e h => sat h (MvN tp td s W.cur.length ⟨A.rev + 1, A.past, A.old, A.chs ++ (W.l.take i).map fun c => ⟨A.rev + 1, c⟩⟩ .nilp :: pto b (.row 1 (W.l.map fun c => [chV tp td c]) cap) :: F) ∧
    (e 3 = .ptr s 7 0 0 ∧ e 46 = .arr b 1 0 W.l.length cap ∧ e 47 = .int .i64 W.l.length ∧ e 48 = .int .i64 i)) ⟨?_, rfl, rfl, rfl, rfl⟩ ?_
  · have : A.chs ++ ((W.l.take 0).map fun c => (⟨A.rev + 1, c⟩ : Ver)) = A.chs := by simp
    rw [this]
    exact hs9.p2.drop.p2.drop.p1
  clear hs hs0 hs1 hs2 hs3 hs4 hs5 hs6 hs7 hs8 hs9 hp0 hw5 hw6 hw8 hsq hq
  rintro i e h hi ⟨hs, he⟩
  have m1 : (i : Int) + 1 = ((i + 1 : Nat) : Int) := by omega
  simp (disch := omega) only [go_sem, simprocAttr, he]
  refine cnd_dec (fun h1 => ?_) (fun h1 => ?_)
  · have hi : i < W.l.length := by omega
    have hb := hs.p1.at
    have hrow : (W.l.map fun c => [chV tp td c])[i]? = some [chV tp td W.l[i]] := by simp [hi]
    obtain ⟨ix', vm', cv', L', X', hok', hs2⟩ := mvN.1 hs
    have hq := hs2.at
    simp (disch := omega) only [go_sem, simprocAttr, he, hb, hrow, hq, Int.toNat_natCast]
    have hsn : (⟨A.rev + 1, A.past, A.old, A.chs ++ (W.l.take i).map fun c => ⟨A.rev + 1, c⟩⟩ : Sto).snoc ⟨A.rev + 1, W.l[i]⟩ = ⟨A.rev + 1, A.past, A.old, A.chs ++ (W.l.take (i + 1)).map fun c => ⟨A.rev + 1, c⟩⟩ := by
      unfold Sto.snoc
      rw [List.take_succ_eq_append_getElem hi]
      simp only [List.map_append, List.map_cons, List.map_nil, List.append_assoc]
    have hok2 : StoOK ⟨A.rev + 1, A.past, A.old, A.chs ++ (W.l.take (i + 1)).map fun c => ⟨A.rev + 1, c⟩⟩ := by
      have h2 : (A.chs ++ W.l.map fun c => (⟨A.rev + 1, c⟩ : Ver)) = (A.chs ++ (W.l.take (i + 1)).map fun c => (⟨A.rev + 1, c⟩ : Ver)) ++ (W.l.drop (i + 1)).map fun c => (⟨A.rev + 1, c⟩ : Ver) := by
        rw [List.append_assoc, ← List.map_append, List.take_append_drop]
      rw [h2] at okd
      exact stOK_front okd
    have hcc := chV_cells (tp := tp) (td := td) W.l[i]
    have hn := mvNote (v := ⟨A.rev + 1, W.l[i]⟩) hs (by rw [hsn]; exact hok2) (by simp only [List.length_append, List.length_map, List.length_take]; omega) (by show A.rev + 1 ≤ _; omega)
    rw [hsn] at hn
    have hca := chV_atom (tp := tp) (td := td) W.l[i]
    simp (disch := omega) only [go_sem, simprocAttr, hcc, hca]
    refine call_use hn ?_
    intro r h hs
    simp (disch := omega) only [go_sem, simprocAttr, he, m1]
    exact ⟨by omega, hs⟩
  · have hi : i = W.l.length := by omega
    subst hi
    rw [List.take_length] at hs
    obtain ⟨ix', vm', cv', L', X', hok', hs2⟩ := mvN.1 hs
    have hq := hs2.at
    simp (disch := omega) only [go_sem, simprocAttr, he, hq]
    rw [← hnow] at hs
    exact hs.d1
theorem mvWKeysR {lo hi : Key} (hs : sat h (WtP w s A W :: StP s A o :: F)) (hz : A.old.length + A.chs.length + W.l.length ≤ 40000000) : Triple Try.prog 36 [.ptr w 4 0 0, .str lo, .str hi] h (fun r h => ∃ ks, WKeys A W lo hi ks ∧ r = strsV ks ∧ sat h (WtP w s A W :: StP s A o :: F)) := mvWKeys hs (by omega)
theorem mvDel {lo hi : Key} (hs : sat h (WtP w s A W :: StP s A (.ptr w 4 0 0) :: F)) (hz : A.old.length + A.chs.length + W.l.length ≤ 40000000) : Triple Try.prog 16 [.ptr w 4 0 0, .str lo, .str hi] h (fun r h => ∃ ks, WKeys A W lo hi ks ∧ r = .int .i64 (wDels W ks).1 ∧ sat h (WtP w s A (wDels W ks).2 :: StP s A (.ptr w 4 0 0) :: F)) := by
  have ok := MvP.ok hs.p1
  have hkey := now_keys ok
  refine t16 (Nat.le_of_ble_eq_true rfl) ?_
  simp (disch := omega) only [F16, go_sem, simprocAttr]
  refine call_use (mvClosed hs) ?_
  rintro r h ⟨hr, hs⟩
  subst hr
  simp (disch := omega) only [go_sem, simprocAttr]
  refine call_use (mvWKeysR (lo := lo) (hi := hi) hs hz) ?_
  rintro v h ⟨ks, hk, hv, hs⟩
  subst hv
  have hw := WrP.ok hs
  have hkl := hk.2.1
  have lenK : lenL (strsV ks) = some (.int .i64 ks.length) := by simp [strsV, lenL]
  simp (disch := omega) only [go_sem, simprocAttr, lenK]
  refine run_up (N := ks.length) (fun i e h => sat h (WtP w s A (wDels W (ks.take i)).2 :: StP s A (.ptr w 4 0 0) :: F) ∧ (e 0 = .ptr w 4 0 0 ∧ e 7 = .int .i64 (wDels W (ks.take i)).1 ∧ e 19 = strsV ks ∧ e 20 = .int .i64 ks.length ∧ e 21 = .int .i64 i)) ⟨hs, rfl, rfl, rfl, rfl, rfl⟩ ?_
  clear hs
  rintro i e h hi ⟨hs, he⟩
  have m1 : (i : Int) + 1 = ((i + 1 : Nat) : Int) := by omega
  simp (disch := omega) only [go_sem, simprocAttr, he, m1]
  refine cnd_dec (fun h1 => ?_) (fun h1 => ?_)
  · have hi : i < ks.length := by omega
    have hik : iaA 1 (strsV ks) (.int .i64 (i : Int)) = some (.ro [.str ks[i]]) := ia_lst (f := fun k => [AV.str k]) hi fun _ => rfl
    have hst : wDels W (ks.take (i + 1)) = ((wDels W (ks.take i)).1 + (wDel1 (wDels W (ks.take i)).2 ks[i]).1, (wDel1 (wDels W (ks.take i)).2 ks[i]).2) := by
      rw [List.take_succ_eq_append_getElem hi]; exact wDels_snoc
    have hbnd := wDels_len (ks := ks.take i) (W := W)
    rw [List.length_take] at hbnd
    generalize hWi : wDels W (ks.take i) = Wi at hs he hst hbnd
    obtain ⟨ni, Wi⟩ := Wi
    simp only [] at hs he hst hbnd
    have hwi := WrP.ok hs
    obtain ⟨lv, bm, _, hs1⟩ := wrP.1 hs
    have hp := hs1.at
    obtain ⟨tw, hl⟩ : ∃ v, lkA true true .nili h (.map bm) (.str ks[i]) = some (.tup [v, .bool (wChg Wi ks[i])]) := by
      cases hc : wChg Wi ks[i] with
      | true =>
        obtain ⟨c, hcm, hck⟩ := wChg_t hc
        rw [← hck]
        exact ⟨_, lk_hit keyOK_str hs1.p2 hwi.nd hcm⟩
      | false => exact ⟨_, lk_miss keyOK_str hs1.p2 (wChg_f hc)⟩
    simp (disch := omega) only [go_sem, simprocAttr, he, hik, hp, hl]
    refine call_use (mvNow (key := ks[i]) hs (by omega)) ?_
    rintro r h ⟨hr, hs⟩
    subst hr
    simp (disch := omega) only [go_sem, simprocAttr]
    refine new_opq hs fun a h hs => ?_
    have ha := hs.at
    generalize hkv : (kvget Wi.cur ks[i]).getD kv0 = kv
    have hs2 := hs.set (o' := .row 6 [kvC kv] 1)
    simp only [kvC] at hs2
    simp (disch := omega) only [go_sem, simprocAttr, ha, kvC, he]
    generalize Hp.set h a _ = h2 at hs2 ⊢
    by_cases hskip : wChg Wi ks[i] = true ∨ kvget Wi.cur ks[i] = none
    · have e1 : wDel1 Wi ks[i] = (0, Wi) := by rw [wDel1, if_pos hskip]
      rw [e1] at hst
      simp only [Nat.add_zero] at hst
      rw [hst]
      cases hg : kvget Wi.cur ks[i] with
      | none =>
        simp (disch := omega) only [go_sem, simprocAttr, Option.isSome_none, he, m1]
        exact ⟨by omega, hs2.drop⟩
      | some y =>
        have hc : wChg Wi ks[i] = true := by rcases hskip with h | h; exact h; rw [hg] at h; cases h
        simp (disch := omega) only [go_sem, simprocAttr, Option.isSome_some, hc, he, m1]
        exact ⟨by omega, hs2.drop⟩
    · have hc : wChg Wi ks[i] = false := by simpa using fun h => hskip (.inl h)
      obtain ⟨y, hy⟩ : ∃ y, kvget Wi.cur ks[i] = some y := by
        cases hg : kvget Wi.cur ks[i] with
        | none => exact absurd (.inr hg) hskip
        | some y => exact ⟨y, rfl⟩
      have e1 : wDel1 Wi ks[i] = (1, ⟨done Wi.cur (.del ks[i]), Wi.l ++ [.del ks[i]]⟩) := by rw [wDel1, if_neg hskip]
      rw [e1] at hst
      rw [hst]
      have hyk : ks[i] ≠ [] ∧ ks[i].length ≤ 100 := by
        have h3 := hy
        rw [now_same ok hwi hc] at h3
        obtain ⟨h4, h5⟩ := kvget_some h3
        rw [← h5]; exact hkey y h4
      simp (disch := omega) only [go_sem, simprocAttr, hy, Option.isSome_some, hc, he]
      obtain ⟨lv2, bm2, _, hs3⟩ := wrP.1 hs2.p1
      have hlay : Triple Try.prog 34 [.ptr w 4 0 0, chV tp td (.del ks[i])] _ _ := mvLay hwi hs3 (by omega) hc hyk (fun _ => by show kvget Wi.cur ks[i] ≠ none; rw [hy]; simp) (fun _ h => by cases h)
      refine call_use hlay ?_
      rintro r h ⟨lv4, hok', hs⟩
      have hp := hs.at
      have hpos : 0 < Wi.cur.length := List.length_pos_of_mem (kvget_some hy).1
      have hcl := cur_le hwi
      have m3 : (ni : Int) + 1 = ((ni + 1 : Nat) : Int) := by omega
      simp (disch := omega) only [go_sem, simprocAttr, he, hp, m1, m3]
      have hdl := done_len (c := .del ks[i]) (hwi.srt ok)
      rw [show (Ch.del ks[i]).key = ks[i] from rfl, hy] at hdl
      have hdl2 : ((done Wi.cur (.del ks[i])).length : Int) = (Wi.cur.length : Int) - 1 := by rw [hdl]; simp [Ch.kv]; omega
      refine ⟨by omega, wrP.2 ⟨lv4, bm2, hok', ?_⟩⟩
      rw [hdl2]
      exact hs.set.p3.drop.p3.p3.p3.p3
  · have hi : i = ks.length := by omega
    subst hi
    rw [List.take_length] at hs he
    simp (disch := omega) only [go_sem, simprocAttr, he]
    exact ⟨ks, hk, rfl, hs⟩
end
end Go.Proofs.Ytkclojjeepomfaa
/- within, the chapter's example. -/
set_option linter.unusedSimpArgs false
set_option linter.unusedVariables false
set_option maxRecDepth 10000
namespace Go.Proofs.Ytkclojjeepomfaa
open Go.Hz

/-- A number from 0 to n - 1. -/
theorem within8 {h : Hp} {F : List Asr} (hs : sat h F) {a : Int} {n : Nat} (h1 : -9223372036854775808 ≤ a) (h2 : a ≤ 9223372036854775807) (hn : 0 < n) (hn2 : n ≤ 4611686018427387904) :
    Triple Try.prog 12 [.int .i64 a, .int .i64 n] h (fun r h => ∃ k : Nat, r = .int .i64 k ∧ (k : Int) = a % n ∧ k < n ∧ sat h F) := by
  have m1 := Int.tmod_lt_of_pos a (b := n) (by omega)
  have m2 : -(n : Int) < a.tmod n := by
    have := Int.tmod_lt_of_pos (-a) (b := n) (by omega)
    rw [Int.neg_tmod] at this
    omega
  have hn0 : ¬ (n : Int) = 0 := by omega
  have e := Int.mul_tdiv_add_tmod a n
  have em : a % n = (a.tmod n) % n := by
    conv => lhs; rw [← e]
    rw [Int.mul_add_emod_self_left]
  refine t12 (Nat.le_of_ble_eq_true rfl) ?_
  simp (disch := omega) only [F12, hn0, go_sem, simprocAttr]
  refine cnd_dec (fun hc => ?_) (fun hc => ?_)
  · simp (disch := omega) only [go_sem, simprocAttr]
    refine ⟨(a.tmod n + n).toNat, by congr 1; omega, ?_, by omega, hs⟩
    rw [em, ← Int.add_emod_right, Int.emod_eq_of_lt (by omega) (by omega)]
    omega
  · simp (disch := omega) only [go_sem, simprocAttr]
    refine ⟨(a.tmod n).toNat, by congr 1; omega, ?_, by omega, hs⟩
    rw [em, Int.emod_eq_of_lt (by omega) (by omega)]
    omega

def KA (i : Nat) : Sto := ⟨i, 0, [], (List.range i).map fun (j : Nat) => ⟨(j : Int) + 1, .put ⟨[97], [120], 1, (j : Int) + 1, (j : Int) + 1, 0⟩⟩⟩
theorem KA_step0 : stDone (KA 0) (wPut ((KA 0).rev + 1) ⟨(KA 0).now, []⟩ [97] [120] 0).2 = KA 1 := by rfl
theorem KA_step1 : stDone (KA 1) (wPut ((KA 1).rev + 1) ⟨(KA 1).now, []⟩ [97] [120] 0).2 = KA 2 := by rfl
section
variable {h : Hp} {F : List Asr}
theorem known8 (hs : sat h F) : Triple Try.prog 10 [] h (fun r h => r = .bool true ∧ sat h F) := by
  refine t10 (Nat.le_of_ble_eq_true rfl) ?_
  simp (disch := omega) only [F10, go_sem, simprocAttr]
  refine call_use (mvNew hs) ?_
  rintro r h ⟨s, hr, hs⟩
  subst hr
  simp (disch := omega) only [go_sem, simprocAttr]
  refine blk_join (Q := fun e h => ∃ o, sat h (StP s (KA 2) o :: F) ∧ (e 1 = .ptr s 7 0 0)) ?_ ?_
  · refine run_up (N := 2) (fun i e h => ∃ o, sat h (StP s (KA i) o :: F) ∧ (e 1 = .ptr s 7 0 0 ∧ e 2 = .int .i64 i)) ⟨.nilp, hs, rfl, rfl⟩ ?_
    clear hs
    rintro i e h hi ⟨o, hs, he⟩
    have m1 : (i : Int) + 1 = ((i + 1 : Nat) : Int) := by omega
    simp (disch := omega) only [go_sem, simprocAttr, he, m1]
    refine cnd_dec (fun h1 => ?_) (fun h1 => ?_)
    · have hi : i < 2 := by omega
      simp (disch := omega) only [go_sem, simprocAttr, he]
      refine call_use (mvWrite hs) ?_
      rintro r h ⟨w, hr, hs⟩
      subst hr
      simp (disch := omega) only [go_sem, simprocAttr, he]
      have hKl : (KA i).chs.length = i := by simp [KA]
      have hKn : (KA i).now.length ≤ i := by
        have := doneL_le (cs := (KA i).chs.map Ver.c) (l := (KA i).old)
        rw [List.length_map, hKl] at this
        simpa [Sto.now, KA] using this
      refine call_use (mvPut (key := [97]) (val := [120]) (lease := 0) hs (by omega) (by simp) (by show (KA i).now.length ≤ _; omega) (by show (i : Int) ≤ _; omega)) ?_
      rintro r h ⟨hr, hs⟩
      subst hr
      simp (disch := omega) only [go_sem, simprocAttr, he]
      refine call_use (mvDone hs ?_ (by show (i : Int) ≤ _; omega)) ?_
      · have : (wPut ((KA i).rev + 1) ⟨(KA i).now, []⟩ [97] [120] 0).2.l.length ≤ 1 := by
          unfold wPut; split <;> (try split) <;> (try split) <;> (try split) <;> simp
        have h0 : (KA i).old.length = 0 := rfl
        omega
      rintro r h ⟨hr, hs⟩
      subst hr
      simp (disch := omega) only [go_sem, simprocAttr, he, m1]
      refine ⟨by omega, .nilp, ?_⟩
      match i, hi, hs with
      | 0, _, hs => rw [KA_step0] at hs; exact hs
      | 1, _, hs => rw [KA_step1] at hs; exact hs
    · have hi : i = 2 := by omega
      subst hi
      simp (disch := omega) only [go_sem, simprocAttr, he]
      exact ⟨o, hs⟩
  clear hs
  rintro e h ⟨o, hs, he⟩
  simp (disch := omega) only [go_sem, simprocAttr, he]
  have e1 : stRange (KA 2) [97] [] 1 0 = ([⟨[97], [120], 1, 1, 1, 0⟩], 1, 0) := by rfl
  refine call_use (mvRange (lo := [97]) (hi := []) (rev := 1) (lim := 0) hs (by decide)) ?_
  rintro r h ⟨hr, hs⟩
  subst hr
  simp (disch := omega) only [go_sem, simprocAttr, e1, he]
  refine call_use (mvWrite hs) ?_
  rintro r h ⟨w, hr, hs⟩
  subst hr
  have ei : iaA 6 (kvsV [⟨[97], [120], 1, 1, 1, 0⟩]) (.int .i64 0) = some (.ro [AV.str [97], .str [120], .int .i64 1, .int .i64 1, .int .i64 1, .int .i64 0]) := by rfl
  simp (disch := omega) only [go_sem, simprocAttr, he, kvC, ei]
  have hrv := mvRev hs.p1
  refine call_use hrv ?_
  rintro r h ⟨hr, hs⟩
  subst hr
  have e2 : (((KA 2).rev) == 2) = true := rfl
  simp (disch := omega) only [go_sem, simprocAttr, e2]
  refine call_use (mvDel (lo := [97]) (hi := []) hs.p1 (by decide)) ?_
  rintro r h ⟨ks, hk, hr, hs⟩
  subst hr
  have hk2 := hk.2.2
  rw [if_pos rfl] at hk2
  subst hk2
  have e3 : ((((wDels ⟨(KA 2).now, []⟩ [[97]]).1 : Nat) : Int) == 1) = true := by rfl
  simp (disch := omega) only [go_sem, simprocAttr, e3]
  refine call_use (mvDone hs (by decide) (by decide)) ?_
  rintro r h ⟨hr, hs⟩
  subst hr
  have e4 : ((stDone (KA 2) (wDels ⟨(KA 2).now, []⟩ [[97]]).2).rev == 3) = true := by rfl
  simp (disch := omega) only [go_sem, simprocAttr, e4]
  exact hs.drop
end
end Go.Proofs.Ytkclojjeepomfaa
/- The law MvccRanges, walked. -/
set_option linter.unusedSimpArgs false
set_option linter.unusedVariables false
set_option maxRecDepth 10000
namespace Go.Proofs.Ytkclojjeepomfaa
open Go.Hz

section
end
end Go.Proofs.Ytkclojjeepomfaa
/- The law MvccFull, walked. -/
set_option linter.unusedSimpArgs false
set_option linter.unusedVariables false
set_option maxRecDepth 10000
namespace Go.Proofs.Ytkclojjeepomfaa
open Go.Hz

/-! ### so many keys, rising -/
def kf (i : Nat) : Key := [107, UInt8.ofNat (i / 256), UInt8.ofNat (i % 256)]
section
variable {h : Hp} {F : List Asr}
end
end Go.Proofs.Ytkclojjeepomfaa
/- Calls of a store; the law MvccEvents, walked. -/
set_option linter.unusedSimpArgs false
set_option linter.unusedVariables false
set_option maxRecDepth 10000
namespace Go.Proofs.Ytkclojjeepomfaa
open Go.Hz

section
variable {h : Hp} {F : List Asr}
theorem few8 (hs : sat h F) {c : Cl8} (hc : c.ok) : Triple Try.prog 19 [.agg c.row] h (fun r h => ∃ b, r = .bool b ∧ (b = true → c.does.length ≤ 30) ∧ sat h F) := by
  obtain ⟨_, _, _, h1, h2, h3, h4⟩ := hc
  have lenD := len_doesV c.does
  refine t19 (Nat.le_of_ble_eq_true rfl) ?_
  simp (disch := omega) only [F19, Cl8.row, atom_doesV, cells_doesV, go_sem, simprocAttr]
  refine new_opq hs fun a h hs => ?_
  have ha := hs.at
  simp (disch := omega) only [go_sem, simprocAttr, ha]
  refine run_up (N := c.does.length) (fun i e h => sat h (pto a (.row 6 [c.row] 1) :: F) ∧ ∃ n : Int, 0 ≤ n ∧ n ≤ 2097152 + 3145728 * i ∧ (e 1 = .ptr a 6 0 0 ∧ e 3 = .int .i64 n ∧ e 4 = .int .i64 i)) ⟨hs, _, ?_, ?_, rfl, rfl, rfl⟩ ?_
  · omega
  · omega
  clear hs ha
  rintro i e h hi ⟨hs, n, n1, n2, he⟩
  have ha := hs.at
  simp only [Cl8.row] at ha
  have m1 : (i : Int) + 1 = ((i + 1 : Nat) : Int) := by omega
  simp (disch := omega) only [go_sem, simprocAttr, he, ha, lenD, m1]
  refine cnd_dec (fun g1 => ?_) (fun g1 => ?_)
  · have hi' : i < c.does.length := by omega
    have hia := at_doesV hi'
    obtain ⟨_, _, k1, k2, k3⟩ := h4 _ (List.getElem_mem hi')
    generalize c.does[i] = d at hia k1 k2 k3
    obtain ⟨z, hz, z1, z2⟩ : ∃ z : Int, (if (65536 : Int) < (d.val.length : Int) then (65536 : Int) else (d.val.length : Int)) = z ∧ 0 ≤ z ∧ z ≤ 1048576 := by
      split
      · exact ⟨_, rfl, by omega, by omega⟩
      · exact ⟨_, rfl, by omega, by omega⟩
    simp (disch := omega) only [go_sem, simprocAttr, he, ha, hia, hz, m1]
    exact ⟨by omega, hs, _, by omega, by omega, rfl⟩
  · simp (disch := omega) only [go_sem, simprocAttr, he, ha, lenD]
    refine cnd_bool (fun q => ?_) (fun q => ?_)
    · simp (disch := omega) only [go_sem, simprocAttr, he, q]
      exact ⟨_, rfl, fun _ => by simp at q; omega, hs.drop⟩
    · simp (disch := omega) only [go_sem, simprocAttr, he, q]
      exact ⟨false, rfl, fun h => (by simp at h), hs.drop⟩
end
end Go.Proofs.Ytkclojjeepomfaa
/- pen's writer and reader: what each call does to bytes. -/
set_option linter.unusedSimpArgs false
set_option linter.unusedVariables false
set_option maxRecDepth 10000
namespace Go.Proofs.Ytkclojjeepomfaa
open Go.Hz

/-- A writer at p that has written bs, no more than k bytes. -/
def Pwr (p : Nat) (bs : List UInt8) (k : Nat) : Asr := fun h => bs.length ≤ k ∧ ∃ v, sat h [pto p (.row 1 [[v]] 1), Ow 1 v (bs.map eb)]
theorem Pwr.iff {h : Hp} {p : Nat} {bs : List UInt8} {k : Nat} {F : List Asr} : sat h (Pwr p bs k :: F) ↔ bs.length ≤ k ∧ ∃ v, sat h (pto p (.row 1 [[v]] 1) :: Ow 1 v (bs.map eb) :: F) := by
  unfold Pwr
  rw [sat_and, sat_ex]
  simp only [sat_sl, List.cons_append, List.nil_append]

section
variable {h : Hp} {F : List Asr} {p k : Nat} {bs : List UInt8}

theorem number (hs : sat h (Pwr p bs k :: F)) {size : Nat} (hsz : size ≤ 8) (n : Int) (hb : k ≤ 1000000000000) :
    Triple Try.prog 80 [.ptr p 1 0 0, .int .i64 size, .int .i64 n] h (fun r h => r = .tup [] ∧ sat h (Pwr p (bs ++ beB size n) (k + size) :: F)) := by
  have hk0 := (Pwr.iff.1 hs).1
  refine t80 (Nat.le_of_ble_eq_true rfl) ?_
  simp (disch := omega) only [F80, go_sem, simprocAttr]
  refine run_loop (fun e h => ∃ (j : Nat) (a : List UInt8), j ≤ size ∧ a.length = size - j ∧ a ++ beB j n = beB size n ∧ (e 0 = .ptr p 1 0 0 ∧ e 2 = .int .i64 n ∧ e 6 = .int .i64 (j - 1)) ∧ sat h (Pwr p (bs ++ a) (k + size) :: F))
    (fun e _ => match e 6 with | .int _ j => (j + 1).toNat | _ => 0) ?_ ?_
  · refine ⟨size, [], Nat.le_refl _, by simp, rfl, ⟨rfl, rfl, rfl⟩, ?_⟩
    obtain ⟨g1, g2⟩ := Pwr.iff.1 hs
    exact Pwr.iff.2 ⟨by simp; omega, by simpa using g2⟩
  · rintro e h ⟨j, a, hj, hal, ha, he, hs⟩
    obtain ⟨hk, v, hs⟩ := Pwr.iff.1 hs
    have hp := hs.at
    simp (disch := omega) only [go_sem, simprocAttr, he]
    refine cnd_dec (fun hc => ?_) (fun hc => ?_)
    · simp (disch := omega) only [go_sem, simprocAttr, he, hp]
      refine ⟨by omega, ?_⟩
      refine new_sat hs fun b hb hs => ?_
      simp (disch := omega) only [go_sem, simprocAttr, he]
      have hy := src_row1 hs.at 1
      rw [bz_cell n j (by omega) (by omega)] at hy
      rw [bz_cell n j (by omega) (by omega)] at hs
      rw [bz_cell n j (by omega) (by omega)]
      refine app_sat hs.p2 hy (atoms_eb _) (by simp at hk ⊢; omega) fun v' h hs hc' ha' => ?_
      have hp := hs.p2.at
      simp (disch := omega) only [go_sem, simprocAttr, he, hp, hc', ha']
      refine ⟨⟨j - 1, a ++ [bz n (j - 1)], by omega, by simp; omega, ?_, by congr 1; omega, Pwr.iff.2 ⟨by simp at hk ⊢; omega, v', ?_⟩⟩, by omega⟩
      · rw [← ha]
        obtain ⟨i, rfl⟩ : ∃ i, j = i + 1 := ⟨j - 1, by omega⟩
        simp [beB]
      · have := hs.p2.set (o' := .row 1 [[v']] 1)
        simpa using this.d2
    · simp (disch := omega) only [go_sem, simprocAttr, he]
      have hj0 : j = 0 := by omega
      subst hj0
      exact Pwr.iff.2 ⟨by simpa [← ha, beB] using hk, v, by simpa [← ha, beB] using hs⟩

theorem newWriter (hs : sat h F) : Triple Try.prog 51 [] h (fun r h => ∃ p, r = .ptr p 1 0 0 ∧ sat h (Pwr p [] 0 :: F)) := by
  refine t51 (Nat.le_of_ble_eq_true rfl) ?_
  simp (disch := omega) only [F51, go_sem, simprocAttr]
  refine new_use fun n hn => ?_
  simp (disch := omega) only [go_sem, simprocAttr]
  exact ⟨n, rfl, Pwr.iff.2 ⟨Nat.le_refl _, .nils, (hs.add ow_nil).new hn⟩⟩

theorem wU8 (hs : sat h (Pwr p bs k :: F)) (n : Int) (hb : k ≤ 1000000000000) :
    Triple Try.prog 56 [.ptr p 1 0 0, .int .i64 n] h (fun r h => r = .tup [] ∧ sat h (Pwr p (bs ++ beB 1 n) (k + 1) :: F)) := by
  refine t56 (Nat.le_of_ble_eq_true rfl) ?_
  simp (disch := omega) only [F56, go_sem, simprocAttr]
  refine call_use (number hs (size := 1) (by omega) n hb) ?_
  rintro r h ⟨hr, hs⟩
  subst hr
  simp (disch := omega) only [go_sem, simprocAttr]
  exact hs
theorem wU32 (hs : sat h (Pwr p bs k :: F)) (n : Int) (hb : k ≤ 1000000000000) :
    Triple Try.prog 79 [.ptr p 1 0 0, .int .i64 n] h (fun r h => r = .tup [] ∧ sat h (Pwr p (bs ++ beB 4 n) (k + 4) :: F)) := by
  refine t79 (Nat.le_of_ble_eq_true rfl) ?_
  simp (disch := omega) only [F79, go_sem, simprocAttr]
  refine call_use (number hs (size := 4) (by omega) n hb) ?_
  rintro r h ⟨hr, hs⟩
  subst hr
  simp (disch := omega) only [go_sem, simprocAttr]
  exact hs
theorem wInt (hs : sat h (Pwr p bs k :: F)) (n : Int) (hb : k ≤ 1000000000000) :
    Triple Try.prog 53 [.ptr p 1 0 0, .int .i64 n] h (fun r h => r = .tup [] ∧ sat h (Pwr p (bs ++ beB 8 n) (k + 8) :: F)) := by
  refine t53 (Nat.le_of_ble_eq_true rfl) ?_
  simp (disch := omega) only [F53, go_sem, simprocAttr]
  refine call_use (number hs (size := 8) (by omega) n hb) ?_
  rintro r h ⟨hr, hs⟩
  subst hr
  simp (disch := omega) only [go_sem, simprocAttr]
  exact hs
theorem wText (hs : sat h (Pwr p bs k :: F)) (s : List UInt8) {m : Nat} (hm : s.length ≤ m) (hb : k + m ≤ 1000000000000) :
    Triple Try.prog 52 [.ptr p 1 0 0, .str s] h (fun r h => r = .tup [] ∧ sat h (Pwr p (bs ++ txB s) (k + 4 + m) :: F)) := by
  refine t52 (Nat.le_of_ble_eq_true rfl) ?_
  simp (disch := omega) only [F52, go_sem, simprocAttr]
  refine call_use (wU32 hs s.length (by omega)) ?_
  rintro r h ⟨hr, hs⟩
  subst hr
  simp (disch := omega) only [go_sem, simprocAttr]
  obtain ⟨hk, v, hs⟩ := Pwr.iff.1 hs
  have hp := hs.at
  simp (disch := omega) only [go_sem, simprocAttr, hp]
  refine app_sat hs.p1 eb_str (atoms_eb _) (by simp at hk ⊢; omega) fun v' h hs hc' ha' => ?_
  have hp := hs.p1.at
  simp (disch := omega) only [go_sem, simprocAttr, hp, hc', ha']
  refine Pwr.iff.2 ⟨by simp [txB] at hk ⊢; omega, v', ?_⟩
  simpa [txB] using hs.p1.set (o' := .row 1 [[v']] 1)

/-- A slice of bytes apart. -/
theorem clone {v : AV} {b : List UInt8} (hs : sat h F) (hE : ∀ h, sat h F → Bts h v b) (hb : b.length ≤ 1000000000000) :
    Triple Try.prog 82 [v] h (fun r h => sat h (Ow 1 r (b.map eb) :: F)) := by
  have key : ∀ v : AV, v ≠ .lst [] → (∀ h, sat h F → Bts h v b) → Triple Try.prog 82 [v] h (fun r h => sat h (Ow 1 r (b.map eb) :: F)) := by
    intro v hn hE
    refine t82 (Nat.le_of_ble_eq_true rfl) ?_
    rcases Els.nil (hE _ hs) hn with ⟨rfl, he⟩ | ⟨_, hq⟩
    · simp (disch := omega) only [F82, go_sem, simprocAttr]
      have : b = [] := by simpa using he
      subst this
      exact hs.add ow_nil
    · simp (disch := omega) only [F82, go_sem, simprocAttr, hq]
      refine new_sat hs fun n hn hs => ?_
      simp (disch := omega) only [go_sem, simprocAttr]
      have hy := (hE _ hs.drop).1
      refine app_sat (hs.ow (Nat.zero_le _)) hy (atoms_eb _) (by simp; omega) fun v' h hs hc' ha' => ?_
      simp (disch := omega) only [go_sem, simprocAttr, hc']
      simpa using hs
  by_cases hn : v = .lst []
  · subst hn
    have h0 : b = [] := by
      have := (hE _ hs).1
      simpa [srcA] using this
    subst h0
    exact Triple.lst0 (pre := []) (suf := []) (key .nils (by simp) fun _ _ => ⟨rfl, by simp⟩) (key .emp (by simp) fun _ _ => ⟨rfl, by simp⟩)
  · exact key v hn hE

theorem wDoneO (hs : sat h (Pwr p bs k :: F)) (hb : k ≤ 1000000000000) :
    Triple Try.prog 57 [.ptr p 1 0 0] h (fun r h => sat h (Ow 1 r (bs.map eb) :: Pwr p bs k :: F)) := by
  obtain ⟨hk, v, hs⟩ := Pwr.iff.1 hs
  have hp := hs.at
  refine t57 (Nat.le_of_ble_eq_true rfl) ?_
  simp (disch := omega) only [F57, hp, go_sem, simprocAttr]
  refine call_use (clone hs (fun h hs => hs.p1.bts) (by omega)) ?_
  intro r h hs
  simp (disch := omega) only [go_sem, simprocAttr]
  exact hs.tl fun h hs => Pwr.iff.2 ⟨hk, v, hs⟩
end

/-! ### the reader -/

def Rd (p : Nat) (s : RS) : Asr := fun h => s.good ∧ ∃ v, sat h [pto p (.row 3 [[v, .int .i64 s.a, .int .i64 s.err]] 1), Ow 1 v (s.b.map eb)]
theorem Rd.iff {h : Hp} {p : Nat} {s : RS} {F : List Asr} : sat h (Rd p s :: F) ↔ s.good ∧ ∃ v, sat h (pto p (.row 3 [[v, .int .i64 s.a, .int .i64 s.err]] 1) :: Ow 1 v (s.b.map eb) :: F) := by
  unfold Rd
  rw [sat_and, sat_ex]
  simp only [sat_sl, List.cons_append, List.nil_append]

section
variable {h : Hp} {F : List Asr} {p : Nat} {s : RS}

theorem newReader {v : AV} {b : List UInt8} (hs : sat h F) (hE : ∀ h, sat h F → Bts h v b) (hb : b.length ≤ 1000000000000) :
    Triple Try.prog 60 [v] h (fun r h => ∃ p, r = .ptr p 3 0 0 ∧ sat h (Rd p ⟨b, 0, 0⟩ :: F)) := by
  refine t60 (Nat.le_of_ble_eq_true rfl) ?_
  simp (disch := omega) only [F60, go_sem, simprocAttr]
  refine call_use (clone hs hE hb) ?_
  intro r h hs
  simp (disch := omega) only [go_sem, simprocAttr]
  simp (disch := omega) only [go_sem, simprocAttr, hs.els.cells, hs.els.atom]
  refine new_use fun n hn => ?_
  simp (disch := omega) only [go_sem, simprocAttr]
  exact ⟨n, rfl, Rd.iff.2 ⟨⟨Nat.zero_le _, hb, .inl rfl⟩, r, hs.new hn⟩⟩

theorem rErr (hs : sat h (Rd p s :: F)) : Triple Try.prog 63 [.ptr p 3 0 0] h (fun r h => r = .int .i64 s.err ∧ sat h (Rd p s :: F)) := by
  have ⟨g, v, hs'⟩ := Rd.iff.1 hs
  refine t63 (Nat.le_of_ble_eq_true rfl) ?_
  simp (disch := omega) only [F63, hs'.at, go_sem, simprocAttr]
  exact hs
theorem take (hs : sat h (Rd p s :: F)) {n : Nat} (hn : n ≤ 1000000000000) :
    Triple Try.prog 85 [.ptr p 3 0 0, .int .i64 n] h (fun r h => ∃ x, r = .tup [x, .bool (s.ok n)] ∧ sat h (Rd p (s.adv n) :: F) ∧ ∃ l, (l = if s.ok n then (s.b.drop s.a).take n else []) ∧ Bts h x l ∧ bstrA h x = some (.str l) ∧ (s.ok n = false → x = .nils)) := by
  have ⟨g, v, hs'⟩ := Rd.iff.1 hs
  have hp := hs'.at
  have hl := hs'.p1.els.len
  rw [List.length_map] at hl
  have ⟨g1, g2, g3⟩ := g
  by_cases he : s.err = 0
  · have e1 : (s.err != 0) = false := by simp [he]
    have e2 : s.ok n = decide (n ≤ s.b.length - s.a) := by simp [RS.ok, he]
    refine t85 (Nat.le_of_ble_eq_true rfl) ?_
    simp (disch := omega) only [F85, hp, hl, e1, go_sem, simprocAttr]
    refine cnd_dec (fun hc => ?_) (fun hc => ?_)
    · have e3 : s.ok n = false := by rw [e2]; simp; omega
      simp (disch := omega) only [go_sem, simprocAttr, hp]
      refine ⟨.nils, by rw [e3], Rd.iff.2 ⟨g.adv n, v, ?_⟩, [], by rw [e3]; rfl, ⟨rfl, by simp⟩, rfl, fun _ => rfl⟩
      simp only [RS.adv, e3]
      exact hs'.set
    · have e3 : s.ok n = true := by rw [e2]; simp; omega
      have e4 : ((s.a : Int) + n) = ((s.a + n : Nat) : Int) := by omega
      obtain ⟨x, hx1, hx2, hx3⟩ := ow_slc (k := .i64) (k' := .i64) (lo := s.a) (hi := s.a + n) (by omega) (by simp; omega) hs'.p1
      simp (disch := omega) only [go_sem, simprocAttr, hp, e4, hx1]
      have hx4 := hx2 _ _ (hs'.set (o' := .row 3 [[v, AV.int .i64 ((s.a + n : Nat) : Int), AV.int .i64 s.err]] 1)).p1
      have h5 : s.a + n - s.a = n := by omega
      have h6 : List.take n (List.drop s.a (List.map eb s.b)) = ((s.b.drop s.a).take n).map eb := by simp
      rw [h5, h6] at hx4
      refine ⟨x, by rw [e3], Rd.iff.2 ⟨g.adv n, v, ?_⟩, _, by rw [e3]; rfl, hx4, Bts.bstr hx4, by rw [e3]; simp⟩
      simp only [RS.adv, e3]
      exact hs'.set
  · have e1 : (s.err != 0) = true := by simp [he]
    have e2 : s.ok n = false := by simp [RS.ok, he]
    refine t85 (Nat.le_of_ble_eq_true rfl) ?_
    simp (disch := omega) only [F85, hp, hl, e1, go_sem, simprocAttr]
    refine ⟨.nils, by rw [e2], Rd.iff.2 ⟨g.adv n, v, ?_⟩, [], by rw [e2]; rfl, ⟨rfl, by simp⟩, rfl, fun _ => rfl⟩
    simp only [RS.adv, e2]
    exact hs'.set

theorem rNumber (hs : sat h (Rd p s :: F)) {n : Nat} (hn : n ≤ 1000000000000) :
    Triple Try.prog 86 [.ptr p 3 0 0, .int .i64 n] h (fun r h => r = .int .i64 (s.val n) ∧ sat h (Rd p (s.adv n) :: F)) := by
  refine t86 (Nat.le_of_ble_eq_true rfl) ?_
  simp (disch := omega) only [F86, go_sem, simprocAttr]
  refine call_use (take hs hn) fun r h ⟨x, hr, hs, l, hl, hb, _, _⟩ => ?_
  subst hr
  have hlen := hb.len
  have hll : l.length ≤ n := by rw [hl]; split <;> simp; omega
  simp (disch := omega) only [go_sem, simprocAttr, hlen]
  refine run_loop (fun e h1 => ∃ i : Nat, i ≤ l.length ∧ h1 = h ∧ (e 16 = x ∧ e 17 = .int .i64 l.length ∧ e 18 = .int .i64 i ∧ e 7 = .int .u64 (rawN (l.take i))))
    (fun e _ => match e 18 with | .int _ j => (l.length - j).toNat | _ => 0) ?_ ?_
  · exact ⟨0, by omega, rfl, rfl, rfl, rfl, rfl⟩
  · rintro e h1 ⟨i, hi, rfl, he⟩
    simp (disch := omega) only [go_sem, simprocAttr, he]
    refine cnd_dec (fun hc => ?_) (fun hc => ?_)
    · obtain ⟨q, hq1, hq2⟩ := Bts.at hb (k := .i64) (i := i) (by omega)
      simp (disch := omega) only [go_sem, simprocAttr, he, hq1, hq2]
      exact ⟨⟨i + 1, by omega, by simp, by rw [rawN_succ _ _ (by omega)]; rfl⟩, by omega⟩
    · simp (disch := omega) only [go_sem, simprocAttr, he]
      have : i = l.length := by omega
      subst this
      rw [List.take_length, hl]
      refine ⟨?_, hs⟩
      unfold RS.val
      split <;> simp [rawN, *]; rfl

theorem rU8 (hs : sat h (Rd p s :: F)) : Triple Try.prog 66 [.ptr p 3 0 0] h (fun r h => r = .int .i64 (s.val 1) ∧ sat h (Rd p (s.adv 1) :: F)) := by
  refine t66 (Nat.le_of_ble_eq_true rfl) ?_
  simp (disch := omega) only [F66, go_sem, simprocAttr]
  refine call_use (rNumber hs (n := 1) (by omega)) ?_
  rintro r h ⟨hr, hs⟩
  subst hr
  simp (disch := omega) only [go_sem, simprocAttr]
  exact hs
theorem rU32 (hs : sat h (Rd p s :: F)) : Triple Try.prog 84 [.ptr p 3 0 0] h (fun r h => r = .int .i64 (s.val 4) ∧ sat h (Rd p (s.adv 4) :: F)) := by
  refine t84 (Nat.le_of_ble_eq_true rfl) ?_
  simp (disch := omega) only [F84, go_sem, simprocAttr]
  refine call_use (rNumber hs (n := 4) (by omega)) ?_
  rintro r h ⟨hr, hs⟩
  subst hr
  simp (disch := omega) only [go_sem, simprocAttr]
  exact hs
theorem rInt (hs : sat h (Rd p s :: F)) : Triple Try.prog 62 [.ptr p 3 0 0] h (fun r h => r = .int .i64 (s.val 8) ∧ sat h (Rd p (s.adv 8) :: F)) := by
  refine t62 (Nat.le_of_ble_eq_true rfl) ?_
  simp (disch := omega) only [F62, go_sem, simprocAttr]
  refine call_use (rNumber hs (n := 8) (by omega)) ?_
  rintro r h ⟨hr, hs⟩
  subst hr
  simp (disch := omega) only [go_sem, simprocAttr]
  exact hs
theorem rText (hs : sat h (Rd p s :: F)) : Triple Try.prog 61 [.ptr p 3 0 0] h (fun r h => r = .str s.tx ∧ sat h (Rd p s.atx :: F)) := by
  have ⟨g, v, hs'⟩ := Rd.iff.1 hs
  have ⟨g1, g2, g3⟩ := g
  have ⟨k1, k2⟩ := s.val_txk
  refine t61 (Nat.le_of_ble_eq_true rfl) ?_
  simp (disch := omega) only [F61, hs'.at, go_sem, simprocAttr]
  refine call_use (rU32 hs) ?_
  rintro r h ⟨hr, hs⟩
  subst hr
  simp (disch := omega) only [go_sem, simprocAttr, k1]
  refine call_use (take hs (n := s.txk) (by omega)) fun r h ⟨x, hr, hs, l, hl, hb, hx, hn⟩ => ?_
  subst hr
  cases hok : (s.adv 4).ok s.txk
  · have ⟨g', v', hs'⟩ := Rd.iff.1 hs
    have hn := hn hok
    subst hn
    simp (disch := omega) only [go_sem, simprocAttr, hs'.at]
    refine ⟨by simp [RS.tx, hok], Rd.iff.2 ⟨g.atx, v', ?_⟩⟩
    have h8 : ((s.adv 4).adv s.txk).err = 8 := by
      show (if (s.adv 4).ok s.txk then _ else (8 : Int)) = 8
      rw [hok]; rfl
    rw [h8]
    have e : s.atx = ⟨s.b, s.a, 8⟩ := by unfold RS.atx; rw [hok]; rfl
    rw [e]
    exact hs'.set
  · simp (disch := omega) only [go_sem, simprocAttr, hx]
    rw [hok] at hl
    refine ⟨by rw [hl]; simp [RS.tx, hok]; rfl, ?_⟩
    have e : s.atx = (s.adv 4).adv s.txk := by unfold RS.atx; rw [hok]; rfl
    rw [e]
    exact hs
end
end Go.Proofs.Ytkclojjeepomfaa
/- The document's own writer and reader. -/
set_option linter.unusedSimpArgs false
set_option linter.unusedVariables false
set_option maxRecDepth 10000
namespace Go.Proofs.Ytkclojjeepomfaa
open Go.Hz

section
variable {h : Hp} {F : List Asr} {v : AV} {bs : List UInt8}

end

/-- The document's reader at p, over a slice that it only reads. -/
def Xr (p : Nat) (v : AV) (s : RS) : Asr := fun h => s.good ∧ h p = some (.row 3 [[v, .int .i64 s.a, .bool (s.err != 0)]] 1)
theorem Xr.iff {h : Hp} {p : Nat} {v : AV} {s : RS} {F : List Asr} : sat h (Xr p v s :: F) ↔ s.good ∧ sat h (pto p (.row 3 [[v, .int .i64 s.a, .bool (s.err != 0)]] 1) :: F) := by
  unfold Xr
  rw [sat_and]
  rfl

section
variable {h : Hp} {F : List Asr} {p : Nat} {s : RS} {v : AV}

end
end Go.Proofs.Ytkclojjeepomfaa
/- Sums, frames, and what the laws of chapter 1 share. -/
set_option linter.unusedSimpArgs false
set_option linter.unusedVariables false
set_option maxRecDepth 10000
namespace Go.Proofs.Ytkclojjeepomfaa
open Go.Hz

section
variable {h : Hp} {F : List Asr} {v : AV} {b : List UInt8}

theorem psum (hs : sat h F) (hE : ∀ h, sat h F → Bts h v b) (hb : b.length ≤ 1000000000000) :
    Triple Try.prog 94 [v] h (fun r h => r = .int .u32 (sumX b).toNat ∧ sat h F) := by
  refine t94 (Nat.le_of_ble_eq_true rfl) ?_
  simp (disch := omega) only [F94, go_sem, simprocAttr]
  refine new_sat hs fun n hn hs => ?_
  simp (disch := omega) only [go_sem, simprocAttr]
  have hs := hs.set (o' := .row 16 [cellsP] 1)
  rw [Hp.set_set] at hs
  have hl := Bts.len (hE _ hs.drop)
  generalize hH : (h.set n _ : Hp) = H
  have hs : sat H (pto n (.row 16 [cellsP] 1) :: F) := by rw [← hH]; exact hs
  clear hH
  simp (disch := omega) only [go_sem, simprocAttr, hl]
  refine run_loop (fun e h2 => ∃ i : Nat, i ≤ b.length ∧ sat h2 (pto n (.row 16 [cellsP] 1) :: F) ∧ (e 3 = .ptr n 16 0 0 ∧ e 8 = v ∧ e 9 = .int .i64 b.length ∧ e 10 = .int .i64 i ∧ e 4 = .int .u32 ((b.take i).foldl stepP 4294967295).toNat))
    (fun e _ => match e 10 with | .int _ j => (b.length - j).toNat | _ => 0) ?_ ?_
  · exact ⟨0, by omega, hs, rfl, rfl, rfl, rfl, rfl⟩
  · rintro e h2 ⟨i, hi, hs, he⟩
    have hn' := hs.at
    simp (disch := omega) only [go_sem, simprocAttr, he]
    refine cnd_dec (fun hc => ?_) (fun hc => ?_)
    · obtain ⟨q, hq1, hq2⟩ := Bts.at (hE _ hs.drop) (k := .i64) (i := i) (by omega)
      generalize hC : (b.take i).foldl stepP 4294967295 = C at *
      have k1 := and15 (C ^^^ b[i].toUInt32)
      have k2 := and15 (nibP (C ^^^ b[i].toUInt32))
      have f1 := cellsP_at _ k1
      have f2 := cellsP_at _ k2
      unfold nibP at f2 k2
      simp (disch := omega) only [go_sem, simprocAttr, he, hq1, hq2, Go.Hz.u32_of_u8, Go.Hz.u32_xor, Go.Hz.u32_and15, Go.Hz.u32_shr4, hn', Int.toNat_natCast, Nat.mul_one, f1, f2]
      refine ⟨by omega, by omega, ⟨i + 1, by omega, hs, by simp, ?_⟩, by omega⟩
      rw [List.take_succ_eq_append_getElem (by omega), List.foldl_append, hC]
      rfl
    · simp (disch := omega) only [go_sem, simprocAttr, he, Go.Hz.u32_not]
      have : i = b.length := by omega
      subst this
      rw [List.take_length, ← sum_eq]
      exact ⟨rfl, hs.drop⟩

theorem pFrame (hs : sat h F) (hE : ∀ h, sat h F → Bts h v b) (hb : b.length ≤ 100000000000) :
    Triple Try.prog 83 [v] h (fun r h => sat h (Ow 1 r ((frameB b).map eb) :: F)) := by
  have hl := Bts.len (hE _ hs)
  refine t83 (Nat.le_of_ble_eq_true rfl) ?_
  simp (disch := omega) only [F83, go_sem, simprocAttr]
  refine call_use (newWriter hs) fun r h ⟨p, hr, hs⟩ => ?_
  subst hr
  simp (disch := omega) only [go_sem, simprocAttr, hl]
  refine call_use (wU32 hs b.length (by omega)) ?_
  rintro r h ⟨hr, hs⟩
  subst hr
  simp (disch := omega) only [go_sem, simprocAttr]
  refine call_use (psum hs (fun h hs => hE _ hs.drop) (by omega)) ?_
  rintro r h ⟨hr, hs⟩
  subst hr
  simp (disch := omega) only [go_sem, simprocAttr, Go.Hz.i64_u32]
  refine call_use (wU32 hs (sumX b).toNat (by omega)) ?_
  rintro r h ⟨hr, hs⟩
  subst hr
  simp (disch := omega) only [go_sem, simprocAttr]
  obtain ⟨hk, v', hs⟩ := Pwr.iff.1 hs
  simp (disch := omega) only [go_sem, simprocAttr, hs.at]
  refine app_sat hs.p1 (hE _ hs.drop.drop).1 (atoms_eb _) (by simp at hk ⊢; omega) fun v' h hs hc' ha' => ?_
  simp (disch := omega) only [go_sem, simprocAttr]
  simpa [frameB] using hs.d1

end
end Go.Proofs.Ytkclojjeepomfaa
/- A store is saved: sums, keys. -/
set_option linter.unusedSimpArgs false
set_option linter.unusedVariables false
set_option maxRecDepth 10000
namespace Go.Proofs.Ytkclojjeepomfaa
open Go.Hz

section
variable {h : Hp} {F : List Asr} {p k s : Nat} {bs : List UInt8} {A : Sto} {o : AV}
theorem bytesEq2 {u v : AV} {a b : List UInt8} (hs : sat h F) (h1 : Bts h u a) (h2 : Bts h v b) : Triple Try.prog 59 [u, v] h (fun r h => r = .bool (a == b) ∧ sat h F) := by
  have e1 := h1.bstr
  have e2 := h2.bstr
  refine t59 (Nat.le_of_ble_eq_true rfl) ?_
  simp (disch := omega) only [F59, e1, e2, go_sem, simprocAttr]
  exact hs
theorem Pwr.wk2 {k' : Nat} (hs : sat h (Pwr p bs k :: F)) (hk : bs.length ≤ k') : sat h (Pwr p bs k' :: F) :=
  Pwr.iff.2 ⟨hk, (Pwr.iff.1 hs).2⟩
/-- The sums of bytes, in a part of a slice of one's own. -/
theorem svSums {v : AV} {b : List UInt8} (hs : sat h F) (hE : ∀ h, sat h F → Bts h v b) (hc : CapOK v) (hb : b.length ≤ 1000000000) :
    Triple Try.prog 58 [v] h (fun r h => ∃ y es, sat h (Ow 1 y es :: F) ∧ (∀ h (G : List Asr), sat h (Ow 1 y es :: G) → Els h 1 r ((sumsF b).map eb)) ∧ r.cells = [r]) := by
  have four : ∀ {q : List UInt8}, ((frameB q).map eb).drop 4 = ((frameB q).drop 4).map eb := fun {q} => by rw [List.map_drop]
  have four2 : ∀ {q : List UInt8}, ((((frameB q).map eb).drop 4).take (8 - 4)) = (sum4 q).map eb := fun {q} => by
    unfold sum4
    rw [List.map_take, List.map_drop]
  refine t58 (Nat.le_of_ble_eq_true rfl) ?_
  simp (disch := omega) only [F58, go_sem, simprocAttr]
  refine new_opq hs fun n h hs => ?_
  have hs := hs.ow (Nat.zero_le _)
  simp (disch := omega) only [go_sem, simprocAttr]
  refine blk_join (Q := fun e h => ∃ v cur y all, (∀ h, sat h F → Bts h v cur) ∧ CapOK v ∧ cur.length ≤ 1048576 ∧ all ++ sumsL cur = sumsL b ∧ all.length ≤ 1000000000 ∧ sat h (Ow 1 y (all.map eb) :: F) ∧ (e 0 = v ∧ e 3 = y)) ?_ ?_
  · refine run_loopN (fun n e h => ∃ v cur y all, n = cur.length ∧ (∀ h, sat h F → Bts h v cur) ∧ CapOK v ∧ all.length + cur.length ≤ 1000000000 ∧ all ++ sumsL cur = sumsL b ∧ sat h (Ow 1 y (all.map eb) :: F) ∧ (e 0 = v ∧ e 3 = y)) b.length ⟨v, b, _, [], rfl, hE, hc, by simpa using hb, rfl, by simpa using hs, by simp [Env.upd_apply, initE]⟩ ?_
    clear hs
    rintro n e h ⟨v, cur, y, all, rfl, hE, hc, hl, hsum, hs, he⟩
    have hlen := Bts.len (hE _ hs.drop)
    simp (disch := omega) only [go_sem, simprocAttr, he, hlen]
    refine cnd_dec (fun g1 => ?_) (fun g1 => ?_)
    · have g2 : 1048576 < cur.length := by omega
      obtain ⟨x, hx, hxE, hxc⟩ := slc_E (A := fun h => sat h F) hs.drop hE hc .i64 .i64 (lo := 0) (hi := 1048576) (by omega) (by simp; omega)
      obtain ⟨z, hz, hzE, hzc⟩ := slc_E (A := fun h => sat h F) hs.drop hE hc .i64 .i64 (lo := 1048576) (hi := cur.length) (by omega) (by simp)
      have hx' : slcL 1 v none (some (.int .i64 1048576)) = some x := by rw [slc_lo]; exact hx
      have hz' : slcL 1 v (some (.int .i64 1048576)) none = some z := by rw [slc_hi hlen]; exact hz
      have hxB : ∀ h, sat h F → Bts h x (cur.take 1048576) := fun h hs => by
        have := hxE h hs
        rw [List.drop_zero, ← List.map_take] at this
        exact this
      have hzB : ∀ h, sat h F → Bts h z (cur.drop 1048576) := fun h hs => by
        have := hzE h hs
        rw [← List.map_drop, List.take_of_length_le (by simp)] at this
        exact this
      simp (disch := omega) only [go_sem, simprocAttr, he, hx']
      refine call_use (pFrame (b := cur.take 1048576) hs (fun h hs => hxB h hs.drop) (by rw [List.length_take]; omega)) ?_
      intro r h hs
      obtain ⟨w, hw, hwE, hwc⟩ := ow_slc (k := .i64) (k' := .i64) (lo := 4) (hi := 8) (by omega) (by rw [List.length_map, frameB_length]; omega) hs
      have hsrc := (hwE _ _ hs).1
      rw [four2] at hsrc
      have hw : slcL 1 r (some (.int .i64 4)) (some (.int .i64 8)) = some w := hw
      simp (disch := omega) only [go_sem, simprocAttr, hw]
      refine app_sat (bytes := 1) hs.p1 hsrc (atoms_eb _) (by simp [sum4_len]; omega) fun y' h hs ca aa => ?_
      simp (disch := omega) only [go_sem, simprocAttr, he, ca, aa, hz']
      refine ⟨_, ?_, z, cur.drop 1048576, y', all ++ sum4 (cur.take 1048576), rfl, hzB, hzc, ?_, ?_, ?_, rfl, rfl⟩
      · rw [List.length_drop]; omega
      · rw [List.length_append, sum4_len, List.length_drop]; omega
      · rw [← hsum, sumsL_big g2, List.append_assoc]
      · rw [List.map_append]; exact hs.d1
    · simp (disch := omega) only [go_sem, simprocAttr, he]
      exact ⟨v, cur, y, all, hE, hc, by omega, hsum, by omega, hs, rfl, rfl⟩
  clear hs
  rintro e h ⟨v, cur, y, all, hE, hc, hcl, hsum, hal, hs, he⟩
  simp (disch := omega) only [go_sem, simprocAttr, he]
  refine call_use (pFrame (b := cur) hs (fun h hs => hE h hs.drop) (by omega)) ?_
  intro r h hs
  obtain ⟨w, hw, hwE, hwc⟩ := ow_slc (k := .i64) (k' := .i64) (lo := 4) (hi := 8) (by omega) (by rw [List.length_map, frameB_length]; omega) hs
  have hsrc := (hwE _ _ hs).1
  rw [four2] at hsrc
  have hw : slcL 1 r (some (.int .i64 4)) (some (.int .i64 8)) = some w := hw
  simp (disch := omega) only [go_sem, simprocAttr, hw]
  refine app_sat (bytes := 1) hs.p1 hsrc (atoms_eb _) (by simp [sum4_len]; omega) fun y' h hs ca aa => ?_
  have hfin : all.map eb ++ (sum4 cur).map eb = (sumsL b).map eb := by
    rw [← hsum, sumsL_small (b := cur) (by omega), List.map_append]
  have hsl : (sumsL b).length ≤ 1000000004 := by rw [← hsum, sumsL_small (b := cur) (by omega), List.length_append, sum4_len]; omega
  rw [hfin] at hs
  simp (disch := omega) only [go_sem, simprocAttr, ca, aa]
  refine call_use (pFrame (b := sumsL b) hs (fun h hs => hs.bts) (by omega)) ?_
  intro r h hs
  obtain ⟨w, hw, hwE, hwc⟩ := ow_slc (k := .i64) (k' := .i64) (lo := 4) (hi := 8) (by omega) (by rw [List.length_map, frameB_length]; omega) hs
  have hw : slcL 1 r (some (.int .i64 4)) (some (.int .i64 8)) = some w := hw
  simp (disch := omega) only [go_sem, simprocAttr, hw]
  refine ⟨r, _, hs.d1.d1, fun h G hs => ?_, hwc⟩
  have := hwE _ _ hs
  rw [four2] at this
  exact this
theorem svKvW {x : Kv} (hs : sat h (Pwr p bs k :: F)) (h1 : x.key.length ≤ 100) (h2 : x.val.length ≤ 4096) (hb : k ≤ 900000000000) :
    Triple Try.prog 55 [.ptr p 1 0 0, .agg (kvC x)] h (fun r h => sat h (Pwr p (bs ++ svKv x) (k + 4236) :: F)) := by
  refine t55 (Nat.le_of_ble_eq_true rfl) ?_
  simp (disch := omega) only [F55, kvC, go_sem, simprocAttr]
  refine new_opq hs fun a h hs => ?_
  have ha := hs.at
  simp (disch := omega) only [go_sem, simprocAttr, ha]
  refine call_use (wText hs.p1 x.key h1 (by omega)) ?_
  rintro r h ⟨hr, hs⟩
  subst hr
  have ha := hs.p1.at
  simp (disch := omega) only [go_sem, simprocAttr, ha]
  refine call_use (wText hs x.val h2 (by omega)) ?_
  rintro r h ⟨hr, hs⟩
  subst hr
  have ha := hs.p1.at
  simp (disch := omega) only [go_sem, simprocAttr, ha]
  refine call_use (wInt hs x.create (by omega)) ?_
  rintro r h ⟨hr, hs⟩
  subst hr
  have ha := hs.p1.at
  simp (disch := omega) only [go_sem, simprocAttr, ha]
  refine call_use (wInt hs x.mod (by omega)) ?_
  rintro r h ⟨hr, hs⟩
  subst hr
  have ha := hs.p1.at
  simp (disch := omega) only [go_sem, simprocAttr, ha]
  refine call_use (wInt hs x.ver (by omega)) ?_
  rintro r h ⟨hr, hs⟩
  subst hr
  have ha := hs.p1.at
  simp (disch := omega) only [go_sem, simprocAttr, ha]
  refine call_use (wInt hs x.lease (by omega)) ?_
  rintro r h ⟨hr, hs⟩
  subst hr
  simp (disch := omega) only [go_sem, simprocAttr]
  have hs := hs.d1
  have e : bs ++ txB x.key ++ txB x.val ++ beB 8 x.create ++ beB 8 x.mod ++ beB 8 x.ver ++ beB 8 x.lease = bs ++ svKv x := by simp [svKv, List.append_assoc]
  rw [e] at hs
  exact Pwr.wk2 hs (by have := (Pwr.iff.1 hs).1; omega)
theorem evKv_eq (v : Ver) : evC v = .int .i64 v.rev :: .bool v.c.kv.isNone :: kvC (evKv v) := rfl
/-- The keys as they were, out of the index. -/
theorem old_keys {L : IL} (ok : StoOK A) (hL : IxOK A L) : (keysL L [] []).filterMap (fun k => vAt (A.vers k) A.past) = A.old := by
  have e0 : A.at A.past = A.old := by
    have : A.chs.takeWhile (fun v => decide (v.rev ≤ A.past)) = [] := by
      cases hch : A.chs with
      | nil => rfl
      | cons v l =>
        have := (ok.chr v (by rw [hch]; simp)).1
        rw [List.takeWhile_cons_of_neg]
        simp; omega
    rw [Sto.at, this]; rfl
  have e1 : (fun k => vAt (A.vers k) A.past) = kvget A.old := by
    funext k
    rw [vAt_at ok (Int.le_refl _), e0]
  rw [e1]
  have hin : ∀ k : Key, inR [] [] k = true := by
    intro k
    unfold inR
    have : ltK k [] = false := by cases k <;> rfl
    rw [this]; rfl
  have h2 : A.old.filter (fun x => inK [0] (topK 101) x.key) = A.old := by
    rw [List.filter_eq_self]
    intro x hx
    exact inK_all (ok.key.1 x hx).1 (ok.key.1 x hx).2
  have h4 := pick_keys (l := A.old) (ks := keysL L [] []) (lo := [0]) (hi := topK 101) ok.old (keysL_srt hL.1.1)
  rw [h2] at h4
  refine h4 ?_ ?_
  · intro k hk
    have h3 := ((keysL_mem hL).1 hk).1
    have := vers_key h3
    rcases List.mem_append.1 this with h | h
    · obtain ⟨x, hx, rfl⟩ := List.mem_map.1 h
      exact inK_all (ok.key.1 x hx).1 (ok.key.1 x hx).2
    · obtain ⟨v, hv, rfl⟩ := List.mem_map.1 h
      exact inK_all (ok.key.2 v hv).1 (ok.key.2 v hv).2
  · intro x hx _
    refine (keysL_mem hL).2 ⟨?_, hin _⟩
    rw [← e0] at hx
    exact at_vers ok (Int.le_refl _) hx
theorem svKv_len {x : Kv} (h1 : x.key.length ≤ 100) (h2 : x.val.length ≤ 4096) : (svKv x).length ≤ 4236 := by
  simp [svKv, txB_length, beB_length]; omega
theorem evKv_sz (ok : StoOK A) {v : Ver} (hv : v ∈ A.chs) : (evKv v).key.length ≤ 100 ∧ (evKv v).val.length ≤ 4096 := by
  have h1 := (ok.key.2 v hv).2
  have h2 := ok.num.2 v hv
  unfold evKv
  cases hc : v.c with
  | put x =>
    rw [hc] at h1
    exact ⟨h1, (h2 x hc).2.2.2.2.2.2.2⟩
  | del k =>
    rw [hc] at h1
    exact ⟨h1, by simp [Ch.kv]⟩
theorem svSaveO (hs : sat h (StP s A o :: F)) (hz : A.old.length + A.chs.length ≤ 200000) : Triple Try.prog 29 [.ptr s 7 0 0] h (fun r h => sat h (Ow 1 r ((svA A).map eb) :: StP s A o :: F)) := by
  obtain ⟨ix, vm, cv, L, X, hok, hs2⟩ := mvP.1 hs
  have mk : ∀ {h : Hp} {G : List Asr}, sat h (MvL tp td s ix vm cv o A L X ++ G) → sat h (StP s A o :: G) := fun hs => mvP.2 ⟨ix, vm, cv, L, X, hok, hs⟩
  have ok := hok.1
  have hLn := ix_num hok.2.1
  have hp := hs2.at
  refine t29 (Nat.le_of_ble_eq_true rfl) ?_
  simp (disch := omega) only [F29, go_sem, simprocAttr]
  refine call_use (newWriter hs2) ?_
  rintro r h ⟨w, hr, hs⟩
  subst hr
  simp (disch := omega) only [go_sem, simprocAttr]
  refine call_use (wText hs wordB (m := 16) (by decide) (by omega)) ?_
  rintro r h ⟨hr, hs⟩
  subst hr
  have hp := hs.p1.at
  simp (disch := omega) only [go_sem, simprocAttr, hp]
  refine call_use (wInt hs A.rev (by omega)) ?_
  rintro r h ⟨hr, hs⟩
  subst hr
  have hp := hs.p1.at
  simp (disch := omega) only [go_sem, simprocAttr, hp]
  refine call_use (wInt hs A.past (by omega)) ?_
  rintro r h ⟨hr, hs⟩
  subst hr
  have hp := hs.p1.at
  simp (disch := omega) only [go_sem, simprocAttr, hp]
  have hs3 : sat h (IxP ix L :: Pwr w _ _ :: pto s (.row 7 [[.int .i64 A.rev, .int .i64 A.past, .int .i64 A.now.length, .ptr ix 2 0 0, .map vm, cv, o]] 1) :: Ow 2 cv (A.chs.map (verC tp td)) :: MpA (fun k : Key => AV.str k) Vn.key Vn.v vm X :: (X.map (VnP tp td) ++ F)) := hs.p2
  refine call_use (ixKeys (lo := []) (hi := []) hs3 hok.2.1.1 (by omega)) ?_
  rintro r h ⟨hr, hs⟩
  subst hr
  have hkl : (keysL L [] []).length ≤ L.length := by unfold keysL; exact Nat.le_trans (List.length_filter_le _ _) (by simp)
  have hold := old_keys ok hok.2.1
  generalize keysL L [] [] = ks at hkl hold ⊢
  have lenk : lenL (strsV ks) = some (.int .i64 ks.length) := by simp [strsV, lenL]
  have hs4 : sat h (StP s A o :: Pwr w _ _ :: F) := (hs.p4.p4.p2.p4.p4.tl fun h hs => mk hs).p1
  have hpa := ok.past
  have hz2 : A.chs.length ≤ 100000000 := by omega
  have e1 : txB wordB ++ beB 8 A.rev ++ beB 8 A.past = ([] ++ txB wordB) ++ beB 8 A.rev ++ beB 8 A.past := rfl
  rw [← e1] at hs4
  simp (disch := omega) only [go_sem, simprocAttr, lenk]
  refine blk_join (Q := fun e h => ∃ v, sat h (StP s A o :: Pwr w (txB wordB ++ beB 8 A.rev ++ beB 8 A.past) 100 :: Ow 6 v (A.old.map kvC) :: F) ∧ (e 0 = .ptr s 7 0 0 ∧ e 3 = .ptr w 1 0 0 ∧ e 4 = v)) ?_ ?_
  · refine run_up (N := ks.length) (fun i e h => ∃ v, sat h (Ow 6 v (((ks.take i).filterMap fun k => vAt (A.vers k) A.past).map kvC) :: StP s A o :: Pwr w (txB wordB ++ beB 8 A.rev ++ beB 8 A.past) 100 :: F) ∧ (e 0 = .ptr s 7 0 0 ∧ e 3 = .ptr w 1 0 0 ∧ e 4 = v ∧ e 34 = strsV ks ∧ e 35 = .int .i64 ks.length ∧ e 36 = .int .i64 i)) ⟨.nils, ?_, by simp [Env.upd_apply, initE]⟩ ?_
    · have h5 : sat h (Pwr w (txB wordB ++ beB 8 A.rev ++ beB 8 A.past) 100 :: StP s A o :: F) := Pwr.wk2 hs4.p1 (by simp [txB_length, beB_length, wordB])
      exact h5.p1.add ow_nil
    clear hs hs4 hs3 hp
    rintro i e h hi ⟨v, hs, he⟩
    have m1 : (i : Int) + 1 = ((i + 1 : Nat) : Int) := by omega
    simp (disch := omega) only [go_sem, simprocAttr, he, m1]
    refine cnd_dec (fun g1 => ?_) (fun g1 => ?_)
    · have hi : i < ks.length := by omega
      have hik : iaA 1 (strsV ks) (.int .i64 (i : Int)) = some (.ro [.str ks[i]]) := ia_lst (f := fun k => [AV.str k]) hi fun _ => rfl
      have hfl : ((ks.take i).filterMap fun k => vAt (A.vers k) A.past).length ≤ 200001 := by
        have := List.length_filterMap_le (fun k => vAt (A.vers k) A.past) (ks.take i)
        rw [List.length_take] at this
        omega
      have hst : (ks.take (i + 1)).filterMap (fun k => vAt (A.vers k) A.past) = (ks.take i).filterMap (fun k => vAt (A.vers k) A.past) ++ (vAt (A.vers ks[i]) A.past).toList := by
        rw [List.take_succ_eq_append_getElem hi, List.filterMap_append]
        cases h : vAt (A.vers ks[i]) A.past <;> simp [h]
      rw [hst]
      generalize ks[i] = key at hik hst ⊢
      obtain ⟨ix2, vm2, cv2, L2, X2, hok2, hs2⟩ := mvP.1 hs.p1
      have hp := hs2.at
      simp (disch := omega) only [go_sem, simprocAttr, he, hik, hp]
      refine call_use (mvAt (key := key) (rev := A.past) hs.p1 hz2) ?_
      rintro r h ⟨hr, hs⟩
      subst hr
      simp (disch := omega) only [go_sem, simprocAttr, he]
      refine new_opq hs fun a h hs => ?_
      have ha := hs.at
      cases hpk : vAt (A.vers key) A.past with
      | none =>
        rw [Option.toList_none, List.append_nil]
        have hs := hs.set (o' := .row 6 [kvC kv0] 1)
        simp only [kvC, kv0] at hs
        simp (disch := omega) only [go_sem, simprocAttr, ha, hpk, Option.getD_none, Option.isSome_none, kvC, kv0, he, m1]
        exact ⟨hi, v, hs.drop.p2.p1.p2, rfl⟩
      | some kv =>
        rw [Option.toList_some]
        have hs2 := hs.set (o' := .row 6 [kvC kv] 1)
        have ha2 := hs2.at
        simp only [kvC] at hs2 ha2
        simp (disch := omega) only [go_sem, simprocAttr, ha, hpk, Option.getD_some, Option.isSome_some, kvC, he, ha2]
        generalize Hp.set h a _ = h3 at hs2 ha2 ⊢
        refine new_opq hs2 fun b h hs => ?_
        simp (disch := omega) only [go_sem, simprocAttr]
        refine app_sat hs.p3 (src_one hs.at) (atoms_one (by simp [AV.isAtom])) (by simp; omega) fun v' h hs ca aa => ?_
        simp (disch := omega) only [go_sem, simprocAttr, he, ca, aa, m1]
        have := hs.p1.drop.p1.drop.p2.p2.p2
        exact ⟨hi, v', by simpa [kvC] using this, rfl⟩
    · have hi : i = ks.length := by omega
      subst hi
      rw [List.take_length, hold] at hs
      simp (disch := omega) only [go_sem, simprocAttr, he]
      exact ⟨v, hs.p2.p2, rfl⟩
  clear hs hs4 hs3 hp
  rintro e h ⟨v, hs, he⟩
  have hvl := hs.p2.els.len
  rw [List.length_map] at hvl
  simp (disch := omega) only [go_sem, simprocAttr, he, hvl]
  refine call_use (wInt hs.p1 (A.old.length : Int) (by omega)) ?_
  rintro r h ⟨hr, hs⟩
  subst hr
  have hvl := hs.p2.els.len
  rw [List.length_map] at hvl
  simp (disch := omega) only [go_sem, simprocAttr, he, hvl]
  obtain ⟨B1, hB1⟩ : ∃ B1, B1 = txB wordB ++ beB 8 A.rev ++ beB 8 A.past ++ beB 8 (A.old.length : Int) := ⟨_, rfl⟩
  have hB1l : B1.length = 44 := by rw [hB1]; simp [txB_length, beB_length, wordB]
  rw [← hB1] at hs
  refine blk_join (Q := fun e h => sat h (Pwr w (B1 ++ A.old.flatMap svKv) (200 + 4236 * A.old.length) :: StP s A o :: F) ∧ (e 0 = .ptr s 7 0 0 ∧ e 3 = .ptr w 1 0 0)) ?_ ?_
  · refine run_up (N := A.old.length) (fun i e h => sat h (Pwr w (B1 ++ (A.old.take i).flatMap svKv) (200 + 4236 * i) :: StP s A o :: Ow 6 v (A.old.map kvC) :: F) ∧ (e 0 = .ptr s 7 0 0 ∧ e 3 = .ptr w 1 0 0 ∧ e 60 = v ∧ e 61 = .int .i64 A.old.length ∧ e 62 = .int .i64 i)) ⟨?_, by simp [Env.upd_apply, he]⟩ ?_
    · rw [List.take_zero, List.flatMap_nil, List.append_nil]
      exact Pwr.wk2 hs (by omega)
    clear hs he
    rintro i e h hi ⟨hs, he⟩
    have m1 : (i : Int) + 1 = ((i + 1 : Nat) : Int) := by omega
    simp (disch := omega) only [go_sem, simprocAttr, he, m1]
    refine cnd_dec (fun g1 => ?_) (fun g1 => ?_)
    · have hi : i < A.old.length := by omega
      obtain ⟨b, cap, hv, hb, _⟩ := hs.p2.owr.row (i := i) (x := kvC A.old[i]) (by simp [hi])
      subst hv
      have hrow : (A.old.map kvC)[i]? = some (kvC A.old[i]) := by simp [hi]
      have hll : (A.old.map kvC).length = A.old.length := by simp
      have hk1 := (ok.key.1 _ (List.getElem_mem hi)).2
      have hk2 := (ok.num.1 _ (List.getElem_mem hi)).2.2.2.2.2.2
      have hst : (A.old.take (i + 1)).flatMap svKv = (A.old.take i).flatMap svKv ++ svKv A.old[i] := by
        rw [List.take_succ_eq_append_getElem hi, List.flatMap_append]; simp
      rw [hst, ← List.append_assoc]
      rw [hll] at hs
      generalize A.old[i] = x at hrow hk1 hk2 ⊢
      simp only [kvC] at hrow
      simp (disch := omega) only [go_sem, simprocAttr, he, hb, hrow, hll, Int.toNat_natCast]
      refine new_opq hs fun a h hs => ?_
      have ha := hs.at
      have hs2 := hs.set (o' := .row 6 [[.str x.key, .str x.val, .int .i64 x.create, .int .i64 x.mod, .int .i64 x.ver, .int .i64 x.lease]] 1)
      have ha2 := hs2.at
      simp (disch := omega) only [go_sem, simprocAttr, he, ha, ha2]
      generalize Hp.set h a _ = h3 at hs2 ha2 ⊢
      refine call_use (svKvW (x := x) hs2.p1 hk1 hk2 (by omega)) ?_
      intro r h hs
      simp (disch := omega) only [go_sem, simprocAttr, he, m1]
      refine ⟨hi, Pwr.wk2 hs.d1 ?_⟩
      have := (Pwr.iff.1 hs).1
      omega
    · have hi : i = A.old.length := by omega
      subst hi
      rw [List.take_length] at hs
      simp (disch := omega) only [go_sem, simprocAttr, he]
      have := (Pwr.iff.1 hs).1
      exact Pwr.wk2 (hs.p2.drop.p1.p1) (by omega)
  clear hs he
  rintro e h ⟨hs, he⟩
  obtain ⟨ix, vm, cv, L, X, hok, hs⟩ := mvP.1 hs.p1
  have mk : ∀ {h : Hp} {G : List Asr}, sat h (MvL tp td s ix vm cv o A L X ++ G) → sat h (StP s A o :: G) := fun hs => mvP.2 ⟨ix, vm, cv, L, X, hok, hs⟩
  have hs := hs.mid
  have hp := hs.p1.at
  have hcl := hs.p3.els.len
  rw [List.length_map] at hcl
  simp (disch := omega) only [go_sem, simprocAttr, he, hp, hcl]
  refine call_use (wInt hs (A.chs.length : Int) (by omega)) ?_
  rintro r h ⟨hr, hs⟩
  subst hr
  have hp := hs.p1.at
  have hcl := hs.p3.els.len
  rw [List.length_map] at hcl
  simp (disch := omega) only [go_sem, simprocAttr, he, hp, hcl]
  obtain ⟨B2, hB2⟩ : ∃ B2, B2 = B1 ++ A.old.flatMap svKv ++ beB 8 (A.chs.length : Int) := ⟨_, rfl⟩
  rw [← hB2] at hs
  have hB2l := (Pwr.iff.1 hs).1
  refine blk_join (Q := fun e h => sat h (Pwr w (B2 ++ A.chs.flatMap svVer) (300 + 4236 * A.old.length + 4245 * A.chs.length) :: StP s A o :: F) ∧ (e 0 = .ptr s 7 0 0 ∧ e 3 = .ptr w 1 0 0)) ?_ ?_
  · refine run_up (N := A.chs.length) (fun i e h => sat h (Pwr w (B2 ++ (A.chs.take i).flatMap svVer) (300 + 4236 * A.old.length + 4245 * i) :: (MvL tp td s ix vm cv o A L X ++ F)) ∧ (e 0 = .ptr s 7 0 0 ∧ e 3 = .ptr w 1 0 0 ∧ e 80 = cv ∧ e 81 = .int .i64 A.chs.length ∧ e 82 = .int .i64 i)) ⟨?_, by simp [Env.upd_apply, he]⟩ ?_
    · rw [List.take_zero, List.flatMap_nil, List.append_nil]
      exact Pwr.wk2 hs (by omega)
    clear hs he hp
    rintro i e h hi ⟨hs, he⟩
    have m1 : (i : Int) + 1 = ((i + 1 : Nat) : Int) := by omega
    simp (disch := omega) only [go_sem, simprocAttr, he, m1]
    refine cnd_dec (fun g1 => ?_) (fun g1 => ?_)
    · have hi : i < A.chs.length := by omega
      obtain ⟨b, cap, hv, hb, _⟩ := hs.p3.owr.row (i := i) (x := verC tp td A.chs[i]) (by simp [hi])
      subst hv
      have hrow : (A.chs.map (verC tp td))[i]? = some (verC tp td A.chs[i]) := by simp [hi]
      have hll : (A.chs.map (verC tp td)).length = A.chs.length := by simp
      rw [hll] at hs
      obtain ⟨hk1, hk2⟩ := evKv_sz ok (List.getElem_mem hi)
      have hst : (A.chs.take (i + 1)).flatMap svVer = (A.chs.take i).flatMap svVer ++ svVer A.chs[i] := by
        rw [List.take_succ_eq_append_getElem hi, List.flatMap_append]; simp
      rw [hst, ← List.append_assoc]
      generalize A.chs[i] = x at hrow hk1 hk2 ⊢
      have ca := chV_atom (tp := tp) (td := td) x.c
      have cc := chV_cells (tp := tp) (td := td) x.c
      simp only [verC] at hrow
      simp (disch := omega) only [go_sem, simprocAttr, he, hb, hrow, hll, Int.toNat_natCast, ca, cc]
      refine new_opq hs fun a h hs => ?_
      have ha := hs.at
      have hs2 := hs.set (o' := .row 2 [[.int .i64 x.rev, chV tp td x.c]] 1)
      have ha2 := hs2.at
      simp (disch := omega) only [go_sem, simprocAttr, he, ha, ha2, ca, cc]
      generalize Hp.set h a _ = h3 at hs2 ha2 ⊢
      refine call_use (mvEvent (v := x) hs2) ?_
      rintro r h ⟨hr, hs⟩
      subst hr
      rw [evKv_eq, kvC]
      simp (disch := omega) only [go_sem, simprocAttr]
      refine new_opq hs fun b2 h hs => ?_
      have hb2 := hs.at
      have hs3 := hs.set (o' := .row 8 [[.int .i64 x.rev, .bool x.c.kv.isNone, .str (evKv x).key, .str (evKv x).val, .int .i64 (evKv x).create, .int .i64 (evKv x).mod, .int .i64 (evKv x).ver, .int .i64 (evKv x).lease]] 1)
      have hb3 := hs3.at
      simp (disch := omega) only [go_sem, simprocAttr, he, hb2, hb3]
      generalize Hp.set h b2 _ = h4 at hs3 hb3 ⊢
      refine call_use (wInt hs3.p2 x.rev (by omega)) ?_
      rintro r h ⟨hr, hs⟩
      subst hr
      have hb2 := hs.p1.at
      cases hn : x.c.kv.isNone
      case' false =>
        simp (disch := omega) only [go_sem, simprocAttr, he, hb2, hn]
        refine call_use (wU8 hs 0 (by omega)) ?_
      case' true =>
        simp (disch := omega) only [go_sem, simprocAttr, he, hb2, hn]
        refine call_use (wU8 hs 1 (by omega)) ?_
      all_goals
        rintro r h ⟨hr, hs⟩
        subst hr
        have hb2 := hs.p1.at
        simp (disch := omega) only [go_sem, simprocAttr, he, hb2]
        refine call_use (svKvW (x := evKv x) hs hk1 hk2 (by omega)) ?_
        intro r h hs
        simp (disch := omega) only [go_sem, simprocAttr, he, m1]
        have hs := hs.p1.drop.p1.drop.p3.p3.p3.p3
        have hsz := (Pwr.iff.1 hs).1
        unfold svVer
        rw [hn]
        have h9 := Pwr.wk2 (k' := 300 + 4236 * A.old.length + 4245 * (i + 1)) hs (by omega)
        have e9 : ∀ z : List UInt8, B2 ++ (A.chs.take i).flatMap svVer ++ beB 8 x.rev ++ z ++ svKv (evKv x) = B2 ++ (A.chs.take i).flatMap svVer ++ (beB 8 x.rev ++ (z ++ svKv (evKv x))) := fun z => by simp [List.append_assoc]
        rw [e9] at h9
        exact ⟨hi, h9⟩
    · have hi : i = A.chs.length := by omega
      subst hi
      rw [List.take_length] at hs
      simp (disch := omega) only [go_sem, simprocAttr, he]
      exact (Pwr.wk2 hs (by have := (Pwr.iff.1 hs).1; omega)).tl fun h hs => mk hs
  clear hs he hp
  rintro e h ⟨hs, he⟩
  have eb2 : B2 ++ A.chs.flatMap svVer = svB A := by rw [hB2, hB1]; simp [svB, List.append_assoc]
  rw [eb2] at hs
  have hbl := (Pwr.iff.1 hs).1
  simp (disch := omega) only [go_sem, simprocAttr, he]
  refine call_use (wDoneO hs (by omega)) ?_
  intro r h hs
  simp (disch := omega) only [go_sem, simprocAttr]
  refine call_use (svSums hs (fun h hs => hs.bts) hs.cap (by omega)) ?_
  rintro q h ⟨y, es, hs, hq, hqc⟩
  simp (disch := omega) only [go_sem, simprocAttr]
  have hsrc := (hq _ _ hs).1
  refine app_sat (bytes := 1) hs.p1 hsrc (atoms_eb _) (by simp [sumsF_len]; omega) fun v' h hs ca aa => ?_
  simp (disch := omega) only [go_sem, simprocAttr]
  have h9 := hs.p1.drop.p1.drop.p1.p1
  simpa [svA] using h9
theorem svSave (hs : sat h (StP s A o :: F)) (hz : A.old.length + A.chs.length ≤ 200000) : Triple Try.prog 29 [.ptr s 7 0 0] h (fun r h => r = bytesV (svA A) ∧ sat h (StP s A o :: F)) :=
  Triple.lst 1 ((svSaveO hs hz).mono fun r h hs => ⟨_, _, hs, fun h hs => ⟨rfl, hs⟩⟩)
end
end Go.Proofs.Ytkclojjeepomfaa
/- A store is loaded: a key's numbers, a key that is read, an elder key. -/
set_option linter.unusedSimpArgs false
set_option linter.unusedVariables false
set_option maxRecDepth 10000
namespace Go.Proofs.Ytkclojjeepomfaa
open Go.Hz

section
variable {h : Hp} {F : List Asr} {p s : Nat} {A : Sto} {o : AV}
theorem svMay {x : Kv} {r : Int} (hs : sat h F) (hr : r ≤ 1000000000000000000) : Triple Try.prog 87 [.agg (kvC x), .int .i64 r] h (fun q h => q = .bool (decide (mayP x r)) ∧ sat h F) := by
  refine t87 (Nat.le_of_ble_eq_true rfl) ?_
  simp (disch := omega) only [F87, kvC, go_sem, simprocAttr]
  refine new_opq hs fun a h hs => ?_
  have ha := hs.at
  have no : ¬ mayP x r → decide (mayP x r) = false := fun h => decide_eq_false h
  by_cases q0 : x.key = []
  · have b0 : (x.key != []) = false := by simp [q0]
    rw [no fun h => h.1 q0]
    simp (disch := omega) only [go_sem, simprocAttr, ha, b0]
    exact hs.drop
  have b0 : (x.key != []) = true := by simpa using q0
  by_cases q1 : x.key.length ≤ 100
  rotate_left
  · have b1 : ((x.key.length : Int) ≤ 100) = False := by simp; omega
    rw [no fun h => q1 h.2.1]
    simp (disch := omega) only [go_sem, simprocAttr, ha, b0, b1]
    exact hs.drop
  have b1 : ((x.key.length : Int) ≤ 100) = True := by simp; omega
  by_cases q2 : x.val.length ≤ 4096
  rotate_left
  · have b2 : ((x.val.length : Int) ≤ 4096) = False := by simp; omega
    rw [no fun h => q2 h.2.2.1]
    simp (disch := omega) only [go_sem, simprocAttr, ha, b0, b1, b2]
    exact hs.drop
  have b2 : ((x.val.length : Int) ≤ 4096) = True := by simp; omega
  by_cases q3 : 0 ≤ x.lease
  rotate_left
  · have b3 : (x.lease ≥ 0) = False := by simp; omega
    rw [no fun h => q3 h.2.2.2.1]
    simp (disch := omega) only [go_sem, simprocAttr, ha, b0, b1, b2, b3]
    exact hs.drop
  have b3 : (x.lease ≥ 0) = True := by simp; omega
  by_cases q4 : 1 ≤ x.create
  rotate_left
  · have b4 : (x.create ≥ 1) = False := by simp; omega
    rw [no fun h => q4 h.2.2.2.2.1]
    simp (disch := omega) only [go_sem, simprocAttr, ha, b0, b1, b2, b3, b4]
    exact hs.drop
  have b4 : (x.create ≥ 1) = True := by simp; omega
  by_cases q5 : x.create ≤ x.mod
  rotate_left
  · have b5 : (x.create ≤ x.mod) = False := by simp; omega
    rw [no fun h => q5 h.2.2.2.2.2.1]
    simp (disch := omega) only [go_sem, simprocAttr, ha, b0, b1, b2, b3, b4, b5]
    exact hs.drop
  have b5 : (x.create ≤ x.mod) = True := by simp; omega
  by_cases q6 : x.mod ≤ r
  rotate_left
  · have b6 : (x.mod ≤ r) = False := by simp; omega
    rw [no fun h => q6 h.2.2.2.2.2.2.1]
    simp (disch := omega) only [go_sem, simprocAttr, ha, b0, b1, b2, b3, b4, b5, b6]
    exact hs.drop
  have b6 : (x.mod ≤ r) = True := by simp; omega
  by_cases q7 : 1 ≤ x.ver
  rotate_left
  · have b7 : (x.ver ≥ 1) = False := by simp; omega
    rw [no fun h => q7 h.2.2.2.2.2.2.2.1]
    simp (disch := omega) only [go_sem, simprocAttr, ha, b0, b1, b2, b3, b4, b5, b6, b7]
    exact hs.drop
  have b7 : (x.ver ≥ 1) = True := by simp; omega
  by_cases q8 : x.ver ≤ x.mod - x.create + 1
  rotate_left
  · have b8 : (x.ver ≤ x.mod - x.create + 1) = False := by simp; omega
    rw [no fun h => q8 h.2.2.2.2.2.2.2.2]
    simp (disch := omega) only [go_sem, simprocAttr, ha, b0, b1, b2, b3, b4, b5, b6, b7, b8]
    exact hs.drop
  have b8 : (x.ver ≤ x.mod - x.create + 1) = True := by simp; omega
  rw [decide_eq_true (p := mayP x r) ⟨q0, q1, q2, q3, q4, q5, q6, q7, q8⟩]
  simp (disch := omega) only [go_sem, simprocAttr, ha, b0, b1, b2, b3, b4, b5, b6, b7, b8]
  exact hs.drop
theorem svLoaded {t : RS} (hs : sat h (Rd p t :: F)) : Triple Try.prog 65 [.ptr p 3 0 0] h (fun r h => r = .agg (kvC t.kv) ∧ sat h (Rd p t.akv :: F)) := by
  refine t65 (Nat.le_of_ble_eq_true rfl) ?_
  simp (disch := omega) only [F65, go_sem, simprocAttr]
  refine new_opq hs fun a h hs => ?_
  simp (disch := omega) only [go_sem, simprocAttr]
  refine call_use (rText hs.p1) ?_
  rintro r h ⟨hr, hs⟩
  subst hr
  simp (disch := omega) only [go_sem, simprocAttr]
  refine new_opq hs fun b h hs => ?_
  have hb := hs.at
  have hs2 := hs.set (o' := .row 6 [[.str t.tx, .str [], .int .i64 0, .int .i64 0, .int .i64 0, .int .i64 0]] 1)
  simp (disch := omega) only [go_sem, simprocAttr, hb]
  generalize Hp.set h b _ = h3 at hs2 ⊢
  refine call_use (rText hs2.p1) ?_
  rintro r h ⟨hr, hs⟩
  subst hr
  have hb := hs.p1.at
  have hs2 := hs.p1.set (o' := .row 6 [[.str t.tx, .str t.atx.tx, .int .i64 0, .int .i64 0, .int .i64 0, .int .i64 0]] 1)
  simp (disch := omega) only [go_sem, simprocAttr, hb]
  generalize Hp.set h b _ = h3 at hs2 ⊢
  refine call_use (rInt hs2.p1) ?_
  rintro r h ⟨hr, hs⟩
  subst hr
  simp (disch := omega) only [go_sem, simprocAttr]
  refine call_use (rInt hs) ?_
  rintro r h ⟨hr, hs⟩
  subst hr
  simp (disch := omega) only [go_sem, simprocAttr]
  refine call_use (rInt hs) ?_
  rintro r h ⟨hr, hs⟩
  subst hr
  simp (disch := omega) only [go_sem, simprocAttr]
  refine call_use (rInt hs) ?_
  rintro r h ⟨hr, hs⟩
  subst hr
  have hb := hs.p1.at
  have ha := hs.p2.at
  have hs3 := hs.p1.set (o' := .row 6 [[.str t.tx, .str t.atx.tx, .int .i64 (t.atx.atx.val 8), .int .i64 ((t.atx.atx.adv 8).val 8), .int .i64 (((t.atx.atx.adv 8).adv 8).val 8), .int .i64 ((((t.atx.atx.adv 8).adv 8).adv 8).val 8)]] 1)
  have hb3 := hs3.at
  have ha3 := hs3.p2.at
  have hs4 := hs3.p2.set (o' := .row 6 [[.str t.tx, .str t.atx.tx, .int .i64 (t.atx.atx.val 8), .int .i64 ((t.atx.atx.adv 8).val 8), .int .i64 (((t.atx.atx.adv 8).adv 8).val 8), .int .i64 ((((t.atx.atx.adv 8).adv 8).adv 8).val 8)]] 1)
  have ha4 := hs4.at
  simp (disch := omega) only [go_sem, simprocAttr, hb, hb3, ha3, ha4]
  exact ⟨rfl, hs4.drop.drop⟩
/-- An elder key is taken in. -/
theorem svKeep {x : Kv} (hs : sat h (StP s A o :: F)) (hA : A.chs = []) (hx : x.key = [] ∨ ∀ y ∈ A.old, ltK y.key x.key = true) (hz : A.old.length ≤ 1000000) (hpp : A.past ≤ 1000000000000000) :
    Triple Try.prog 64 [.ptr s 7 0 0, .agg (kvC x)] h (fun r h => r = .bool (decide (mayP x A.past ∧ A.old.length < 4096)) ∧ sat h (StP s (if mayP x A.past ∧ A.old.length < 4096 then A.kept x else A) o :: F)) := by
  obtain ⟨ix, vm, cv, L, X, hok, hs2⟩ := mvP.1 hs
  have ok := hok.1
  have hnow : A.now = A.old := by unfold Sto.now; rw [hA]; rfl
  refine t64 (Nat.le_of_ble_eq_true rfl) ?_
  simp (disch := omega) only [F64, kvC, go_sem, simprocAttr]
  refine new_opq hs2 fun a h hs => ?_
  have ha := hs.at
  have hp := hs.p1.at
  rw [hnow] at hp
  simp (disch := omega) only [go_sem, simprocAttr, ha, hp]
  refine call_use (svMay (x := x) (r := A.past) hs (by omega)) ?_
  rintro r h ⟨hr, hs⟩
  subst hr
  have ha := hs.at
  have hp := hs.p1.at
  rw [hnow] at hp
  by_cases hm : mayP x A.past
  · have hxf : ∀ y ∈ A.old, ltK y.key x.key = true := hx.resolve_left hm.1
    have hl := lk_miss keyOK_str hs.p4 (q := x.key) (fun y h1 h2 => kept_none hxf hA hok.2.2 y h1 h2) (ok := false) (z := .nils)
    simp only [Bool.false_eq_true, if_false] at hl
    rw [decide_eq_true hm]
    by_cases hn : A.old.length < 4096
    · have c1 : ((A.old.length : Int) ≥ 4096) = False := by simp; omega
      rw [if_pos ⟨hm, hn⟩, decide_eq_true (p := mayP x A.past ∧ A.old.length < 4096) ⟨hm, hn⟩]
      simp (disch := omega) only [go_sem, simprocAttr, ha, hp, hl, c1]
      refine new_opq hs fun n h hs => ?_
      have ha := hs.p1.at
      have hp := hs.p2.at
      rw [hnow] at hp
      simp (disch := omega) only [go_sem, simprocAttr]
      refine mup_new keyOK_str hs.p5 (y := (⟨x.key, .arr n 2 0 1 1, [verO x]⟩ : Vn)) (fun y h1 h2 => kept_none hxf hA hok.2.2 y h1 h2) fun h hs => ?_
      have ha := hs.p2.at
      have hp := hs.p3.at
      rw [hnow] at hp
      have hLn := ix_num hok.2.1
      have hLl := ix_len hok.2.1
      rw [hA, List.length_nil] at hLn
      rw [hA, List.length_nil] at hLl
      simp (disch := omega) only [go_sem, simprocAttr, ha, hp]
      refine call_use (ixPut (key := x.key) (m := (x.mod, false)) hs.p4 hok.2.1.1 (fun x hx => by have := hLl x hx; omega) (by omega) (by have h1 := hm.2.2.2.2.1; have h2 := hm.2.2.2.2.2.1; have h3 := hm.2.2.2.2.2.2.1; show inI x.mod; unfold inI; omega)) ?_
      rintro r h ⟨hr', hs⟩
      subst hr'
      have hp := hs.p4.at
      rw [hnow] at hp
      have m1 : (A.old.length : Int) + 1 = ((A.old.length + 1 : Nat) : Int) := by omega
      simp (disch := omega) only [go_sem, simprocAttr, hp, m1]
      refine mvP.2 ⟨ix, vm, cv, putL L x.key (x.mod, false), X ++ [⟨x.key, .arr n 2 0 1 1, [verO x]⟩], ⟨kept_ok hxf ok hA hm, kept_ix hxf hA hok.2.1 hm, kept_vm hxf hA hok.2.2⟩, ?_⟩
      have hs7 := hs.p4.set (o' := .row 7 [[.int .i64 A.rev, .int .i64 A.past, .int .i64 ((A.old.length + 1 : Nat) : Int), .ptr ix 2 0 0, .map vm, cv, o]] 1)
      have hs8 := (hs7.p4.drop.p2.p4.p3.p3.p4).ow (by simp)
      have e1 : (A.kept x).now.length = A.old.length + 1 := by
        show (A.old ++ [x]).length = _
        simp
      have e2 : (A.kept x).rev = A.rev := rfl
      have e3 : (A.kept x).past = A.past := rfl
      have e4 : (A.kept x).chs = A.chs := hA.symm
      have hs9 := sat.unmid (l1 := [pto s (.row 7 [[.int .i64 A.rev, .int .i64 A.past, .int .i64 ((A.old.length + 1 : Nat) : Int), .ptr ix 2 0 0, .map vm, cv, o]] 1), IxP ix (putL L x.key (x.mod, false)), Ow 2 cv (A.chs.map (verC tp td)), MpA (fun k : Key => AV.str k) Vn.key Vn.v vm (X ++ [⟨x.key, .arr n 2 0 1 1, [verO x]⟩])] ++ X.map (VnP tp td)) (l2 := F) hs8
      have t2 : VnP tp td ⟨x.key, .arr n 2 0 1 1, [verO x]⟩ = Ow 2 (.arr n 2 0 1 1) [[.int .i64 x.mod, .iface tp (.agg (kvC x))]] := rfl
      unfold MvL
      rw [e1, e2, e3, e4, List.map_append, List.map_cons, List.map_nil, t2]
      simpa [kvC] using hs9
    · have c1 : ((A.old.length : Int) ≥ 4096) = True := by simp; omega
      have hf : ¬ (mayP x A.past ∧ A.old.length < 4096) := fun h => hn h.2
      rw [if_neg hf, decide_eq_false hf]
      simp (disch := omega) only [go_sem, simprocAttr, ha, hp, hl, c1]
      exact mvP.2 ⟨ix, vm, cv, L, X, hok, hs.drop⟩
  · have hf : ¬ (mayP x A.past ∧ A.old.length < 4096) := fun h => hm h.1
    rw [if_neg hf, decide_eq_false hf, decide_eq_false hm]
    simp (disch := omega) only [go_sem, simprocAttr]
    exact mvP.2 ⟨ix, vm, cv, L, X, hok, hs.drop⟩
end
end Go.Proofs.Ytkclojjeepomfaa
/- A store is loaded: a change is done again. -/
set_option linter.unusedSimpArgs false
set_option linter.unusedVariables false
set_option maxRecDepth 10000
namespace Go.Proofs.Ytkclojjeepomfaa
open Go.Hz

/-- May a change be the next one? -/
def repC (B : Sto) (r : Int) (k : Key) : Prop := (r = B.rev ∨ r = B.rev + 1) ∧ B.past < r ∧ ∀ w, (B.vers k).getLast? = some w → w.rev ≠ r
def repW (B : Sto) (r : Int) (del : Bool) (x : Kv) : Kv := if del = true then ⟨x.key, [], 0, r, 0, 0⟩ else wNew r ⟨B.now, []⟩ x.key x.val x.lease
def repCh (B : Sto) (r : Int) (del : Bool) (x : Kv) : Ch := if del = true then .del x.key else .put (repW B r del x)
def repN (B : Sto) (del : Bool) (k : Key) : Int := if del = true then (B.now.length : Int) - 1 else if (kvget B.now k).isSome = true then (B.now.length : Int) else (B.now.length : Int) + 1
def repS (B : Sto) (r : Int) (del : Bool) (x : Kv) : Sto := ⟨r, B.past, B.old, B.chs ++ [⟨r, repCh B r del x⟩]⟩
theorem kv_eqs (x y : Kv) : eqsA [PK.s, PK.s, PK.i, PK.i, PK.i, PK.i] false (.agg (kvC x)) (.agg (kvC y)) = some (.bool (decide (x = y))) := by
  have e : decide (x = y) = (x.key == y.key && (x.val == y.val && (x.create == y.create && (x.mod == y.mod && (x.ver == y.ver && x.lease == y.lease))))) := by
    rw [Bool.eq_iff_iff, decide_eq_true_eq]
    cases x; cases y
    simp
  rw [e]
  simp [eqsA, eqCs, eqC, kvC]
theorem rev_ok {B : Sto} (ok : StoOK B) {r : Int} (hr : B.rev ≤ r) : StoOK ⟨r, B.past, B.old, B.chs⟩ where
  past := ok.past
  rev := by have := ok.rev; show B.past ≤ r; omega
  old := ok.old
  oldm := ok.oldm
  chs := ok.chs
  chr := fun v hv => ⟨(ok.chr v hv).1, by have := (ok.chr v hv).2; show v.rev ≤ r; omega⟩
  key := ok.key
  del := ok.del
  num := ⟨ok.num.1, fun v hv kv hk => ⟨(ok.num.2 v hv kv hk).1, (ok.num.2 v hv kv hk).2.mono hr⟩⟩
section
variable {h : Hp} {F : List Asr} {s ix vm : Nat} {cv : AV} {n : Int} {B : Sto} {o : AV} {L : IL} {X : List Vn}
theorem vn_facts (hs : sat h (MvL tp td s ix vm cv o B L X ++ F)) {x : Vn} (hx : x ∈ X) (hne : x.vs ≠ []) : ∃ b cap, x.v = .arr b 2 0 x.vs.length cap ∧ h b = some (.row 2 (x.vs.map (verC tp td)) cap) := by
  obtain ⟨l1, l2, rfl⟩ := List.append_of_mem hx
  have hs5 : sat h ((pto s (.row 7 [[.int .i64 B.rev, .int .i64 B.past, .int .i64 B.now.length, .ptr ix 2 0 0, .map vm, cv, o]] 1) :: IxP ix L :: Ow 2 cv (B.chs.map (verC tp td)) :: MpA (fun k : Key => AV.str k) Vn.key Vn.v vm (l1 ++ x :: l2) :: l1.map (VnP tp td)) ++ VnP tp td x :: (l2.map (VnP tp td) ++ F)) := by simpa [MvL] using hs
  have hs6 : sat h (Ow 2 x.v (x.vs.map (verC tp td)) :: _) := hs5.mid
  rcases hs6.cases with ⟨_, h0, _⟩ | ⟨b, cap, hv, g, _⟩
  · exact absurd (by simpa using h0) hne
  · rw [List.length_map] at hv
    exact ⟨b, cap, hv, g.at⟩
theorem vers_look (hs : sat h (MvL tp td s ix vm cv o B L X ++ F)) (hv : VmOK B X) (k : Key) : ∃ lv, lkA true false .nils h (.map vm) (.str k) = some lv ∧ lenL lv = some (.int .i64 (B.vers k).length) ∧ (B.vers k ≠ [] → ∃ b cap, lv = .arr b 2 0 (B.vers k).length cap ∧ h b = some (.row 2 ((B.vers k).map (verC tp td)) cap)) := by
  have hm : sat h (MpA (fun k : Key => AV.str k) Vn.key Vn.v vm X :: _) := hs.p3
  by_cases hx : ∃ x ∈ X, x.key = k
  · obtain ⟨x, hx, rfl⟩ := hx
    have hl := lk_hit keyOK_str hm hv.1 hx (ok := false) (z := .nils)
    simp only [Bool.false_eq_true, if_false] at hl
    obtain ⟨h1, h2⟩ := hv.2.1 x hx
    obtain ⟨b, cap, h3, h4⟩ := vn_facts hs hx h2
    rw [h1] at h3 h4
    exact ⟨x.v, hl, by rw [h3]; rfl, fun _ => ⟨b, cap, h3, h4⟩⟩
  · have hl := lk_miss keyOK_str hm (q := k) (fun x h1 h2 => hx ⟨x, h1, h2⟩) (ok := false) (z := .nils)
    simp only [Bool.false_eq_true, if_false] at hl
    have h0 : B.vers k = [] := by
      cases hq : B.vers k with
      | nil => rfl
      | cons w l =>
        obtain ⟨x, h1, h2⟩ := hv.2.2 k (by rw [hq]; simp)
        exact absurd ⟨x, h1, h2⟩ hx
    rw [h0]
    exact ⟨.nils, hl, rfl, fun h => absurd rfl h⟩
theorem rep_len (ok : StoOK B) {r : Int} {del : Bool} {x : Kv} (hd : del = true → kvget B.now x.key ≠ none) : repN B del x.key = ((repS B r del x).now.length : Int) := by
  have e : (repS B r del x).now = done B.now (repCh B r del x) := by
    show doneL B.old ((B.chs ++ [(⟨r, repCh B r del x⟩ : Ver)]).map Ver.c) = _
    rw [List.map_append, List.map_cons, List.map_nil, doneL_snoc]; rfl
  have hk : (repCh B r del x).key = x.key := by
    unfold repCh repW
    cases del
    · simp only [Bool.false_eq_true, if_false]
      exact wNew_key
    · rfl
  rw [e, done_len (now_srt ok), hk]
  unfold repN repCh
  cases del
  · simp only [Bool.false_eq_true, if_false]
    cases hg : kvget B.now x.key with
    | none => simp [Ch.kv]
    | some y =>
      have := List.length_pos_of_mem (kvget_some hg).1
      simp [Ch.kv]
  · simp only [if_true]
    cases hg : kvget B.now x.key with
    | none => exact absurd hg (hd rfl)
    | some y =>
      have := List.length_pos_of_mem (kvget_some hg).1
      simp [Ch.kv]
      omega
/-- What a change that is done again brings. -/
inductive RepPost (B : Sto) (s : Nat) (o : AV) (F : List Asr) (r : Int) (del : Bool) (x : Kv) (q : AV) (h : Hp) : Prop
  | mk (b : Bool) (h1 : q = .bool b) (h2 : sat h F) (h3 : repC B r x.key → (del = true → kvget B.now x.key ≠ none) → StoOK (repS B r del x) → sat h (StP s (repS B r del x) o :: F) ∧ (b = true ↔ x = repW B r del x ∧ (del = true ∨ mayP x r) ∧ repN B del x.key ≤ 4096)) : RepPost B s o F r del x q h
theorem svStp {r : Int} {del : Bool} {x : Kv} {c : Ch} {ix vm : Nat} {cv : AV} {L : IL} {X : List Vn} (ok : StoOK B) (hcw : repCh B r del x = c) (hnn : repN B del x.key = n) (hok2 : StoOK ((⟨r, B.past, B.old, B.chs⟩ : Sto).snoc ⟨r, c⟩) → StoOK ((⟨r, B.past, B.old, B.chs⟩ : Sto).snoc ⟨r, c⟩) ∧ IxOK ((⟨r, B.past, B.old, B.chs⟩ : Sto).snoc ⟨r, c⟩) L ∧ VmOK ((⟨r, B.past, B.old, B.chs⟩ : Sto).snoc ⟨r, c⟩) X)
    (hs : sat h (MvLn tp td s ix vm cv o n ((⟨r, B.past, B.old, B.chs⟩ : Sto).snoc ⟨r, c⟩) L X ++ F)) (hd : del = true → kvget B.now x.key ≠ none) (hok3 : StoOK (repS B r del x)) : sat h (StP s (repS B r del x) o :: F) := by
  have e : (⟨r, B.past, B.old, B.chs⟩ : Sto).snoc ⟨r, c⟩ = repS B r del x := by unfold repS Sto.snoc; rw [hcw]
  rw [e] at hs hok2
  have h9 := mvN.2 ⟨ix, vm, cv, L, X, hok2 hok3, hs⟩
  rw [← hnn, rep_len ok hd] at h9
  exact h9
theorem svReplay {r : Int} {del : Bool} {x : Kv} (hs : sat h (StP s B o :: F)) (hz : B.old.length + B.chs.length ≤ 1000000) (hpp : B.rev ≤ 1000000000000000) (hr0 : inI r) (hx : i64 x.create ∧ i64 x.mod) (hvv : ∀ y ∈ B.now, y.ver ≤ 1000000000000000) :
    Triple Try.prog 67 [.ptr s 7 0 0, .int .i64 r, .bool del, .agg (kvC x)] h (fun q h => RepPost B s o F r del x q h) := by
  have ok := MvP.ok hs
  have hpa := ok.past
  have hre := ok.rev
  refine t67 (Nat.le_of_ble_eq_true rfl) ?_
  simp (disch := omega) only [F67, kvC, go_sem, simprocAttr]
  refine new_opq hs fun a h hs => ?_
  have ha := hs.at
  obtain ⟨ix0, vm0, cv0, L0, X0, hok0, hs2⟩ := mvP.1 hs.p1
  have hp := hs2.at
  simp (disch := omega) only [go_sem, simprocAttr, ha, hp]
  refine call_use (mvAt (key := x.key) (rev := B.rev) hs.p1 (by omega)) ?_
  rintro q h ⟨hq, hs⟩
  subst hq
  have hvat : vAt (B.vers x.key) B.rev = kvget B.now x.key := by rw [vAt_at ok hre, at_rev ok]
  rw [hvat]
  clear hp hs2 hok0 hvat
  simp (disch := omega) only [go_sem, simprocAttr]
  refine new_opq hs fun z h hs => ?_
  have hz0 := hs.at
  obtain ⟨W0, hW0⟩ : ∃ W0, W0 = (kvget B.now x.key).getD kv0 := ⟨_, rfl⟩
  obtain ⟨is, his⟩ : ∃ is, is = (kvget B.now x.key).isSome := ⟨_, rfl⟩
  rw [← hW0, ← his]
  have hs2 := hs.set (o' := .row 6 [kvC W0] 1)
  have ha := hs2.p2.at
  have hz1 := hs2.at
  obtain ⟨ix, vm, cv, L, X, hok, hs3⟩ := mvP.1 hs2.p1
  have hp := hs3.at
  obtain ⟨lv, hl1, hl2, hl3⟩ := vers_look hs3 hok.2.2 x.key
  have hvl := vers_le (A := B) x.key
  simp only [kvC] at hs2 ha hz1 hs3 hp hl1 hl3
  simp (disch := omega) only [go_sem, simprocAttr, hz0, kvC, ha, hp, hl1]
  generalize Hp.set h z _ = h3 at hs2 hs3 ha hz1 hp hl1 hl3 ⊢
  have hmk : ∀ {h : Hp} {G : List Asr}, sat h (MvL tp td s ix vm cv o B L X ++ G) → sat h (StP s B o :: G) := fun hs => mvP.2 ⟨ix, vm, cv, L, X, hok, hs⟩
  have hF : sat h3 F := (hmk hs3).drop.drop.drop
  refine cnd_join1 (Q := fun e h => h = h3 ∧ ∃ b, (b = true ↔ ¬ repC B r x.key) ∧ (e 0 = .ptr s 7 0 0 ∧ e 1 = .int .i64 r ∧ e 2 = .bool del ∧ e 7 = .ptr a 6 0 0 ∧ e 9 = .ptr z 6 0 0 ∧ e 10 = .bool is ∧ e 11 = lv ∧ e 70 = .bool b)) ?_ ?_
  · by_cases q1 : r = B.rev
    case' pos =>
      have q3 : r = B.rev ∨ r = B.rev + 1 := .inl q1
      have c1 : (r != B.rev) = false := by simpa using q1
      simp (disch := omega) only [go_sem, simprocAttr, c1, hp]
    case' neg =>
      have c1 : (r != B.rev) = true := by simpa using q1
      by_cases q2 : r = B.rev + 1
      case' pos =>
        have q3 : r = B.rev ∨ r = B.rev + 1 := .inr q2
        have c3 : (r != B.rev + 1) = false := by simpa using q2
        simp (disch := omega) only [go_sem, simprocAttr, c1, c3, hp]
      case' neg =>
        have c3 : (r != B.rev + 1) = true := by simpa using q2
        simp (disch := omega) only [go_sem, simprocAttr, c1, c3, hp]
        refine ⟨true, ⟨fun _ h => ?_, fun _ => rfl⟩, rfl⟩
        rcases h.1 with h | h <;> contradiction
    all_goals
      refine cnd_dec (fun p1 => ?_) (fun p1 => ?_)
      · simp (disch := omega) only [go_sem, simprocAttr, p1]
        refine ⟨true, ⟨fun _ h => ?_, fun _ => rfl⟩, rfl⟩
        have := h.2.1; omega
      · simp (disch := omega) only [go_sem, simprocAttr, p1, hl2]
        by_cases v0 : B.vers x.key = []
        · rw [v0]
          simp (disch := omega) only [go_sem, simprocAttr]
          have : repC B r x.key := ⟨q3, by omega, fun w hw => by rw [v0] at hw; cases hw⟩
          exact ⟨false, ⟨fun h => (by cases h), fun h => absurd this h⟩, rfl⟩
        · obtain ⟨b, cap, hlv, hb⟩ := hl3 v0
          subst hlv
          have hpos : 0 < (B.vers x.key).length := List.length_pos_iff.2 v0
          have c4 : (((B.vers x.key).length : Int) > 0) = True := by simp; omega
          have m4 : ((B.vers x.key).length : Int) - 1 = (((B.vers x.key).length - 1 : Nat) : Int) := by omega
          obtain ⟨w, hw⟩ : ∃ w, (B.vers x.key)[(B.vers x.key).length - 1]? = some w := ⟨_, List.getElem?_eq_getElem (by omega)⟩
          have hrow : ((B.vers x.key).map (verC tp td))[(B.vers x.key).length - 1]? = some [.int .i64 w.rev, chV tp td w.c] := by rw [List.getElem?_map, hw]; rfl
          have hlast : (B.vers x.key).getLast? = some w := by rw [List.getLast?_eq_getElem?, hw]
          simp (disch := omega) only [go_sem, simprocAttr, c4, m4, hb, hrow, hl2, Int.toNat_natCast]
          refine ⟨w.rev == r, ⟨fun h h2 => h2.2.2 w hlast (by simpa using h), fun h => ?_⟩, rfl⟩
          refine Classical.byContradiction fun h2 => h ⟨q3, by omega, fun w' hw' => ?_⟩
          rw [hlast] at hw'
          injection hw' with hw'
          subst hw'
          simpa using h2
  rintro e h ⟨rfl, b, hb, he⟩
  cases b with
  | true =>
    have hno := hb.1 rfl
    simp (disch := omega) only [go_sem, simprocAttr, he]
    exact .mk false rfl hF fun h => absurd h hno
  | false =>
    have hyes : repC B r x.key := Classical.byContradiction fun h => by have := hb.2 h; cases this
    have hge : B.rev ≤ r := by rcases hyes.1 with h | h <;> omega
    have hnl : B.now.length ≤ 1000000 := by
      have h1 := doneL_le (l := B.old) (cs := B.chs.map Ver.c)
      rw [List.length_map] at h1
      exact Nat.le_trans h1 hz
    simp (disch := omega) only [go_sem, simprocAttr, he, ha]
    refine new_opq hs3 fun q h hs => ?_
    have hq := hs.at
    have hp := hs.p1.at
    have hzz := hs.drop.mid.at
    have ha := hs.drop.mid.drop.mid.at
    have hs4 := hs.set (o' := .row 6 [[.str x.key, .str x.val, .int .i64 r, .int .i64 r, .int .i64 1, .int .i64 x.lease]] 1)
    have hq4 := hs4.at
    have hp4 := hs4.p1.at
    have hz4 := hs4.drop.mid.at
    have ha4 := hs4.drop.mid.drop.mid.at
    simp (disch := omega) only [go_sem, simprocAttr, hq, hq4]
    generalize Hp.set h q _ = h4 at hs4 hq4 hp4 hz4 ha4 ⊢
    cases del
    · cases is
      case' false =>
        have hg : kvget B.now x.key = none := by
          cases hq2 : kvget B.now x.key with
          | none => rfl
          | some y => rw [hq2] at his; cases his
        have hww : repW B r false x = ⟨x.key, x.val, r, r, 1, x.lease⟩ := by simp [repW, wNew, hg]
        have hcw : repCh B r false x = .put ⟨x.key, x.val, r, r, 1, x.lease⟩ := by simp [repCh, hww]
        have hnn : repN B false x.key = (B.now.length : Int) + 1 := by simp [repN, hg]
        have hs5 := hs4.p1.set (o' := .row 7 [[.int .i64 r, .int .i64 B.past, .int .i64 ((B.now.length : Int) + 1), .ptr ix 2 0 0, .map vm, cv, o]] 1)
        have hp5 := hs5.at
        simp (disch := omega) only [go_sem, simprocAttr, he, hp4, hp5, ha4, hq4]
        have ek := kv_eqs x ⟨x.key, x.val, r, r, 1, x.lease⟩
        simp only [kvC] at ek
        rw [← hww] at ek
        generalize Hp.set h4 s _ = h5 at hs5 ⊢
        have hs6 : sat h5 (MvLn tp td s ix vm cv o ((B.now.length : Int) + 1) ⟨r, B.past, B.old, B.chs⟩ L X ++ (_ :: _)) := sat.unmid (l1 := MvLn tp td s ix vm cv o ((B.now.length : Int) + 1) ⟨r, B.past, B.old, B.chs⟩ L X) hs5.p1
        have hs7 := mvN.2 ⟨ix, vm, cv, L, X, ⟨rev_ok ok hge, hok.2.1, hok.2.2⟩, hs6⟩
        refine call_use (mvNoteG (v := ⟨r, .put ⟨x.key, x.val, r, r, 1, x.lease⟩⟩) hs7 hr0 (by show B.old.length + B.chs.length ≤ _; omega)) ?_
      case' true =>
        obtain ⟨y, hg⟩ : ∃ y, kvget B.now x.key = some y := by
          cases hq2 : kvget B.now x.key with
          | none => rw [hq2] at his; cases his
          | some y => exact ⟨y, rfl⟩
        rw [hg, Option.getD_some] at hW0
        subst hW0
        have hyv := hvv W0 (kvget_some hg).1
        have hyk := (now_num ok W0 (kvget_some hg).1).2.2.2.1
        have hww : repW B r false x = ⟨x.key, x.val, W0.create, r, W0.ver + 1, x.lease⟩ := by simp [repW, wNew, hg]
        have hcw : repCh B r false x = .put ⟨x.key, x.val, W0.create, r, W0.ver + 1, x.lease⟩ := by simp [repCh, hww]
        have hnn : repN B false x.key = (B.now.length : Int) := by simp [repN, hg]
        have hs45 := hs4.set (o' := .row 6 [[.str x.key, .str x.val, .int .i64 W0.create, .int .i64 r, .int .i64 (W0.ver + 1), .int .i64 x.lease]] 1)
        have hq45 := hs45.at
        have hp45 := hs45.p1.at
        have hs5 := hs45.p1.set (o' := .row 7 [[.int .i64 r, .int .i64 B.past, .int .i64 (B.now.length : Int), .ptr ix 2 0 0, .map vm, cv, o]] 1)
        have hp5 := hs5.at
        simp (disch := omega) only [go_sem, simprocAttr, he, hp4, hp5, ha4, hq4, hz4, hq45, hp45, hs4.set.drop.mid.at]
        have ek := kv_eqs x ⟨x.key, x.val, W0.create, r, W0.ver + 1, x.lease⟩
        simp only [kvC] at ek
        rw [← hww] at ek
        generalize Hp.set (Hp.set h4 q _) s _ = h5 at hs5 ⊢
        have hs6 : sat h5 (MvLn tp td s ix vm cv o ((B.now.length : Int)) ⟨r, B.past, B.old, B.chs⟩ L X ++ (_ :: _)) := sat.unmid (l1 := MvLn tp td s ix vm cv o ((B.now.length : Int)) ⟨r, B.past, B.old, B.chs⟩ L X) hs5.p1
        have hs7 := mvN.2 ⟨ix, vm, cv, L, X, ⟨rev_ok ok hge, hok.2.1, hok.2.2⟩, hs6⟩
        refine call_use (mvNoteG (v := ⟨r, .put ⟨x.key, x.val, W0.create, r, W0.ver + 1, x.lease⟩⟩) hs7 hr0 (by show B.old.length + B.chs.length ≤ _; omega)) ?_
      all_goals
        rintro v0 h ⟨ix2, vm2, cv2, L2, X2, hok2, hs⟩
        have hq := hs.mid.at
        have ha := hs.mid.drop.mid.drop.mid.at
        have hp := hs.at
        by_cases e1 : x = repW B r false x
        · rw [decide_eq_true e1] at ek
          simp (disch := omega) only [go_sem, simprocAttr, he, hq, ha, ek]
          refine call_use (svMay (x := x) (r := r) hs (by rcases hyes.1 with h | h <;> omega)) ?_
          rintro v1 h ⟨hv1, hs⟩
          subst hv1
          have hp := hs.at
          by_cases e2 : mayP x r
          · rw [decide_eq_true e2]
            simp (disch := omega) only [go_sem, simprocAttr, he, hp]
            refine .mk _ rfl hs.right.drop.drop.drop fun _ hd hok3 => ⟨(svStp ok hcw hnn hok2 hs hd hok3).p1.drop.p1.drop.p1.drop, ?_⟩
            rw [hnn]
            exact ⟨fun h => ⟨e1, .inr e2, of_decide_eq_true h⟩, fun h => decide_eq_true h.2.2⟩
          · rw [decide_eq_false e2]
            simp (disch := omega) only [go_sem, simprocAttr, he, hp]
            refine .mk _ rfl hs.right.drop.drop.drop fun _ hd hok3 => ⟨(svStp ok hcw hnn hok2 hs hd hok3).p1.drop.p1.drop.p1.drop, ?_⟩
            exact ⟨fun h => (by cases h), fun h => absurd (h.2.1.resolve_left (by simp)) e2⟩
        · rw [decide_eq_false e1] at ek
          simp (disch := omega) only [go_sem, simprocAttr, he, hq, ha, ek]
          refine .mk _ rfl hs.right.drop.drop.drop fun _ hd hok3 => ⟨(svStp ok hcw hnn hok2 hs hd hok3).p1.drop.p1.drop.p1.drop, ?_⟩
          exact ⟨fun h => (by cases h), fun h => absurd h.1 e1⟩
    · cases is
      · simp (disch := omega) only [go_sem, simprocAttr, he]
        have hg : kvget B.now x.key = none := by
          cases hq2 : kvget B.now x.key with
          | none => rfl
          | some y => rw [hq2] at his; cases his
        exact .mk false rfl (hmk hs4.drop.mid.drop.mid.drop).drop fun _ h => absurd hg (h rfl)
      have hww : repW B r true x = ⟨x.key, [], 0, r, 0, 0⟩ := by simp [repW]
      have hcw : repCh B r true x = .del x.key := by simp [repCh]
      have hnn : repN B true x.key = (B.now.length : Int) - 1 := by simp [repN]
      have hs45 := hs4.set (o' := .row 6 [[.str x.key, .str [], .int .i64 0, .int .i64 r, .int .i64 0, .int .i64 0]] 1)
      have hq45 := hs45.at
      have hp45 := hs45.p1.at
      have ha45 := hs45.drop.mid.drop.mid.at
      have hs5 := hs45.p1.set (o' := .row 7 [[.int .i64 r, .int .i64 B.past, .int .i64 ((B.now.length : Int) - 1), .ptr ix 2 0 0, .map vm, cv, o]] 1)
      have hp5 := hs5.at
      simp (disch := omega) only [go_sem, simprocAttr, he, hp4, hp5, ha4, hq4, hq45, hp45, ha45]
      have ek := kv_eqs x ⟨x.key, [], 0, r, 0, 0⟩
      simp only [kvC] at ek
      rw [← hww] at ek
      generalize Hp.set (Hp.set h4 q _) s _ = h5 at hs5 ⊢
      have hs6 : sat h5 (MvLn tp td s ix vm cv o ((B.now.length : Int) - 1) ⟨r, B.past, B.old, B.chs⟩ L X ++ (_ :: _)) := sat.unmid (l1 := MvLn tp td s ix vm cv o ((B.now.length : Int) - 1) ⟨r, B.past, B.old, B.chs⟩ L X) hs5.p1
      have hs7 := mvN.2 ⟨ix, vm, cv, L, X, ⟨rev_ok ok hge, hok.2.1, hok.2.2⟩, hs6⟩
      refine call_use (mvNoteG (v := ⟨r, .del x.key⟩) hs7 hr0 (by show B.old.length + B.chs.length ≤ _; omega)) ?_
      rintro v0 h ⟨ix2, vm2, cv2, L2, X2, hok2, hs⟩
      have hq := hs.mid.at
      have ha := hs.mid.drop.mid.drop.mid.at
      have hp := hs.at
      by_cases e1 : x = repW B r true x
      · rw [decide_eq_true e1] at ek
        simp (disch := omega) only [go_sem, simprocAttr, he, hq, ha, ek, hp]
        refine .mk _ rfl hs.right.drop.drop.drop fun _ hd hok3 => ⟨(svStp ok hcw hnn hok2 hs hd hok3).p1.drop.p1.drop.p1.drop, ?_⟩
        rw [hnn]
        exact ⟨fun h => ⟨e1, .inl rfl, of_decide_eq_true h⟩, fun h => decide_eq_true h.2.2⟩
      · rw [decide_eq_false e1] at ek
        simp (disch := omega) only [go_sem, simprocAttr, he, hq, ha, ek]
        refine .mk _ rfl hs.right.drop.drop.drop fun _ hd hok3 => ⟨(svStp ok hcw hnn hok2 hs hd hok3).p1.drop.p1.drop.p1.drop, ?_⟩
        exact ⟨fun h => (by cases h), fun h => absurd h.1 e1⟩
end
end Go.Proofs.Ytkclojjeepomfaa
/- A store is loaded: its bytes, cut short, or with more behind, too. -/
set_option linter.unusedSimpArgs false
set_option linter.unusedVariables false
set_option maxRecDepth 10000
namespace Go.Proofs.Ytkclojjeepomfaa
open Go.Hz

/-- What is left to be read behind the keys, behind the changes that were read. -/
def svR2 (A : Sto) : List UInt8 := beB 8 A.chs.length ++ A.chs.flatMap svVer
/-- A store without keys. -/
def Sto.bare (c : Int) : Sto := ⟨c, c, [], []⟩
section
variable {h : Hp} {F : List Asr} {p s : Nat} {A : Sto} {o : AV} {m : Option (List UInt8)}
theorem bare_ok {c : Int} (hc : 0 ≤ c) : StoOK (Sto.bare c) :=
  ⟨hc, Int.le_refl _, List.Pairwise.nil, (fun x hx => by cases hx), List.Pairwise.nil, (fun v hv => by cases hv), ⟨(fun x hx => by cases hx), (fun v hv => by cases hv)⟩, (fun a v b h => by have h : [] = a ++ v :: b := h; simp at h), ⟨(fun x hx => by cases hx), (fun v hv => by cases hv)⟩⟩
/-- The next change is done again as it was. -/
theorem rep_next (ok : StoOK A) (hf : StoFine A) {a b : List Ver} {v : Ver} (h : A.chs = a ++ v :: b) :
    repC (A.upto a) v.rev (evKv v).key ∧ (v.c.kv.isNone = true → kvget (A.upto a).now (evKv v).key ≠ none) ∧ repS (A.upto a) v.rev v.c.kv.isNone (evKv v) = A.upto (a ++ [v]) ∧
      (evKv v = repW (A.upto a) v.rev v.c.kv.isNone (evKv v) ∧ (v.c.kv.isNone = true ∨ mayP (evKv v) v.rev) ∧ repN (A.upto a) v.c.kv.isNone (evKv v).key ≤ 4096) := by
  obtain ⟨h1, h2, h3⟩ := upto_next ok hf h
  have hv : v ∈ A.chs := by rw [h]; simp
  have hkk : (evKv v).key = v.c.key := by unfold evKv; cases v.c <;> rfl
  have hokv := ok.key.2 v hv
  have hnum := ok.num.2 v hv
  have hdel := ok.del a v b h
  have hc := ok.chs
  rw [h] at hc
  have hpre := (List.pairwise_append.1 hc).2.2
  have hC : repC (A.upto a) v.rev (evKv v).key := by
    refine ⟨h3, h1, fun w hw => ?_⟩
    have hm := List.mem_of_getLast? hw
    unfold Sto.vers at hm
    rcases List.mem_append.1 hm with hm | hm
    · have hm : w ∈ ((kvget A.old (evKv v).key).map verO).toList := hm
      cases hg : kvget A.old (evKv v).key with
      | none => rw [hg] at hm; simp at hm
      | some x =>
        rw [hg] at hm
        simp at hm; subst hm
        have := (ok.oldm x (kvget_some hg).1).2
        show x.mod ≠ v.rev
        omega
    · obtain ⟨hm1, hm2⟩ := List.mem_filter.1 hm
      have := (hpre w hm1 v (by simp)).2 (by rw [← hkk]; simpa using hm2)
      omega
  have hnow : (A.upto a).now = doneL A.old (a.map Ver.c) := rfl
  have hD : v.c.kv.isNone = true → kvget (A.upto a).now (evKv v).key ≠ none := by
    intro h5
    rw [hnow, hkk]
    exact hdel (by simpa using h5)
  have hW : evKv v = repW (A.upto a) v.rev v.c.kv.isNone (evKv v) ∧ repCh (A.upto a) v.rev v.c.kv.isNone (evKv v) = v.c := by
    have hr := hf.right a v b h
    unfold evKv
    cases hcc : v.c with
    | put x =>
      have := hr x hcc
      rw [← hnow] at this
      simp only [Ch.kv, Option.getD_some, Option.isNone_some, repW, repCh, Bool.false_eq_true, if_false]
      exact ⟨this, by rw [← this]⟩
    | del k =>
      simp [Ch.kv, Ch.key, repW, repCh]
  have hS : repS (A.upto a) v.rev v.c.kv.isNone (evKv v) = A.upto (a ++ [v]) := by
    unfold repS Sto.upto
    rw [lastR_snoc]
    have e : repCh (A.upto a) v.rev v.c.kv.isNone (evKv v) = v.c := hW.2
    unfold Sto.upto at e
    rw [e]
  refine ⟨hC, hD, hS, hW.1, ?_, ?_⟩
  · cases hcc : v.c with
    | del k => exact .inl rfl
    | put x =>
      right
      obtain ⟨n1, n2, n3, n4, n5, n6, n7, n8⟩ := hnum x hcc
      rw [hcc] at hokv
      unfold evKv
      rw [hcc]
      exact ⟨hokv.1, hokv.2, n8, n7, n2, n3, by show x.mod ≤ v.rev; omega, n5, n6⟩
  · rw [rep_len (r := v.rev) (upto_ok ok h) hD, hS]
    have h9 : (A.upto (a ++ [v])).now = doneL A.old ((a ++ [v]).map Ver.c) := rfl
    have := hf.num (a ++ [v]) b (by rw [h]; simp)
    rw [h9]
    omega
theorem kvW_in {x : Kv} {r : Int} (hx : KvIn r x) (hk : x.key.length ≤ 100) (hr : r ≤ 1000000000000000) (hl : x.lease ≤ 9223372036854775807) : KvW x := by
  obtain ⟨n2, n3, n4, n5, n6, n7, n8⟩ := hx
  refine ⟨by omega, by omega, ?_, ?_, ?_, ?_⟩ <;> unfold i64 <;> omega
theorem kvW_old (ok : StoOK A) (hf : StoFine A) (hr : A.rev ≤ 1000000000000000) {x : Kv} (hx : x ∈ A.old) : KvW x :=
  kvW_in (ok.num.1 x hx) (ok.key.1 x hx).2 (by have := ok.rev; omega) (hf.lea.1 x hx)
theorem kvW_ver (ok : StoOK A) (hf : StoFine A) (hr : A.rev ≤ 1000000000000000) {v : Ver} (hv : v ∈ A.chs) : KvW (evKv v) := by
  have hk := ok.key.2 v hv
  have h1 := ok.chr v hv
  have hp := ok.past
  cases hc : v.c with
  | put x =>
    rw [hc] at hk
    unfold evKv
    rw [hc]
    exact kvW_in (ok.num.2 v hv x hc).2 hk.2 hr (hf.lea.2 v hv x hc)
  | del k =>
    rw [hc] at hk
    have hk2 : k.length ≤ 100 := hk.2
    unfold evKv
    rw [hc]
    refine ⟨by show k.length < _; omega, by simp [Ch.kv], ?_, ?_, ?_, ?_⟩ <;> unfold i64 <;> simp [Ch.kv] <;> omega
theorem flat_len {α : Type} {f : α → List UInt8} {n : Nat} : ∀ {l : List α}, (∀ x ∈ l, (f x).length ≤ n) → (l.flatMap f).length ≤ n * l.length
  | [], _ => Nat.zero_le _
  | x :: l, h => by
    have h1 := h x (by simp)
    have h2 := flat_len (l := l) fun y hy => h y (List.mem_cons_of_mem _ hy)
    rw [List.flatMap_cons, List.length_append, List.length_cons, Nat.mul_succ]
    omega
theorem svA_len (ok : StoOK A) : (svA A).length ≤ 56 + 4236 * A.old.length + 4245 * A.chs.length := by
  have h1 := flat_len (f := svKv) (n := 4236) (l := A.old) fun x hx => svKv_len (ok.key.1 x hx).2 (ok.num.1 x hx).2.2.2.2.2.2
  have h2 := flat_len (f := svVer) (n := 4245) (l := A.chs) fun v hv => by
    obtain ⟨h3, h4⟩ := evKv_sz ok hv
    have := svKv_len h3 h4
    unfold svVer
    simp [beB_length]
    omega
  unfold svA svB
  simp only [List.length_append, txB_length, beB_length, sumsF_len, wordB, List.length_cons, List.length_nil]
  omega
/-- What was saved, cut short. -/
theorem rdG_cut {k : Nat} (hk : k < (svA A).length) : ((svA A).take k) ≠ svA A ∧ (4 ≤ ((svA A).take k).length → ∃ m, RdG m ⟨((svA A).take k).take (((svA A).take k).length - 4), 0, 0⟩ (svB A)) := by
  have hl : ((svA A).take k).length = k := by rw [List.length_take]; omega
  refine ⟨fun h => by rw [h] at hl; omega, fun h4 => ⟨none, rfl, Nat.zero_le _, (svB A).drop (k - 4), ?_, ?_⟩⟩
  · intro h
    have := congrArg List.length h
    unfold svA at hk
    rw [List.length_append, sumsF_len] at hk
    rw [List.length_drop, List.length_nil] at this
    omega
  · have e : ((svA A).take k).take (((svA A).take k).length - 4) = (svB A).take (k - 4) := by
      unfold svA at hk
      rw [List.length_append, sumsF_len] at hk
      rw [hl, List.take_take, Nat.min_eq_left (by omega)]
      unfold svA
      rw [List.take_append_of_le_length (by omega)]
    show (((svA A).take k).take (((svA A).take k).length - 4)).drop 0 ++ _ = _
    rw [e, List.drop_zero, List.take_append_drop]
/-- What was saved, with more behind. -/
theorem rdG_more {l : List UInt8} : (l ≠ [] → svA A ++ l ≠ svA A) ∧ (4 ≤ (svA A ++ l).length → ∃ m, RdG m ⟨(svA A ++ l).take ((svA A ++ l).length - 4), 0, 0⟩ (svB A)) := by
  refine ⟨fun h e => ?_, fun _ => ⟨some ((sumsF (svB A) ++ l).take l.length), ?_⟩⟩
  · have := congrArg List.length e
    rw [List.length_append] at this
    exact h (List.length_eq_zero_iff.1 (by omega))
  · have e : (svA A ++ l).take ((svA A ++ l).length - 4) = svB A ++ (sumsF (svB A) ++ l).take l.length := by
      unfold svA
      rw [List.append_assoc, List.take_append]
      have h1 : (svB A ++ (sumsF (svB A) ++ l)).length - 4 = (svB A).length + l.length := by
        simp only [List.length_append, sumsF_len]; omega
      rw [h1, List.take_of_length_le (by omega)]
      congr 2
      omega
    rw [e]
    exact RS.At.start _
/-- A new store, of which the revisions are set. -/
theorem bare_set {c : Int} (hc : 0 ≤ c) (hs : sat h (StP s ⟨0, 0, [], []⟩ o :: F)) : ∃ ix vm cv, h s = some (.row 7 [[.int .i64 0, .int .i64 0, .int .i64 0, .ptr ix 2 0 0, .map vm, cv, o]] 1) ∧ sat (h.set s (.row 7 [[.int .i64 c, .int .i64 c, .int .i64 0, .ptr ix 2 0 0, .map vm, cv, o]] 1)) (StP s (Sto.bare c) o :: F) := by
  obtain ⟨ix, vm, cv, L, X, hok, hs2⟩ := mvP.1 hs
  refine ⟨ix, vm, cv, hs2.at, mvP.2 ⟨ix, vm, cv, L, X, ⟨bare_ok hc, hok.2.1, hok.2.2⟩, ?_⟩⟩
  exact hs2.set
/-- Load: what was saved is loaded as it was; other bytes are refused, if they are its front, or have more behind. -/
inductive LoadPost (A : Sto) (b : List UInt8) (F : List Asr) (r : AV) (h : Hp) : Prop
  | ok (s : Nat) (h1 : b = svA A) (h2 : r = .tup [.ptr s 7 0 0, .int .i64 0]) (h3 : sat h (StP s A .nilp :: F)) : LoadPost A b F r h
  | bad (h1 : b ≠ svA A) (h2 : r = .tup [.nilp, .int .i64 11]) (h3 : sat h F) : LoadPost A b F r h
theorem svLoad {v : AV} {b : List UInt8} (ok : StoOK A) (hf : StoFine A) (hz : A.old.length + A.chs.length ≤ 200000) (hrr : A.rev ≤ 1000000000000000)
    (hs : sat h F) (hE : ∀ h, sat h F → Bts h v b) (hc : CapOK v) (hb : b.length ≤ 1000000000) (hG : 4 ≤ b.length → ∃ m, RdG m ⟨b.take (b.length - 4), 0, 0⟩ (svB A)) :
    Triple Try.prog 30 [v] h (fun r h => LoadPost A b F r h) := by
  have hlen := Bts.len (hE _ hs)
  have hpa := ok.past
  have hre := ok.rev
  have nbad : ¬ (4 ≤ b.length ∧ sumsF (b.take (b.length - 4)) = b.drop (b.length - 4)) → b ≠ svA A := fun h e => h (svA_sum e)
  refine t30 (Nat.le_of_ble_eq_true rfl) ?_
  simp (disch := omega) only [F30, hlen, go_sem, simprocAttr]
  by_cases g1 : b.length < 4
  · have c1 : ((b.length : Int) < 4) = True := by simp; omega
    simp (disch := omega) only [go_sem, simprocAttr, c1]
    exact .bad (nbad fun h => by omega) rfl hs
  have c1 : ((b.length : Int) < 4) = False := by simp; omega
  obtain ⟨m, hG⟩ := hG (by omega)
  have e4 : (b.length : Int) - 4 = ((b.length - 4 : Nat) : Int) := by omega
  obtain ⟨x, hx, hxE, hxc⟩ := slc_E (A := fun h => sat h F) hs hE hc .i64 .i64 (lo := 0) (hi := b.length - 4) (by omega) (by simp)
  obtain ⟨y, hy, hyE, hyc⟩ := slc_E (A := fun h => sat h F) hs hE hc .i64 .i64 (lo := b.length - 4) (hi := b.length) (by omega) (by simp)
  have hx' : slcL 1 v none (some (.int .i64 ((b.length - 4 : Nat) : Int))) = some x := by rw [slc_lo]; exact hx
  have hy' : slcL 1 v (some (.int .i64 ((b.length - 4 : Nat) : Int))) none = some y := by rw [slc_hi hlen]; exact hy
  have hxB : ∀ h, sat h F → Bts h x (b.take (b.length - 4)) := fun h hs => by
    have := hxE h hs
    rw [List.drop_zero, ← List.map_take, Nat.sub_zero] at this
    exact this
  have hyB : ∀ h, sat h F → Bts h y (b.drop (b.length - 4)) := fun h hs => by
    have := hyE h hs
    rw [← List.map_drop, List.take_of_length_le (by simp)] at this
    exact this
  simp (disch := omega) only [go_sem, simprocAttr, c1, hlen, e4, hx', hy']
  refine call_use (svSums hs hxB hxc (by rw [List.length_take]; omega)) ?_
  rintro q h ⟨u, es, hs, hq, hqc⟩
  simp (disch := omega) only [go_sem, simprocAttr]
  refine call_use (bytesEq2 hs (a := sumsF (b.take (b.length - 4))) (b := b.drop (b.length - 4)) (hq _ _ hs) (hyB _ hs.drop)) ?_
  rintro q2 h ⟨hq2, hs⟩
  subst hq2
  have hs := hs.drop
  by_cases g2 : sumsF (b.take (b.length - 4)) = b.drop (b.length - 4)
  rotate_left
  · have c2 : (sumsF (b.take (b.length - 4)) == b.drop (b.length - 4)) = false := by simpa using g2
    simp (disch := omega) only [go_sem, simprocAttr, c2]
    exact .bad (nbad fun h => g2 h.2) rfl hs
  have c2 : (sumsF (b.take (b.length - 4)) == b.drop (b.length - 4)) = true := by simpa using g2
  clear hq hqc
  simp (disch := omega) only [go_sem, simprocAttr, c2, hlen, e4, hx']
  refine call_use (newReader (b := b.take (b.length - 4)) hs hxB (by rw [List.length_take]; omega)) ?_
  rintro q3 h ⟨p, hq3, hs⟩
  subst hq3
  simp (disch := omega) only [go_sem, simprocAttr]
  refine call_use (mvNew hs) ?_
  rintro q4 h ⟨s, hq4, hs⟩
  subst hq4
  have nD : m = none → b ≠ svA A := fun h => by subst h; exact svB_ne hG
  generalize b.take (b.length - 4) = pay at hG hs
  simp (disch := omega) only [go_sem, simprocAttr]
  refine call_use (rText hs.p1) ?_
  rintro q5 h ⟨hq5, hs⟩
  subst hq5
  simp (disch := omega) only [go_sem, simprocAttr]
  refine call_use (rInt hs) ?_
  rintro q6 h ⟨hq6, hs⟩
  subst hq6
  simp (disch := omega) only [go_sem, simprocAttr]
  refine call_use (rInt hs) ?_
  rintro q7 h ⟨hq7, hs⟩
  subst hq7
  have H : ((RS.mk pay 0 0).tx = wordB ∧ (RS.mk pay 0 0).atx.val 8 = A.rev ∧ ((RS.mk pay 0 0).atx.adv 8).val 8 = A.past ∧ RdG m (((RS.mk pay 0 0).atx.adv 8).adv 8) (beB 8 A.old.length ++ (A.old.flatMap svKv ++ svR2 A))) ∨ (RdD m (((RS.mk pay 0 0).atx.adv 8).adv 8) ∧ ((RS.mk pay 0 0).atx.adv 8).val 8 = 0) := by
    have hG : RdG m (RS.mk pay 0 0) (txB wordB ++ (beB 8 A.rev ++ (beB 8 A.past ++ (beB 8 A.old.length ++ (A.old.flatMap svKv ++ svR2 A))))) := hG
    rcases hG.t (by decide) with ⟨a1, hG⟩ | ⟨_, d⟩
    rotate_left
    · right; simp only [d.adv, d.val]; exact ⟨d, trivial⟩
    rcases hG.i8 (by omega) (by omega) with ⟨a2, hG⟩ | ⟨_, d⟩
    rotate_left
    · right; simp only [d.adv, d.val]; exact ⟨d, trivial⟩
    rcases hG.i8 (by omega) (by omega) with ⟨a3, hG⟩ | ⟨a3, d⟩
    rotate_left
    · exact .inr ⟨d, a3⟩
    exact .inl ⟨a1, a2, a3, hG⟩
  clear hG
  generalize (RS.mk pay 0 0).tx = tx at *
  generalize (RS.mk pay 0 0).atx.val 8 = rv at *
  generalize ((RS.mk pay 0 0).atx.adv 8).val 8 = c at *
  generalize (((RS.mk pay 0 0).atx.adv 8).adv 8) = t0 at *
  have hc0 : 0 ≤ c := by rcases H with ⟨_, _, h, _⟩ | ⟨_, h⟩ <;> omega
  obtain ⟨ix, vm, cv, hp, hs2⟩ := bare_set hc0 hs.p1
  obtain ⟨ix3, vm3, cv3, L3, X3, _, hs3⟩ := mvP.1 hs2
  have hp3 := hs3.at
  have hc1 : (c ≥ 0) = True := by simp; omega
  simp (disch := omega) only [go_sem, simprocAttr, hp]
  generalize Hp.set h s _ = h2 at hs2 hs3 hp3 ⊢
  refine cnd_join1 (Q := fun e h => h = h2 ∧ ∃ fb, (tx = wordB → c ≤ rv → fb = true) ∧ (e 0 = v ∧ e 4 = .ptr p 3 0 0 ∧ e 5 = .ptr s 7 0 0 ∧ e 6 = .bool fb ∧ e 7 = .int .i64 rv)) ?_ ?_
  · refine cnd_bool (fun w => ?_) (fun w => ?_)
    · simp (disch := omega) only [go_sem, simprocAttr, w, hc1]
      exact ⟨_, fun _ h => decide_eq_true h, rfl⟩
    · simp (disch := omega) only [go_sem, simprocAttr, w]
      exact ⟨false, fun h => (by rw [h] at w; exact absurd w (by decide)), rfl⟩
  rintro e h ⟨rfl, fb, hfb, he⟩
  simp (disch := omega) only [go_sem, simprocAttr, he]
  refine call_use (rInt hs2.p1) ?_
  rintro q8 h ⟨hq8, hs⟩
  subst hq8
  simp (disch := omega) only [go_sem, simprocAttr, he]
  refine blk_join (Q := fun e h => ((∃ t, RdG m t (svR2 A) ∧ sat h (Rd p t :: StP s (A.upto []) .nilp :: F) ∧ (e 5 = .ptr s 7 0 0 ∧ e 6 = .bool true ∧ e 7 = .int .i64 A.rev)) ∨ (∃ t fb, RdD m t ∧ sat h (Rd p t :: F) ∧ e 6 = .bool fb)) ∧ (e 0 = v ∧ e 4 = .ptr p 3 0 0)) ?_ ?_
  · refine run_up (N := A.old.length) (fun i e h => ((∃ t, RdG m t ((A.old.drop i).flatMap svKv ++ svR2 A) ∧ sat h (Rd p t :: StP s ⟨A.past, A.past, A.old.take i, []⟩ .nilp :: F) ∧ (e 5 = .ptr s 7 0 0 ∧ e 6 = .bool true ∧ e 7 = .int .i64 A.rev ∧ e 9 = .int .i64 ((A.old.length : Int) - i))) ∨ (∃ t fb z, RdD m t ∧ sat h (Rd p t :: F) ∧ e 6 = .bool fb ∧ e 9 = .int .i64 z)) ∧ (e 0 = v ∧ e 4 = .ptr p 3 0 0)) ⟨?_, by simp [Env.upd_apply, he]⟩ ?_
    · rcases H with ⟨a1, a2, a3, hG⟩ | ⟨d, a3⟩
      · subst a1 a2 a3
        have hfb := hfb rfl hre
        subst hfb
        rcases hG.i8 (by omega) (by omega) with ⟨a4, hG⟩ | ⟨a4, d⟩
        · left
          exact ⟨_, by simpa using hG, hs, by simp [Env.upd_apply, he, a4]⟩
        · right
          exact ⟨_, true, 0, d, hs.d1, by simp [Env.upd_apply, he, a4]⟩
      · right
        have hv := d.val 8
        have had := d.adv 8
        rw [had] at hs
        exact ⟨_, fb, 0, d, hs.d1, by simp [Env.upd_apply, he, hv]⟩
    clear hs hs2 hs3 he hp hp3 H hc0 hc1 hfb
    rintro i e h hi ⟨hI, he0⟩
    rcases hI with ⟨t, hG, hs, he⟩ | ⟨t, fb, z, d, hs, he⟩
    · by_cases hi2 : i < A.old.length
      · have c2 : ((A.old.length : Int) - i > 0) = True := by simp; omega
        have m2 : (A.old.length : Int) - i - 1 = (A.old.length : Int) - (i + 1 : Nat) := by omega
        have et := hG.err
        simp (disch := omega) only [go_sem, simprocAttr, he, he0, c2]
        refine call_use (rErr hs) ?_
        rintro r h ⟨hr, hs⟩
        subst hr
        simp (disch := omega) only [go_sem, simprocAttr, he, he0, et]
        refine call_use (svLoaded hs) ?_
        rintro q9 h ⟨hq9, hs⟩
        subst hq9
        rw [List.drop_eq_getElem_cons hi2, List.flatMap_cons, List.append_assoc] at hG
        have hx0 := kvW_old ok hf hrr (List.getElem_mem hi2)
        have hord : ∀ y ∈ A.old.take i, ltK y.key A.old[i].key = true := by
          intro y hy
          obtain ⟨j, hj, rfl⟩ := List.getElem_of_mem hy
          rw [List.length_take] at hj
          rw [List.getElem_take]
          exact List.pairwise_iff_getElem.1 ok.old j i (by omega) hi2 (by omega)
        have hkl : t.kv.key = [] ∨ ∀ y ∈ A.old.take i, ltK y.key t.kv.key = true := by
          rcases hG.kv hx0 with ⟨h1, _⟩ | ⟨_, h1 | h1, _⟩
          · right; rw [h1]; exact hord
          · right; rw [h1]; exact hord
          · exact .inl h1
        simp (disch := omega) only [go_sem, simprocAttr, he, he0]
        refine call_use (svKeep (x := t.kv) hs.p1 rfl hkl (by show (A.old.take i).length ≤ _; rw [List.length_take]; omega) (by show A.past ≤ _; omega)) ?_
        rintro q10 h ⟨hq10, hs⟩
        subst hq10
        simp (disch := omega) only [go_sem, simprocAttr, he, he0, m2]
        refine ⟨hi2, ?_⟩
        rcases hG.kv hx0 with ⟨h1, hG⟩ | ⟨d, _⟩
        · left
          have hk := ok.key.1 _ (List.getElem_mem hi2)
          obtain ⟨n2, n3, n4, n5, n6, n7, n8⟩ := ok.num.1 _ (List.getElem_mem hi2)
          have hn := hf.num [] A.chs rfl
          have hn : A.old.length ≤ 4096 := hn
          have hm : mayP t.kv A.past ∧ (A.old.take i).length < 4096 := by
            rw [h1]
            exact ⟨⟨hk.1, hk.2, n8, n7, n2, n3, n4, n5, n6⟩, by rw [List.length_take]; omega⟩
          rw [if_pos hm, h1] at hs
          have ek : Sto.kept ⟨A.past, A.past, A.old.take i, []⟩ A.old[i] = ⟨A.past, A.past, A.old.take (i + 1), []⟩ := by
            unfold Sto.kept
            rw [List.take_succ_eq_append_getElem hi2]
          rw [ek] at hs
          exact ⟨_, hG, hs.p1, by rw [decide_eq_true hm]⟩
        · right
          exact ⟨_, _, _, d, hs.drop, rfl, rfl⟩
      · have hi3 : i = A.old.length := by omega
        subst hi3
        have c2 : ((A.old.length : Int) - A.old.length > 0) = False := by simp
        rw [List.drop_length, List.flatMap_nil, List.nil_append] at hG
        rw [List.take_length] at hs
        simp (disch := omega) only [go_sem, simprocAttr, he, he0, c2]
        exact .inl ⟨t, hG, hs⟩
    · cases fb with
      | false =>
        simp (disch := omega) only [go_sem, simprocAttr, he, he0]
        exact .inr ⟨t, false, d, hs, rfl⟩
      | true =>
        by_cases z0 : z > 0
        · have c2 : (z > 0) = True := by simpa using z0
          have e8 := d.2
          simp (disch := omega) only [go_sem, simprocAttr, he, he0, c2]
          refine call_use (rErr hs) ?_
          rintro r h ⟨hr, hs⟩
          subst hr
          simp (disch := omega) only [go_sem, simprocAttr, he, he0, e8]
          exact .inr ⟨t, true, d, hs, rfl⟩
        · have c2 : (z > 0) = False := by simpa using z0
          simp (disch := omega) only [go_sem, simprocAttr, he, he0, c2]
          exact .inr ⟨t, true, d, hs, rfl⟩
  clear hs hs2 hs3 he hp hp3 H hc0 hc1 hfb
  rintro e h ⟨hI, he0⟩
  obtain ⟨t, G, hs, hI⟩ : ∃ t G, sat h (Rd p t :: G) ∧ ((RdG m t (svR2 A) ∧ G = StP s (A.upto []) .nilp :: F ∧ (e 5 = .ptr s 7 0 0 ∧ e 6 = .bool true ∧ e 7 = .int .i64 A.rev)) ∨ (RdD m t ∧ G = F ∧ ∃ fb, e 6 = .bool fb)) := by
    rcases hI with ⟨t, h1, hs, h2⟩ | ⟨t, fb, h1, hs, h2⟩
    · exact ⟨t, _, hs, .inl ⟨h1, rfl, h2⟩⟩
    · exact ⟨t, _, hs, .inr ⟨h1, rfl, fb, h2⟩⟩
  simp (disch := omega) only [go_sem, simprocAttr, he0]
  refine call_use (rInt hs) ?_
  rintro q8 h ⟨hq8, hs⟩
  subst hq8
  simp (disch := omega) only [go_sem, simprocAttr, he0]
  refine blk_join (Q := fun e h => ((∃ t, t.err = 0 ∧ sat h (Rd p t :: StP s A .nilp :: F) ∧ (e 5 = .ptr s 7 0 0 ∧ e 6 = .bool true ∧ e 7 = .int .i64 A.rev)) ∨ (∃ t fb, RdD m t ∧ sat h (Rd p t :: F) ∧ e 6 = .bool fb)) ∧ (e 0 = v ∧ e 4 = .ptr p 3 0 0)) ?_ ?_
  · refine run_up (N := A.chs.length) (fun i e h => ((∃ t, RdG m t ((A.chs.drop i).flatMap svVer) ∧ sat h (Rd p t :: StP s (A.upto (A.chs.take i)) .nilp :: F) ∧ (e 5 = .ptr s 7 0 0 ∧ e 6 = .bool true ∧ e 7 = .int .i64 A.rev ∧ e 10 = .int .i64 ((A.chs.length : Int) - i))) ∨ (∃ t fb z, RdD m t ∧ sat h (Rd p t :: F) ∧ e 6 = .bool fb ∧ e 10 = .int .i64 z)) ∧ (e 0 = v ∧ e 4 = .ptr p 3 0 0)) ⟨?_, by simp [Env.upd_apply, he0]⟩ ?_
    · rcases hI with ⟨hG, hGF, he⟩ | ⟨d, hGF, fb, he⟩
      · rw [hGF] at hs
        rcases hG.i8 (by omega) (by omega) with ⟨a4, hG⟩ | ⟨a4, d⟩
        · exact .inl ⟨_, by simpa using hG, hs, by simp [Env.upd_apply, he, a4]⟩
        · exact .inr ⟨_, true, 0, d, hs.d1, by simp [Env.upd_apply, he, a4]⟩
      · have hv := d.val 8
        have had := d.adv 8
        rw [had, hGF] at hs
        exact .inr ⟨_, fb, 0, d, hs, by simp [Env.upd_apply, he, hv]⟩
    clear hs hI he0
    rintro i e h hi ⟨hI, he0⟩
    rcases hI with ⟨t, hG, hs, he⟩ | ⟨t, fb, z, d, hs, he⟩
    · by_cases hi2 : i < A.chs.length
      · have c2 : ((A.chs.length : Int) - i > 0) = True := by simp; omega
        have m2 : (A.chs.length : Int) - i - 1 = (A.chs.length : Int) - (i + 1 : Nat) := by omega
        have et := hG.err
        have hsp : A.chs = A.chs.take i ++ A.chs[i] :: A.chs.drop (i + 1) := by
          rw [← List.drop_eq_getElem_cons hi2, List.take_append_drop]
        simp (disch := omega) only [go_sem, simprocAttr, he, he0, c2]
        refine call_use (rErr hs) ?_
        rintro r h ⟨hr, hs⟩
        subst hr
        simp (disch := omega) only [go_sem, simprocAttr, he, he0, et]
        refine call_use (rInt hs) ?_
        rintro q9 h ⟨hq9, hs⟩
        subst hq9
        simp (disch := omega) only [go_sem, simprocAttr, he, he0]
        refine call_use (rU8 hs) ?_
        rintro q9 h ⟨hq9, hs⟩
        subst hq9
        simp (disch := omega) only [go_sem, simprocAttr, he, he0]
        refine call_use (svLoaded hs) ?_
        rintro q9 h ⟨hq9, hs⟩
        subst hq9
        rw [List.drop_eq_getElem_cons hi2, List.flatMap_cons] at hG
        have hvm := List.getElem_mem hi2
        have htk : A.chs.take (i + 1) = A.chs.take i ++ [A.chs[i]] := List.take_succ_eq_append_getElem hi2
        generalize A.chs[i] = w at hG hsp hvm htk
        have okB := upto_ok ok hsp
        have H2 : (t.val 8 = w.rev ∧ ((t.adv 8).val 1 == 1) = w.c.kv.isNone ∧ ((t.adv 8).adv 1).kv = evKv w ∧ RdG m ((t.adv 8).adv 1).akv ((A.chs.drop (i + 1)).flatMap svVer)) ∨ RdD m ((t.adv 8).adv 1).akv := by
          unfold svVer at hG
          simp only [List.append_assoc] at hG
          have h1 := ok.chr w hvm
          rcases hG.i8 (by omega) (by omega) with ⟨a1, hG⟩ | ⟨_, d⟩
          rotate_left
          · right; rw [d.adv, d.kv.2]; exact d
          rcases hG.i1 (by split <;> omega) (by split <;> omega) with ⟨a2, hG⟩ | ⟨_, d⟩
          rotate_left
          · right; rw [d.kv.2]; exact d
          rcases hG.kv (kvW_ver ok hf hrr hvm) with ⟨a3, hG⟩ | ⟨d, _⟩
          · exact .inl ⟨a1, by rw [a2]; cases w.c.kv.isNone <;> rfl, a3, hG⟩
          · exact .inr d
        have hlr : lastR A.past (A.chs.take i) ≤ A.rev := by
          rcases lastR_or A.past (A.chs.take i) with ⟨_, e⟩ | ⟨u, hu, e⟩
          · rw [e]; exact hre
          · rw [e]; exact (ok.chr u (List.mem_of_mem_take hu)).2
        have hnn := now_num okB
        simp (disch := omega) only [go_sem, simprocAttr, he, he0]
        refine call_use (svReplay hs.p1 (by show A.old.length + (A.chs.take i).length ≤ _; rw [List.length_take]; omega) (by show lastR A.past (A.chs.take i) ≤ _; omega) (RS.val_in t 8) (RS.kv_in ((t.adv 8).adv 1)) (fun y hy => by obtain ⟨n2, n3, n4, n5, n6, n7, n8⟩ := hnn y hy; have : (A.upto (A.chs.take i)).rev = lastR A.past (A.chs.take i) := rfl; omega)) ?_
        rintro q10 h ⟨b2, hq10, hF, h3⟩
        subst hq10
        simp (disch := omega) only [go_sem, simprocAttr, he, he0, m2]
        refine ⟨hi2, ?_⟩
        rcases H2 with ⟨a1, a2, a3, hG⟩ | d
        · left
          obtain ⟨r1, r2, r3, r4⟩ := rep_next ok hf hsp
          rw [a1, a2, a3] at h3
          obtain ⟨hs, hb2⟩ := h3 r1 r2 (by rw [r3, ← htk]; exact upto_ok ok (List.take_append_drop (i + 1) A.chs).symm)
          rw [r3, ← htk] at hs
          have hbt := hb2.2 r4
          subst hbt
          exact ⟨_, hG, hs.p1, rfl⟩
        · exact .inr ⟨_, b2, _, d, hF, rfl, rfl⟩
      · have hi3 : i = A.chs.length := by omega
        subst hi3
        have c2 : ((A.chs.length : Int) - A.chs.length > 0) = False := by simp
        rw [List.take_length, upto_all ok hf] at hs
        simp (disch := omega) only [go_sem, simprocAttr, he, he0, c2]
        exact .inl ⟨t, hG.err, hs⟩
    · cases fb with
      | false =>
        simp (disch := omega) only [go_sem, simprocAttr, he, he0]
        exact .inr ⟨t, false, d, hs, rfl⟩
      | true =>
        by_cases z0 : z > 0
        · have c2 : (z > 0) = True := by simpa using z0
          have e8 := d.2
          simp (disch := omega) only [go_sem, simprocAttr, he, he0, c2]
          refine call_use (rErr hs) ?_
          rintro r h ⟨hr, hs⟩
          subst hr
          simp (disch := omega) only [go_sem, simprocAttr, he, he0, e8]
          exact .inr ⟨t, true, d, hs, rfl⟩
        · have c2 : (z > 0) = False := by simpa using z0
          simp (disch := omega) only [go_sem, simprocAttr, he, he0, c2]
          exact .inr ⟨t, true, d, hs, rfl⟩
  clear hs hI he0
  rintro e h ⟨hI, he0⟩
  rcases hI with ⟨t, et, hs, he⟩ | ⟨t, fb, d, hs, he⟩
  · simp (disch := omega) only [go_sem, simprocAttr, he, he0]
    refine call_use (rErr hs) ?_
    rintro r h ⟨hr, hs⟩
    subst hr
    simp (disch := omega) only [go_sem, simprocAttr, he, he0, et]
    obtain ⟨ix, vm, cv, L, X, hok, hs2⟩ := mvP.1 hs.p1
    have hp := hs2.at
    have nbr : (A.rev != A.rev) = false := by simp
    simp (disch := omega) only [go_sem, simprocAttr, he, he0, hp, nbr]
    refine call_use (svSave hs.p1 hz) ?_
    rintro q9 h ⟨hq9, hs⟩
    subst hq9
    simp (disch := omega) only [go_sem, simprocAttr, he, he0]
    refine call_use (bytesEq2 hs (a := svA A) (b := b) (Els.lst (eb_one _)) (hE _ hs.drop.drop)) ?_
    rintro q2 h ⟨hq2, hs⟩
    subst hq2
    by_cases e1 : svA A = b
    · have c3 : (svA A == b) = true := by simpa using e1
      simp (disch := omega) only [go_sem, simprocAttr, he, c3]
      exact .ok s e1.symm rfl hs.d1
    · have c3 : (svA A == b) = false := by simpa using e1
      simp (disch := omega) only [go_sem, simprocAttr, he, c3]
      exact .bad (fun h => e1 h.symm) rfl hs.drop.drop
  · cases fb with
    | false =>
      simp (disch := omega) only [go_sem, simprocAttr, he, he0]
      exact .bad (nD d.1) rfl hs.drop
    | true =>
      have e8 := d.2
      simp (disch := omega) only [go_sem, simprocAttr, he, he0]
      refine call_use (rErr hs) ?_
      rintro r h ⟨hr, hs⟩
      subst hr
      simp (disch := omega) only [go_sem, simprocAttr, he, he0, e8]
      exact .bad (nD d.1) rfl hs.drop
end
end Go.Proofs.Ytkclojjeepomfaa
/- The law MvccSaves, walked. -/
set_option linter.unusedSimpArgs false
set_option linter.unusedVariables false
set_option maxRecDepth 10000
namespace Go.Proofs.Ytkclojjeepomfaa
open Go.Hz

section
theorem saves8 {cs : List Cl8} {f : Int} {mo : List UInt8} (hl : cs.length ≤ 1048576) (hc : ∀ c ∈ cs, c.ok) (hf : inI f) (hmo : mo.length ≤ 1048576) : Triple Try.prog 9 [clsV8 cs, .int .i64 f, bytesV mo] Hp.emp (fun r _ => r = .bool true) := by
  have hs : sat Hp.emp [] := trivial
  have lenC := len_clsV8 cs
  refine t9 (Nat.le_of_ble_eq_true rfl) ?_
  simp (disch := omega) only [F9, go_sem, simprocAttr]
  refine call_use (known8 hs) ?_
  rintro r h ⟨hr, hs⟩
  subst hr
  simp (disch := omega) only [go_sem, simprocAttr]
  refine call_use (mvNew hs) ?_
  rintro r h ⟨s, hr, hs⟩
  subst hr
  simp (disch := omega) only [go_sem, simprocAttr]
  refine blk_join (Q := fun e h => ∃ A, sat h [StP s A .nilp] ∧ StoFine A ∧ A.old = [] ∧ A.chs.length ≤ 600 ∧ A.rev ≤ 40 ∧ (e 1 = .int .i64 f ∧ e 2 = bytesV mo ∧ e 7 = .ptr s 7 0 0)) ?_ ?_
  · refine run_up (N := min cs.length 20) (fun i e h => ∃ A, sat h [StP s A .nilp] ∧ StoFine A ∧ A.old = [] ∧ A.now.length ≤ 30 * i ∧ A.chs.length ≤ 30 * i ∧ A.rev ≤ i ∧ (e 0 = clsV8 cs ∧ e 1 = .int .i64 f ∧ e 2 = bytesV mo ∧ e 7 = .ptr s 7 0 0 ∧ e 8 = .int .i64 i))
      ⟨_, hs, fine_new, rfl, by simp [Sto.now, doneL], by simp, by simp, rfl, rfl, rfl, rfl, rfl⟩ ?_
    clear hs
    rintro i e h hiN ⟨A, hs, a1, a2, a3, a4, a5, he⟩
    have m1 : (i : Int) + 1 = ((i + 1 : Nat) : Int) := by omega
    by_cases hi : i < min cs.length 20
    · have c1 : ((i : Int) < cs.length) = True := by simp; omega
      have c2 : ((i : Int) < 20) = True := by simp; omega
      have hi1 : i < cs.length := by omega
      have hik := at_clsV8 hi1
      have hok := hc _ (List.getElem_mem hi1)
      generalize cs[i] = c at hik hok
      simp (disch := omega) only [go_sem, simprocAttr, he, lenC, c1, c2, hik]
      refine call_use (few8 (c := c) hs hok) ?_
      rintro r h ⟨b, hr, hb, hs⟩
      subst hr
      cases b with
      | false =>
        simp (disch := omega) only [go_sem, simprocAttr, he, m1]
        exact ⟨by omega, A, hs, a1, a2, by omega, by omega, by omega⟩
      | true =>
        have hd30 := hb rfl
        simp (disch := omega) only [go_sem, simprocAttr, he]
        refine call_use (mvWrite hs) ?_
        rintro r h ⟨w, hr, hs⟩
        subst hr
        simp (disch := omega) only [go_sem, simprocAttr]
        refine blk_join (Q := fun e h => ∃ W, sat h [WtP w s A W, StP s A (.ptr w 4 0 0)] ∧ WrFine A W ∧ WB A W 30 ∧ W.l.length ≤ 30 ∧ (e 0 = clsV8 cs ∧ e 1 = .int .i64 f ∧ e 2 = bytesV mo ∧ e 7 = .ptr s 7 0 0 ∧ e 8 = .int .i64 i ∧ e 9 = .ptr w 4 0 0)) ?_ ?_
        · have lenD := len_doesV c.does
          refine run_up (N := c.does.length) (fun k e h => ∃ W, sat h [WtP w s A W, StP s A (.ptr w 4 0 0)] ∧ WrFine A W ∧ WB A W k ∧ W.l.length ≤ k ∧ (e 0 = clsV8 cs ∧ e 1 = .int .i64 f ∧ e 2 = bytesV mo ∧ e 7 = .ptr s 7 0 0 ∧ e 8 = .int .i64 i ∧ e 9 = .ptr w 4 0 0 ∧ e 10 = .int .i64 k)) ⟨_, hs, fine_wr a1, wb_nil, Nat.le_refl _, by simp [Env.upd_apply, he]⟩ ?_
          clear hs he
          rintro k e h hk ⟨W, hs, hwf, hwb, hwl, he⟩
          have ok := MvP.ok hs.p1
          have hw := WrP.ok hs
          have m2 : (k : Int) + 1 = ((k + 1 : Nat) : Int) := by omega
          have wc := hwb.cur ok hw
          simp (disch := omega) only [go_sem, simprocAttr, he, hik, lenD, m2]
          refine cnd_dec (fun g1 => ?_) (fun g1 => ?_)
          · have hk' : k < c.does.length := by omega
            have hia := at_doesV hk'
            generalize c.does[k] = d at hia
            simp (disch := omega) only [go_sem, simprocAttr, he, hik, hia]
            refine call_use (mvPut (key := d.key) (val := d.val) (lease := 0) hs (by omega) (by omega) (by omega) (by omega)) ?_
            rintro r h ⟨hr, hs⟩
            subst hr
            simp (disch := omega) only [go_sem, simprocAttr, he, m2]
            have hwl2 : (wPut (A.rev + 1) W d.key d.val 0).2.l.length ≤ k + 1 := by
              unfold wPut
              split
              · exact Nat.le_succ_of_le hwl
              split
              · exact Nat.le_succ_of_le hwl
              split
              · exact Nat.le_succ_of_le hwl
              split
              · exact Nat.le_succ_of_le hwl
              · simp; exact hwl
            exact ⟨hk', _, hs, hwf.put ok hw (by omega), hwb.put, hwl2⟩
          · simp (disch := omega) only [go_sem, simprocAttr, he]
            exact ⟨W, hs, hwf, hwb.mono (by omega), by omega⟩
        clear hs he
        rintro e h ⟨W, hs, hwf, hwb, hwl, he⟩
        have ok := MvP.ok hs.p1
        have hw := WrP.ok hs
        have wc := hwb.cur ok hw
        simp (disch := omega) only [go_sem, simprocAttr, he]
        refine call_use (mvDone hs (by rw [a2]; simp; omega) (by omega)) ?_
        rintro r h ⟨hr, hs⟩
        subst hr
        obtain ⟨d1, d2, d3, _, d4⟩ := stDone_len (A := A) (W := W)
        simp (disch := omega) only [go_sem, simprocAttr, he, m1]
        exact ⟨by omega, _, hs, fine_done a1 hwf, by rw [d2, a2], by rw [stDone_now hw]; omega, by rw [d1]; omega, by omega⟩
    · by_cases h1 : i < cs.length
      · have c1 : ((i : Int) < cs.length) = True := by simp; omega
        have c2 : ((i : Int) < 20) = False := by simp; omega
        simp (disch := omega) only [go_sem, simprocAttr, he, lenC, c1, c2]
        exact ⟨A, hs, a1, a2, by omega, by omega⟩
      · have c1 : ((i : Int) < cs.length) = False := by simp; omega
        simp (disch := omega) only [go_sem, simprocAttr, he, lenC, c1]
        exact ⟨A, hs, a1, a2, by omega, by omega⟩
  clear hs
  rintro e h ⟨A, hs, a1, a2, a3, a4, he⟩
  have ok := MvP.ok hs
  have hsz : A.old.length + A.chs.length ≤ 1000 := by rw [a2]; simp; omega
  have hal := svA_len ok
  simp (disch := omega) only [go_sem, simprocAttr, he]
  refine call_use (svSave hs (by omega)) ?_
  rintro r h ⟨hr, hs⟩
  subst hr
  simp (disch := omega) only [go_sem, simprocAttr, he]
  refine call_use (svLoad (b := svA A) ok a1 (by omega) (by omega) hs (fun h hs => Els.lst (eb_one _)) capOK_lst (by omega) (fun _ => ⟨some [], ?_⟩)) ?_
  · have e : (svA A).take ((svA A).length - 4) = svB A := by
      unfold svA
      rw [List.length_append, sumsF_len, Nat.add_sub_cancel, List.take_left]
    rw [e]
    show RS.At _ (svB A ++ [])
    rw [List.append_nil]
    exact RS.At.start _
  rintro r h hp
  rcases hp with ⟨t, _, hr, hs⟩ | ⟨hb, _, _⟩
  rotate_left
  · exact absurd rfl hb
  subst hr
  have hsl : 4 ≤ (svA A).length := by unfold svA; rw [List.length_append, sumsF_len]; omega
  have lenB : lenL (bytesV (svA A)) = some (.int .i64 (svA A).length) := by simp [bytesV, lenL]
  have c0 : (((svA A).length : Int) == 0) = false := by rw [beq_eq_false_iff_ne]; omega
  have nbr : (A.rev != A.rev) = false := by simp
  simp (disch := omega) only [go_sem, simprocAttr, he, lenB, c0]
  refine call_use (mvRev hs) ?_
  rintro r h ⟨hr, hs⟩
  subst hr
  simp (disch := omega) only [go_sem, simprocAttr, he]
  refine call_use (mvRev hs.p1) ?_
  rintro r h ⟨hr, hs⟩
  subst hr
  simp (disch := omega) only [go_sem, simprocAttr, he, nbr, lenB]
  refine call_use (within8 hs hf.1 hf.2 (n := (svA A).length) (by omega) (by omega)) ?_
  rintro r h ⟨k, hr, _, hk, hs⟩
  subst hr
  have hsc : slcL 1 (bytesV (svA A)) none (some (.int .i64 (k : Int))) = some (bytesV ((svA A).take k)) := by
    have := slc_lstHi (es := (svA A).map eb) (s := 1) (n := k) (k := .i64) (by simp; omega) (fun e he => by obtain ⟨x, _, rfl⟩ := List.mem_map.1 he; rfl)
    rw [← List.map_take] at this; exact this
  obtain ⟨q1, q2⟩ := rdG_cut hk
  simp (disch := omega) only [go_sem, simprocAttr, hsc]
  refine call_use (svLoad (b := (svA A).take k) ok a1 (by omega) (by omega) hs (fun h hs => Els.lst (eb_one _)) capOK_lst (by rw [List.length_take]; omega) q2) ?_
  rintro r h hp
  rcases hp with ⟨_, hb, _, _⟩ | ⟨_, hr, hs⟩
  · exact absurd hb q1
  subst hr
  have lenM : lenL (bytesV mo) = some (.int .i64 mo.length) := by simp [bytesV, lenL]
  simp (disch := omega) only [go_sem, simprocAttr, he, lenM]
  by_cases m0 : 0 < mo.length ∧ mo.length < 100
  · have c1 : ((mo.length : Int) > 0) = True := by simp; omega
    have c2 : ((mo.length : Int) < 100) = True := by simp; omega
    simp (disch := omega) only [go_sem, simprocAttr, he, lenM, c1, c2]
    refine new_opq hs fun n h hs => ?_
    simp (disch := omega) only [go_sem, simprocAttr, he]
    have hsz1 : ∀ e ∈ (svA A).map eb, e.length = 1 := fun e he => by obtain ⟨x, _, rfl⟩ := List.mem_map.1 he; rfl
    have hsz2 : ∀ e ∈ mo.map eb, e.length = 1 := fun e he => by obtain ⟨x, _, rfl⟩ := List.mem_map.1 he; rfl
    refine app_satO (bytes := 1) (hs.ow (Nat.zero_le _)) (src_lst hsz1) (atoms_eb _) (by simp; omega) fun v1 h hs ca aa => ?_
    simp (disch := omega) only [go_sem, simprocAttr, ca, aa, he]
    refine app_sat (bytes := 1) hs (src_lst hsz2) (atoms_eb _) (by simp; omega) fun v2 h hs ca aa => ?_
    have e2 : [] ++ (svA A).map eb ++ mo.map eb = (svA A ++ mo).map eb := by simp
    rw [e2] at hs
    obtain ⟨p1, p2⟩ := rdG_more (A := A) (l := mo)
    simp (disch := omega) only [go_sem, simprocAttr, ca, aa]
    refine call_use (svLoad (b := svA A ++ mo) ok a1 (by omega) (by omega) hs (fun h hs => hs.bts) hs.cap (by rw [List.length_append]; omega) p2) ?_
    rintro r h hp
    rcases hp with ⟨_, hb, _, _⟩ | ⟨_, hr, hs⟩
    · exact absurd hb (p1 fun h => by rw [h] at m0; simp at m0)
    subst hr
    simp (disch := omega) only [go_sem, simprocAttr]
  · by_cases m1 : 0 < mo.length
    · have c1 : ((mo.length : Int) > 0) = True := by simp; omega
      have c2 : ((mo.length : Int) < 100) = False := by simp; omega
      simp (disch := omega) only [go_sem, simprocAttr, he, lenM, c1, c2]
    · have c1 : ((mo.length : Int) > 0) = False := eq_false (by omega)
      simp (disch := omega) only [go_sem, simprocAttr, he, lenM, c1]
theorem mvccSaves_law (vs : List AV) (h : Ty.ones [.sl (.st tyCl8), .int .i64, .sl (.int .u8)] vs) (hN : Ty.bulks [.sl (.st tyCl8), .int .i64, .sl (.int .u8)] vs ≤ 1048576) : Triple Try.prog 9 vs Hp.emp (fun r _ => r = .bool true) := by
  obtain ⟨a, _, rfl, ha, h⟩ := ones_cons h
  obtain ⟨b, _, rfl, hb, h⟩ := ones_cons h
  obtain ⟨c, _, rfl, hc', h⟩ := ones_cons h
  obtain rfl := ones_nil h
  obtain ⟨n1, n2⟩ := bulk1_le hN
  obtain ⟨n3, n4⟩ := bulk1_le n2
  obtain ⟨n5, _⟩ := bulk1_le n4
  obtain ⟨cs, rfl, hl, hc⟩ := cls8_of ha n1
  obtain ⟨f, rfl, h1, h2⟩ := int_of hb
  obtain ⟨mo, rfl, _⟩ := bytes_of hc'
  have e5 : (Ty.sl (.int .u8)).bulk1 (.lst (mo.map eb)) = (Ty.sl (.int .u8)).bulk [bytesV mo] := rfl
  rw [e5, bulk_bytes] at n5
  exact saves8 hl hc ⟨h1, h2⟩ (by omega)
end
end Go.Proofs.Ytkclojjeepomfaa
