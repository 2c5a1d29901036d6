/- slices: pdqsort. -/
import Derived.Test.YtbaokmcljlfhnaaR31FolkPlaysLawPD
set_option linter.unusedSimpArgs false
set_option linter.unusedVariables false
set_option maxRecDepth 10000
namespace Go.Proofs.Ytbaokmcljlfhnaa
open Go.Hz Go.Sort

section
variable {h : Hp} {F : List Asr} {G : List AV → Prop} {lt : List AV → List AV → Bool}

theorem pdq_R {fc : Nat} {caps : List AV} (hf : okFn Try.prog fc = true) (hc : CmpT Try.prog true G lt fc caps) (E : GoodE 7 true G) (hO : SWO lt) : ∀ (m : Nat) (F : List Asr) (h : Hp) (d : Array (List AV)) (a bb lim b cap : Nat), bb - a ≤ m → sat h (pto b (.row 7 d.toList cap) :: F) → GA G d → a ≤ bb → bb ≤ d.size → d.size ≤ 100000000 → Below lt a bb d → lim ≤ 64 →
    Triple Try.prog 28 [.arr b 7 0 d.size cap, .int .i64 a, .int .i64 bb, .int .i64 lim, .fn fc caps] h (fun r h => ∃ R : Array (List AV), PermIn a bb d R ∧ SortedIn lt a bb R ∧ GA G R ∧ R.size = d.size ∧ sat h (pto b (.row 7 R.toList cap) :: F)) := by
  intro m
  induction m using Nat.strongRecOn with
  | _ m ih =>
  intro F h d a0 b0 lim0 b cap hm hs hg ha hb hsz hB hlim
  refine t28 (Nat.le_of_ble_eq_true rfl) ?_
  simp (disch := omega) only [F28, go_sem, reduceCtorEq, ↓reduceIte, Nat.reduceEqDiff, Nat.reduceAdd, Nat.reduceSub, Nat.reduceMul, Nat.reduceLT, Nat.reduceLeDiff, Int.reduceEq, Int.reduceNe, Int.reduceLT, Int.reduceLE, Int.reduceBEq, Int.reduceBNe, Int.reduceToNat]
  refine run_loopN (fun n e h => ∃ (a bb lim : Nat) (wb wp : Bool) (D : Array (List AV)), n = bb - a ∧ bb - a ≤ b0 - a0 ∧ a ≤ bb ∧ bb ≤ d.size ∧ lim ≤ 64 ∧ Below lt a bb D ∧ GA G D ∧ D.size = d.size ∧
    (∀ R, PermIn a bb D R → SortedIn lt a bb R → PermIn a0 b0 d R ∧ SortedIn lt a0 b0 R) ∧ sat h (pto b (.row 7 D.toList cap) :: F) ∧
    (e 0 = .arr b 7 0 d.size cap ∧ e 1 = .int .i64 a ∧ e 2 = .int .i64 bb ∧ e 3 = .int .i64 lim ∧ e 4 = .fn fc caps ∧ e 10 = .bool wb ∧ e 11 = .bool wp)) _ ⟨a0, b0, lim0, true, true, d, rfl, Nat.le_refl _, ha, hb, hlim, hB, hg, rfl, fun R h1 h2 => ⟨h1, h2⟩, hs, rfl, rfl, rfl, rfl, rfl, rfl, rfl⟩ ?_
  rintro n e h ⟨a, bb, lim, wb, wp, D, rfl, hl, hab, hbs, hlim, hB, hgD, hzD, hC, hs, he⟩
  have n0 : (bb : Int) - a = ((bb - a : Nat) : Int) := by omega
  simp (disch := omega) only [go_sem, reduceCtorEq, ↓reduceIte, Nat.reduceEqDiff, Nat.reduceAdd, Nat.reduceSub, Nat.reduceMul, Nat.reduceLT, Nat.reduceLeDiff, Int.reduceEq, Int.reduceNe, Int.reduceLT, Int.reduceLE, Int.reduceBEq, Int.reduceBNe, Int.reduceToNat, he, n0]
  refine cnd_dec (fun h12 => ?_) (fun h12 => ?_)
  · simp (disch := omega) only [go_sem, reduceCtorEq, ↓reduceIte, Nat.reduceEqDiff, Nat.reduceAdd, Nat.reduceSub, Nat.reduceMul, Nat.reduceLT, Nat.reduceLeDiff, Int.reduceEq, Int.reduceNe, Int.reduceLT, Int.reduceLE, Int.reduceBEq, Int.reduceBNe, Int.reduceToNat, he]
    refine call_use (by rw [← hzD]; exact ins_R hf hc E hs hgD hab (by omega) (by omega)) ?_
    rintro r h ⟨hg1, hz1, hs⟩
    obtain ⟨p1, p2⟩ := insertionSort_holds (lt := lt) hO D a bb hab (by omega)
    obtain ⟨c1, c2⟩ := hC _ p1 p2
    simp (disch := omega) only [go_sem, reduceCtorEq, ↓reduceIte, Nat.reduceEqDiff, Nat.reduceAdd, Nat.reduceSub, Nat.reduceMul, Nat.reduceLT, Nat.reduceLeDiff, Int.reduceEq, Int.reduceNe, Int.reduceLT, Int.reduceLE, Int.reduceBEq, Int.reduceBNe, Int.reduceToNat]
    exact ⟨_, c1, c2, hg1, by omega, hs⟩
  have hle : ((lim : Int) == 0) = decide (lim = 0) := by
    by_cases hq : lim = 0
    · subst hq; rfl
    · simp [hq]
  simp (disch := omega) only [go_sem, reduceCtorEq, ↓reduceIte, Nat.reduceEqDiff, Nat.reduceAdd, Nat.reduceSub, Nat.reduceMul, Nat.reduceLT, Nat.reduceLeDiff, Int.reduceEq, Int.reduceNe, Int.reduceLT, Int.reduceLE, Int.reduceBEq, Int.reduceBNe, Int.reduceToNat, he, hle]
  refine cnd_bool (fun h0 => ?_) (fun h0 => ?_)
  · simp (disch := omega) only [go_sem, reduceCtorEq, ↓reduceIte, Nat.reduceEqDiff, Nat.reduceAdd, Nat.reduceSub, Nat.reduceMul, Nat.reduceLT, Nat.reduceLeDiff, Int.reduceEq, Int.reduceNe, Int.reduceLT, Int.reduceLE, Int.reduceBEq, Int.reduceBNe, Int.reduceToNat, he]
    refine call_use (by rw [← hzD]; exact heap_R hf hc E hs hgD hab (by omega) (by omega)) ?_
    rintro r h ⟨hg1, hz1, hs⟩
    obtain ⟨p1, p2⟩ := heapSort_holds (lt := lt) hO D a bb hab (by omega)
    obtain ⟨c1, c2⟩ := hC _ p1 p2
    simp (disch := omega) only [go_sem, reduceCtorEq, ↓reduceIte, Nat.reduceEqDiff, Nat.reduceAdd, Nat.reduceSub, Nat.reduceMul, Nat.reduceLT, Nat.reduceLeDiff, Int.reduceEq, Int.reduceNe, Int.reduceLT, Int.reduceLE, Int.reduceBEq, Int.reduceBNe, Int.reduceToNat]
    exact ⟨_, c1, c2, hg1, by omega, hs⟩
  have h0 : lim ≠ 0 := by simpa using h0
  simp (disch := omega) only [go_sem, reduceCtorEq, ↓reduceIte, Nat.reduceEqDiff, Nat.reduceAdd, Nat.reduceSub, Nat.reduceMul, Nat.reduceLT, Nat.reduceLeDiff, Int.reduceEq, Int.reduceNe, Int.reduceLT, Int.reduceLE, Int.reduceBEq, Int.reduceBNe, Int.reduceToNat, he]
  refine cnd_join (Q := fun e h => ∃ (D1 : Array (List AV)) (lim1 : Nat), PermIn a bb D D1 ∧ GA G D1 ∧ D1.size = d.size ∧ lim1 ≤ 64 ∧ sat h (pto b (.row 7 D1.toList cap) :: F) ∧
    (e 0 = .arr b 7 0 d.size cap ∧ e 1 = .int .i64 a ∧ e 2 = .int .i64 bb ∧ e 3 = .int .i64 lim1 ∧ e 4 = .fn fc caps ∧ e 10 = .bool wb ∧ e 11 = .bool wp ∧ e 12 = .int .i64 (bb - a : Nat))) ?_ ?_
  · cases wb
    · have ml : (lim : Int) - 1 = ((lim - 1 : Nat) : Int) := by omega
      simp (disch := omega) only [go_sem, reduceCtorEq, ↓reduceIte, Nat.reduceEqDiff, Nat.reduceAdd, Nat.reduceSub, Nat.reduceMul, Nat.reduceLT, Nat.reduceLeDiff, Int.reduceEq, Int.reduceNe, Int.reduceLT, Int.reduceLE, Int.reduceBEq, Int.reduceBNe, Int.reduceToNat, he]
      refine call_use (by rw [← hzD]; exact brk_R E hs hgD (by omega) (by omega) (by omega)) ?_
      rintro r h ⟨D1, p1, hg1, hz1, hs⟩
      simp (disch := omega) only [go_sem, reduceCtorEq, ↓reduceIte, Nat.reduceEqDiff, Nat.reduceAdd, Nat.reduceSub, Nat.reduceMul, Nat.reduceLT, Nat.reduceLeDiff, Int.reduceEq, Int.reduceNe, Int.reduceLT, Int.reduceLE, Int.reduceBEq, Int.reduceBNe, Int.reduceToNat, he, ml]
      exact ⟨D1, lim - 1, p1, hg1, by omega, by omega, hs, rfl⟩
    · simp (disch := omega) only [go_sem, reduceCtorEq, ↓reduceIte, Nat.reduceEqDiff, Nat.reduceAdd, Nat.reduceSub, Nat.reduceMul, Nat.reduceLT, Nat.reduceLeDiff, Int.reduceEq, Int.reduceNe, Int.reduceLT, Int.reduceLE, Int.reduceBEq, Int.reduceBNe, Int.reduceToNat, he]
      exact ⟨D, lim, permIn_refl D a bb, hgD, hzD, hlim, hs, rfl⟩
  rintro e h ⟨D1, lim1, hp1, hg1, hz1, hlim1, hs, he⟩
  simp (disch := omega) only [go_sem, reduceCtorEq, ↓reduceIte, Nat.reduceEqDiff, Nat.reduceAdd, Nat.reduceSub, Nat.reduceMul, Nat.reduceLT, Nat.reduceLeDiff, Int.reduceEq, Int.reduceNe, Int.reduceLT, Int.reduceLE, Int.reduceBEq, Int.reduceBNe, Int.reduceToNat, he]
  refine call_use (by rw [← hz1]; exact piv_R hf hc E hs hg1 (by omega) (by omega) (by omega)) ?_
  rintro r h ⟨u, t, hr, hu1, hu2, ht, hs⟩
  subst hr
  simp (disch := omega) only [go_sem, reduceCtorEq, ↓reduceIte, Nat.reduceEqDiff, Nat.reduceAdd, Nat.reduceSub, Nat.reduceMul, Nat.reduceLT, Nat.reduceLeDiff, Int.reduceEq, Int.reduceNe, Int.reduceLT, Int.reduceLE, Int.reduceBEq, Int.reduceBNe, Int.reduceToNat, he]
  have hte : ((t : Int) == 2) = decide (t = 2) := by
    by_cases hq : t = 2
    · subst hq; rfl
    · simp [hq]; omega
  simp (disch := omega) only [go_sem, reduceCtorEq, ↓reduceIte, Nat.reduceEqDiff, Nat.reduceAdd, Nat.reduceSub, Nat.reduceMul, Nat.reduceLT, Nat.reduceLeDiff, Int.reduceEq, Int.reduceNe, Int.reduceLT, Int.reduceLE, Int.reduceBEq, Int.reduceBNe, Int.reduceToNat, hte]
  refine cnd_join (Q := fun e h => ∃ (D2 : Array (List AV)) (u t : Nat), PermIn a bb D D2 ∧ GA G D2 ∧ D2.size = d.size ∧ a ≤ u ∧ u < bb ∧ sat h (pto b (.row 7 D2.toList cap) :: F) ∧
    (e 0 = .arr b 7 0 d.size cap ∧ e 1 = .int .i64 a ∧ e 2 = .int .i64 bb ∧ e 3 = .int .i64 lim1 ∧ e 4 = .fn fc caps ∧ e 10 = .bool wb ∧ e 11 = .bool wp ∧ e 12 = .int .i64 (bb - a : Nat) ∧ e 13 = .int .i64 u ∧ e 14 = .int .i64 t)) ?_ ?_
  · refine cnd_bool (fun ht2 => ?_) (fun ht2 => ?_)
    · have q1 : (bb : Int) - 1 = ((bb - 1 : Nat) : Int) := by omega
      have q2 : (u : Int) - a = ((u - a : Nat) : Int) := by omega
      have q3 : ((bb - 1 : Nat) : Int) - ((u - a : Nat) : Int) = ((bb - 1 - (u - a) : Nat) : Int) := by omega
      simp (disch := omega) only [go_sem, reduceCtorEq, ↓reduceIte, Nat.reduceEqDiff, Nat.reduceAdd, Nat.reduceSub, Nat.reduceMul, Nat.reduceLT, Nat.reduceLeDiff, Int.reduceEq, Int.reduceNe, Int.reduceLT, Int.reduceLE, Int.reduceBEq, Int.reduceBNe, Int.reduceToNat, he]
      refine call_use (by rw [← hz1]; exact rev_R E hs hg1 (by omega) (by omega) (by omega)) ?_
      rintro r h ⟨p2, hg2, hz2, hs⟩
      simp (disch := omega) only [go_sem, reduceCtorEq, ↓reduceIte, Nat.reduceEqDiff, Nat.reduceAdd, Nat.reduceSub, Nat.reduceMul, Nat.reduceLT, Nat.reduceLeDiff, Int.reduceEq, Int.reduceNe, Int.reduceLT, Int.reduceLE, Int.reduceBEq, Int.reduceBNe, Int.reduceToNat, he, q1, q2, q3]
      exact ⟨_, bb - 1 - (u - a), 1, permIn_trans _ _ _ _ _ hp1 p2, hg2, by omega, by omega, by omega, hs, rfl, rfl⟩
    · simp (disch := omega) only [go_sem, reduceCtorEq, ↓reduceIte, Nat.reduceEqDiff, Nat.reduceAdd, Nat.reduceSub, Nat.reduceMul, Nat.reduceLT, Nat.reduceLeDiff, Int.reduceEq, Int.reduceNe, Int.reduceLT, Int.reduceLE, Int.reduceBEq, Int.reduceBNe, Int.reduceToNat, he]
      exact ⟨D1, u, t, hp1, hg1, hz1, by omega, by omega, hs, rfl, rfl⟩
  rintro e h ⟨D2, u, t, hp2, hg2, hz2, hu1, hu2, hs, he⟩
  simp (disch := omega) only [go_sem, reduceCtorEq, ↓reduceIte, Nat.reduceEqDiff, Nat.reduceAdd, Nat.reduceSub, Nat.reduceMul, Nat.reduceLT, Nat.reduceLeDiff, Int.reduceEq, Int.reduceNe, Int.reduceLT, Int.reduceLE, Int.reduceBEq, Int.reduceBNe, Int.reduceToNat, he]
  refine cnd_join (Q := fun e h => ∃ (q : Bool) (v : AV) (w : Bool), (if q = true then v else AV.bool false) = .bool w ∧ sat h (pto b (.row 7 D2.toList cap) :: F) ∧ (e 0 = .arr b 7 0 d.size cap ∧ e 1 = .int .i64 a ∧ e 2 = .int .i64 bb ∧ e 3 = .int .i64 lim1 ∧ e 4 = .fn fc caps ∧ e 10 = .bool wb ∧ e 11 = .bool wp ∧ e 12 = .int .i64 (bb - a : Nat) ∧ e 13 = .int .i64 u ∧ e 14 = .int .i64 t ∧ e 69 = .bool q ∧ e 70 = v)) ?_ ?_
  · cases wb
    · simp (disch := omega) only [go_sem, reduceCtorEq, ↓reduceIte, Nat.reduceEqDiff, Nat.reduceAdd, Nat.reduceSub, Nat.reduceMul, Nat.reduceLT, Nat.reduceLeDiff, Int.reduceEq, Int.reduceNe, Int.reduceLT, Int.reduceLE, Int.reduceBEq, Int.reduceBNe, Int.reduceToNat, he]
      exact ⟨_, _, false, rfl, hs, rfl, rfl⟩
    · simp (disch := omega) only [go_sem, reduceCtorEq, ↓reduceIte, Nat.reduceEqDiff, Nat.reduceAdd, Nat.reduceSub, Nat.reduceMul, Nat.reduceLT, Nat.reduceLeDiff, Int.reduceEq, Int.reduceNe, Int.reduceLT, Int.reduceLE, Int.reduceBEq, Int.reduceBNe, Int.reduceToNat, he]
      exact ⟨_, _, wp, rfl, hs, rfl, rfl⟩
  rintro e h ⟨q, v, w, hq, hs, he⟩
  simp (disch := omega) only [go_sem, reduceCtorEq, ↓reduceIte, Nat.reduceEqDiff, Nat.reduceAdd, Nat.reduceSub, Nat.reduceMul, Nat.reduceLT, Nat.reduceLeDiff, Int.reduceEq, Int.reduceNe, Int.reduceLT, Int.reduceLE, Int.reduceBEq, Int.reduceBNe, Int.reduceToNat, he, hq]
  refine cnd_join (Q := fun e h => ∃ (q : Bool) (v : AV) (w : Bool), (if q = true then v else AV.bool false) = .bool w ∧ sat h (pto b (.row 7 D2.toList cap) :: F) ∧ (e 0 = .arr b 7 0 d.size cap ∧ e 1 = .int .i64 a ∧ e 2 = .int .i64 bb ∧ e 3 = .int .i64 lim1 ∧ e 4 = .fn fc caps ∧ e 10 = .bool wb ∧ e 11 = .bool wp ∧ e 12 = .int .i64 (bb - a : Nat) ∧ e 13 = .int .i64 u ∧ e 72 = .bool q ∧ e 74 = v)) ?_ ?_
  · cases w
    · simp (disch := omega) only [go_sem, reduceCtorEq, ↓reduceIte, Nat.reduceEqDiff, Nat.reduceAdd, Nat.reduceSub, Nat.reduceMul, Nat.reduceLT, Nat.reduceLeDiff, Int.reduceEq, Int.reduceNe, Int.reduceLT, Int.reduceLE, Int.reduceBEq, Int.reduceBNe, Int.reduceToNat, he]
      exact ⟨_, _, false, rfl, hs, rfl, rfl⟩
    · simp (disch := omega) only [go_sem, reduceCtorEq, ↓reduceIte, Nat.reduceEqDiff, Nat.reduceAdd, Nat.reduceSub, Nat.reduceMul, Nat.reduceLT, Nat.reduceLeDiff, Int.reduceEq, Int.reduceNe, Int.reduceLT, Int.reduceLE, Int.reduceBEq, Int.reduceBNe, Int.reduceToNat, he]
      exact ⟨_, _, _, rfl, hs, rfl, rfl⟩
  rintro e h ⟨q2, v2, w2, hq2, hs, he⟩
  simp (disch := omega) only [go_sem, reduceCtorEq, ↓reduceIte, Nat.reduceEqDiff, Nat.reduceAdd, Nat.reduceSub, Nat.reduceMul, Nat.reduceLT, Nat.reduceLeDiff, Int.reduceEq, Int.reduceNe, Int.reduceLT, Int.reduceLE, Int.reduceBEq, Int.reduceBNe, Int.reduceToNat, he, hq2]
  have hB2 : Below lt a bb D2 := Below.permA permIn_all (by omega) hB hp2
  refine cnd_join (Q := fun e h => ∃ D3 : Array (List AV), PermIn a bb D D3 ∧ GA G D3 ∧ D3.size = d.size ∧ sat h (pto b (.row 7 D3.toList cap) :: F) ∧ (e 0 = .arr b 7 0 d.size cap ∧ e 1 = .int .i64 a ∧ e 2 = .int .i64 bb ∧ e 3 = .int .i64 lim1 ∧ e 4 = .fn fc caps ∧ e 10 = .bool wb ∧ e 11 = .bool wp ∧ e 12 = .int .i64 (bb - a : Nat) ∧ e 13 = .int .i64 u)) ?_ ?_
  · cases w2
    · simp (disch := omega) only [go_sem, reduceCtorEq, ↓reduceIte, Nat.reduceEqDiff, Nat.reduceAdd, Nat.reduceSub, Nat.reduceMul, Nat.reduceLT, Nat.reduceLeDiff, Int.reduceEq, Int.reduceNe, Int.reduceLT, Int.reduceLE, Int.reduceBEq, Int.reduceBNe, Int.reduceToNat, he]
      exact ⟨D2, hp2, hg2, hz2, hs⟩
    · simp (disch := omega) only [go_sem, reduceCtorEq, ↓reduceIte, Nat.reduceEqDiff, Nat.reduceAdd, Nat.reduceSub, Nat.reduceMul, Nat.reduceLT, Nat.reduceLeDiff, Int.reduceEq, Int.reduceNe, Int.reduceLT, Int.reduceLE, Int.reduceBEq, Int.reduceBNe, Int.reduceToNat, he]
      refine call_use (by rw [← hz2]; exact par_R hf hc E hs hg2 (by omega) (by omega) (by omega)) ?_
      rintro r h ⟨hr, hg3, hz3, hs⟩
      subst hr
      obtain ⟨p1, p2⟩ := partialInsertionSort_holds (lt := lt) hO D2 a bb (by omega) (by omega) hB2
      have p3 := permIn_trans _ _ _ _ _ hp2 p1
      simp (disch := omega) only [go_sem, reduceCtorEq, ↓reduceIte, Nat.reduceEqDiff, Nat.reduceAdd, Nat.reduceSub, Nat.reduceMul, Nat.reduceLT, Nat.reduceLeDiff, Int.reduceEq, Int.reduceNe, Int.reduceLT, Int.reduceLE, Int.reduceBEq, Int.reduceBNe, Int.reduceToNat, he]
      refine cnd_bool (fun hd => ?_) (fun hd => ?_)
      · obtain ⟨c1, c2⟩ := hC _ p3 (p2 hd)
        simp (disch := omega) only [go_sem, reduceCtorEq, ↓reduceIte, Nat.reduceEqDiff, Nat.reduceAdd, Nat.reduceSub, Nat.reduceMul, Nat.reduceLT, Nat.reduceLeDiff, Int.reduceEq, Int.reduceNe, Int.reduceLT, Int.reduceLE, Int.reduceBEq, Int.reduceBNe, Int.reduceToNat, he]
        exact ⟨_, c1, c2, hg3, by omega, hs⟩
      · simp (disch := omega) only [go_sem, reduceCtorEq, ↓reduceIte, Nat.reduceEqDiff, Nat.reduceAdd, Nat.reduceSub, Nat.reduceMul, Nat.reduceLT, Nat.reduceLeDiff, Int.reduceEq, Int.reduceNe, Int.reduceLT, Int.reduceLE, Int.reduceBEq, Int.reduceBNe, Int.reduceToNat, he]
        exact ⟨_, p3, hg3, by omega, hs⟩
  rintro e h ⟨D3, hp3, hg3, hz3, hs, he⟩
  simp (disch := omega) only [go_sem, reduceCtorEq, ↓reduceIte, Nat.reduceEqDiff, Nat.reduceAdd, Nat.reduceSub, Nat.reduceMul, Nat.reduceLT, Nat.reduceLeDiff, Int.reduceEq, Int.reduceNe, Int.reduceLT, Int.reduceLE, Int.reduceBEq, Int.reduceBNe, Int.reduceToNat, he]
  refine cnd_join (Q := fun e h => ∃ (q : Bool) (v : AV) (w : Bool), (if q = true then v else AV.bool false) = .bool w ∧ w = (decide (0 < a) && !lt D3[a - 1]! D3[u]!) ∧ sat h (pto b (.row 7 D3.toList cap) :: F) ∧ (e 0 = .arr b 7 0 d.size cap ∧ e 1 = .int .i64 a ∧ e 2 = .int .i64 bb ∧ e 3 = .int .i64 lim1 ∧ e 4 = .fn fc caps ∧ e 10 = .bool wb ∧ e 11 = .bool wp ∧ e 12 = .int .i64 (bb - a : Nat) ∧ e 13 = .int .i64 u ∧ e 83 = .bool q ∧ e 96 = v)) ?_ ?_
  · refine cnd_dec (fun ha0 => ?_) (fun ha0 => ?_)
    · have m1 : (a : Int) - 1 = ((a - 1 : Nat) : Int) := by omega
      have r1 := rd_c E hg3 (i := a - 1) (by omega)
      have r2 := rd_c E hg3 (i := u) (by omega)
      simp (disch := omega) only [go_sem, reduceCtorEq, ↓reduceIte, Nat.reduceEqDiff, Nat.reduceAdd, Nat.reduceSub, Nat.reduceMul, Nat.reduceLT, Nat.reduceLeDiff, Int.reduceEq, Int.reduceNe, Int.reduceLT, Int.reduceLE, Int.reduceBEq, Int.reduceBNe, Int.reduceToNat, he, hs.at, r1, r2, m1]
      refine callv_use hf (hc _ _ _ _ (hg3 _ (by omega)) (hg3 _ (by omega)) hs) ?_
      rintro r h ⟨c, hr, hcl, hs⟩
      subst hr
      simp (disch := omega) only [go_sem, reduceCtorEq, ↓reduceIte, Nat.reduceEqDiff, Nat.reduceAdd, Nat.reduceSub, Nat.reduceMul, Nat.reduceLT, Nat.reduceLeDiff, Int.reduceEq, Int.reduceNe, Int.reduceLT, Int.reduceLE, Int.reduceBEq, Int.reduceBNe, Int.reduceToNat, he, ha0, hcl]
      exact ⟨_, _, _, rfl, by rw [decide_eq_true (by omega), Bool.true_and], hs, rfl, rfl⟩
    · simp (disch := omega) only [go_sem, reduceCtorEq, ↓reduceIte, Nat.reduceEqDiff, Nat.reduceAdd, Nat.reduceSub, Nat.reduceMul, Nat.reduceLT, Nat.reduceLeDiff, Int.reduceEq, Int.reduceNe, Int.reduceLT, Int.reduceLE, Int.reduceBEq, Int.reduceBNe, Int.reduceToNat, he, ha0]
      exact ⟨_, _, _, rfl, by rw [decide_eq_false (by omega), Bool.false_and], hs, rfl, rfl⟩
  rintro e h ⟨q3, v3, w3, hq3, hw3, hs, he⟩
  simp (disch := omega) only [go_sem, reduceCtorEq, ↓reduceIte, Nat.reduceEqDiff, Nat.reduceAdd, Nat.reduceSub, Nat.reduceMul, Nat.reduceLT, Nat.reduceLeDiff, Int.reduceEq, Int.reduceNe, Int.reduceLT, Int.reduceLE, Int.reduceBEq, Int.reduceBNe, Int.reduceToNat, he, hq3]
  have hB3 : Below lt a bb D3 := Below.permA permIn_all (by omega) hB hp3
  have hC3 : ∀ R, PermIn a bb D3 R → SortedIn lt a bb R → PermIn a0 b0 d R ∧ SortedIn lt a0 b0 R := fun R h1 h2 => hC R (permIn_trans _ _ _ _ _ hp3 h1) h2
  refine cnd_bool (fun hw => ?_) (fun hw => ?_)
  · subst hw
    simp only [Bool.true_eq, Bool.and_eq_true, decide_eq_true_eq, Bool.not_eq_true'] at hw3
    simp (disch := omega) only [go_sem, reduceCtorEq, ↓reduceIte, Nat.reduceEqDiff, Nat.reduceAdd, Nat.reduceSub, Nat.reduceMul, Nat.reduceLT, Nat.reduceLeDiff, Int.reduceEq, Int.reduceNe, Int.reduceLT, Int.reduceLE, Int.reduceBEq, Int.reduceBNe, Int.reduceToNat, he]
    refine call_use (by rw [← hz3]; exact peq_R hf hc E hs hg3 hu1 hu2 (by omega) (by omega)) ?_
    rintro r h ⟨hr, hg4, hz4, hs⟩
    obtain ⟨mid, d4, hx⟩ : ∃ mid d4, partitionEqual lt D3 a bb u = (mid, d4) := ⟨_, _, rfl⟩
    rw [hx] at hr hg4 hz4 hs
    simp only at hr hg4 hz4 hs
    subst hr
    obtain ⟨e1, e2, e3, e4, e5⟩ := round_eq hO (partitionEqual_holds lt) hw3.1 hu1 hu2 (by omega) hB3 hw3.2 hx
    simp (disch := omega) only [go_sem, reduceCtorEq, ↓reduceIte, Nat.reduceEqDiff, Nat.reduceAdd, Nat.reduceSub, Nat.reduceMul, Nat.reduceLT, Nat.reduceLeDiff, Int.reduceEq, Int.reduceNe, Int.reduceLT, Int.reduceLE, Int.reduceBEq, Int.reduceBNe, Int.reduceToNat, he]
    exact ⟨bb - mid, by omega, mid, bb, lim1, wb, wp, d4, rfl, by omega, by omega, by omega, hlim1, e4, hg4, by omega, fun R h1 h2 => hC3 R (e5 R h1 h2).1 (e5 R h1 h2).2, hs, rfl, rfl, rfl, rfl, rfl⟩
  · simp (disch := omega) only [go_sem, reduceCtorEq, ↓reduceIte, Nat.reduceEqDiff, Nat.reduceAdd, Nat.reduceSub, Nat.reduceMul, Nat.reduceLT, Nat.reduceLeDiff, Int.reduceEq, Int.reduceNe, Int.reduceLT, Int.reduceLE, Int.reduceBEq, Int.reduceBNe, Int.reduceToNat, he]
    refine call_use (by rw [← hz3]; exact prt_R hf hc E hs hg3 hu1 hu2 (by omega) (by omega)) ?_
    rintro r h ⟨hr, hg4, hz4, hs⟩
    obtain ⟨mid, ap, d4, hx⟩ : ∃ mid ap d4, partition lt D3 a bb u = (mid, ap, d4) := ⟨_, _, _, rfl⟩
    rw [hx] at hr hg4 hz4 hs
    simp only at hr hg4 hz4 hs
    subst hr
    obtain ⟨e1, e2, e3, eL, eR, c1, c2⟩ := round_part hO (partition_holds lt) hu1 hu2 (by omega) hB3 hx
    have q1 : (mid : Int) - a = ((mid - a : Nat) : Int) := by omega
    have q2 : (bb : Int) - mid = ((bb - mid : Nat) : Int) := by omega
    have q3 : (mid : Int) + 1 = ((mid + 1 : Nat) : Int) := by omega
    have q4 : ((bb - a : Nat) : Int).tdiv 8 = (((bb - a) / 8 : Nat) : Int) := by rw [Int.tdiv_eq_ediv_of_nonneg (by omega)]; omega
    simp (disch := omega) only [go_sem, reduceCtorEq, ↓reduceIte, Nat.reduceEqDiff, Nat.reduceAdd, Nat.reduceSub, Nat.reduceMul, Nat.reduceLT, Nat.reduceLeDiff, Int.reduceEq, Int.reduceNe, Int.reduceLT, Int.reduceLE, Int.reduceBEq, Int.reduceBNe, Int.reduceToNat, he, q1, q2, q4]
    refine cnd_dec (fun hlt => ?_) (fun hge => ?_)
    · simp (disch := omega) only [go_sem, reduceCtorEq, ↓reduceIte, Nat.reduceEqDiff, Nat.reduceAdd, Nat.reduceSub, Nat.reduceMul, Nat.reduceLT, Nat.reduceLeDiff, Int.reduceEq, Int.reduceNe, Int.reduceLT, Int.reduceLE, Int.reduceBEq, Int.reduceBNe, Int.reduceToNat, he, q3]
      refine call_use (by rw [← hz3, ← e3]; exact ih (mid - a) (by omega) F _ d4 a mid lim1 b cap (Nat.le_refl _) hs hg4 e1 (by omega) (by omega) eL hlim1) ?_
      rintro r h ⟨R1, p1, s1, hg5, hz5, hs⟩
      obtain ⟨f1, f2⟩ := c1 R1 p1 s1
      simp (disch := omega) only [go_sem, reduceCtorEq, ↓reduceIte, Nat.reduceEqDiff, Nat.reduceAdd, Nat.reduceSub, Nat.reduceMul, Nat.reduceLT, Nat.reduceLeDiff, Int.reduceEq, Int.reduceNe, Int.reduceLT, Int.reduceLE, Int.reduceBEq, Int.reduceBNe, Int.reduceToNat, he, q3]
      exact ⟨bb - (mid + 1), by omega, mid + 1, bb, lim1, _, ap, R1, rfl, by omega, by omega, by omega, hlim1, f1, hg5, by omega, fun R h1 h2 => hC3 R (f2 R h1 h2).1 (f2 R h1 h2).2, hs, rfl, rfl, rfl, rfl, rfl⟩
    · simp (disch := omega) only [go_sem, reduceCtorEq, ↓reduceIte, Nat.reduceEqDiff, Nat.reduceAdd, Nat.reduceSub, Nat.reduceMul, Nat.reduceLT, Nat.reduceLeDiff, Int.reduceEq, Int.reduceNe, Int.reduceLT, Int.reduceLE, Int.reduceBEq, Int.reduceBNe, Int.reduceToNat, he, q3]
      refine call_use (by rw [← hz3, ← e3]; exact ih (bb - (mid + 1)) (by omega) F _ d4 (mid + 1) bb lim1 b cap (Nat.le_refl _) hs hg4 (by omega) (by omega) (by omega) eR hlim1) ?_
      rintro r h ⟨R1, p1, s1, hg5, hz5, hs⟩
      obtain ⟨f1, f2⟩ := c2 R1 p1 s1
      simp (disch := omega) only [go_sem, reduceCtorEq, ↓reduceIte, Nat.reduceEqDiff, Nat.reduceAdd, Nat.reduceSub, Nat.reduceMul, Nat.reduceLT, Nat.reduceLeDiff, Int.reduceEq, Int.reduceNe, Int.reduceLT, Int.reduceLE, Int.reduceBEq, Int.reduceBNe, Int.reduceToNat, he, q3]
      exact ⟨mid - a, by omega, a, mid, lim1, _, ap, R1, rfl, by omega, by omega, by omega, hlim1, f1, hg5, by omega, fun R h1 h2 => hC3 R (f2 R h1 h2).1 (f2 R h1 h2).2, hs, rfl, rfl, rfl, rfl, rfl⟩
end
end Go.Proofs.Ytbaokmcljlfhnaa
/- slices.SortFunc; cmp.Compare. -/
set_option linter.unusedSimpArgs false
set_option linter.unusedVariables false
set_option maxRecDepth 10000
namespace Go.Proofs.Ytbaokmcljlfhnaa
open Go.Hz Go.Sort

section
variable {h : Hp} {F : List Asr} {G : List AV → Prop} {lt : List AV → List AV → Bool}


theorem srt_R {fc : Nat} {caps : List AV} (hf : okFn Try.prog fc = true) (hc : CmpT Try.prog true G lt fc caps) (E : GoodE 7 true G) (hO : SWO lt) {d : Array (List AV)} {b cap : Nat} (hs : sat h (pto b (.row 7 d.toList cap) :: F)) (hg : GA G d) (hsz : d.size ≤ 100000000) :
    Triple Try.prog 24 [.arr b 7 0 d.size cap, .fn fc caps] h (fun r h => ∃ R : Array (List AV), PermIn 0 d.size d R ∧ SortedIn lt 0 d.size R ∧ GA G R ∧ R.size = d.size ∧ sat h (pto b (.row 7 R.toList cap) :: F)) := by
  have w1 := wu64 (n := d.size) (by omega)
  refine t24 (Nat.le_of_ble_eq_true rfl) ?_
  simp (disch := omega) only [F24, w1, go_sem, reduceCtorEq, ↓reduceIte, Nat.reduceEqDiff, Nat.reduceAdd, Nat.reduceSub, Nat.reduceMul, Nat.reduceLT, Nat.reduceLeDiff, Int.reduceEq, Int.reduceNe, Int.reduceLT, Int.reduceLE, Int.reduceBEq, Int.reduceBNe, Int.reduceToNat]
  refine call_use (len0 hs (by omega)) ?_
  rintro r h ⟨t, hr, h1, h2, h3, hs⟩
  subst hr
  simp (disch := omega) only [go_sem, reduceCtorEq, ↓reduceIte, Nat.reduceEqDiff, Nat.reduceAdd, Nat.reduceSub, Nat.reduceMul, Nat.reduceLT, Nat.reduceLeDiff, Int.reduceEq, Int.reduceNe, Int.reduceLT, Int.reduceLE, Int.reduceBEq, Int.reduceBNe, Int.reduceToNat]
  refine call_use (pdq_R hf hc E hO _ F _ d 0 d.size t b cap (Nat.le_refl _) hs hg (Nat.zero_le _) (Nat.le_refl _) hsz (.inl rfl) (by omega)) ?_
  rintro r h ⟨R, p1, p2, p3, p4, hs⟩
  simp (disch := omega) only [go_sem, reduceCtorEq, ↓reduceIte, Nat.reduceEqDiff, Nat.reduceAdd, Nat.reduceSub, Nat.reduceMul, Nat.reduceLT, Nat.reduceLeDiff, Int.reduceEq, Int.reduceNe, Int.reduceLT, Int.reduceLE, Int.reduceBEq, Int.reduceBNe, Int.reduceToNat]
  exact ⟨R, p1, p2, p3, p4, hs⟩

theorem nan_int {a : Int} (hs : sat h F) : Triple Try.prog 26 [.int .i64 a] h (fun r h => r = .bool false ∧ sat h F) := by
  refine t26 (Nat.le_of_ble_eq_true rfl) ?_
  simp (disch := omega) only [F26, go_sem, reduceCtorEq, ↓reduceIte, Nat.reduceEqDiff, Nat.reduceAdd, Nat.reduceSub, Nat.reduceMul, Nat.reduceLT, Nat.reduceLeDiff, Int.reduceEq, Int.reduceNe, Int.reduceLT, Int.reduceLE, Int.reduceBEq, Int.reduceBNe, Int.reduceToNat]
  exact hs
theorem cmp_int {a b : Int} (hs : sat h F) : Triple Try.prog 21 [.int .i64 a, .int .i64 b] h (fun r h => ∃ c : Int, r = .int .i64 c ∧ decide (c < 0) = decide (a < b) ∧ sat h F) := by
  refine t21 (Nat.le_of_ble_eq_true rfl) ?_
  simp (disch := omega) only [F21, go_sem, reduceCtorEq, ↓reduceIte, Nat.reduceEqDiff, Nat.reduceAdd, Nat.reduceSub, Nat.reduceMul, Nat.reduceLT, Nat.reduceLeDiff, Int.reduceEq, Int.reduceNe, Int.reduceLT, Int.reduceLE, Int.reduceBEq, Int.reduceBNe, Int.reduceToNat]
  refine call_use (nan_int hs) ?_
  rintro r h ⟨hr, hs⟩
  subst hr
  simp (disch := omega) only [go_sem, reduceCtorEq, ↓reduceIte, Nat.reduceEqDiff, Nat.reduceAdd, Nat.reduceSub, Nat.reduceMul, Nat.reduceLT, Nat.reduceLeDiff, Int.reduceEq, Int.reduceNe, Int.reduceLT, Int.reduceLE, Int.reduceBEq, Int.reduceBNe, Int.reduceToNat]
  refine call_use (nan_int hs) ?_
  rintro r h ⟨hr, hs⟩
  subst hr
  simp (disch := omega) only [go_sem, reduceCtorEq, ↓reduceIte, Nat.reduceEqDiff, Nat.reduceAdd, Nat.reduceSub, Nat.reduceMul, Nat.reduceLT, Nat.reduceLeDiff, Int.reduceEq, Int.reduceNe, Int.reduceLT, Int.reduceLE, Int.reduceBEq, Int.reduceBNe, Int.reduceToNat]
  refine cnd_dec (fun h1 => ?_) (fun h1 => ?_)
  · simp (disch := omega) only [go_sem, reduceCtorEq, ↓reduceIte, Nat.reduceEqDiff, Nat.reduceAdd, Nat.reduceSub, Nat.reduceMul, Nat.reduceLT, Nat.reduceLeDiff, Int.reduceEq, Int.reduceNe, Int.reduceLT, Int.reduceLE, Int.reduceBEq, Int.reduceBNe, Int.reduceToNat]
    exact ⟨-1, rfl, by simp [h1], hs⟩
  · simp (disch := omega) only [go_sem, reduceCtorEq, ↓reduceIte, Nat.reduceEqDiff, Nat.reduceAdd, Nat.reduceSub, Nat.reduceMul, Nat.reduceLT, Nat.reduceLeDiff, Int.reduceEq, Int.reduceNe, Int.reduceLT, Int.reduceLE, Int.reduceBEq, Int.reduceBNe, Int.reduceToNat]
    refine cnd_dec (fun h2 => ?_) (fun h2 => ?_)
    · simp (disch := omega) only [go_sem, reduceCtorEq, ↓reduceIte, Nat.reduceEqDiff, Nat.reduceAdd, Nat.reduceSub, Nat.reduceMul, Nat.reduceLT, Nat.reduceLeDiff, Int.reduceEq, Int.reduceNe, Int.reduceLT, Int.reduceLE, Int.reduceBEq, Int.reduceBNe, Int.reduceToNat]
      exact ⟨1, rfl, by simp; omega, hs⟩
    · simp (disch := omega) only [go_sem, reduceCtorEq, ↓reduceIte, Nat.reduceEqDiff, Nat.reduceAdd, Nat.reduceSub, Nat.reduceMul, Nat.reduceLT, Nat.reduceLeDiff, Int.reduceEq, Int.reduceNe, Int.reduceLT, Int.reduceLE, Int.reduceBEq, Int.reduceBNe, Int.reduceToNat]
      exact ⟨0, rfl, by simp; omega, hs⟩
end
end Go.Proofs.Ytbaokmcljlfhnaa
/- The rounds of the loops over functions, in the form of the logic. -/
set_option maxRecDepth 100000
namespace Go.Proofs.Ytbaokmcljlfhnaa
open Go.Hz Go

def G27a : Code := (.region 2 (.mk [(.mk (.some 5) (.alloc 43) 0 "iter.go:51" (.mk []) none), (.mk none (.store 43 (.tmp 5) (.tmp 7)) 0 "iter.go:51" (.mk [(.mk 0 .data), (.mk 0 .phase)]) none)]) false)
def F27a : ACode := (.reg [((.mk (.some 5) (.alloc [(.int .i64 0), (.int .i64 0), (.int .i64 0), (.int .i64 0), (.bool false), .nils, (.int .i64 0)]) none), []), ((.mk none (.st 7 (.tm 5) (.tm 7)) none), [])])
theorem c27a : compC Try.prog 13 false G27a = some F27a := by kernel_rfl
def G27b : Code := (.block 1 (.region 3 (.mk [(.mk (.some 8) (.load 40 (.tmp 2)) 40 "iter.go:52" (.mk []) none), (.mk (.some 9) (.load 43 (.tmp 5)) 43 "iter.go:52" (.mk []) none), (.mk (.some 10) (.buildSlice 40 1 (.mk [(0, (.tmp 9))])) 40 "iter.go:52" (.mk [(.mk 1 .data)]) none), (.mk (.some 11) (.call (.mk (.builtin .append) (.mk [(.tmp 8), (.tmp 10)]) (.mk [40, 40]))) 40 "iter.go:52" (.mk [(.mk 0 .data), (.mk 2 .data)]) none), (.mk none (.store 40 (.tmp 2) (.tmp 11)) 0 "iter.go:52" (.mk [(.mk 3 .data), (.mk 3 .chain), (.mk 0 .phase), (.mk 1 .phase), (.mk 2 .phase), (.mk 3 .phase)]) none)]) false))
def F27b : ACode := (.block 1 (.reg [((.mk (.some 8) (.ld 1 false (.tm 2)) none), []), ((.mk (.some 9) (.ld 7 true (.tm 5)) none), []), ((.mk (.some 10) (.bsl [(.int .i64 0), (.int .i64 0), (.int .i64 0), (.int .i64 0), (.bool false), .nils, (.int .i64 0)] 1 [(0, (.tm 9))]) none), []), ((.mk (.some 11) (.app 7 72 (.tm 8) (.tm 10)) none), []), ((.mk none (.st 1 (.tm 2) (.tm 11)) none), [])]))
theorem c27b : compC Try.prog 13 false G27b = some F27b := by kernel_rfl
end Go.Proofs.Ytbaokmcljlfhnaa
/- maps.Values, slices.Collect, slices.SortedFunc: a loop over a function. -/
set_option linter.unusedSimpArgs false
set_option linter.unusedVariables false
set_option maxRecDepth 10000
namespace Go.Proofs.Ytbaokmcljlfhnaa
open Go.Hz Go.Sort

section
variable {h : Hp} {F : List Asr}

/-- A slice of one's own, its header in a cell. -/
def BxOw (z s : Nat) (es : List (List AV)) : Asr := fun h => ∃ v, sat h [pto s (.row 1 [[v]] 1), Ow z v es]
theorem bxow {z s : Nat} {es : List (List AV)} : sat h (BxOw z s es :: F) ↔ ∃ v, sat h (pto s (.row 1 [[v]] 1) :: Ow z v es :: F) := by
  unfold BxOw
  rw [sat_ex]
  exact exists_congr fun v => sat_sl (l1 := [pto s (.row 1 [[v]] 1), Ow z v es]) (l := F)

theorem val1_R {l n bx mb clk : Nat} {e0 : Env} {p : Nat} {asg bd : Code} {kvs : List (AV × AV × Nat)} (J : List AV → Asr) (hp : p < n)
    (hs : sat h (pto l (.lp n e0 [p] asg bd) :: pto bx (.row 1 [[.map mb]] 1) :: pto mb (.mp kvs clk) :: J [] :: F))
    (hy : ∀ (pre : List AV) (x : AV) (L : List Asr) (h : Hp), x ∈ kvs.map (·.2.1) → pre.length < kvs.length → sat h (J pre :: L) → CodeT Try.prog n asg (putPs e0 [p] [x]) h fun e1 h1 => CodeT Try.prog n bd e1 h1 fun _ h2 => sat h2 (J (pre ++ [x]) :: L))
    (hc : ∀ x ∈ kvs, x.2.2 < clk) (hn : (kvs.map (·.2.2)).Nodup) (hz : ∀ x ∈ kvs, ∃ c, x.2.1 = .agg c ∧ c.length = 7 ∧ c.all AV.isAtom = true) :
    Triple Try.prog 25 [.yl l, .ptr bx 1 0 0] h (fun r h => ∃ xs : List AV, xs.Perm (kvs.map (·.2.1)) ∧ sat h (pto l (.lp n e0 [p] asg bd) :: pto bx (.row 1 [[.map mb]] 1) :: pto mb (.mp kvs clk) :: J xs :: F)) := by
  have hb := hs.p1.at
  refine t25 (Nat.le_of_ble_eq_true rfl) ?_
  simp (disch := omega) only [F25, hb, go_sem, reduceCtorEq, ↓reduceIte, Nat.reduceEqDiff, Nat.reduceAdd, Nat.reduceSub, Nat.reduceMul, Nat.reduceLT, Nat.reduceLeDiff, Int.reduceEq, Int.reduceNe, Int.reduceLT, Int.reduceLE, Int.reduceBEq, Int.reduceBNe, Int.reduceToNat]
  refine rng_use hs.p2 fun q h hs => ?_
  simp (disch := omega) only [go_sem, reduceCtorEq, ↓reduceIte, Nat.reduceEqDiff, Nat.reduceAdd, Nat.reduceSub, Nat.reduceMul, Nat.reduceLT, Nat.reduceLeDiff, Int.reduceEq, Int.reduceNe, Int.reduceLT, Int.reduceLE, Int.reduceBEq, Int.reduceBNe, Int.reduceToNat]
  refine run_loopN (fun k e h => ∃ es rest, k = rest.length ∧ (es ++ rest).Perm kvs ∧ sat h (pto q (.itr (some mb) clk (es.map (·.2.2)) clk) :: pto mb (.mp kvs clk) :: pto l (.lp n e0 [p] asg bd) :: pto bx (.row 1 [[.map mb]] 1) :: J (es.map (·.2.1)) :: F) ∧
    (e 0 = .yl l ∧ e 6 = .ptr q 1 0 0)) kvs.length ⟨[], kvs, rfl, .refl _, hs, rfl, rfl⟩ ?_
  rintro k e h ⟨es, rest, rfl, hpm, hs, he⟩
  simp (disch := omega) only [go_sem, reduceCtorEq, ↓reduceIte, Nat.reduceEqDiff, Nat.reduceAdd, Nat.reduceSub, Nat.reduceMul, Nat.reduceLT, Nat.reduceLeDiff, Int.reduceEq, Int.reduceNe, Int.reduceLT, Int.reduceLE, Int.reduceBEq, Int.reduceBNe, Int.reduceToNat, he]
  refine nxt_use hs (Nat.le_refl _) hc (fun x hx hns h hs => ?_) (fun hall => ?_)
  · obtain ⟨c, hx1, hx2, hx3⟩ := hz x hx
    have hx4 : c.take 7 = c := by rw [← hx2]; exact List.take_length
    obtain ⟨rest', r1, r2⟩ := rng_step hpm hx hns
    have hen := ent_at hs hx hn
    simp (disch := omega) only [go_sem, reduceCtorEq, ↓reduceIte, Nat.reduceEqDiff, Nat.reduceAdd, Nat.reduceSub, Nat.reduceMul, Nat.reduceLT, Nat.reduceLeDiff, Int.reduceEq, Int.reduceNe, Int.reduceLT, Int.reduceLE, Int.reduceBEq, Int.reduceBNe, Int.reduceToNat, he]
    rw [hen]
    simp (disch := omega) only [go_sem, reduceCtorEq, ↓reduceIte, Nat.reduceEqDiff, Nat.reduceAdd, Nat.reduceSub, Nat.reduceMul, Nat.reduceLT, Nat.reduceLeDiff, Int.reduceEq, Int.reduceNe, Int.reduceLT, Int.reduceLE, Int.reduceBEq, Int.reduceBNe, Int.reduceToNat, hx1]
    refine new_opq hs fun a h hs => ?_
    have ha := hs.at
    have hs2 := hs.set (o' := .row 7 [c] 1)
    have ha2 := hs2.at
    simp (disch := omega) only [go_sem, reduceCtorEq, ↓reduceIte, Nat.reduceEqDiff, Nat.reduceAdd, Nat.reduceSub, Nat.reduceMul, Nat.reduceLT, Nat.reduceLeDiff, Int.reduceEq, Int.reduceNe, Int.reduceLT, Int.reduceLE, Int.reduceBEq, Int.reduceBNe, Int.reduceToNat, hx1, ha, hx2, hx3, ha2, he, hx4]
    generalize Hp.set h a (.row 7 [c] 1) = h2 at hs2 ha2 ⊢
    refine yl_use (F := pto a (.row 7 [c] 1) :: pto q (.itr (some mb) clk (es.map (·.2.2) ++ [x.2.2]) clk) :: pto mb (.mp kvs clk) :: pto bx (.row 1 [[.map mb]] 1) :: J (es.map (·.2.1)) :: F) hs2.p3 rfl (by simpa using hp) fun h hs => ?_
    refine (hy (es.map (·.2.1)) (.agg c) (pto a (.row 7 [c] 1) :: pto q (.itr (some mb) clk (es.map (·.2.2) ++ [x.2.2]) clk) :: pto mb (.mp kvs clk) :: pto bx (.row 1 [[.map mb]] 1) :: F) h (hx1 ▸ List.mem_map_of_mem hx) (by have := r1.length_eq; simp at this ⊢; omega) hs.p4).mono fun e1 h1 t => t.mono fun e2 h2 hs => ?_
    refine ⟨_, hs, fun h3 hs => ?_⟩
    simp (disch := omega) only [go_sem, reduceCtorEq, ↓reduceIte, Nat.reduceEqDiff, Nat.reduceAdd, Nat.reduceSub, Nat.reduceMul, Nat.reduceLT, Nat.reduceLeDiff, Int.reduceEq, Int.reduceNe, Int.reduceLT, Int.reduceLE, Int.reduceBEq, Int.reduceBNe, Int.reduceToNat]
    exact ⟨rest'.length, by omega, es ++ [x], rest', rfl, r1, by simpa [hx1] using hs.p2.drop.p1.p4.p2.p4.p4, he.1, he.2⟩
  · have r1 := rng_end hpm hn hall
    simp (disch := omega) only [go_sem, reduceCtorEq, ↓reduceIte, Nat.reduceEqDiff, Nat.reduceAdd, Nat.reduceSub, Nat.reduceMul, Nat.reduceLT, Nat.reduceLeDiff, Int.reduceEq, Int.reduceNe, Int.reduceLT, Int.reduceLE, Int.reduceBEq, Int.reduceBNe, Int.reduceToNat]
    exact ⟨_, r1.map _, hs.drop.p3.p1.p3.p3⟩
/-- A round of the loop: the value goes to the end. -/
theorem rnd_R {s : Nat} {e0 : Env} {pre : List AV} {x : AV} {c : List AV} {L : List Asr} (he : e0 2 = .ptr s 1 0 0) (hx : x = .agg c) (h2 : c.length = 7) (h3 : c.all AV.isAtom = true) (hl : pre.length < 1000000)
    (hs : sat h (BxOw 7 s (pre.map AV.cells) :: L)) :
    CodeT Try.prog 13 G27a (putPs e0 [7] [x]) h fun e1 h1 => CodeT Try.prog 13 G27b e1 h1 fun _ h2 => sat h2 (BxOw 7 s ((pre ++ [x]).map AV.cells) :: L) := by
  obtain ⟨v, hs⟩ := bxow.1 hs
  have h4 : c.take 7 = c := by rw [← h2]; exact List.take_length
  subst hx
  refine code_T mixed c27a (show run Try.prog F27a [] _ _ ⟨_, _, _⟩ from ?_)
  simp only [putPs, F27a]
  simp (disch := omega) only [go_sem, reduceCtorEq, ↓reduceIte, Nat.reduceEqDiff, Nat.reduceAdd, Nat.reduceSub, Nat.reduceMul, Nat.reduceLT, Nat.reduceLeDiff, Int.reduceEq, Int.reduceNe, Int.reduceLT, Int.reduceLE, Int.reduceBEq, Int.reduceBNe, Int.reduceToNat]
  refine new_opq hs fun a h hs => ?_
  have ha := hs.at
  have hs2 := hs.set (o' := .row 7 [c] 1)
  simp (disch := omega) only [go_sem, reduceCtorEq, ↓reduceIte, Nat.reduceEqDiff, Nat.reduceAdd, Nat.reduceSub, Nat.reduceMul, Nat.reduceLT, Nat.reduceLeDiff, Int.reduceEq, Int.reduceNe, Int.reduceLT, Int.reduceLE, Int.reduceBEq, Int.reduceBNe, Int.reduceToNat, ha, h2, h3]
  generalize Hp.set h a (.row 7 [c] 1) = h5 at hs2 ⊢
  refine code_T mixed c27b (show run Try.prog F27b [] _ _ ⟨_, _, _⟩ from ?_)
  have ha2 := hs2.at
  have hb2 := hs2.p1.at
  simp only [F27b]
  simp (disch := omega) only [go_sem, reduceCtorEq, ↓reduceIte, Nat.reduceEqDiff, Nat.reduceAdd, Nat.reduceSub, Nat.reduceMul, Nat.reduceLT, Nat.reduceLeDiff, Int.reduceEq, Int.reduceNe, Int.reduceLT, Int.reduceLE, Int.reduceBEq, Int.reduceBNe, Int.reduceToNat, he, ha2, hb2, h4, h2, h3]
  refine new_opq hs2 fun y h hs => ?_
  simp (disch := omega) only [go_sem, reduceCtorEq, ↓reduceIte, Nat.reduceEqDiff, Nat.reduceAdd, Nat.reduceSub, Nat.reduceMul, Nat.reduceLT, Nat.reduceLeDiff, Int.reduceEq, Int.reduceNe, Int.reduceLT, Int.reduceLE, Int.reduceBEq, Int.reduceBNe, Int.reduceToNat]
  refine app_sat hs.p3 (src_one hs.at) (atoms_one h3) (by simp; omega) fun v' h hs ca aa => ?_
  have hb3 := hs.p3.at
  simp (disch := omega) only [go_sem, reduceCtorEq, ↓reduceIte, Nat.reduceEqDiff, Nat.reduceAdd, Nat.reduceSub, Nat.reduceMul, Nat.reduceLT, Nat.reduceLeDiff, Int.reduceEq, Int.reduceNe, Int.reduceLT, Int.reduceLE, Int.reduceBEq, Int.reduceBNe, Int.reduceToNat, he, hb3, ca, aa]
  have hs3 := hs.p3.set (o' := .row 1 [[v']] 1)
  refine bxow.2 ⟨v', ?_⟩
  simpa [AV.cells] using hs3.p2.drop.p2.drop.p1.p1
theorem aps_R {mb bx clk : Nat} {kvs : List (AV × AV × Nat)} (hs : sat h (pto bx (.row 1 [[.map mb]] 1) :: pto mb (.mp kvs clk) :: F))
    (hc : ∀ x ∈ kvs, x.2.2 < clk) (hn : (kvs.map (·.2.2)).Nodup) (hz : ∀ x ∈ kvs, ∃ c, x.2.1 = .agg c ∧ c.length = 7 ∧ c.all AV.isAtom = true) (hk : kvs.length ≤ 1000000) :
    Triple Try.prog 27 [.nils, .fn 25 [.ptr bx 1 0 0]] h (fun r h => ∃ xs : List AV, xs.Perm (kvs.map (·.2.1)) ∧ sat h (Ow 7 r (xs.map AV.cells) :: pto mb (.mp kvs clk) :: F)) := by
  refine t27 (Nat.le_of_ble_eq_true rfl) ?_
  simp (disch := omega) only [F27, go_sem, reduceCtorEq, ↓reduceIte, Nat.reduceEqDiff, Nat.reduceAdd, Nat.reduceSub, Nat.reduceMul, Nat.reduceLT, Nat.reduceLeDiff, Int.reduceEq, Int.reduceNe, Int.reduceLT, Int.reduceLE, Int.reduceBEq, Int.reduceBNe, Int.reduceToNat]
  refine new_opq hs fun s h hs => ?_
  simp (disch := omega) only [go_sem, reduceCtorEq, ↓reduceIte, Nat.reduceEqDiff, Nat.reduceAdd, Nat.reduceSub, Nat.reduceMul, Nat.reduceLT, Nat.reduceLeDiff, Int.reduceEq, Int.reduceNe, Int.reduceLT, Int.reduceLE, Int.reduceBEq, Int.reduceBNe, Int.reduceToNat]
  refine rngF_use rfl hs fun l h hs => ?_
  have h1 := (hs.p1.tl fun _ h => h.add (A := Ow 7 .nils []) ow_nil)
  have h2 := (bxow.2 ⟨.nils, h1⟩).p3.p3.p3
  refine (val1_R (F := F) (fun pre => BxOw 7 s (pre.map AV.cells)) (by decide) h2 ?_ hc hn hz).mono fun r h q => ?_
  · intro pre x L h hx hl hs
    obtain ⟨y, hy1, rfl⟩ := List.mem_map.1 hx
    obtain ⟨c, hc1, hc2, hc3⟩ := hz _ hy1
    exact rnd_R rfl hc1 hc2 hc3 (by omega) hs
  · obtain ⟨xs, hp, hs⟩ := q
    refine ⟨_, hs, fun h hs => ?_⟩
    obtain ⟨v, hs⟩ := bxow.1 hs.p2
    have ha := hs.at
    simp (disch := omega) only [go_sem, reduceCtorEq, ↓reduceIte, Nat.reduceEqDiff, Nat.reduceAdd, Nat.reduceSub, Nat.reduceMul, Nat.reduceLT, Nat.reduceLeDiff, Int.reduceEq, Int.reduceNe, Int.reduceLT, Int.reduceLE, Int.reduceBEq, Int.reduceBNe, Int.reduceToNat, ha]
    exact ⟨xs, hp, hs.drop.p1.drop.p1.p1⟩
theorem col_R {mb bx clk : Nat} {kvs : List (AV × AV × Nat)} (hs : sat h (pto bx (.row 1 [[.map mb]] 1) :: pto mb (.mp kvs clk) :: F))
    (hc : ∀ x ∈ kvs, x.2.2 < clk) (hn : (kvs.map (·.2.2)).Nodup) (hz : ∀ x ∈ kvs, ∃ c, x.2.1 = .agg c ∧ c.length = 7 ∧ c.all AV.isAtom = true) (hk : kvs.length ≤ 1000000) :
    Triple Try.prog 23 [.fn 25 [.ptr bx 1 0 0]] h (fun r h => ∃ xs : List AV, xs.Perm (kvs.map (·.2.1)) ∧ sat h (Ow 7 r (xs.map AV.cells) :: pto mb (.mp kvs clk) :: F)) := by
  refine t23 (Nat.le_of_ble_eq_true rfl) ?_
  simp (disch := omega) only [F23, go_sem, reduceCtorEq, ↓reduceIte, Nat.reduceEqDiff, Nat.reduceAdd, Nat.reduceSub, Nat.reduceMul, Nat.reduceLT, Nat.reduceLeDiff, Int.reduceEq, Int.reduceNe, Int.reduceLT, Int.reduceLE, Int.reduceBEq, Int.reduceBNe, Int.reduceToNat]
  refine call_use (aps_R hs hc hn hz hk) ?_
  rintro r h ⟨xs, hp, hs⟩
  simp (disch := omega) only [go_sem, reduceCtorEq, ↓reduceIte, Nat.reduceEqDiff, Nat.reduceAdd, Nat.reduceSub, Nat.reduceMul, Nat.reduceLT, Nat.reduceLeDiff, Int.reduceEq, Int.reduceNe, Int.reduceLT, Int.reduceLE, Int.reduceBEq, Int.reduceBNe, Int.reduceToNat]
  exact ⟨xs, hp, hs⟩
theorem vals_R {mb clk : Nat} {kvs : List (AV × AV × Nat)} (hs : sat h (pto mb (.mp kvs clk) :: F)) :
    Triple Try.prog 19 [.map mb] h (fun r h => ∃ bx, r = .fn 25 [.ptr bx 1 0 0] ∧ sat h (pto bx (.row 1 [[.map mb]] 1) :: pto mb (.mp kvs clk) :: F)) := by
  refine t19 (Nat.le_of_ble_eq_true rfl) ?_
  simp (disch := omega) only [F19, go_sem, reduceCtorEq, ↓reduceIte, Nat.reduceEqDiff, Nat.reduceAdd, Nat.reduceSub, Nat.reduceMul, Nat.reduceLT, Nat.reduceLeDiff, Int.reduceEq, Int.reduceNe, Int.reduceLT, Int.reduceLE, Int.reduceBEq, Int.reduceBNe, Int.reduceToNat]
  refine new_opq hs fun s h hs => ?_
  simp (disch := omega) only [go_sem, reduceCtorEq, ↓reduceIte, Nat.reduceEqDiff, Nat.reduceAdd, Nat.reduceSub, Nat.reduceMul, Nat.reduceLT, Nat.reduceLeDiff, Int.reduceEq, Int.reduceNe, Int.reduceLT, Int.reduceLE, Int.reduceBEq, Int.reduceBNe, Int.reduceToNat]
  exact ⟨s, rfl, hs⟩
end
end Go.Proofs.Ytbaokmcljlfhnaa
/- slices.SortedFunc: the values in order. -/
set_option linter.unusedSimpArgs false
set_option linter.unusedVariables false
set_option maxRecDepth 10000
namespace Go.Proofs.Ytbaokmcljlfhnaa
open Go.Hz Go.Sort

theorem sorted_list {lt : List AV → List AV → Bool} {d R : Array (List AV)} (h1 : PermIn 0 d.size d R) (h2 : SortedIn lt 0 d.size R) (h3 : R.size = d.size) : R.toList.Perm d.toList ∧ R.toList.Pairwise (fun a b => lt b a = false) := by
  constructor
  · have := h1.2.2
    rw [Array.extract_size] at this
    rw [← h3, Array.extract_size] at this
    exact this
  · rw [List.pairwise_iff_getElem]
    intro i j hi hj hij
    have := h2 i j (Nat.zero_le _) hij (by simpa [h3] using hj)
    simpa [getElem!_pos R i (by simpa using hi), getElem!_pos R j (by simpa using hj)] using this
theorem ga_list {G : List AV → Prop} {l : List (List AV)} : GA G l.toArray ↔ ∀ x ∈ l, G x := by
  constructor
  · intro h x hx
    obtain ⟨i, hi, rfl⟩ := List.getElem_of_mem hx
    have := h i (by simpa using hi)
    simpa [hi] using this
  · intro h i hi
    have hi : i < l.length := by simpa using hi
    simpa [hi] using h _ (List.getElem_mem hi)
section
variable {h : Hp} {F : List Asr} {G : List AV → Prop} {lt : List AV → List AV → Bool}

theorem insn_R {f : AV} (hs : sat h F) : Triple Try.prog 30 [.nils, .int .i64 0, .int .i64 0, f] h (fun r h => sat h F) := by
  refine t30 (Nat.le_of_ble_eq_true rfl) ?_
  simp (disch := omega) only [F30, go_sem, reduceCtorEq, ↓reduceIte, Nat.reduceEqDiff, Nat.reduceAdd, Nat.reduceSub, Nat.reduceMul, Nat.reduceLT, Nat.reduceLeDiff, Int.reduceEq, Int.reduceNe, Int.reduceLT, Int.reduceLE, Int.reduceBEq, Int.reduceBNe, Int.reduceToNat]
  refine run_loopN (fun n e h => sat h F ∧ (e 1 = .int .i64 0 ∧ e 2 = .int .i64 0 ∧ e 8 = .int .i64 1)) 0 ⟨hs, rfl, rfl, rfl⟩ ?_
  rintro n e h ⟨hs, he⟩
  simp (disch := omega) only [go_sem, reduceCtorEq, ↓reduceIte, Nat.reduceEqDiff, Nat.reduceAdd, Nat.reduceSub, Nat.reduceMul, Nat.reduceLT, Nat.reduceLeDiff, Int.reduceEq, Int.reduceNe, Int.reduceLT, Int.reduceLE, Int.reduceBEq, Int.reduceBNe, Int.reduceToNat, he]
  exact hs
theorem pdqn_R {f lim : AV} (hs : sat h F) : Triple Try.prog 28 [.nils, .int .i64 0, .int .i64 0, lim, f] h (fun r h => sat h F) := by
  refine t28 (Nat.le_of_ble_eq_true rfl) ?_
  simp (disch := omega) only [F28, go_sem, reduceCtorEq, ↓reduceIte, Nat.reduceEqDiff, Nat.reduceAdd, Nat.reduceSub, Nat.reduceMul, Nat.reduceLT, Nat.reduceLeDiff, Int.reduceEq, Int.reduceNe, Int.reduceLT, Int.reduceLE, Int.reduceBEq, Int.reduceBNe, Int.reduceToNat]
  refine run_loopN (fun n e h => sat h F ∧ (e 0 = .nils ∧ e 1 = .int .i64 0 ∧ e 2 = .int .i64 0 ∧ e 4 = f)) 0 ⟨hs, rfl, rfl, rfl, rfl⟩ ?_
  rintro n e h ⟨hs, he⟩
  have z0 : decide ((0:Int) - 0 ≤ 12) = true := rfl
  simp (disch := omega) only [go_sem, reduceCtorEq, ↓reduceIte, Nat.reduceEqDiff, Nat.reduceAdd, Nat.reduceSub, Nat.reduceMul, Nat.reduceLT, Nat.reduceLeDiff, Int.reduceEq, Int.reduceNe, Int.reduceLT, Int.reduceLE, Int.reduceBEq, Int.reduceBNe, Int.reduceToNat, he, z0]
  refine call_use (insn_R hs) ?_
  intro r h hs
  simp (disch := omega) only [go_sem, reduceCtorEq, ↓reduceIte, Nat.reduceEqDiff, Nat.reduceAdd, Nat.reduceSub, Nat.reduceMul, Nat.reduceLT, Nat.reduceLeDiff, Int.reduceEq, Int.reduceNe, Int.reduceLT, Int.reduceLE, Int.reduceBEq, Int.reduceBNe, Int.reduceToNat]
  exact hs
theorem srtn_R {f : AV} (hs : sat h F) : Triple Try.prog 24 [.nils, f] h (fun r h => sat h F) := by
  refine t24 (Nat.le_of_ble_eq_true rfl) ?_
  simp (disch := omega) only [F24, go_sem, reduceCtorEq, ↓reduceIte, Nat.reduceEqDiff, Nat.reduceAdd, Nat.reduceSub, Nat.reduceMul, Nat.reduceLT, Nat.reduceLeDiff, Int.reduceEq, Int.reduceNe, Int.reduceLT, Int.reduceLE, Int.reduceBEq, Int.reduceBNe, Int.reduceToNat]
  refine call_use (len0 (n := 0) hs (by omega)) ?_
  rintro r h ⟨t, hr, h1, h2, h3, hs⟩
  subst hr
  simp (disch := omega) only [go_sem, reduceCtorEq, ↓reduceIte, Nat.reduceEqDiff, Nat.reduceAdd, Nat.reduceSub, Nat.reduceMul, Nat.reduceLT, Nat.reduceLeDiff, Int.reduceEq, Int.reduceNe, Int.reduceLT, Int.reduceLE, Int.reduceBEq, Int.reduceBNe, Int.reduceToNat]
  refine call_use (pdqn_R hs) ?_
  intro r h hs
  simp (disch := omega) only [go_sem, reduceCtorEq, ↓reduceIte, Nat.reduceEqDiff, Nat.reduceAdd, Nat.reduceSub, Nat.reduceMul, Nat.reduceLT, Nat.reduceLeDiff, Int.reduceEq, Int.reduceNe, Int.reduceLT, Int.reduceLE, Int.reduceBEq, Int.reduceBNe, Int.reduceToNat]
  exact hs
/-- A map's values, in order. -/
theorem srd_R {mb bx clk fc : Nat} {caps : List AV} {kvs : List (AV × AV × Nat)} (hf : okFn Try.prog fc = true) (hm : CmpT Try.prog true G lt fc caps) (E : GoodE 7 true G) (hO : SWO lt)
    (hs : sat h (pto bx (.row 1 [[.map mb]] 1) :: pto mb (.mp kvs clk) :: F))
    (hc : ∀ x ∈ kvs, x.2.2 < clk) (hn : (kvs.map (·.2.2)).Nodup) (hz : ∀ x ∈ kvs, ∃ c, x.2.1 = .agg c ∧ G c) (hk : kvs.length ≤ 1000000) :
    Triple Try.prog 18 [.fn 25 [.ptr bx 1 0 0], .fn fc caps] h (fun r h => ∃ R : List (List AV), R.Perm (kvs.map (·.2.1.cells)) ∧ R.Pairwise (fun a b => lt b a = false) ∧ sat h (Ow 7 r R :: pto mb (.mp kvs clk) :: F)) := by
  refine t18 (Nat.le_of_ble_eq_true rfl) ?_
  simp (disch := omega) only [F18, go_sem, reduceCtorEq, ↓reduceIte, Nat.reduceEqDiff, Nat.reduceAdd, Nat.reduceSub, Nat.reduceMul, Nat.reduceLT, Nat.reduceLeDiff, Int.reduceEq, Int.reduceNe, Int.reduceLT, Int.reduceLE, Int.reduceBEq, Int.reduceBNe, Int.reduceToNat]
  refine call_use (col_R hs hc hn (fun x hx => (hz x hx).imp fun c h => ⟨h.1, E.len _ h.2, E.atoms _ h.2⟩) hk) ?_
  rintro r h ⟨xs, hp, hs⟩
  have hq : (xs.map AV.cells).Perm (kvs.map (·.2.1.cells)) := by simpa [Function.comp_def] using hp.map AV.cells
  have hg : ∀ x ∈ xs.map AV.cells, G x := by
    intro x hx
    obtain ⟨y, hy, rfl⟩ := List.mem_map.1 (hq.mem_iff.1 hx)
    obtain ⟨c, h1, h2⟩ := hz _ hy
    rw [h1]; exact h2
  have hl : (xs.map AV.cells).length = kvs.length := by simpa using hq.length_eq
  generalize xs.map AV.cells = es at hs hq hg hl
  rcases hs.cases with ⟨rfl, rfl, hs⟩ | ⟨b, cap, rfl, hs, hle⟩
  · simp (disch := omega) only [go_sem, reduceCtorEq, ↓reduceIte, Nat.reduceEqDiff, Nat.reduceAdd, Nat.reduceSub, Nat.reduceMul, Nat.reduceLT, Nat.reduceLeDiff, Int.reduceEq, Int.reduceNe, Int.reduceLT, Int.reduceLE, Int.reduceBEq, Int.reduceBNe, Int.reduceToNat]
    refine call_use (srtn_R hs) ?_
    intro r h hs
    simp (disch := omega) only [go_sem, reduceCtorEq, ↓reduceIte, Nat.reduceEqDiff, Nat.reduceAdd, Nat.reduceSub, Nat.reduceMul, Nat.reduceLT, Nat.reduceLeDiff, Int.reduceEq, Int.reduceNe, Int.reduceLT, Int.reduceLE, Int.reduceBEq, Int.reduceBNe, Int.reduceToNat]
    exact ⟨[], hq, .nil, hs⟩
  · simp (disch := omega) only [go_sem, reduceCtorEq, ↓reduceIte, Nat.reduceEqDiff, Nat.reduceAdd, Nat.reduceSub, Nat.reduceMul, Nat.reduceLT, Nat.reduceLeDiff, Int.reduceEq, Int.reduceNe, Int.reduceLT, Int.reduceLE, Int.reduceBEq, Int.reduceBNe, Int.reduceToNat]
    refine call_use (srt_R hf hm E hO (d := es.toArray) hs (ga_list.2 hg) (by simp; omega)) ?_
    rintro r h ⟨R, p1, p2, p3, p4, hs⟩
    obtain ⟨q1, q2⟩ := sorted_list p1 p2 p4
    simp (disch := omega) only [go_sem, reduceCtorEq, ↓reduceIte, Nat.reduceEqDiff, Nat.reduceAdd, Nat.reduceSub, Nat.reduceMul, Nat.reduceLT, Nat.reduceLeDiff, Int.reduceEq, Int.reduceNe, Int.reduceLT, Int.reduceLE, Int.reduceBEq, Int.reduceBNe, Int.reduceToNat]
    refine ⟨R.toList, q1.trans hq, q2, ?_⟩
    have h5 : es.length = R.toList.length := by simpa using q1.length_eq.symm
    have h6 := hs.ow (by omega)
    rwa [← h5] at h6
end
end Go.Proofs.Ytbaokmcljlfhnaa
/- A reply apart; the table of the clients' last calls. -/
set_option linter.unusedSimpArgs false
set_option linter.unusedVariables false
set_option maxRecDepth 10000
namespace Go.Proofs.Ytbaokmcljlfhnaa
open Go.Hz Go.Sort

section
variable {h : Hp} {F : List Asr} {X : List Fk} {p : Nat}

theorem cloneKV (hs : sat h F) {l : List Kv} (hl : l.length * 64 ≤ 140737488355328) : Triple Try.prog 22 [kvsV l] h (fun r h => r = kvsV l ∧ sat h F) := by
  refine Triple.lst 6 ?_
  have key : ∀ v : AV, v ≠ .lst [] → (∀ h, sat h F → Els h 6 v (l.map kvC)) → Triple Try.prog 22 [v] h (fun r h' => ∃ es F', sat h' (Ow 6 r es :: F') ∧ ∀ h'', sat h'' F' → ((AV.lst es) = kvsV l ∧ sat h'' F)) := by
    intro v hn hE
    refine t22 (Nat.le_of_ble_eq_true rfl) ?_
    rcases Els.nil (hE _ hs) hn with ⟨rfl, he⟩ | ⟨_, hq⟩
    · simp (disch := omega) only [F22, go_sem, reduceCtorEq, ↓reduceIte, Nat.reduceEqDiff, Nat.reduceAdd, Nat.reduceSub, Nat.reduceMul, Nat.reduceLT, Nat.reduceLeDiff, Int.reduceEq, Int.reduceNe, Int.reduceLT, Int.reduceLE, Int.reduceBEq, Int.reduceBNe, Int.reduceToNat]
      have : l = [] := by simpa using he
      subst this
      exact ⟨[], F, hs.add ow_nil, fun h hs => ⟨rfl, hs⟩⟩
    · simp (disch := omega) only [F22, go_sem, reduceCtorEq, ↓reduceIte, Nat.reduceEqDiff, Nat.reduceAdd, Nat.reduceSub, Nat.reduceMul, Nat.reduceLT, Nat.reduceLeDiff, Int.reduceEq, Int.reduceNe, Int.reduceLT, Int.reduceLE, Int.reduceBEq, Int.reduceBNe, Int.reduceToNat, hq]
      refine new_opq hs fun n h hs => ?_
      have hy := (hE _ hs.drop).1
      simp (disch := omega) only [go_sem, reduceCtorEq, ↓reduceIte, Nat.reduceEqDiff, Nat.reduceAdd, Nat.reduceSub, Nat.reduceMul, Nat.reduceLT, Nat.reduceLeDiff, Int.reduceEq, Int.reduceNe, Int.reduceLT, Int.reduceLE, Int.reduceBEq, Int.reduceBNe, Int.reduceToNat]
      refine app_new hs hy (atoms_kv _) (by simpa using hl) fun v' h hs hc' ha' => ?_
      simp (disch := omega) only [go_sem, reduceCtorEq, ↓reduceIte, Nat.reduceEqDiff, Nat.reduceAdd, Nat.reduceSub, Nat.reduceMul, Nat.reduceLT, Nat.reduceLeDiff, Int.reduceEq, Int.reduceNe, Int.reduceLT, Int.reduceLE, Int.reduceBEq, Int.reduceBNe, Int.reduceToNat, hc']
      exact ⟨_, F, hs, fun h hs => ⟨rfl, hs⟩⟩
  by_cases hn : l = []
  · subst hn
    exact Triple.lst0 (pre := []) (suf := []) (key .nils (by simp) fun _ _ => ⟨rfl, by simp⟩) (key .emp (by simp) fun _ _ => ⟨rfl, by simp⟩)
  · exact key _ (by simp [hn]) fun _ _ => Els.lst (kvC_len l)

theorem ftwin {x : Rp} (hs : sat h F) (hx : RpOK x) : Triple Try.prog 15 [rpV x] h (fun r h => r = rpV x ∧ sat h F) := by
  obtain ⟨h1, h2⟩ := hx
  refine Triple.view ?_
  refine t15 (Nat.le_of_ble_eq_true rfl) ?_
  simp (disch := omega) only [F15, rpC, go_sem, reduceCtorEq, ↓reduceIte, Nat.reduceEqDiff, Nat.reduceAdd, Nat.reduceSub, Nat.reduceMul, Nat.reduceLT, Nat.reduceLeDiff, Int.reduceEq, Int.reduceNe, Int.reduceLT, Int.reduceLE, Int.reduceBEq, Int.reduceBNe, Int.reduceToNat]
  refine new_opq hs fun n1 h hs => ?_
  simp (disch := omega) only [go_sem, reduceCtorEq, ↓reduceIte, Nat.reduceEqDiff, Nat.reduceAdd, Nat.reduceSub, Nat.reduceMul, Nat.reduceLT, Nat.reduceLeDiff, Int.reduceEq, Int.reduceNe, Int.reduceLT, Int.reduceLE, Int.reduceBEq, Int.reduceBNe, Int.reduceToNat]
  refine new_opq hs fun n2 h hs => ?_
  have hp := hs.p1.at
  simp (disch := omega) only [go_sem, reduceCtorEq, ↓reduceIte, Nat.reduceEqDiff, Nat.reduceAdd, Nat.reduceSub, Nat.reduceMul, Nat.reduceLT, Nat.reduceLeDiff, Int.reduceEq, Int.reduceNe, Int.reduceLT, Int.reduceLE, Int.reduceBEq, Int.reduceBNe, Int.reduceToNat, hp, lenL_lst]
  refine msl_use hs (by omega) (by omega) fun b h hs => ?_
  have hp := hs.p2.at
  simp (disch := omega) only [go_sem, reduceCtorEq, ↓reduceIte, Nat.reduceEqDiff, Nat.reduceAdd, Nat.reduceSub, Nat.reduceMul, Nat.reduceLT, Nat.reduceLeDiff, Int.reduceEq, Int.reduceNe, Int.reduceLT, Int.reduceLE, Int.reduceBEq, Int.reduceBNe, Int.reduceToNat, hp, lenL_lst]
  generalize hr0 : [AV.int .i64 x.err, .int .i64 x.rev, .bool x.thn, ressV x.res, .int .i64 x.time] = row0 at hs hp
  generalize hz0 : [AV.int .i64 0, .int .i64 0, .bool false, .nils, .int .i64 0] = row1 at hs
  have hn : x.res.length = (x.res.map resC).length := by simp
  refine run_up (N := x.res.length) (fun i e h => sat h (pto b (.row 2 ((x.res.map resC).take i ++ List.replicate (x.res.length - i) [AV.int .i64 0, .nils]) x.res.length) :: pto n2 (.row 5 [row1] 1) :: pto n1 (.row 5 [row0] 1) :: F) ∧
    (e 1 = .ptr n1 5 0 0 ∧ e 2 = .ptr n2 5 0 0 ∧ e 3 = .arr b 2 0 x.res.length x.res.length ∧ e 11 = ressV x.res ∧ e 12 = .int .i64 x.res.length ∧ e 13 = .int .i64 i)) ⟨by simpa using hs, rfl, rfl, rfl, rfl, rfl, rfl⟩ ?_
  clear hs hp
  rintro i e h hi ⟨hs, he⟩
  have m1 : (i : Int) + 1 = ((i + 1 : Nat) : Int) := by omega
  simp (disch := omega) only [go_sem, reduceCtorEq, ↓reduceIte, Nat.reduceEqDiff, Nat.reduceAdd, Nat.reduceSub, Nat.reduceMul, Nat.reduceLT, Nat.reduceLeDiff, Int.reduceEq, Int.reduceNe, Int.reduceLT, Int.reduceLE, Int.reduceBEq, Int.reduceBNe, Int.reduceToNat, he, m1]
  refine cnd_dec (fun hc => ?_) (fun hc => ?_)
  · have hi : i < x.res.length := by omega
    have ei := ia_lst (f := resC) (l := x.res) (i := i) (s := 2) (k := .i64) hi (fun _ => rfl)
    simp (disch := omega) only [go_sem, reduceCtorEq, ↓reduceIte, Nat.reduceEqDiff, Nat.reduceAdd, Nat.reduceSub, Nat.reduceMul, Nat.reduceLT, Nat.reduceLeDiff, Int.reduceEq, Int.reduceNe, Int.reduceLT, Int.reduceLE, Int.reduceBEq, Int.reduceBNe, Int.reduceToNat, he, ei, resC]
    refine new_opq hs fun a h hs => ?_
    have ha := hs.at
    have hs2 := hs.set (o' := .row 2 [resC x.res[i]] 1)
    have ha2 := hs2.at
    simp only [resC] at hs2 ha2
    simp (disch := omega) only [go_sem, reduceCtorEq, ↓reduceIte, Nat.reduceEqDiff, Nat.reduceAdd, Nat.reduceSub, Nat.reduceMul, Nat.reduceLT, Nat.reduceLeDiff, Int.reduceEq, Int.reduceNe, Int.reduceLT, Int.reduceLE, Int.reduceBEq, Int.reduceBNe, Int.reduceToNat, he, ha, ha2]
    generalize Hp.set h a (.row 2 [[.int .i64 x.res[i].n, kvsV x.res[i].kvs]] 1) = h3 at hs2 ha2 ⊢
    refine call_use' (cloneKV hs2 (h2 _ (List.getElem_mem hi))) ?_
    rintro r h ⟨hr, hs⟩
    subst hr
    have hb := hs.p1.at
    have hg := fill_get (z := [AV.int .i64 0, .nils]) hn hi
    have hf := fill_set (z := [AV.int .i64 0, .nils]) (y := resC x.res[i]) hn hi (by simp [hi])
    simp only [resC] at hf
    simp (disch := omega) only [go_sem, reduceCtorEq, ↓reduceIte, Nat.reduceEqDiff, Nat.reduceAdd, Nat.reduceSub, Nat.reduceMul, Nat.reduceLT, Nat.reduceLeDiff, Int.reduceEq, Int.reduceNe, Int.reduceLT, Int.reduceLE, Int.reduceBEq, Int.reduceBNe, Int.reduceToNat, he, hs.at, hb, hg, hf, m1]
    exact ⟨by omega, hs.p1.set.d1⟩
  · have hi : i = x.res.length := by omega
    subst hi
    have e0 : ((x.res.map resC).take x.res.length ++ List.replicate (x.res.length - x.res.length) [AV.int .i64 0, .nils]) = x.res.map resC := by rw [List.take_of_length_le (by simp), Nat.sub_self]; simp
    rw [e0] at hs
    subst hr0
    subst hz0
    have hp := hs.p2.at
    have hs2 := hs.p2.set (o' := .row 5 [[.int .i64 x.err, .int .i64 x.rev, .bool x.thn, .arr b 2 0 x.res.length x.res.length, .int .i64 x.time]] 1)
    have hp2 := hs2.at
    simp (disch := omega) only [go_sem, reduceCtorEq, ↓reduceIte, Nat.reduceEqDiff, Nat.reduceAdd, Nat.reduceSub, Nat.reduceMul, Nat.reduceLT, Nat.reduceLeDiff, Int.reduceEq, Int.reduceNe, Int.reduceLT, Int.reduceLE, Int.reduceBEq, Int.reduceBNe, Int.reduceToNat, he, hp]
    generalize Hp.set h n1 _ = h3 at hs2 hp2 ⊢
    have hp3 := hs2.p2.at
    have hs4 := hs2.p2.set (o' := .row 5 [[.int .i64 x.err, .int .i64 x.rev, .bool x.thn, .arr b 2 0 x.res.length x.res.length, .int .i64 x.time]] 1)
    have hp4 := hs4.at
    simp (disch := omega) only [go_sem, reduceCtorEq, ↓reduceIte, Nat.reduceEqDiff, Nat.reduceAdd, Nat.reduceSub, Nat.reduceMul, Nat.reduceLT, Nat.reduceLeDiff, Int.reduceEq, Int.reduceNe, Int.reduceLT, Int.reduceLE, Int.reduceBEq, Int.reduceBNe, Int.reduceToNat, he, hp2, hp3, hp4]
    refine ⟨_, _, GV.agg [.int .i64 x.err, .int .i64 x.rev, .bool x.thn] [.int .i64 x.time] (GV.arr hs4.p2.at (by simp) (Nat.le_refl _)), rfl, ?_⟩
    exact hs4.p2.del.drop.drop

theorem fkNew (hs : sat h F) : Triple Try.prog 7 [] h (fun r h => ∃ p, r = .ptr p 1 0 0 ∧ sat h (FkP p [] :: F)) := by
  refine t7 (Nat.le_of_ble_eq_true rfl) ?_
  simp (disch := omega) only [F7, go_sem, reduceCtorEq, ↓reduceIte, Nat.reduceEqDiff, Nat.reduceAdd, Nat.reduceSub, Nat.reduceMul, Nat.reduceLT, Nat.reduceLeDiff, Int.reduceEq, Int.reduceNe, Int.reduceLT, Int.reduceLE, Int.reduceBEq, Int.reduceBNe, Int.reduceToNat]
  refine new_opq hs fun m h hs => ?_
  simp (disch := omega) only [go_sem, reduceCtorEq, ↓reduceIte, Nat.reduceEqDiff, Nat.reduceAdd, Nat.reduceSub, Nat.reduceMul, Nat.reduceLT, Nat.reduceLeDiff, Int.reduceEq, Int.reduceNe, Int.reduceLT, Int.reduceLE, Int.reduceBEq, Int.reduceBNe, Int.reduceToNat]
  refine new_opq hs fun p h hs => ?_
  simp (disch := omega) only [go_sem, reduceCtorEq, ↓reduceIte, Nat.reduceEqDiff, Nat.reduceAdd, Nat.reduceSub, Nat.reduceMul, Nat.reduceLT, Nat.reduceLeDiff, Int.reduceEq, Int.reduceNe, Int.reduceLT, Int.reduceLE, Int.reduceBEq, Int.reduceBNe, Int.reduceToNat]
  exact ⟨p, rfl, fkP.2 ⟨m, FkOK.nil, (mpA_new hs.p1).p1⟩⟩
theorem fkAsk_fin {c s : Int} {rp : Rp} {b : Bool} (hh : fkAsk X c s = (rp, b)) (hs : sat h (FkP p X :: F)) : ∃ r' h'', GV (.tup [rpV rp, .bool b]) h r' h'' ∧ r' = .tup [rpV (fkAsk X c s).1, .bool (fkAsk X c s).2] ∧ sat h'' (FkP p X :: F) :=
  ⟨_, h, GV.refl _ _, by rw [hh], hs⟩
theorem fkAsk_fin0 {c s e : Int} {b : Bool} (hh : fkAsk X c s = (rpE e, b)) (hs : sat h (FkP p X :: F)) : ∃ r' h'', GV (.tup [.agg [.int .i64 e, .int .i64 0, .bool false, .nils, .int .i64 0], .bool b]) h r' h'' ∧ r' = .tup [rpV (fkAsk X c s).1, .bool (fkAsk X c s).2] ∧ sat h'' (FkP p X :: F) :=
  ⟨_, h, GV.tup [] [.bool b] gv_rp, by rw [hh]; rfl, hs⟩
theorem fkAskT {c s : Int} (hs : sat h (FkP p X :: F)) : Triple Try.prog 8 [.ptr p 1 0 0, .int .i64 c, .int .i64 s] h (fun r h => r = .tup [rpV (fkAsk X c s).1, .bool (fkAsk X c s).2] ∧ sat h (FkP p X :: F)) := by
  obtain ⟨m, hX, hs⟩ := fkP.1 hs
  refine Triple.view ?_
  refine t8 (Nat.le_of_ble_eq_true rfl) ?_
  simp (disch := omega) only [F8, go_sem, reduceCtorEq, ↓reduceIte, Nat.reduceEqDiff, Nat.reduceAdd, Nat.reduceSub, Nat.reduceMul, Nat.reduceLT, Nat.reduceLeDiff, Int.reduceEq, Int.reduceNe, Int.reduceLT, Int.reduceLE, Int.reduceBEq, Int.reduceBNe, Int.reduceToNat]
  refine new_opq hs fun a h hs => ?_
  have hp := hs.p1.at
  cases hg : fkGet X c with
  | none =>
    have hl := lk_miss keyOK_int hs.p2 (fkGet_none hg) (ok := true) (z := .agg [.int .i64 0, .int .i64 0, .int .i64 0, .int .i64 0, .bool false, .nils, .int .i64 0])
    simp (disch := omega) only [go_sem, reduceCtorEq, ↓reduceIte, Nat.reduceEqDiff, Nat.reduceAdd, Nat.reduceSub, Nat.reduceMul, Nat.reduceLT, Nat.reduceLeDiff, Int.reduceEq, Int.reduceNe, Int.reduceLT, Int.reduceLE, Int.reduceBEq, Int.reduceBNe, Int.reduceToNat, hp, hl]
    refine new_opq hs fun b h hs => ?_
    have hb := hs.at
    simp (disch := omega) only [go_sem, reduceCtorEq, ↓reduceIte, Nat.reduceEqDiff, Nat.reduceAdd, Nat.reduceSub, Nat.reduceMul, Nat.reduceLT, Nat.reduceLeDiff, Int.reduceEq, Int.reduceNe, Int.reduceLT, Int.reduceLE, Int.reduceBEq, Int.reduceBNe, Int.reduceToNat, hb]
    have hs := hs.set (o' := .row 7 [[.int .i64 0, .int .i64 0, .int .i64 0, .int .i64 0, .bool false, .nils, .int .i64 0]] 1)
    have hb := hs.at
    have ha := hs.p1.at
    have hp := hs.p2.at
    have hlen := len_mp hs.p3
    have back : ∀ {h : Hp}, sat h (pto b (.row 7 [[.int .i64 0, .int .i64 0, .int .i64 0, .int .i64 0, .bool false, .nils, .int .i64 0]] 1) :: pto p (.row 1 [[.map m]] 1) :: MpA (fun n : Int => AV.int .i64 n) Fk.client (fun x => AV.agg (fkC x)) m X :: F) → sat h (FkP p X :: F) := fun hs => fkP.2 ⟨m, hX, hs.drop⟩
    generalize Hp.set h b _ = h2 at hs hb ha hp hlen ⊢
    by_cases c0 : c = 0
    · have e0 : (c == 0) = true := by simpa using c0
      have ef : fkAsk X c s = (rpE 0, true) := by simp [fkAsk, c0]; rfl
      simp (disch := omega) only [go_sem, reduceCtorEq, ↓reduceIte, Nat.reduceEqDiff, Nat.reduceAdd, Nat.reduceSub, Nat.reduceMul, Nat.reduceLT, Nat.reduceLeDiff, Int.reduceEq, Int.reduceNe, Int.reduceLT, Int.reduceLE, Int.reduceBEq, Int.reduceBNe, Int.reduceToNat, e0, ha]
      exact fkAsk_fin0 ef (back hs.p1.set.drop)
    have e0 : (c == 0) = false := by simpa using c0
    by_cases c1 : c < 0
    · have ef : fkAsk X c s = (rpE 1, false) := by simp [fkAsk, c0, c1]
      simp (disch := omega) only [go_sem, reduceCtorEq, ↓reduceIte, Nat.reduceEqDiff, Nat.reduceAdd, Nat.reduceSub, Nat.reduceMul, Nat.reduceLT, Nat.reduceLeDiff, Int.reduceEq, Int.reduceNe, Int.reduceLT, Int.reduceLE, Int.reduceBEq, Int.reduceBNe, Int.reduceToNat, e0, c1, ha]
      exact fkAsk_fin0 ef (back hs.p1.set.drop)
    by_cases c2 : s < 1
    · have ef : fkAsk X c s = (rpE 1, false) := by simp [fkAsk, c0, c2]
      simp (disch := omega) only [go_sem, reduceCtorEq, ↓reduceIte, Nat.reduceEqDiff, Nat.reduceAdd, Nat.reduceSub, Nat.reduceMul, Nat.reduceLT, Nat.reduceLeDiff, Int.reduceEq, Int.reduceNe, Int.reduceLT, Int.reduceLE, Int.reduceBEq, Int.reduceBNe, Int.reduceToNat, e0, c1, c2, ha]
      exact fkAsk_fin0 ef (back hs.p1.set.drop)
    by_cases c3 : 64 ≤ X.length
    · have ef : fkAsk X c s = (rpE 4, false) := by simp [fkAsk, c0, c1, c2, hg, c3]
      simp (disch := omega) only [go_sem, reduceCtorEq, ↓reduceIte, Nat.reduceEqDiff, Nat.reduceAdd, Nat.reduceSub, Nat.reduceMul, Nat.reduceLT, Nat.reduceLeDiff, Int.reduceEq, Int.reduceNe, Int.reduceLT, Int.reduceLE, Int.reduceBEq, Int.reduceBNe, Int.reduceToNat, e0, c1, c2, hp, hlen, show ((X.length : Int) ≥ 64) = True by simp; omega, ha]
      exact fkAsk_fin0 ef (back hs.p1.set.drop)
    · have ef : fkAsk X c s = (rpE 0, true) := by simp [fkAsk, c0, c1, c2, hg, c3]; rfl
      simp (disch := omega) only [go_sem, reduceCtorEq, ↓reduceIte, Nat.reduceEqDiff, Nat.reduceAdd, Nat.reduceSub, Nat.reduceMul, Nat.reduceLT, Nat.reduceLeDiff, Int.reduceEq, Int.reduceNe, Int.reduceLT, Int.reduceLE, Int.reduceBEq, Int.reduceBNe, Int.reduceToNat, e0, c1, c2, hp, hlen, show ((X.length : Int) ≥ 64) = False by simp; omega, hb, show ((0 : Int) < s) = True by simp; omega, ha]
      exact fkAsk_fin0 ef (back hs.p1.set.drop)
  | some x =>
    obtain ⟨hx, rfl⟩ := fkGet_some hg
    have hl := lk_hit keyOK_int hs.p2 (pw_nodup hX.1) hx (ok := true) (z := .agg [.int .i64 0, .int .i64 0, .int .i64 0, .int .i64 0, .bool false, .nils, .int .i64 0])
    simp (disch := omega) only [go_sem, reduceCtorEq, ↓reduceIte, Nat.reduceEqDiff, Nat.reduceAdd, Nat.reduceSub, Nat.reduceMul, Nat.reduceLT, Nat.reduceLeDiff, Int.reduceEq, Int.reduceNe, Int.reduceLT, Int.reduceLE, Int.reduceBEq, Int.reduceBNe, Int.reduceToNat, hp, hl]
    refine new_opq hs fun b h hs => ?_
    have hb := hs.at
    simp (disch := omega) only [go_sem, reduceCtorEq, ↓reduceIte, Nat.reduceEqDiff, Nat.reduceAdd, Nat.reduceSub, Nat.reduceMul, Nat.reduceLT, Nat.reduceLeDiff, Int.reduceEq, Int.reduceNe, Int.reduceLT, Int.reduceLE, Int.reduceBEq, Int.reduceBNe, Int.reduceToNat, hb, fkC]
    have hs := hs.set (o' := .row 7 [fkC x] 1)
    have hb := hs.at
    have ha := hs.p1.at
    have hp := hs.p2.at
    have hlen := len_mp hs.p3
    have back : ∀ {h : Hp}, sat h (pto b (.row 7 [fkC x] 1) :: pto p (.row 1 [[.map m]] 1) :: MpA (fun n : Int => AV.int .i64 n) Fk.client (fun x => AV.agg (fkC x)) m X :: F) → sat h (FkP p X :: F) := fun hs => fkP.2 ⟨m, hX, hs.drop⟩
    simp only [fkC] at hs hb ha hp hlen
    generalize Hp.set h b _ = h2 at hs hb ha hp hlen ⊢
    by_cases c0 : x.client = 0
    · have e0 : (x.client == 0) = true := by simpa using c0
      have ef : fkAsk X x.client s = (rpE 0, true) := by simp [fkAsk, c0]; rfl
      simp (disch := omega) only [go_sem, reduceCtorEq, ↓reduceIte, Nat.reduceEqDiff, Nat.reduceAdd, Nat.reduceSub, Nat.reduceMul, Nat.reduceLT, Nat.reduceLeDiff, Int.reduceEq, Int.reduceNe, Int.reduceLT, Int.reduceLE, Int.reduceBEq, Int.reduceBNe, Int.reduceToNat, e0, ha]
      exact fkAsk_fin0 ef (back hs.p1.set.drop)
    have e0 : (x.client == 0) = false := by simpa using c0
    by_cases c1 : x.client < 0
    · have ef : fkAsk X x.client s = (rpE 1, false) := by simp [fkAsk, c0, c1]
      simp (disch := omega) only [go_sem, reduceCtorEq, ↓reduceIte, Nat.reduceEqDiff, Nat.reduceAdd, Nat.reduceSub, Nat.reduceMul, Nat.reduceLT, Nat.reduceLeDiff, Int.reduceEq, Int.reduceNe, Int.reduceLT, Int.reduceLE, Int.reduceBEq, Int.reduceBNe, Int.reduceToNat, e0, c1, ha]
      exact fkAsk_fin0 ef (back hs.p1.set.drop)
    by_cases c2 : s < 1
    · have ef : fkAsk X x.client s = (rpE 1, false) := by simp [fkAsk, c0, c2]
      simp (disch := omega) only [go_sem, reduceCtorEq, ↓reduceIte, Nat.reduceEqDiff, Nat.reduceAdd, Nat.reduceSub, Nat.reduceMul, Nat.reduceLT, Nat.reduceLeDiff, Int.reduceEq, Int.reduceNe, Int.reduceLT, Int.reduceLE, Int.reduceBEq, Int.reduceBNe, Int.reduceToNat, e0, c1, c2, ha]
      exact fkAsk_fin0 ef (back hs.p1.set.drop)
    by_cases c3 : x.seq < s
    · have ef : fkAsk X x.client s = (rpE 0, true) := by simp [fkAsk, c0, c1, c2, hg, c3]; rfl
      simp (disch := omega) only [go_sem, reduceCtorEq, ↓reduceIte, Nat.reduceEqDiff, Nat.reduceAdd, Nat.reduceSub, Nat.reduceMul, Nat.reduceLT, Nat.reduceLeDiff, Int.reduceEq, Int.reduceNe, Int.reduceLT, Int.reduceLE, Int.reduceBEq, Int.reduceBNe, Int.reduceToNat, e0, c1, c2, hb, c3, ha]
      exact fkAsk_fin0 ef (back hs.p1.set.drop)
    by_cases c4 : s < x.seq
    · have ef : fkAsk X x.client s = (rpE 24, false) := by simp [fkAsk, c0, c1, c2, hg, c3, c4]
      simp (disch := omega) only [go_sem, reduceCtorEq, ↓reduceIte, Nat.reduceEqDiff, Nat.reduceAdd, Nat.reduceSub, Nat.reduceMul, Nat.reduceLT, Nat.reduceLeDiff, Int.reduceEq, Int.reduceNe, Int.reduceLT, Int.reduceLE, Int.reduceBEq, Int.reduceBNe, Int.reduceToNat, e0, c1, c2, hb, c3, show (x.seq > s) = True by simp; omega, ha]
      exact fkAsk_fin0 ef (back hs.p1.set.drop)
    have ef : fkAsk X x.client s = (x.rep, false) := by simp [fkAsk, c0, c1, c2, hg, c3, c4]
    simp (disch := omega) only [go_sem, reduceCtorEq, ↓reduceIte, Nat.reduceEqDiff, Nat.reduceAdd, Nat.reduceSub, Nat.reduceMul, Nat.reduceLT, Nat.reduceLeDiff, Int.reduceEq, Int.reduceNe, Int.reduceLT, Int.reduceLE, Int.reduceBEq, Int.reduceBNe, Int.reduceToNat, e0, c1, c2, hb, c3, show (x.seq > s) = False by simp; omega]
    have hx3 := (hX.2.1 x hx).2.2
    refine call_use (ftwin hs (x := x.rep) hx3) ?_
    rintro r h ⟨hr, hs⟩
    subst hr
    have ha := hs.p1.at
    simp (disch := omega) only [go_sem, reduceCtorEq, ↓reduceIte, Nat.reduceEqDiff, Nat.reduceAdd, Nat.reduceSub, Nat.reduceMul, Nat.reduceLT, Nat.reduceLeDiff, Int.reduceEq, Int.reduceNe, Int.reduceLT, Int.reduceLE, Int.reduceBEq, Int.reduceBNe, Int.reduceToNat, ha, rpC]
    exact fkAsk_fin ef (back hs.p1.set.drop)
theorem fkNoteT {c q : Int} {x : Rp} (hs : sat h (FkP p X :: F)) (hx : RpOK x) : Triple Try.prog 11 [.ptr p 1 0 0, .int .i64 c, .int .i64 q, rpV x] h (fun r h => sat h (FkP p (fkNote X c q x) :: F)) := by
  have hX : FkOK X := (fkP.1 hs).choose_spec.1
  refine t11 (Nat.le_of_ble_eq_true rfl) ?_
  simp (disch := omega) only [F11, rpC, go_sem, reduceCtorEq, ↓reduceIte, Nat.reduceEqDiff, Nat.reduceAdd, Nat.reduceSub, Nat.reduceMul, Nat.reduceLT, Nat.reduceLeDiff, Int.reduceEq, Int.reduceNe, Int.reduceLT, Int.reduceLE, Int.reduceBEq, Int.reduceBNe, Int.reduceToNat]
  refine new_opq hs fun n1 h hs => ?_
  simp (disch := omega) only [go_sem, reduceCtorEq, ↓reduceIte, Nat.reduceEqDiff, Nat.reduceAdd, Nat.reduceSub, Nat.reduceMul, Nat.reduceLT, Nat.reduceLeDiff, Int.reduceEq, Int.reduceNe, Int.reduceLT, Int.reduceLE, Int.reduceBEq, Int.reduceBNe, Int.reduceToNat]
  refine call_use (fkAskT hs.p1) ?_
  rintro r h ⟨hr, hs⟩
  subst hr
  simp (disch := omega) only [go_sem, reduceCtorEq, ↓reduceIte, Nat.reduceEqDiff, Nat.reduceAdd, Nat.reduceSub, Nat.reduceMul, Nat.reduceLT, Nat.reduceLeDiff, Int.reduceEq, Int.reduceNe, Int.reduceLT, Int.reduceLE, Int.reduceBEq, Int.reduceBNe, Int.reduceToNat, rpC]
  refine new_opq hs fun n2 h hs => ?_
  have h2 := hs.at
  have hs2 := hs.set (o' := .row 5 [rpC (fkAsk X c q).1] 1)
  simp only [rpC] at hs2
  simp (disch := omega) only [go_sem, reduceCtorEq, ↓reduceIte, Nat.reduceEqDiff, Nat.reduceAdd, Nat.reduceSub, Nat.reduceMul, Nat.reduceLT, Nat.reduceLeDiff, Int.reduceEq, Int.reduceNe, Int.reduceLT, Int.reduceLE, Int.reduceBEq, Int.reduceBNe, Int.reduceToNat, h2, rpC]
  generalize Hp.set h n2 _ = h3 at hs2 ⊢
  by_cases c0 : c = 0
  · have e0 : (c != 0) = false := by simpa using c0
    have ef : fkNote X c q x = X := by simp [fkNote, c0]
    rw [ef]
    simp (disch := omega) only [go_sem, reduceCtorEq, ↓reduceIte, Nat.reduceEqDiff, Nat.reduceAdd, Nat.reduceSub, Nat.reduceMul, Nat.reduceLT, Nat.reduceLeDiff, Int.reduceEq, Int.reduceNe, Int.reduceLT, Int.reduceLE, Int.reduceBEq, Int.reduceBNe, Int.reduceToNat, e0]
    exact hs2.drop.p1.drop
  have e0 : (c != 0) = true := by simpa using c0
  cases hf : (fkAsk X c q).2 with
  | false =>
    have ef : fkNote X c q x = X := by simp [fkNote, hf]
    rw [ef]
    simp (disch := omega) only [go_sem, reduceCtorEq, ↓reduceIte, Nat.reduceEqDiff, Nat.reduceAdd, Nat.reduceSub, Nat.reduceMul, Nat.reduceLT, Nat.reduceLeDiff, Int.reduceEq, Int.reduceNe, Int.reduceLT, Int.reduceLE, Int.reduceBEq, Int.reduceBNe, Int.reduceToNat, e0]
    exact hs2.drop.p1.drop
  | true =>
    have ef : fkNote X c q x = fkPut X ⟨c, q, x⟩ := by simp [fkNote, hf, c0]
    have hok := fkNote_ok (c := c) (s := q) hX hx
    rw [ef] at hok ⊢
    obtain ⟨m, _, hs⟩ := fkP.1 hs2.p1
    have hp := hs.at
    have hn := hs.p3.at
    simp (disch := omega) only [go_sem, reduceCtorEq, ↓reduceIte, Nat.reduceEqDiff, Nat.reduceAdd, Nat.reduceSub, Nat.reduceMul, Nat.reduceLT, Nat.reduceLeDiff, Int.reduceEq, Int.reduceNe, Int.reduceLT, Int.reduceLE, Int.reduceBEq, Int.reduceBNe, Int.reduceToNat, e0, hp, hn]
    refine call_use' (ftwin hs hx) ?_
    rintro r h ⟨hr, hs⟩
    subst hr
    have hp := hs.at
    simp (disch := omega) only [go_sem, reduceCtorEq, ↓reduceIte, Nat.reduceEqDiff, Nat.reduceAdd, Nat.reduceSub, Nat.reduceMul, Nat.reduceLT, Nat.reduceLeDiff, Int.reduceEq, Int.reduceNe, Int.reduceLT, Int.reduceLE, Int.reduceBEq, Int.reduceBNe, Int.reduceToNat, hp, rpC]
    cases hg : fkGet X c with
    | none =>
      refine mup_new keyOK_int hs.p1 (y := (⟨c, q, x⟩ : Fk)) (fkGet_none hg) fun h hs => ?_
      simp (disch := omega) only [go_sem, reduceCtorEq, ↓reduceIte, Nat.reduceEqDiff, Nat.reduceAdd, Nat.reduceSub, Nat.reduceMul, Nat.reduceLT, Nat.reduceLeDiff, Int.reduceEq, Int.reduceNe, Int.reduceLT, Int.reduceLE, Int.reduceBEq, Int.reduceBNe, Int.reduceToNat]
      have e2 : fkPut X ⟨c, q, x⟩ = kIns Fk.client X ⟨c, q, x⟩ := by simp [fkPut, hg]
      rw [e2] at hok ⊢
      exact fkP.2 ⟨m, hok, (mpA_perm hs kIns_perm).p2.drop.p2.drop.p1⟩
    | some y =>
      obtain ⟨hy, rfl⟩ := fkGet_some hg
      refine mup_set keyOK_int hs.p1 (pw_nodup hX.1) hy (y := (⟨y.client, q, x⟩ : Fk)) rfl fun h hs => ?_
      simp (disch := omega) only [go_sem, reduceCtorEq, ↓reduceIte, Nat.reduceEqDiff, Nat.reduceAdd, Nat.reduceSub, Nat.reduceMul, Nat.reduceLT, Nat.reduceLeDiff, Int.reduceEq, Int.reduceNe, Int.reduceLT, Int.reduceLE, Int.reduceBEq, Int.reduceBNe, Int.reduceToNat]
      have e2 : fkPut X ⟨y.client, q, x⟩ = kSet Fk.client X ⟨y.client, q, x⟩ := by simp [fkPut, hg]
      rw [e2] at hok ⊢
      exact fkP.2 ⟨m, hok, hs.p2.drop.p2.drop.p1⟩
theorem cmpR : CmpT Try.prog true GFk ltI 20 [] := by
  rintro _ _ L h ⟨x, rfl⟩ ⟨y, rfl⟩ hs
  show Triple Try.prog _ [.agg (fkC x), .agg (fkC y)] h _
  refine t20 (Nat.le_of_ble_eq_true rfl) ?_
  simp (disch := omega) only [F20, fkC, go_sem, reduceCtorEq, ↓reduceIte, Nat.reduceEqDiff, Nat.reduceAdd, Nat.reduceSub, Nat.reduceMul, Nat.reduceLT, Nat.reduceLeDiff, Int.reduceEq, Int.reduceNe, Int.reduceLT, Int.reduceLE, Int.reduceBEq, Int.reduceBNe, Int.reduceToNat]
  refine new_opq hs fun a h hs => ?_
  simp (disch := omega) only [go_sem, reduceCtorEq, ↓reduceIte, Nat.reduceEqDiff, Nat.reduceAdd, Nat.reduceSub, Nat.reduceMul, Nat.reduceLT, Nat.reduceLeDiff, Int.reduceEq, Int.reduceNe, Int.reduceLT, Int.reduceLE, Int.reduceBEq, Int.reduceBNe, Int.reduceToNat]
  refine new_opq hs fun b h hs => ?_
  have ha := hs.at
  have hb := hs.p1.at
  simp (disch := omega) only [go_sem, reduceCtorEq, ↓reduceIte, Nat.reduceEqDiff, Nat.reduceAdd, Nat.reduceSub, Nat.reduceMul, Nat.reduceLT, Nat.reduceLeDiff, Int.reduceEq, Int.reduceNe, Int.reduceLT, Int.reduceLE, Int.reduceBEq, Int.reduceBNe, Int.reduceToNat, ha, hb]
  refine call_use (cmp_int hs) ?_
  rintro r h ⟨c, hr, h1, hs⟩
  subst hr
  simp (disch := omega) only [go_sem, reduceCtorEq, ↓reduceIte, Nat.reduceEqDiff, Nat.reduceAdd, Nat.reduceSub, Nat.reduceMul, Nat.reduceLT, Nat.reduceLeDiff, Int.reduceEq, Int.reduceNe, Int.reduceLT, Int.reduceLE, Int.reduceBEq, Int.reduceBNe, Int.reduceToNat]
  exact ⟨c, rfl, by rw [h1]; rfl, hs.drop.drop⟩
theorem fkAll (hs : sat h (FkP p X :: F)) : Triple Try.prog 13 [.ptr p 1 0 0] h (fun r h => sat h (Ow 7 r (X.map fkC) :: FkP p X :: F)) := by
  obtain ⟨m, hX, hs⟩ := fkP.1 hs
  have hp := hs.at
  refine t13 (Nat.le_of_ble_eq_true rfl) ?_
  simp (disch := omega) only [F13, hp, go_sem, reduceCtorEq, ↓reduceIte, Nat.reduceEqDiff, Nat.reduceAdd, Nat.reduceSub, Nat.reduceMul, Nat.reduceLT, Nat.reduceLeDiff, Int.reduceEq, Int.reduceNe, Int.reduceLT, Int.reduceLE, Int.reduceBEq, Int.reduceBNe, Int.reduceToNat]
  obtain ⟨pl, c, ⟨q1, q2, q3⟩, hs⟩ := mpA.1 hs.p1
  refine call_use (vals_R hs) ?_
  rintro r h ⟨bx, hr, hs⟩
  subst hr
  simp (disch := omega) only [go_sem, reduceCtorEq, ↓reduceIte, Nat.reduceEqDiff, Nat.reduceAdd, Nat.reduceSub, Nat.reduceMul, Nat.reduceLT, Nat.reduceLeDiff, Int.reduceEq, Int.reduceNe, Int.reduceLT, Int.reduceLE, Int.reduceBEq, Int.reduceBNe, Int.reduceToNat]
  have hl : pl.length = X.length := by simpa using q1.length_eq
  refine call_use (srd_R rfl cmpR goodE_fk swo_ltI hs ?_ ?_ ?_ (by simp [kvOf]; have := hX.2.2; omega)) ?_
  · intro x hx
    obtain ⟨y, hy, rfl⟩ := List.mem_map.1 hx
    exact q3 y hy
  · simpa [kvOf, Function.comp_def] using q2
  · intro x hx
    obtain ⟨y, hy, rfl⟩ := List.mem_map.1 hx
    exact ⟨_, rfl, y.1, rfl⟩
  rintro r h ⟨R, p1, p2, hs⟩
  have p3 : R.Perm (X.map fkC) := by
    refine p1.trans ?_
    have := q1.map fkC
    simpa [kvOf, Function.comp_def, AV.cells] using this
  rw [k_sorted hdI_fk hX.1 p3 p2] at hs
  have hs : sat h (Ow 7 r (X.map fkC) :: FkP p X :: F) := (fkP.2 ⟨m, hX, (mpA.2 ⟨pl, c, ⟨q1, q2, q3⟩, hs.p1⟩).p2⟩).p1
  rcases hs.cases with ⟨rfl, hn, hs⟩ | ⟨b, cap, rfl, hs, hle⟩
  · have hn : X = [] := by simpa using hn
    subst hn
    simp (disch := omega) only [go_sem, reduceCtorEq, ↓reduceIte, Nat.reduceEqDiff, Nat.reduceAdd, Nat.reduceSub, Nat.reduceMul, Nat.reduceLT, Nat.reduceLeDiff, Int.reduceEq, Int.reduceNe, Int.reduceLT, Int.reduceLE, Int.reduceBEq, Int.reduceBNe, Int.reduceToNat]
    refine run_loopN (fun n e h => sat h (FkP p [] :: F) ∧ (e 3 = .nils ∧ e 13 = .int .i64 0 ∧ e 14 = .int .i64 0)) 0 ⟨hs, rfl, rfl, rfl⟩ ?_
    clear hs
    rintro n e h ⟨hs, he⟩
    simp (disch := omega) only [go_sem, reduceCtorEq, ↓reduceIte, Nat.reduceEqDiff, Nat.reduceAdd, Nat.reduceSub, Nat.reduceMul, Nat.reduceLT, Nat.reduceLeDiff, Int.reduceEq, Int.reduceNe, Int.reduceLT, Int.reduceLE, Int.reduceBEq, Int.reduceBNe, Int.reduceToNat, he]
    exact hs.add ow_nil
  have hlen : (X.map fkC).length = X.length := by simp
  rw [hlen] at hle
  simp only [hlen]
  have hX64 := hX.2.2
  simp (disch := omega) only [go_sem, reduceCtorEq, ↓reduceIte, Nat.reduceEqDiff, Nat.reduceAdd, Nat.reduceSub, Nat.reduceMul, Nat.reduceLT, Nat.reduceLeDiff, Int.reduceEq, Int.reduceNe, Int.reduceLT, Int.reduceLE, Int.reduceBEq, Int.reduceBNe, Int.reduceToNat]
  refine run_up (N := X.length) (fun i e h => sat h (pto b (.row 7 (X.map fkC) cap) :: FkP p X :: F) ∧ (e 3 = .arr b 7 0 X.length cap ∧ e 12 = .arr b 7 0 X.length cap ∧ e 13 = .int .i64 X.length ∧ e 14 = .int .i64 i)) ⟨hs, rfl, rfl, rfl, rfl⟩ ?_
  clear hs
  rintro i e h hi ⟨hs, he⟩
  have m1 : (i : Int) + 1 = ((i + 1 : Nat) : Int) := by omega
  simp (disch := omega) only [go_sem, reduceCtorEq, ↓reduceIte, Nat.reduceEqDiff, Nat.reduceAdd, Nat.reduceSub, Nat.reduceMul, Nat.reduceLT, Nat.reduceLeDiff, Int.reduceEq, Int.reduceNe, Int.reduceLT, Int.reduceLE, Int.reduceBEq, Int.reduceBNe, Int.reduceToNat, he, m1]
  refine cnd_dec (fun hc => ?_) (fun hc => ?_)
  · have hi : i < X.length := by omega
    have hrow : (X.map fkC)[i]? = some (fkC X[i]) := by simp [hi]
    have hb := hs.at
    simp (disch := omega) only [go_sem, reduceCtorEq, ↓reduceIte, Nat.reduceEqDiff, Nat.reduceAdd, Nat.reduceSub, Nat.reduceMul, Nat.reduceLT, Nat.reduceLeDiff, Int.reduceEq, Int.reduceNe, Int.reduceLT, Int.reduceLE, Int.reduceBEq, Int.reduceBNe, Int.reduceToNat, he, hb, hrow, fkC, Int.toNat_natCast]
    refine new_opq hs fun a h hs => ?_
    have ha := hs.at
    have hs2 := hs.set (o' := .row 7 [fkC X[i]] 1)
    have ha2 := hs2.at
    simp only [fkC] at hs2 ha2
    simp (disch := omega) only [go_sem, reduceCtorEq, ↓reduceIte, Nat.reduceEqDiff, Nat.reduceAdd, Nat.reduceSub, Nat.reduceMul, Nat.reduceLT, Nat.reduceLeDiff, Int.reduceEq, Int.reduceNe, Int.reduceLT, Int.reduceLE, Int.reduceBEq, Int.reduceBNe, Int.reduceToNat, he, ha, ha2]
    generalize Hp.set h a _ = h3 at hs2 ha2 ⊢
    refine call_use (ftwin (x := X[i].rep) hs2 (hX.2.1 _ (List.getElem_mem hi)).2.2) ?_
    rintro r h ⟨hr, hs⟩
    subst hr
    have hb := hs.p1.at
    have hset : (X.map fkC).set i (fkC X[i]) = X.map fkC := by
      apply List.ext_getElem (by simp)
      intro j h1 h2
      rw [List.getElem_set]
      split
      · rename_i hij; subst hij; simp
      · rfl
    have hs3 := hs.p1.set (o' := .row 7 ((X.map fkC).set i (fkC X[i])) cap)
    simp only [fkC] at hs3 hset
    simp only [fkC] at hrow hb
    simp (disch := omega) only [go_sem, reduceCtorEq, ↓reduceIte, Nat.reduceEqDiff, Nat.reduceAdd, Nat.reduceSub, Nat.reduceMul, Nat.reduceLT, Nat.reduceLeDiff, Int.reduceEq, Int.reduceNe, Int.reduceLT, Int.reduceLE, Int.reduceBEq, Int.reduceBNe, Int.reduceToNat, he, hb, hrow, rpC, Int.toNat_natCast, m1]
    rw [hset] at hs3 ⊢
    exact ⟨by omega, hs3.d1⟩
  · have hi : i = X.length := by omega
    subst hi
    simp (disch := omega) only [go_sem, reduceCtorEq, ↓reduceIte, Nat.reduceEqDiff, Nat.reduceAdd, Nat.reduceSub, Nat.reduceMul, Nat.reduceLT, Nat.reduceLeDiff, Int.reduceEq, Int.reduceNe, Int.reduceLT, Int.reduceLE, Int.reduceBEq, Int.reduceBNe, Int.reduceToNat, he]
    have := hs.ow (by simpa using hle)
    simpa using this
theorem fkAllR (hs : sat h (FkP p X :: F)) : Triple Try.prog 13 [.ptr p 1 0 0] h (fun r h => r = .lst (X.map fkC) ∧ sat h (FkP p X :: F)) :=
  Triple.lst 7 ((fkAll hs).mono fun r h hs => ⟨_, _, hs, fun h hs => ⟨rfl, hs⟩⟩)
end
end Go.Proofs.Ytbaokmcljlfhnaa
/- within, the chapter's example; the laws FolkGaps and FolkMany, walked. -/
set_option linter.unusedSimpArgs false
set_option linter.unusedVariables false
set_option maxRecDepth 10000
namespace Go.Proofs.Ytbaokmcljlfhnaa
open Go.Hz

/-- A number from 0 to n - 1. -/
theorem within11 {h : Hp} {F : List Asr} (hs : sat h F) {a : Int} {n : Nat} (h1 : -9223372036854775808 ≤ a) (h2 : a ≤ 9223372036854775807) (hn : 0 < n) (hn2 : n ≤ 4611686018427387904) :
    Triple Try.prog 14 [.int .i64 a, .int .i64 n] h (fun r h => ∃ k : Nat, r = .int .i64 k ∧ (k : Int) = a % n ∧ k < n ∧ sat h F) := by
  have m1 := Int.tmod_lt_of_pos a (b := n) (by omega)
  have m2 : -(n : Int) < a.tmod n := by
    have := Int.tmod_lt_of_pos (-a) (b := n) (by omega)
    rw [Int.neg_tmod] at this
    omega
  have hn0 : ¬ (n : Int) = 0 := by omega
  have e := Int.mul_tdiv_add_tmod a n
  have em : a % n = (a.tmod n) % n := by
    conv => lhs; rw [← e]
    rw [Int.mul_add_emod_self_left]
  refine t14 (Nat.le_of_ble_eq_true rfl) ?_
  simp (disch := omega) only [F14, hn0, go_sem, reduceCtorEq, ↓reduceIte, Nat.reduceEqDiff, Nat.reduceAdd, Nat.reduceSub, Nat.reduceMul, Nat.reduceLT, Nat.reduceLeDiff, Int.reduceEq, Int.reduceNe, Int.reduceLT, Int.reduceLE, Int.reduceBEq, Int.reduceBNe, Int.reduceToNat]
  refine cnd_dec (fun hc => ?_) (fun hc => ?_)
  · simp (disch := omega) only [go_sem, reduceCtorEq, ↓reduceIte, Nat.reduceEqDiff, Nat.reduceAdd, Nat.reduceSub, Nat.reduceMul, Nat.reduceLT, Nat.reduceLeDiff, Int.reduceEq, Int.reduceNe, Int.reduceLT, Int.reduceLE, Int.reduceBEq, Int.reduceBNe, Int.reduceToNat]
    refine ⟨(a.tmod n + n).toNat, by congr 1; omega, ?_, by omega, hs⟩
    rw [em, ← Int.add_emod_right, Int.emod_eq_of_lt (by omega) (by omega)]
    omega
  · simp (disch := omega) only [go_sem, reduceCtorEq, ↓reduceIte, Nat.reduceEqDiff, Nat.reduceAdd, Nat.reduceSub, Nat.reduceMul, Nat.reduceLT, Nat.reduceLeDiff, Int.reduceEq, Int.reduceNe, Int.reduceLT, Int.reduceLE, Int.reduceBEq, Int.reduceBNe, Int.reduceToNat]
    refine ⟨(a.tmod n).toNat, by congr 1; omega, ?_, by omega, hs⟩
    rw [em, Int.emod_eq_of_lt (by omega) (by omega)]
    omega

section
variable {h : Hp} {F : List Asr} {X : List Fk} {p : Nat}
theorem fkNoteN {c q e v t : Int} {b : Bool} (hs : sat h (FkP p X :: F)) : Triple Try.prog 11 [.ptr p 1 0 0, .int .i64 c, .int .i64 q, .agg [.int .i64 e, .int .i64 v, .bool b, .nils, .int .i64 t]] h (fun r h => sat h (FkP p (fkNote X c q ⟨e, v, b, [], t⟩) :: F)) :=
  Triple.vi (bs := [.ptr p 1 0 0, .int .i64 c, .int .i64 q, rpV ⟨e, v, b, [], t⟩]) ⟨VI.refl _, VI.refl _, VI.refl _, VI.agg ⟨VI.refl _, VI.refl _, VI.refl _, VI.nils, VI.refl _, trivial⟩, trivial⟩
    (fkNoteT hs ⟨by simp, by simp⟩)
theorem known11 (hs : sat h F) : Triple Try.prog 6 [] h (fun r h => r = .bool true ∧ sat h F) := by
  refine t6 (Nat.le_of_ble_eq_true rfl) ?_
  simp (disch := omega) only [F6, go_sem, reduceCtorEq, ↓reduceIte, Nat.reduceEqDiff, Nat.reduceAdd, Nat.reduceSub, Nat.reduceMul, Nat.reduceLT, Nat.reduceLeDiff, Int.reduceEq, Int.reduceNe, Int.reduceLT, Int.reduceLE, Int.reduceBEq, Int.reduceBNe, Int.reduceToNat]
  refine call_use (fkNew hs) ?_
  rintro r h ⟨p, hr, hs⟩
  subst hr
  simp (disch := omega) only [go_sem, reduceCtorEq, ↓reduceIte, Nat.reduceEqDiff, Nat.reduceAdd, Nat.reduceSub, Nat.reduceMul, Nat.reduceLT, Nat.reduceLeDiff, Int.reduceEq, Int.reduceNe, Int.reduceLT, Int.reduceLE, Int.reduceBEq, Int.reduceBNe, Int.reduceToNat]
  refine call_use (fkNoteN hs) ?_
  intro r h hs
  have hs : sat h (FkP p [⟨3, 5, ⟨0, 7, false, [], 0⟩⟩] :: F) := hs
  simp (disch := omega) only [go_sem, reduceCtorEq, ↓reduceIte, Nat.reduceEqDiff, Nat.reduceAdd, Nat.reduceSub, Nat.reduceMul, Nat.reduceLT, Nat.reduceLeDiff, Int.reduceEq, Int.reduceNe, Int.reduceLT, Int.reduceLE, Int.reduceBEq, Int.reduceBNe, Int.reduceToNat]
  have e1 : fkAsk [⟨3, 5, ⟨0, 7, false, [], 0⟩⟩] 3 5 = (⟨0, 7, false, [], 0⟩, false) := rfl
  have e2 : fkAsk [⟨3, 5, ⟨0, 7, false, [], 0⟩⟩] 3 4 = (⟨24, 0, false, [], 0⟩, false) := rfl
  have e3 : fkAsk [⟨3, 5, ⟨0, 7, false, [], 0⟩⟩] 3 9 = (⟨0, 0, false, [], 0⟩, true) := rfl
  refine call_use (fkAskT hs) ?_
  rintro r h ⟨hr, hs⟩
  subst hr
  simp (disch := omega) only [go_sem, reduceCtorEq, ↓reduceIte, Nat.reduceEqDiff, Nat.reduceAdd, Nat.reduceSub, Nat.reduceMul, Nat.reduceLT, Nat.reduceLeDiff, Int.reduceEq, Int.reduceNe, Int.reduceLT, Int.reduceLE, Int.reduceBEq, Int.reduceBNe, Int.reduceToNat, e1, rpC]
  refine new_opq hs fun a h hs => ?_
  have ha := hs.at
  have hs := hs.set (o' := .row 5 [rpC ⟨0, 7, false, [], 0⟩] 1)
  simp only [rpC] at hs
  simp (disch := omega) only [go_sem, reduceCtorEq, ↓reduceIte, Nat.reduceEqDiff, Nat.reduceAdd, Nat.reduceSub, Nat.reduceMul, Nat.reduceLT, Nat.reduceLeDiff, Int.reduceEq, Int.reduceNe, Int.reduceLT, Int.reduceLE, Int.reduceBEq, Int.reduceBNe, Int.reduceToNat, ha, rpC]
  generalize Hp.set h a _ = h3 at hs ⊢
  refine call_use (fkAskT hs.p1) ?_
  rintro r h ⟨hr, hs⟩
  subst hr
  simp (disch := omega) only [go_sem, reduceCtorEq, ↓reduceIte, Nat.reduceEqDiff, Nat.reduceAdd, Nat.reduceSub, Nat.reduceMul, Nat.reduceLT, Nat.reduceLeDiff, Int.reduceEq, Int.reduceNe, Int.reduceLT, Int.reduceLE, Int.reduceBEq, Int.reduceBNe, Int.reduceToNat, e2, rpC]
  refine new_opq hs fun b h hs => ?_
  have ha := hs.at
  have hs := hs.set (o' := .row 5 [rpC ⟨24, 0, false, [], 0⟩] 1)
  simp only [rpC] at hs
  simp (disch := omega) only [go_sem, reduceCtorEq, ↓reduceIte, Nat.reduceEqDiff, Nat.reduceAdd, Nat.reduceSub, Nat.reduceMul, Nat.reduceLT, Nat.reduceLeDiff, Int.reduceEq, Int.reduceNe, Int.reduceLT, Int.reduceLE, Int.reduceBEq, Int.reduceBNe, Int.reduceToNat, ha, rpC]
  generalize Hp.set h b _ = h4 at hs ⊢
  refine call_use (fkAskT hs.p2.p1.p2) ?_
  rintro r h ⟨hr, hs⟩
  subst hr
  simp (disch := omega) only [go_sem, reduceCtorEq, ↓reduceIte, Nat.reduceEqDiff, Nat.reduceAdd, Nat.reduceSub, Nat.reduceMul, Nat.reduceLT, Nat.reduceLeDiff, Int.reduceEq, Int.reduceNe, Int.reduceLT, Int.reduceLE, Int.reduceBEq, Int.reduceBNe, Int.reduceToNat, e3, rpC]
  refine new_opq hs fun c h hs => ?_
  have ha := hs.at
  have hs := hs.set (o' := .row 5 [rpC ⟨0, 0, false, [], 0⟩] 1)
  simp only [rpC] at hs
  simp (disch := omega) only [go_sem, reduceCtorEq, ↓reduceIte, Nat.reduceEqDiff, Nat.reduceAdd, Nat.reduceSub, Nat.reduceMul, Nat.reduceLT, Nat.reduceLeDiff, Int.reduceEq, Int.reduceNe, Int.reduceLT, Int.reduceLE, Int.reduceBEq, Int.reduceBNe, Int.reduceToNat, ha, rpC]
  generalize Hp.set h c _ = h5 at hs ⊢
  have g1 := hs.p2.at
  have g2 := hs.p3.at
  simp (disch := omega) only [go_sem, reduceCtorEq, ↓reduceIte, Nat.reduceEqDiff, Nat.reduceAdd, Nat.reduceSub, Nat.reduceMul, Nat.reduceLT, Nat.reduceLeDiff, Int.reduceEq, Int.reduceNe, Int.reduceLT, Int.reduceLE, Int.reduceBEq, Int.reduceBNe, Int.reduceToNat, g1, g2]
  exact hs.drop.drop.drop.drop

def gapX (C last : Nat) : List Fk := if last = 0 then [] else [⟨C, last, ⟨0, 1000 + last, false, [], 0⟩⟩]
theorem gap_ask {C last s : Nat} (hC : 1 ≤ C) (hs : 1 ≤ s) : fkAsk (gapX C last) C s = if last < s then (rp0, true) else if s < last then (rpE 24, false) else (⟨0, 1000 + last, false, [], 0⟩, false) := by
  unfold fkAsk
  rw [if_neg (by omega), if_neg (by omega)]
  unfold gapX fkGet
  by_cases h : last = 0
  · rw [if_pos h]; simp [show last < s by omega]
  · rw [if_neg h]
    simp only [List.find?_cons, decide_true]
    by_cases h1 : last < s
    · rw [if_pos (by omega), if_pos h1]
    · rw [if_neg (by omega), if_neg h1]
      by_cases h2 : s < last
      · rw [if_pos (by omega), if_pos h2]
      · rw [if_neg (by omega), if_neg h2]
theorem gap_note {C last s : Nat} (hC : 1 ≤ C) (hs : last < s) : fkNote (gapX C last) C s ⟨0, 1000 + s, false, [], 0⟩ = gapX C s := by
  unfold fkNote
  rw [if_pos ⟨by omega, by rw [gap_ask hC (by omega), if_pos hs]⟩]
  unfold fkPut gapX fkGet
  by_cases h : last = 0
  · subst h; rw [if_pos rfl, if_neg (by omega)]; rfl
  · rw [if_neg h, if_neg (by omega)]
    simp [kSet]
theorem gaps11 {c0 : Int} {sq : List Int} (hc : -9223372036854775808 ≤ c0 ∧ c0 ≤ 9223372036854775807) (hl : sq.length ≤ 9223372036854775807) (hr : ∀ k ∈ sq, -9223372036854775808 ≤ k ∧ k ≤ 9223372036854775807) :
    Triple Try.prog 5 [.int .i64 c0, nums sq] Hp.emp (fun r _ => r = .bool true) := by
  have hs : sat Hp.emp [] := trivial
  refine t5 (Nat.le_of_ble_eq_true rfl) ?_
  simp (disch := omega) only [F5, go_sem, reduceCtorEq, ↓reduceIte, Nat.reduceEqDiff, Nat.reduceAdd, Nat.reduceSub, Nat.reduceMul, Nat.reduceLT, Nat.reduceLeDiff, Int.reduceEq, Int.reduceNe, Int.reduceLT, Int.reduceLE, Int.reduceBEq, Int.reduceBNe, Int.reduceToNat]
  refine call_use (known11 hs) ?_
  rintro r h ⟨hr, hs⟩
  subst hr
  simp (disch := omega) only [go_sem, reduceCtorEq, ↓reduceIte, Nat.reduceEqDiff, Nat.reduceAdd, Nat.reduceSub, Nat.reduceMul, Nat.reduceLT, Nat.reduceLeDiff, Int.reduceEq, Int.reduceNe, Int.reduceLT, Int.reduceLE, Int.reduceBEq, Int.reduceBNe, Int.reduceToNat]
  refine call_use (fkNew hs) ?_
  rintro r h ⟨p, hr', hs⟩
  subst hr'
  simp (disch := omega) only [go_sem, reduceCtorEq, ↓reduceIte, Nat.reduceEqDiff, Nat.reduceAdd, Nat.reduceSub, Nat.reduceMul, Nat.reduceLT, Nat.reduceLeDiff, Int.reduceEq, Int.reduceNe, Int.reduceLT, Int.reduceLE, Int.reduceBEq, Int.reduceBNe, Int.reduceToNat]
  refine call_use (within11 hs hc.1 hc.2 (n := 1000) (by omega) (by omega)) ?_
  rintro r h ⟨k, hr', hk, hk2, hs⟩
  subst hr'
  obtain ⟨C, eC, C1, C2⟩ : ∃ C : Nat, (1 : Int) + k = C ∧ 1 ≤ C ∧ C ≤ 1000 := ⟨1 + k, by omega, by omega, by omega⟩
  simp (disch := omega) only [go_sem, reduceCtorEq, ↓reduceIte, Nat.reduceEqDiff, Nat.reduceAdd, Nat.reduceSub, Nat.reduceMul, Nat.reduceLT, Nat.reduceLeDiff, Int.reduceEq, Int.reduceNe, Int.reduceLT, Int.reduceLE, Int.reduceBEq, Int.reduceBNe, Int.reduceToNat, eC]
  have len2 : lenL (nums sq) = some (.int .i64 sq.length) := num_len
  refine blk_join (Q := fun e h => ∃ last : Nat, last ≤ 100 ∧ sat h [FkP p (gapX C last)] ∧ (e 0 = .int .i64 C ∧ e 5 = .ptr p 1 0 0 ∧ e 6 = .int .i64 last)) ?_ ?_
  · refine run_loopN (fun m e h => ∃ (i last : Nat), m = 40 - i ∧ i ≤ 40 ∧ last ≤ 100 ∧ sat h [FkP p (gapX C last)] ∧
      (e 0 = .int .i64 C ∧ e 1 = nums sq ∧ e 5 = .ptr p 1 0 0 ∧ e 6 = .int .i64 last ∧ e 7 = .int .i64 i)) 40
      ⟨0, 0, rfl, by omega, by omega, hs, rfl, rfl, rfl, rfl, rfl⟩ ?_
    rintro m e h ⟨i, last, rfl, hi40, hlast, hs, he⟩
    by_cases hc : i < sq.length ∧ i < 40
    · obtain ⟨i1, c3⟩ := hc
      have c1 : (i : Int) < sq.length := by omega
      have c2 : (i : Int) < 40 := by omega
      have hia1 : iaA 1 (nums sq) (.int .i64 (i : Int)) = some (.ro [.int .i64 sq[i]]) := num_at i1
      have hri := hr _ (List.getElem_mem i1)
      simp (disch := omega) only [go_sem, reduceCtorEq, ↓reduceIte, Nat.reduceEqDiff, Nat.reduceAdd, Nat.reduceSub, Nat.reduceMul, Nat.reduceLT, Nat.reduceLeDiff, Int.reduceEq, Int.reduceNe, Int.reduceLT, Int.reduceLE, Int.reduceBEq, Int.reduceBNe, Int.reduceToNat, he, len2, c1, c2, hia1]
      refine call_use (within11 hs hri.1 hri.2 (n := 100) (by omega) (by omega)) ?_
      rintro r h ⟨j, hr', hj, hj2, hs⟩
      subst hr'
      obtain ⟨s, es, s1, s2⟩ : ∃ s : Nat, (1 : Int) + j = s ∧ 1 ≤ s ∧ s ≤ 100 := ⟨1 + j, by omega, by omega, by omega⟩
      have m1 : (i : Int) + 1 = ((i + 1 : Nat) : Int) := by omega
      simp (disch := omega) only [go_sem, reduceCtorEq, ↓reduceIte, Nat.reduceEqDiff, Nat.reduceAdd, Nat.reduceSub, Nat.reduceMul, Nat.reduceLT, Nat.reduceLeDiff, Int.reduceEq, Int.reduceNe, Int.reduceLT, Int.reduceLE, Int.reduceBEq, Int.reduceBNe, Int.reduceToNat, he, es]
      have ask := gap_ask (C := C) (last := last) (s := s) C1 s1
      by_cases d1 : last < s
      · rw [if_pos d1] at ask
        refine call_use (fkAskT hs) ?_
        rintro r h ⟨hr, hs⟩
        subst hr
        simp (disch := omega) only [go_sem, reduceCtorEq, ↓reduceIte, Nat.reduceEqDiff, Nat.reduceAdd, Nat.reduceSub, Nat.reduceMul, Nat.reduceLT, Nat.reduceLeDiff, Int.reduceEq, Int.reduceNe, Int.reduceLT, Int.reduceLE, Int.reduceBEq, Int.reduceBNe, Int.reduceToNat, ask, rpC, rp0]
        refine new_opq hs fun a h hs => ?_
        have ha := hs.at
        have hs := hs.set (o' := .row 5 [rpC rp0] 1)
        simp only [rpC, rp0] at hs
        simp (disch := omega) only [go_sem, reduceCtorEq, ↓reduceIte, Nat.reduceEqDiff, Nat.reduceAdd, Nat.reduceSub, Nat.reduceMul, Nat.reduceLT, Nat.reduceLeDiff, Int.reduceEq, Int.reduceNe, Int.reduceLT, Int.reduceLE, Int.reduceBEq, Int.reduceBNe, Int.reduceToNat, ha, he, rpC, rpE, show ((s : Int) > last) = True by simp; omega]
        refine call_use (fkNoteN hs.p1) ?_
        intro r h hs
        rw [gap_note C1 d1] at hs
        simp (disch := omega) only [go_sem, reduceCtorEq, ↓reduceIte, Nat.reduceEqDiff, Nat.reduceAdd, Nat.reduceSub, Nat.reduceMul, Nat.reduceLT, Nat.reduceLeDiff, Int.reduceEq, Int.reduceNe, Int.reduceLT, Int.reduceLE, Int.reduceBEq, Int.reduceBNe, Int.reduceToNat, he, m1]
        exact ⟨40 - (i + 1), by omega, i + 1, s, rfl, by omega, by omega, hs.d1, rfl, rfl⟩
      rw [if_neg d1] at ask
      by_cases d2 : s < last
      · rw [if_pos d2] at ask
        refine call_use (fkAskT hs) ?_
        rintro r h ⟨hr, hs⟩
        subst hr
        simp (disch := omega) only [go_sem, reduceCtorEq, ↓reduceIte, Nat.reduceEqDiff, Nat.reduceAdd, Nat.reduceSub, Nat.reduceMul, Nat.reduceLT, Nat.reduceLeDiff, Int.reduceEq, Int.reduceNe, Int.reduceLT, Int.reduceLE, Int.reduceBEq, Int.reduceBNe, Int.reduceToNat, ask, rpC, rpE]
        refine new_opq hs fun a h hs => ?_
        have ha := hs.at
        have hs := hs.set (o' := .row 5 [rpC (rpE 24)] 1)
        simp only [rpC, rpE] at hs
        have hsn : ((s : Int) == last) = false := by simp; omega
        simp (disch := omega) only [go_sem, reduceCtorEq, ↓reduceIte, Nat.reduceEqDiff, Nat.reduceAdd, Nat.reduceSub, Nat.reduceMul, Nat.reduceLT, Nat.reduceLeDiff, Int.reduceEq, Int.reduceNe, Int.reduceLT, Int.reduceLE, Int.reduceBEq, Int.reduceBNe, Int.reduceToNat, ha, he, rpC, rpE, show ((s : Int) > last) = False by simp; omega, hsn, m1]
        exact ⟨40 - (i + 1), by omega, i + 1, last, rfl, by omega, by omega, hs.drop, rfl, rfl⟩
      rw [if_neg d2] at ask
      have : s = last := by omega
      subst this
      refine call_use (fkAskT hs) ?_
      rintro r h ⟨hr, hs⟩
      subst hr
      simp (disch := omega) only [go_sem, reduceCtorEq, ↓reduceIte, Nat.reduceEqDiff, Nat.reduceAdd, Nat.reduceSub, Nat.reduceMul, Nat.reduceLT, Nat.reduceLeDiff, Int.reduceEq, Int.reduceNe, Int.reduceLT, Int.reduceLE, Int.reduceBEq, Int.reduceBNe, Int.reduceToNat, ask, rpC]
      refine new_opq hs fun a h hs => ?_
      have ha := hs.at
      have hs := hs.set (o' := .row 5 [rpC ⟨0, 1000 + s, false, [], 0⟩] 1)
      simp only [rpC] at hs
      simp (disch := omega) only [go_sem, reduceCtorEq, ↓reduceIte, Nat.reduceEqDiff, Nat.reduceAdd, Nat.reduceSub, Nat.reduceMul, Nat.reduceLT, Nat.reduceLeDiff, Int.reduceEq, Int.reduceNe, Int.reduceLT, Int.reduceLE, Int.reduceBEq, Int.reduceBNe, Int.reduceToNat, ha, he, rpC, show ((s : Int) > s) = False by simp, m1]
      exact ⟨40 - (i + 1), by omega, i + 1, s, rfl, by omega, by omega, hs.drop, rfl, rfl⟩
    · have hcase : (¬ (i : Int) < sq.length) ∨ ((i : Int) < sq.length ∧ ¬ (i : Int) < 40) := by omega
      rcases hcase with c1 | ⟨c1, c2⟩
      · simp (disch := omega) only [go_sem, reduceCtorEq, ↓reduceIte, Nat.reduceEqDiff, Nat.reduceAdd, Nat.reduceSub, Nat.reduceMul, Nat.reduceLT, Nat.reduceLeDiff, Int.reduceEq, Int.reduceNe, Int.reduceLT, Int.reduceLE, Int.reduceBEq, Int.reduceBNe, Int.reduceToNat, he, len2, c1]
        exact ⟨last, hlast, hs, rfl⟩
      · simp (disch := omega) only [go_sem, reduceCtorEq, ↓reduceIte, Nat.reduceEqDiff, Nat.reduceAdd, Nat.reduceSub, Nat.reduceMul, Nat.reduceLT, Nat.reduceLeDiff, Int.reduceEq, Int.reduceNe, Int.reduceLT, Int.reduceLE, Int.reduceBEq, Int.reduceBNe, Int.reduceToNat, he, len2, c1, c2]
        exact ⟨last, hlast, hs, rfl⟩
  rintro e h ⟨last, hlast, hs, he⟩
  simp (disch := omega) only [go_sem, reduceCtorEq, ↓reduceIte, Nat.reduceEqDiff, Nat.reduceAdd, Nat.reduceSub, Nat.reduceMul, Nat.reduceLT, Nat.reduceLeDiff, Int.reduceEq, Int.reduceNe, Int.reduceLT, Int.reduceLE, Int.reduceBEq, Int.reduceBNe, Int.reduceToNat, he]
  have em : (if (1 : Int) < last then (1 : Int) else last) = ((gapX C last).length : Int) := by
    unfold gapX
    by_cases h0 : last = 0
    · subst h0; rfl
    · rw [if_neg h0]; simp only [List.length_cons, List.length_nil]; split <;> omega
  by_cases h0 : last = 0
  · subst h0
    have e0 : (((0 : Nat) : Int) == 0) = true := rfl
    have e1 : (((gapX C 0).length : Int) == 0) = true := rfl
    refine call_use (fkAllR hs) ?_
    rintro r h ⟨hr, hs⟩
    subst hr
    simp (disch := omega) only [go_sem, reduceCtorEq, ↓reduceIte, Nat.reduceEqDiff, Nat.reduceAdd, Nat.reduceSub, Nat.reduceMul, Nat.reduceLT, Nat.reduceLeDiff, Int.reduceEq, Int.reduceNe, Int.reduceLT, Int.reduceLE, Int.reduceBEq, Int.reduceBNe, Int.reduceToNat, he, em, lenL_lst, e0, e1]
  · have e0 : ((last : Int) == 0) = false := by simpa using h0
    have ex : gapX C last = [⟨C, last, ⟨0, 1000 + last, false, [], 0⟩⟩] := by rw [gapX, if_neg h0]
    have ei : iaA 7 (.lst [[AV.int .i64 C, .int .i64 last, .int .i64 0, .int .i64 (1000 + last), .bool false, ressV [], .int .i64 0]]) (.int .i64 0) = some (.ro [AV.int .i64 C, .int .i64 last, .int .i64 0, .int .i64 (1000 + last), .bool false, ressV [], .int .i64 0]) :=
      ia_lst (f := fkC) (l := [(⟨C, last, ⟨0, 1000 + last, false, [], 0⟩⟩ : Fk)]) (i := 0) (s := 7) (k := .i64) (by simp) (fun _ => rfl)
    refine call_use (fkAllR hs) ?_
    rintro r h ⟨hr, hs⟩
    subst hr
    simp (disch := omega) only [go_sem, reduceCtorEq, ↓reduceIte, Nat.reduceEqDiff, Nat.reduceAdd, Nat.reduceSub, Nat.reduceMul, Nat.reduceLT, Nat.reduceLeDiff, Int.reduceEq, Int.reduceNe, Int.reduceLT, Int.reduceLE, Int.reduceBEq, Int.reduceBNe, Int.reduceToNat, he, em, lenL_lst, e0, ex, ei, fkC]
/-- The clients 1 to k. -/
def mkX (k : Nat) : List Fk := (List.range k).map fun (j : Nat) => (⟨(j : Int) + 1, 1, rp0⟩ : Fk)
theorem mkX_snoc {k : Nat} : mkX (k + 1) = mkX k ++ [⟨k + 1, 1, rp0⟩] := by
  unfold mkX
  rw [List.range_succ, List.map_append]; rfl
theorem mkX_none {k c : Nat} (h : k < c) : fkGet (mkX k) c = none := by
  rw [fkGet, List.find?_eq_none]
  intro x hx
  obtain ⟨j, hj, rfl⟩ := List.mem_map.1 hx
  have := List.mem_range.1 hj
  simp; omega
theorem mkX_ask {k c : Nat} (h : k < c) : fkAsk (mkX k) c 1 = if 64 ≤ k then (rpE 4, false) else (rp0, true) := by
  rw [fkAsk, if_neg (by omega), if_neg (by omega), mkX_none h]
  simp [mkX]
theorem kIns_end {α : Type} {key : α → Int} {X : List α} {y : α} (hx : ∀ x ∈ X, key x < key y) : kIns key X y = X ++ [y] := by
  induction X with
  | nil => rfl
  | cons z X ih =>
    have ih := ih fun x h => hx x (by simp [h])
    have hz := hx z (by simp)
    unfold kIns at ih ⊢
    rw [List.takeWhile_cons_of_pos (by simpa using hz), List.dropWhile_cons_of_pos (by simpa using hz), List.cons_append, ih, List.cons_append]
theorem mkX_note {k : Nat} (h : k < 64) : fkNote (mkX k) ((k + 1 : Nat) : Int) 1 rp0 = mkX (k + 1) := by
  rw [fkNote, if_pos ⟨by omega, by rw [mkX_ask (by omega), if_neg (by omega)]⟩, fkPut]
  simp only [mkX_none (show k < k + 1 by omega)]
  rw [kIns_end, mkX_snoc]
  · rfl
  · intro x hx
    obtain ⟨j, hj, rfl⟩ := List.mem_map.1 hx
    have := List.mem_range.1 hj
    show (j : Int) + 1 < ((k + 1 : Nat) : Int)
    omega
theorem mkX_7 {k : Nat} (h : 7 ≤ k) : fkAsk (mkX k) 7 2 = (rp0, true) := by
  rw [fkAsk, if_neg (by omega), if_neg (by omega)]
  have : fkGet (mkX k) 7 = some ⟨7, 1, rp0⟩ := by
    obtain ⟨m, rfl⟩ : ∃ m, k = 7 + m := ⟨k - 7, by omega⟩
    have e : mkX (7 + m) = mkX 7 ++ (List.range m).map fun (j : Nat) => (⟨((7 + j : Nat) : Int) + 1, 1, rp0⟩ : Fk) := by
      unfold mkX
      rw [List.range_add, List.map_append, List.map_map]; rfl
    rw [e, fkGet, List.find?_append]
    rfl
  rw [this]
  rfl
theorem many11 {n0 : Int} (hn : -9223372036854775808 ≤ n0 ∧ n0 ≤ 9223372036854775807) :
    Triple Try.prog 4 [.int .i64 n0] Hp.emp (fun r _ => r = .bool true) := by
  have hs : sat Hp.emp [] := trivial
  refine t4 (Nat.le_of_ble_eq_true rfl) ?_
  simp (disch := omega) only [F4, go_sem, reduceCtorEq, ↓reduceIte, Nat.reduceEqDiff, Nat.reduceAdd, Nat.reduceSub, Nat.reduceMul, Nat.reduceLT, Nat.reduceLeDiff, Int.reduceEq, Int.reduceNe, Int.reduceLT, Int.reduceLE, Int.reduceBEq, Int.reduceBNe, Int.reduceToNat]
  refine call_use (known11 hs) ?_
  rintro r h ⟨hr, hs⟩
  subst hr
  simp (disch := omega) only [go_sem, reduceCtorEq, ↓reduceIte, Nat.reduceEqDiff, Nat.reduceAdd, Nat.reduceSub, Nat.reduceMul, Nat.reduceLT, Nat.reduceLeDiff, Int.reduceEq, Int.reduceNe, Int.reduceLT, Int.reduceLE, Int.reduceBEq, Int.reduceBNe, Int.reduceToNat]
  by_cases n1 : n0 < 0
  · simp (disch := omega) only [go_sem, reduceCtorEq, ↓reduceIte, Nat.reduceEqDiff, Nat.reduceAdd, Nat.reduceSub, Nat.reduceMul, Nat.reduceLT, Nat.reduceLeDiff, Int.reduceEq, Int.reduceNe, Int.reduceLT, Int.reduceLE, Int.reduceBEq, Int.reduceBNe, Int.reduceToNat, n1]
  by_cases n2 : n0 > 8
  · simp (disch := omega) only [go_sem, reduceCtorEq, ↓reduceIte, Nat.reduceEqDiff, Nat.reduceAdd, Nat.reduceSub, Nat.reduceMul, Nat.reduceLT, Nat.reduceLeDiff, Int.reduceEq, Int.reduceNe, Int.reduceLT, Int.reduceLE, Int.reduceBEq, Int.reduceBNe, Int.reduceToNat, n1, n2]
  simp (disch := omega) only [go_sem, reduceCtorEq, ↓reduceIte, Nat.reduceEqDiff, Nat.reduceAdd, Nat.reduceSub, Nat.reduceMul, Nat.reduceLT, Nat.reduceLeDiff, Int.reduceEq, Int.reduceNe, Int.reduceLT, Int.reduceLE, Int.reduceBEq, Int.reduceBNe, Int.reduceToNat, n1, n2]
  refine call_use (fkNew hs) ?_
  rintro r h ⟨p, hr', hs⟩
  subst hr'
  obtain ⟨n, rfl⟩ : ∃ n : Nat, n0 = n := ⟨n0.toNat, by omega⟩
  have mn : (60 : Int) + n = ((60 + n : Nat) : Int) := by omega
  simp (disch := omega) only [go_sem, reduceCtorEq, ↓reduceIte, Nat.reduceEqDiff, Nat.reduceAdd, Nat.reduceSub, Nat.reduceMul, Nat.reduceLT, Nat.reduceLeDiff, Int.reduceEq, Int.reduceNe, Int.reduceLT, Int.reduceLE, Int.reduceBEq, Int.reduceBNe, Int.reduceToNat, mn]
  refine blk_join (Q := fun e h => sat h [FkP p (mkX (min (60 + n) 64))] ∧ (e 0 = .int .i64 n ∧ e 3 = .ptr p 1 0 0)) ?_ ?_
  · refine run_up (N := 60 + n) (fun i e h => sat h [FkP p (mkX (min i 64))] ∧ (e 0 = .int .i64 n ∧ e 3 = .ptr p 1 0 0 ∧ e 4 = .int .i64 (i + 1 : Nat))) ⟨hs, by simp [Env.upd_apply, initE]⟩ ?_
    clear hs
    rintro i e h hi ⟨hs, he⟩
    have m1 : ((i + 1 : Nat) : Int) + 1 = ((i + 1 + 1 : Nat) : Int) := by omega
    simp (disch := omega) only [go_sem, reduceCtorEq, ↓reduceIte, Nat.reduceEqDiff, Nat.reduceAdd, Nat.reduceSub, Nat.reduceMul, Nat.reduceLT, Nat.reduceLeDiff, Int.reduceEq, Int.reduceNe, Int.reduceLT, Int.reduceLE, Int.reduceBEq, Int.reduceBNe, Int.reduceToNat, he, mn]
    refine cnd_dec (fun h1 => ?_) (fun h1 => ?_)
    · have hi : i < 60 + n := by omega
      simp (disch := omega) only [go_sem, reduceCtorEq, ↓reduceIte, Nat.reduceEqDiff, Nat.reduceAdd, Nat.reduceSub, Nat.reduceMul, Nat.reduceLT, Nat.reduceLeDiff, Int.reduceEq, Int.reduceNe, Int.reduceLT, Int.reduceLE, Int.reduceBEq, Int.reduceBNe, Int.reduceToNat, he]
      by_cases hf : i < 64
      · have ask := mkX_ask (k := min i 64) (c := i + 1) (by omega)
        rw [if_neg (by omega)] at ask
        refine call_use (fkAskT hs) ?_
        rintro r h ⟨hr, hs⟩
        subst hr
        simp (disch := omega) only [go_sem, reduceCtorEq, ↓reduceIte, Nat.reduceEqDiff, Nat.reduceAdd, Nat.reduceSub, Nat.reduceMul, Nat.reduceLT, Nat.reduceLeDiff, Int.reduceEq, Int.reduceNe, Int.reduceLT, Int.reduceLE, Int.reduceBEq, Int.reduceBNe, Int.reduceToNat, ask, rpC, rp0]
        refine new_opq hs fun a h hs => ?_
        have ha := hs.at
        have hs := hs.set (o' := .row 5 [rpC rp0] 1)
        simp only [rpC, rp0] at hs
        simp (disch := omega) only [go_sem, reduceCtorEq, ↓reduceIte, Nat.reduceEqDiff, Nat.reduceAdd, Nat.reduceSub, Nat.reduceMul, Nat.reduceLT, Nat.reduceLeDiff, Int.reduceEq, Int.reduceNe, Int.reduceLT, Int.reduceLE, Int.reduceBEq, Int.reduceBNe, Int.reduceToNat, ha, he, rpC, rp0, show (((i + 1 : Nat) : Int) ≤ 64) = True by simp; omega]
        refine call_use (fkNoteN hs.p1) ?_
        intro r h hs
        rw [Nat.min_eq_left (by omega)] at hs
        have hs : sat h (FkP p (fkNote (mkX i) ((i + 1 : Nat) : Int) 1 rp0) :: _ :: []) := hs
        rw [mkX_note hf] at hs
        simp (disch := omega) only [go_sem, reduceCtorEq, ↓reduceIte, Nat.reduceEqDiff, Nat.reduceAdd, Nat.reduceSub, Nat.reduceMul, Nat.reduceLT, Nat.reduceLeDiff, Int.reduceEq, Int.reduceNe, Int.reduceLT, Int.reduceLE, Int.reduceBEq, Int.reduceBNe, Int.reduceToNat, he, m1]
        rw [Nat.min_eq_left (by omega)]
        exact ⟨by omega, hs.d1⟩
      · have ask := mkX_ask (k := min i 64) (c := i + 1) (by omega)
        rw [if_pos (by omega)] at ask
        refine call_use (fkAskT hs) ?_
        rintro r h ⟨hr, hs⟩
        subst hr
        simp (disch := omega) only [go_sem, reduceCtorEq, ↓reduceIte, Nat.reduceEqDiff, Nat.reduceAdd, Nat.reduceSub, Nat.reduceMul, Nat.reduceLT, Nat.reduceLeDiff, Int.reduceEq, Int.reduceNe, Int.reduceLT, Int.reduceLE, Int.reduceBEq, Int.reduceBNe, Int.reduceToNat, ask, rpC, rpE]
        refine new_opq hs fun a h hs => ?_
        have ha := hs.at
        have hs := hs.set (o' := .row 5 [rpC (rpE 4)] 1)
        simp only [rpC, rpE] at hs
        simp (disch := omega) only [go_sem, reduceCtorEq, ↓reduceIte, Nat.reduceEqDiff, Nat.reduceAdd, Nat.reduceSub, Nat.reduceMul, Nat.reduceLT, Nat.reduceLeDiff, Int.reduceEq, Int.reduceNe, Int.reduceLT, Int.reduceLE, Int.reduceBEq, Int.reduceBNe, Int.reduceToNat, ha, he, rpC, rpE, show (((i + 1 : Nat) : Int) ≤ 64) = False by simp; omega, m1]
        rw [Nat.min_eq_right (by omega)] at hs ⊢
        exact ⟨by omega, hs.drop⟩
    · have hi : i = 60 + n := by omega
      subst hi
      simp (disch := omega) only [go_sem, reduceCtorEq, ↓reduceIte, Nat.reduceEqDiff, Nat.reduceAdd, Nat.reduceSub, Nat.reduceMul, Nat.reduceLT, Nat.reduceLeDiff, Int.reduceEq, Int.reduceNe, Int.reduceLT, Int.reduceLE, Int.reduceBEq, Int.reduceBNe, Int.reduceToNat, he]
      exact hs
  rintro e h ⟨hs, he⟩
  simp (disch := omega) only [go_sem, reduceCtorEq, ↓reduceIte, Nat.reduceEqDiff, Nat.reduceAdd, Nat.reduceSub, Nat.reduceMul, Nat.reduceLT, Nat.reduceLeDiff, Int.reduceEq, Int.reduceNe, Int.reduceLT, Int.reduceLE, Int.reduceBEq, Int.reduceBNe, Int.reduceToNat, he]
  have a1 := mkX_7 (k := min (60 + n) 64) (by omega)
  have a2 : fkAsk (mkX (min (60 + n) 64)) 0 0 = (rp0, true) := rfl
  refine call_use (fkAskT hs) ?_
  rintro r h ⟨hr, hs⟩
  subst hr
  simp (disch := omega) only [go_sem, reduceCtorEq, ↓reduceIte, Nat.reduceEqDiff, Nat.reduceAdd, Nat.reduceSub, Nat.reduceMul, Nat.reduceLT, Nat.reduceLeDiff, Int.reduceEq, Int.reduceNe, Int.reduceLT, Int.reduceLE, Int.reduceBEq, Int.reduceBNe, Int.reduceToNat, a1, rpC, rp0]
  refine new_opq hs fun a h hs => ?_
  have ha := hs.at
  have hs := hs.set (o' := .row 5 [rpC rp0] 1)
  simp only [rpC, rp0] at hs
  simp (disch := omega) only [go_sem, reduceCtorEq, ↓reduceIte, Nat.reduceEqDiff, Nat.reduceAdd, Nat.reduceSub, Nat.reduceMul, Nat.reduceLT, Nat.reduceLeDiff, Int.reduceEq, Int.reduceNe, Int.reduceLT, Int.reduceLE, Int.reduceBEq, Int.reduceBNe, Int.reduceToNat, ha, he, rpC, rp0]
  refine call_use (fkAskT hs.p1) ?_
  rintro r h ⟨hr, hs⟩
  subst hr
  simp (disch := omega) only [go_sem, reduceCtorEq, ↓reduceIte, Nat.reduceEqDiff, Nat.reduceAdd, Nat.reduceSub, Nat.reduceMul, Nat.reduceLT, Nat.reduceLeDiff, Int.reduceEq, Int.reduceNe, Int.reduceLT, Int.reduceLE, Int.reduceBEq, Int.reduceBNe, Int.reduceToNat, a2, rpC, rp0, he]
  refine new_opq hs fun b h hs => ?_
  have hb := hs.at
  have hs := hs.set (o' := .row 5 [rpC rp0] 1)
  simp only [rpC, rp0] at hs
  simp (disch := omega) only [go_sem, reduceCtorEq, ↓reduceIte, Nat.reduceEqDiff, Nat.reduceAdd, Nat.reduceSub, Nat.reduceMul, Nat.reduceLT, Nat.reduceLeDiff, Int.reduceEq, Int.reduceNe, Int.reduceLT, Int.reduceLE, Int.reduceBEq, Int.reduceBNe, Int.reduceToNat, hb, he, rpC, rp0]
  have em : (if (64 : Int) < ((60 + n : Nat) : Int) then (64 : Int) else ((60 + n : Nat) : Int)) = ((min (60 + n) 64 : Nat) : Int) := by split <;> omega
  have e8 : (((mkX (min (60 + n) 64)).length : Int) == ((min (60 + n) 64 : Nat) : Int)) = true := by simp [mkX]
  refine call_use (fkAllR hs.p1) ?_
  rintro r h ⟨hr, hs⟩
  subst hr
  simp (disch := omega) only [go_sem, reduceCtorEq, ↓reduceIte, Nat.reduceEqDiff, Nat.reduceAdd, Nat.reduceSub, Nat.reduceMul, Nat.reduceLT, Nat.reduceLeDiff, Int.reduceEq, Int.reduceNe, Int.reduceLT, Int.reduceLE, Int.reduceBEq, Int.reduceBNe, Int.reduceToNat, he, lenL_lst, mn, em, e8]
theorem folkGaps_law (vs : List AV) (h : Ty.ones [.int .i64, .sl (.int .i64)] vs) : Triple Try.prog 5 vs Hp.emp (fun r _ => r = .bool true) := by
  obtain ⟨a, _, rfl, ha, h⟩ := ones_cons h
  obtain ⟨c, _, rfl, hc, h⟩ := ones_cons h
  obtain rfl := ones_nil h
  obtain ⟨s, rfl, hs⟩ := int_of ha
  obtain ⟨l, rfl, hl, hi⟩ := nums_of hc
  exact gaps11 hs hl hi
theorem folkMany_law (vs : List AV) (h : Ty.ones [.int .i64] vs) : Triple Try.prog 4 vs Hp.emp (fun r _ => r = .bool true) := by
  obtain ⟨a, _, rfl, ha, h⟩ := ones_cons h
  obtain rfl := ones_nil h
  obtain ⟨s, rfl, hs⟩ := int_of ha
  exact many11 hs
end
end Go.Proofs.Ytbaokmcljlfhnaa
/- The document's books: where one stands. -/
set_option linter.unusedSimpArgs false
set_option linter.unusedVariables false
set_option maxRecDepth 10000
namespace Go.Proofs.Ytbaokmcljlfhnaa
open Go.Hz

section
variable {h : Hp} {F : List Asr} {p : Nat}

theorem rfAt_R {X : List Fk} {id : Int} (hs : sat h (BxS 7 p (X.map fkC) :: F)) (hl : X.length ≤ 1000000) : Triple Try.prog 16 [.ptr p 1 0 0, .int .i64 id] h (fun r h => ∃ k : Int, r = .int .i64 k ∧ AtK Fk.client X id k ∧ sat h (BxS 7 p (X.map fkC) :: F)) := by
  refine t16 (Nat.le_of_ble_eq_true rfl) ?_
  simp (disch := omega) only [F16, go_sem, reduceCtorEq, ↓reduceIte, Nat.reduceEqDiff, Nat.reduceAdd, Nat.reduceSub, Nat.reduceMul, Nat.reduceLT, Nat.reduceLeDiff, Int.reduceEq, Int.reduceNe, Int.reduceLT, Int.reduceLE, Int.reduceBEq, Int.reduceBNe, Int.reduceToNat]
  rcases bxS_cases hs with ⟨hn, hs1⟩ | ⟨b, cap, hle, hs⟩
  · have : X = [] := by simpa using hn
    subst this
    refine run_loopN (fun n e h => sat h (pto p (.row 1 [[.nils]] 1) :: F) ∧ (e 0 = .ptr p 1 0 0 ∧ e 5 = .int .i64 0)) 0 ⟨hs1, rfl, rfl⟩ ?_
    clear hs hs1
    rintro n e h ⟨hs, he⟩
    have hp := hs.at
    simp (disch := omega) only [go_sem, reduceCtorEq, ↓reduceIte, Nat.reduceEqDiff, Nat.reduceAdd, Nat.reduceSub, Nat.reduceMul, Nat.reduceLT, Nat.reduceLeDiff, Int.reduceEq, Int.reduceNe, Int.reduceLT, Int.reduceLE, Int.reduceBEq, Int.reduceBNe, Int.reduceToNat, he, hp]
    exact ⟨-1, rfl, .inl ⟨rfl, by simp⟩, bxS_nil hs⟩
  have hlen : (X.map fkC).length = X.length := by simp
  rw [hlen] at hs hle
  refine run_up (N := X.length) (fun i e h => (∀ j (hj : j < X.length), j < i → Fk.client X[j] ≠ id) ∧ sat h (pto p (.row 1 [[.arr b 7 0 X.length cap]] 1) :: pto b (.row 7 (X.map fkC) cap) :: F) ∧ (e 0 = .ptr p 1 0 0 ∧ e 1 = .int .i64 id ∧ e 5 = .int .i64 i)) ⟨fun _ _ h => by omega, hs, rfl, rfl, rfl⟩ ?_
  clear hs
  rintro i e h hi ⟨hb, hs, he⟩
  have hp := hs.at
  have hq := hs.p1.at
  have m1 : (i : Int) + 1 = ((i + 1 : Nat) : Int) := by omega
  have back : ∀ {h : Hp}, sat h (pto p (.row 1 [[.arr b 7 0 X.length cap]] 1) :: pto b (.row 7 (X.map fkC) cap) :: F) → sat h (BxS 7 p (X.map fkC) :: F) := fun hs => bxS_arr (b := b) (cap := cap) (by simpa using hs) (by simpa using hle)
  simp (disch := omega) only [go_sem, reduceCtorEq, ↓reduceIte, Nat.reduceEqDiff, Nat.reduceAdd, Nat.reduceSub, Nat.reduceMul, Nat.reduceLT, Nat.reduceLeDiff, Int.reduceEq, Int.reduceNe, Int.reduceLT, Int.reduceLE, Int.reduceBEq, Int.reduceBNe, Int.reduceToNat, he, hp, m1]
  refine cnd_dec (fun h1 => ?_) (fun h1 => ?_)
  · have hi : i < X.length := by omega
    have hrow : (X.map fkC)[i]? = some (fkC X[i]) := by simp [hi]
    by_cases hk : Fk.client X[i] = id
    · have ek : (Fk.client X[i] == id) = true := by simpa using hk
      simp (disch := omega) only [go_sem, reduceCtorEq, ↓reduceIte, Nat.reduceEqDiff, Nat.reduceAdd, Nat.reduceSub, Nat.reduceMul, Nat.reduceLT, Nat.reduceLeDiff, Int.reduceEq, Int.reduceNe, Int.reduceLT, Int.reduceLE, Int.reduceBEq, Int.reduceBNe, Int.reduceToNat, he, hp, hq, hrow, fkC, Int.toNat_natCast, ek]
      exact ⟨i, rfl, .inr ⟨i, rfl, hi, hk⟩, back hs⟩
    · have ek : (Fk.client X[i] == id) = false := by simpa using hk
      simp (disch := omega) only [go_sem, reduceCtorEq, ↓reduceIte, Nat.reduceEqDiff, Nat.reduceAdd, Nat.reduceSub, Nat.reduceMul, Nat.reduceLT, Nat.reduceLeDiff, Int.reduceEq, Int.reduceNe, Int.reduceLT, Int.reduceLE, Int.reduceBEq, Int.reduceBNe, Int.reduceToNat, he, hp, hq, hrow, fkC, Int.toNat_natCast, ek, m1]
      refine ⟨by omega, fun j hj hji => ?_, hs⟩
      by_cases hjj : j = i
      · subst hjj; exact hk
      · exact hb j hj (by omega)
  · have hi : i = X.length := by omega
    subst hi
    simp (disch := omega) only [go_sem, reduceCtorEq, ↓reduceIte, Nat.reduceEqDiff, Nat.reduceAdd, Nat.reduceSub, Nat.reduceMul, Nat.reduceLT, Nat.reduceLeDiff, Int.reduceEq, Int.reduceNe, Int.reduceLT, Int.reduceLE, Int.reduceBEq, Int.reduceBNe, Int.reduceToNat, he]
    refine ⟨-1, rfl, .inl ⟨rfl, fun x hx => ?_⟩, back hs⟩
    obtain ⟨j, hj, rfl⟩ := List.getElem_of_mem hx
    exact hb j hj hj
end
end Go.Proofs.Ytbaokmcljlfhnaa
/- The document's table of clients; replies that are alike. -/
set_option linter.unusedSimpArgs false
set_option linter.unusedVariables false
set_option maxRecDepth 10000
namespace Go.Proofs.Ytbaokmcljlfhnaa
open Go.Hz

section
variable {h : Hp} {F : List Asr} {p : Nat} {X : List Fk}
theorem find_at {id : Int} {i : Nat} (hn : (X.map Fk.client).Nodup) (hi : i < X.length) (he : X[i].client = id) : fkGet X id = some X[i] := by
  cases hg : fkGet X id with
  | none => exact absurd he (fkGet_none hg _ (List.getElem_mem hi))
  | some y =>
    obtain ⟨h1, h2⟩ := fkGet_some hg
    rw [nodup_map_inj hn h1 (List.getElem_mem hi) (h2.trans he.symm)]
theorem find_no {id : Int} (h : ∀ x ∈ X, x.client ≠ id) : fkGet X id = none := by
  rw [fkGet, List.find?_eq_none]
  intro x hx
  simpa using h x hx
theorem rfkFin {c s : Int} {rp : Rp} {b : Bool} (hh : fkAsk X c s = (rp, b)) (hs : sat h (BxS 7 p (X.map fkC) :: F)) : ∃ r' h'', GV (.tup [rpV rp, .bool b]) h r' h'' ∧ r' = .tup [rpV (fkAsk X c s).1, .bool (fkAsk X c s).2] ∧ sat h'' (BxS 7 p (X.map fkC) :: F) :=
  ⟨_, h, GV.refl _ _, by rw [hh], hs⟩
theorem rfkFin0 {c s e : Int} {b : Bool} (hh : fkAsk X c s = (rpE e, b)) (hs : sat h (BxS 7 p (X.map fkC) :: F)) : ∃ r' h'', GV (.tup [.agg [.int .i64 e, .int .i64 0, .bool false, .nils, .int .i64 0], .bool b]) h r' h'' ∧ r' = .tup [rpV (fkAsk X c s).1, .bool (fkAsk X c s).2] ∧ sat h'' (BxS 7 p (X.map fkC) :: F) :=
  ⟨_, h, GV.tup [] [.bool b] gv_rp, by rw [hh]; rfl, hs⟩
theorem rfkAsk {c s : Int} (hX : FkOK X) (hs : sat h (BxS 7 p (X.map fkC) :: F)) : Triple Try.prog 9 [.ptr p 1 0 0, .int .i64 c, .int .i64 s] h (fun r h => r = .tup [rpV (fkAsk X c s).1, .bool (fkAsk X c s).2] ∧ sat h (BxS 7 p (X.map fkC) :: F)) := by
  have hl := hX.2.2
  refine Triple.view ?_
  refine t9 (Nat.le_of_ble_eq_true rfl) ?_
  simp (disch := omega) only [F9, go_sem, reduceCtorEq, ↓reduceIte, Nat.reduceEqDiff, Nat.reduceAdd, Nat.reduceSub, Nat.reduceMul, Nat.reduceLT, Nat.reduceLeDiff, Int.reduceEq, Int.reduceNe, Int.reduceLT, Int.reduceLE, Int.reduceBEq, Int.reduceBNe, Int.reduceToNat]
  refine new_opq hs fun a h hs => ?_
  have ha := hs.at
  by_cases c0 : c = 0
  · have e0 : (c == 0) = true := by simpa using c0
    have ef : fkAsk X c s = (rpE 0, true) := by simp [fkAsk, c0]; rfl
    simp (disch := omega) only [go_sem, reduceCtorEq, ↓reduceIte, Nat.reduceEqDiff, Nat.reduceAdd, Nat.reduceSub, Nat.reduceMul, Nat.reduceLT, Nat.reduceLeDiff, Int.reduceEq, Int.reduceNe, Int.reduceLT, Int.reduceLE, Int.reduceBEq, Int.reduceBNe, Int.reduceToNat, e0, ha]
    exact rfkFin0 ef hs.set.drop
  have e0 : (c == 0) = false := by simpa using c0
  by_cases c1 : c < 0
  · have ef : fkAsk X c s = (rpE 1, false) := by simp [fkAsk, c0, c1]
    simp (disch := omega) only [go_sem, reduceCtorEq, ↓reduceIte, Nat.reduceEqDiff, Nat.reduceAdd, Nat.reduceSub, Nat.reduceMul, Nat.reduceLT, Nat.reduceLeDiff, Int.reduceEq, Int.reduceNe, Int.reduceLT, Int.reduceLE, Int.reduceBEq, Int.reduceBNe, Int.reduceToNat, e0, c1, ha]
    exact rfkFin0 ef hs.set.drop
  by_cases c2 : s < 1
  · have ef : fkAsk X c s = (rpE 1, false) := by simp [fkAsk, c0, c2]
    simp (disch := omega) only [go_sem, reduceCtorEq, ↓reduceIte, Nat.reduceEqDiff, Nat.reduceAdd, Nat.reduceSub, Nat.reduceMul, Nat.reduceLT, Nat.reduceLeDiff, Int.reduceEq, Int.reduceNe, Int.reduceLT, Int.reduceLE, Int.reduceBEq, Int.reduceBNe, Int.reduceToNat, e0, c1, c2, ha]
    exact rfkFin0 ef hs.set.drop
  simp (disch := omega) only [go_sem, reduceCtorEq, ↓reduceIte, Nat.reduceEqDiff, Nat.reduceAdd, Nat.reduceSub, Nat.reduceMul, Nat.reduceLT, Nat.reduceLeDiff, Int.reduceEq, Int.reduceNe, Int.reduceLT, Int.reduceLE, Int.reduceBEq, Int.reduceBNe, Int.reduceToNat, e0, c1, c2]
  refine call_use (rfAt_R (id := c) hs.p1 (by omega)) ?_
  rintro r h ⟨k, hr, hk, hs⟩
  subst hr
  have ha := hs.p1.at
  rcases hk with ⟨rfl, hn⟩ | ⟨i, rfl, hi, he⟩
  · have hg := find_no hn
    obtain ⟨v, hs2⟩ := bxS.1 hs
    have hp := hs2.at
    have hlv := hs2.p1.els.len
    rw [List.length_map] at hlv
    by_cases c3 : 64 ≤ X.length
    · have ef : fkAsk X c s = (rpE 4, false) := by simp [fkAsk, c0, c1, c2, hg, c3]
      simp (disch := omega) only [go_sem, reduceCtorEq, ↓reduceIte, Nat.reduceEqDiff, Nat.reduceAdd, Nat.reduceSub, Nat.reduceMul, Nat.reduceLT, Nat.reduceLeDiff, Int.reduceEq, Int.reduceNe, Int.reduceLT, Int.reduceLE, Int.reduceBEq, Int.reduceBNe, Int.reduceToNat, hp, hlv, show ((X.length : Int) ≥ 64) = True by simp; omega, ha]
      exact rfkFin0 ef hs.p1.set.drop
    · have ef : fkAsk X c s = (rpE 0, true) := by simp [fkAsk, c0, c1, c2, hg, c3]; rfl
      simp (disch := omega) only [go_sem, reduceCtorEq, ↓reduceIte, Nat.reduceEqDiff, Nat.reduceAdd, Nat.reduceSub, Nat.reduceMul, Nat.reduceLT, Nat.reduceLeDiff, Int.reduceEq, Int.reduceNe, Int.reduceLT, Int.reduceLE, Int.reduceBEq, Int.reduceBNe, Int.reduceToNat, hp, hlv, show ((X.length : Int) ≥ 64) = False by simp; omega, ha]
      exact rfkFin0 ef hs.p1.set.drop
  have hg := find_at (pw_nodup hX.1) hi he
  have b0 : ((i : Int) < 0) = False := by simp
  rcases bxS_cases hs with ⟨hn0, _⟩ | ⟨b, cap, hle, hs3⟩
  · exfalso
    have : X = [] := by simpa using hn0
    subst this; simp at hi
  have hlen : (X.map fkC).length = X.length := by simp
  rw [hlen] at hs3
  have hp := hs3.at
  have hb := hs3.p1.at
  have hrow : (X.map fkC)[i]? = some (fkC X[i]) := by simp [hi]
  by_cases c3 : X[i].seq < s
  · have ef : fkAsk X c s = (rpE 0, true) := by simp [fkAsk, c0, c1, c2, hg, c3]; rfl
    simp (disch := omega) only [go_sem, reduceCtorEq, ↓reduceIte, Nat.reduceEqDiff, Nat.reduceAdd, Nat.reduceSub, Nat.reduceMul, Nat.reduceLT, Nat.reduceLeDiff, Int.reduceEq, Int.reduceNe, Int.reduceLT, Int.reduceLE, Int.reduceBEq, Int.reduceBNe, Int.reduceToNat, b0, hp, hb, hrow, fkC, Int.toNat_natCast, c3, ha]
    exact rfkFin0 ef hs.p1.set.drop
  by_cases c4 : s < X[i].seq
  · have ef : fkAsk X c s = (rpE 24, false) := by simp [fkAsk, c0, c1, c2, hg, c3, c4]
    simp (disch := omega) only [go_sem, reduceCtorEq, ↓reduceIte, Nat.reduceEqDiff, Nat.reduceAdd, Nat.reduceSub, Nat.reduceMul, Nat.reduceLT, Nat.reduceLeDiff, Int.reduceEq, Int.reduceNe, Int.reduceLT, Int.reduceLE, Int.reduceBEq, Int.reduceBNe, Int.reduceToNat, b0, hp, hb, hrow, fkC, Int.toNat_natCast, c3, show (X[i].seq > s) = True by simp; omega, ha]
    exact rfkFin0 ef hs.p1.set.drop
  have ef : fkAsk X c s = (X[i].rep, false) := by simp [fkAsk, c0, c1, c2, hg, c3, c4]
  simp (disch := omega) only [go_sem, reduceCtorEq, ↓reduceIte, Nat.reduceEqDiff, Nat.reduceAdd, Nat.reduceSub, Nat.reduceMul, Nat.reduceLT, Nat.reduceLeDiff, Int.reduceEq, Int.reduceNe, Int.reduceLT, Int.reduceLE, Int.reduceBEq, Int.reduceBNe, Int.reduceToNat, b0, hp, hb, hrow, fkC, Int.toNat_natCast, c3, show (X[i].seq > s) = False by simp; omega, ha]
  exact rfkFin ef hs.p1.set.drop
theorem rfkNote {c q : Int} {x : Rp} (hX : FkOK X) (hc : c ≠ 0) (hs : sat h (BxS 7 p (X.map fkC) :: F)) : Triple Try.prog 12 [.ptr p 1 0 0, .int .i64 c, .int .i64 q, rpV x] h (fun r h => sat h (BxS 7 p ((fkPut X ⟨c, q, x⟩).map fkC) :: F)) := by
  have hl := hX.2.2
  have e0 : (c == 0) = false := by simpa using hc
  refine t12 (Nat.le_of_ble_eq_true rfl) ?_
  simp (disch := omega) only [F12, e0, rpC, go_sem, reduceCtorEq, ↓reduceIte, Nat.reduceEqDiff, Nat.reduceAdd, Nat.reduceSub, Nat.reduceMul, Nat.reduceLT, Nat.reduceLeDiff, Int.reduceEq, Int.reduceNe, Int.reduceLT, Int.reduceLE, Int.reduceBEq, Int.reduceBNe, Int.reduceToNat]
  refine new_opq hs fun a h hs => ?_
  simp (disch := omega) only [go_sem, reduceCtorEq, ↓reduceIte, Nat.reduceEqDiff, Nat.reduceAdd, Nat.reduceSub, Nat.reduceMul, Nat.reduceLT, Nat.reduceLeDiff, Int.reduceEq, Int.reduceNe, Int.reduceLT, Int.reduceLE, Int.reduceBEq, Int.reduceBNe, Int.reduceToNat, e0]
  refine call_use (rfAt_R (id := c) hs.p1 (by omega)) ?_
  rintro r h ⟨k, hr, hk, hs⟩
  subst hr
  rcases hk with ⟨rfl, hn⟩ | ⟨i, rfl, hi, he⟩
  · have hg := find_no hn
    have ef : fkPut X ⟨c, q, x⟩ = kIns Fk.client X ⟨c, q, x⟩ := by simp [fkPut, hg]
    rw [ef, kIns_at]
    simp (disch := omega) only [go_sem, reduceCtorEq, ↓reduceIte, Nat.reduceEqDiff, Nat.reduceAdd, Nat.reduceSub, Nat.reduceMul, Nat.reduceLT, Nat.reduceLeDiff, Int.reduceEq, Int.reduceNe, Int.reduceLT, Int.reduceLE, Int.reduceBEq, Int.reduceBNe, Int.reduceToNat]
    obtain ⟨v, hs⟩ := bxS.1 hs
    have hlv := hs.p1.els.len
    rw [List.length_map] at hlv
    refine blk_join (Q := fun e h => sat h (pto p (.row 1 [[v]] 1) :: Ow 7 v (X.map fkC) :: pto a (.row 5 [rpC x] 1) :: F) ∧ (e 0 = .ptr p 1 0 0 ∧ e 1 = .int .i64 c ∧ e 2 = .int .i64 q ∧ e 7 = .ptr a 5 0 0 ∧ e 8 = .int .i64 (aheadK Fk.client X c))) ?_ ?_
    · refine run_up (N := X.length) (fun i e h => (∀ j (hj : j < X.length), j < i → Fk.client X[j] < c) ∧ sat h (pto p (.row 1 [[v]] 1) :: Ow 7 v (X.map fkC) :: pto a (.row 5 [rpC x] 1) :: F) ∧ (e 0 = .ptr p 1 0 0 ∧ e 1 = .int .i64 c ∧ e 2 = .int .i64 q ∧ e 7 = .ptr a 5 0 0 ∧ e 8 = .int .i64 i)) ⟨fun _ _ h => by omega, hs, by simp [Env.upd_apply, initE]⟩ ?_
      clear hs
      rintro i e h hi ⟨hb, hs, he⟩
      have hp := hs.at
      have m1 : (i : Int) + 1 = ((i + 1 : Nat) : Int) := by omega
      by_cases hi : i < X.length
      · have hrow : (X.map fkC)[i]? = some (fkC X[i]) := by simp [hi]
        rcases hs.p1.cases with ⟨_, hn0, _⟩ | ⟨b, cap, hv, hs3, hle⟩
        · exfalso
          have : X = [] := by simpa using hn0
          subst this; simp at hi
        subst hv
        have hlen : (X.map fkC).length = X.length := by simp
        have hq := hs3.at
        by_cases hk : X[i].client < c
        · simp (disch := omega) only [go_sem, reduceCtorEq, ↓reduceIte, Nat.reduceEqDiff, Nat.reduceAdd, Nat.reduceSub, Nat.reduceMul, Nat.reduceLT, Nat.reduceLeDiff, Int.reduceEq, Int.reduceNe, Int.reduceLT, Int.reduceLE, Int.reduceBEq, Int.reduceBNe, Int.reduceToNat, he, hp, hq, hlv, hlen, show ((i : Int) < X.length) = True by simp; omega, hrow, fkC, Int.toNat_natCast, hk, m1]
          refine ⟨by omega, fun j hj hji => ?_, by rw [hlen] at hs; exact hs⟩
          by_cases hjj : j = i
          · subst hjj; exact hk
          · exact hb j hj (by omega)
        · simp (disch := omega) only [go_sem, reduceCtorEq, ↓reduceIte, Nat.reduceEqDiff, Nat.reduceAdd, Nat.reduceSub, Nat.reduceMul, Nat.reduceLT, Nat.reduceLeDiff, Int.reduceEq, Int.reduceNe, Int.reduceLT, Int.reduceLE, Int.reduceBEq, Int.reduceBNe, Int.reduceToNat, he, hp, hq, hlv, hlen, show ((i : Int) < X.length) = True by simp; omega, hrow, fkC, Int.toNat_natCast, hk]
          exact ⟨by rw [hlen] at hs; exact hs, by rw [ahead_step (key := Fk.client) hi hb hk]⟩
      · have hi : i = X.length := by omega
        subst hi
        simp (disch := omega) only [go_sem, reduceCtorEq, ↓reduceIte, Nat.reduceEqDiff, Nat.reduceAdd, Nat.reduceSub, Nat.reduceMul, Nat.reduceLT, Nat.reduceLeDiff, Int.reduceEq, Int.reduceNe, Int.reduceLT, Int.reduceLE, Int.reduceBEq, Int.reduceBNe, Int.reduceToNat, he, hp, hlv, show ((X.length : Int) < X.length) = False by simp]
        exact ⟨hs, by rw [ahead_all (key := Fk.client) fun j hj => hb j hj hj]⟩
    clear hs
    rintro e h ⟨hs, he⟩
    have hal : aheadK Fk.client X c ≤ X.length := ahead_le
    show fall _ _ e h _
    generalize aheadK Fk.client X c = i at he hal ⊢
    have hp := hs.at
    obtain ⟨w, q1, q2, q3⟩ := ow_slc (k := .i64) (k' := .i64) (lo := 0) (hi := i) (Nat.zero_le _) (by simp; omega) hs.p1
    obtain ⟨y, r1, r2, r3⟩ := ow_slc (k := .i64) (k' := .i64) (lo := i) (hi := (X.map fkC).length) (by simp; omega) (Nat.le_refl _) hs.p1
    rw [show ((0 : Nat) : Int) = 0 from rfl, ← slc_lo] at q1
    rw [← slc_hi hs.p1.els.len] at r1
    simp (disch := omega) only [go_sem, reduceCtorEq, ↓reduceIte, Nat.reduceEqDiff, Nat.reduceAdd, Nat.reduceSub, Nat.reduceMul, Nat.reduceLT, Nat.reduceLeDiff, Int.reduceEq, Int.reduceNe, Int.reduceLT, Int.reduceLE, Int.reduceBEq, Int.reduceBNe, Int.reduceToNat, he, hp, q1]
    have hsn : sat h (Ow 7 .nils [] :: pto p (.row 1 [[v]] 1) :: Ow 7 v (X.map fkC) :: pto a (.row 5 [rpC x] 1) :: F) := hs.add ow_nil
    refine app_sat hsn (q2 _ _ hs.p1).1 ((atoms_fk X).drop.take) (by simp <;> omega) fun v1 h hs c1 a1 => ?_
    have ha := hs.p3.at
    simp (disch := omega) only [go_sem, reduceCtorEq, ↓reduceIte, Nat.reduceEqDiff, Nat.reduceAdd, Nat.reduceSub, Nat.reduceMul, Nat.reduceLT, Nat.reduceLeDiff, Int.reduceEq, Int.reduceNe, Int.reduceLT, Int.reduceLE, Int.reduceBEq, Int.reduceBNe, Int.reduceToNat, he, ha, rpC]
    refine new_opq hs fun n h hs => ?_
    simp (disch := omega) only [go_sem, reduceCtorEq, ↓reduceIte, Nat.reduceEqDiff, Nat.reduceAdd, Nat.reduceSub, Nat.reduceMul, Nat.reduceLT, Nat.reduceLeDiff, Int.reduceEq, Int.reduceNe, Int.reduceLT, Int.reduceLE, Int.reduceBEq, Int.reduceBNe, Int.reduceToNat]
    refine app_sat hs.p1 (src_one hs.at) (atoms_one (by simp [AV.isAtom])) (by simp <;> omega) fun v2 h hs c2 a2 => ?_
    have hp := hs.p2.at
    simp (disch := omega) only [go_sem, reduceCtorEq, ↓reduceIte, Nat.reduceEqDiff, Nat.reduceAdd, Nat.reduceSub, Nat.reduceMul, Nat.reduceLT, Nat.reduceLeDiff, Int.reduceEq, Int.reduceNe, Int.reduceLT, Int.reduceLE, Int.reduceBEq, Int.reduceBNe, Int.reduceToNat, he, hp, r1]
    refine app_sat hs (r2 _ _ hs.p2.p2.p2.p3).1 ((atoms_fk X).drop.take) (by simp <;> omega) fun v3 h hs c3 a3 => ?_
    have hp := hs.p2.at
    simp (disch := omega) only [go_sem, reduceCtorEq, ↓reduceIte, Nat.reduceEqDiff, Nat.reduceAdd, Nat.reduceSub, Nat.reduceMul, Nat.reduceLT, Nat.reduceLeDiff, Int.reduceEq, Int.reduceNe, Int.reduceLT, Int.reduceLE, Int.reduceBEq, Int.reduceBNe, Int.reduceToNat, he, hp, c3, a3]
    refine bxS.2 ⟨v3, ?_⟩
    have hs2 := hs.p2.set (o' := .row 1 [[v3]] 1)
    have e2 : [] ++ ((X.map fkC).drop 0).take (i - 0) ++ [fkC ⟨c, q, x⟩] ++ ((X.map fkC).drop i).take ((X.map fkC).length - i) = (X.take i ++ ⟨c, q, x⟩ :: X.drop i).map fkC := by
      rw [List.take_of_length_le (l := (X.map fkC).drop i) (by simp)]
      simp
    simp only [fkC] at e2
    rw [e2] at hs2
    exact hs2.p2.drop.p2.drop.p2.drop.p1.p1
  have hg := find_at (pw_nodup hX.1) hi he
  have ef : fkPut X ⟨c, q, x⟩ = kSet Fk.client X ⟨c, q, x⟩ := by simp [fkPut, hg]
  rw [ef]
  simp (disch := omega) only [go_sem, reduceCtorEq, ↓reduceIte, Nat.reduceEqDiff, Nat.reduceAdd, Nat.reduceSub, Nat.reduceMul, Nat.reduceLT, Nat.reduceLeDiff, Int.reduceEq, Int.reduceNe, Int.reduceLT, Int.reduceLE, Int.reduceBEq, Int.reduceBNe, Int.reduceToNat, show ((i : Int) ≥ 0) = True by simp]
  refine new_opq hs fun n h hs => ?_
  obtain ⟨v, hs⟩ := bxS.1 hs.p1
  have hp := hs.at
  simp (disch := omega) only [go_sem, reduceCtorEq, ↓reduceIte, Nat.reduceEqDiff, Nat.reduceAdd, Nat.reduceSub, Nat.reduceMul, Nat.reduceLT, Nat.reduceLeDiff, Int.reduceEq, Int.reduceNe, Int.reduceLT, Int.reduceLE, Int.reduceBEq, Int.reduceBNe, Int.reduceToNat, hp]
  refine app_new (bytes := 72) hs.p2 hs.p1.els.1 (atoms_fk X) (by simp only [List.length_map]; omega) fun v1 h hs c1 a1 => ?_
  have hp := hs.p1.at
  simp (disch := omega) only [go_sem, reduceCtorEq, ↓reduceIte, Nat.reduceEqDiff, Nat.reduceAdd, Nat.reduceSub, Nat.reduceMul, Nat.reduceLT, Nat.reduceLeDiff, Int.reduceEq, Int.reduceNe, Int.reduceLT, Int.reduceLE, Int.reduceBEq, Int.reduceBNe, Int.reduceToNat, hp, c1, a1]
  have hs2 := hs.p1.set (o' := .row 1 [[v1]] 1)
  generalize Hp.set h p _ = h2 at hs2 ⊢
  have hlen : (X.map fkC).length = X.length := by simp
  rcases hs2.p1.cases with ⟨rfl, hn0, _⟩ | ⟨b, cap, rfl, hs3, hle⟩
  · exfalso
    have : X = [] := by simpa using hn0
    subst this; simp at hi
  rw [hlen] at hs3 hle
  have hp := hs3.p1.at
  have hb := hs3.at
  have ha := hs3.p3.at
  have hrow : (X.map fkC)[i]? = some (fkC X[i]) := by simp [hi]
  have hs4 := hs3.set (o' := .row 7 ((X.map fkC).set i (fkC ⟨X[i].client, q, X[i].rep⟩)) cap)
  have ha4 := hs4.p3.at
  have hget : ((X.map fkC).set i (fkC ⟨X[i].client, q, X[i].rep⟩))[i]? = some (fkC ⟨X[i].client, q, X[i].rep⟩) := by
    rw [List.getElem?_set_self (by simpa using hi)]
  simp only [fkC, rpC] at ha4 hget
  simp (disch := omega) only [go_sem, reduceCtorEq, ↓reduceIte, Nat.reduceEqDiff, Nat.reduceAdd, Nat.reduceSub, Nat.reduceMul, Nat.reduceLT, Nat.reduceLeDiff, Int.reduceEq, Int.reduceNe, Int.reduceLT, Int.reduceLE, Int.reduceBEq, Int.reduceBNe, Int.reduceToNat, hlen, hp, hb, ha, hrow, fkC, rpC, Int.toNat_natCast, ha4, hget, List.set_set]
  have e3 : (X.map fkC).set i (fkC ⟨X[i].client, q, x⟩) = (kSet Fk.client X ⟨c, q, x⟩).map fkC := by
    rw [← List.map_set, he, set_kSet (key := Fk.client) (y := ⟨c, q, x⟩) (pw_nodup hX.1) hi he]
  simp only [fkC] at e3
  rw [e3]
  have e4 : X.length = ((kSet Fk.client X ⟨c, q, x⟩).map fkC).length := by simp [kSet]
  refine bxS_arr (b := b) (cap := cap) ?_ (by rw [← e4]; exact hle)
  rw [← e4]
  exact hs3.set.p2.drop.p2.drop.p1
theorem rfkNote0 {q : Int} {x : Rp} (hs : sat h F) : Triple Try.prog 12 [.ptr p 1 0 0, .int .i64 0, .int .i64 q, rpV x] h (fun r h => sat h F) := by
  refine t12 (Nat.le_of_ble_eq_true rfl) ?_
  simp (disch := omega) only [F12, rpC, go_sem, reduceCtorEq, ↓reduceIte, Nat.reduceEqDiff, Nat.reduceAdd, Nat.reduceSub, Nat.reduceMul, Nat.reduceLT, Nat.reduceLeDiff, Int.reduceEq, Int.reduceNe, Int.reduceLT, Int.reduceLE, Int.reduceBEq, Int.reduceBNe, Int.reduceToNat]
  refine new_opq hs fun a h hs => ?_
  simp (disch := omega) only [go_sem, reduceCtorEq, ↓reduceIte, Nat.reduceEqDiff, Nat.reduceAdd, Nat.reduceSub, Nat.reduceMul, Nat.reduceLT, Nat.reduceLeDiff, Int.reduceEq, Int.reduceNe, Int.reduceLT, Int.reduceLE, Int.reduceBEq, Int.reduceBNe, Int.reduceToNat]
  exact hs.drop
theorem kv_self (x : Kv) : eqsA [PK.s, PK.s, PK.i, PK.i, PK.i, PK.i] true (.agg (kvC x)) (.agg (kvC x)) = some (.bool false) := by
  simp [eqsA, eqCs, eqC, kvC]
theorem sameKVs (hs : sat h F) {l : List Kv} (hl : l.length ≤ 9223372036854775807) : Triple Try.prog 17 [kvsV l, kvsV l] h (fun r h => r = .bool true ∧ sat h F) := by
  have len2 : lenL (kvsV l) = some (.int .i64 l.length) := by simp [lenL]
  refine t17 (Nat.le_of_ble_eq_true rfl) ?_
  simp (disch := omega) only [F17, len2, go_sem, reduceCtorEq, ↓reduceIte, Nat.reduceEqDiff, Nat.reduceAdd, Nat.reduceSub, Nat.reduceMul, Nat.reduceLT, Nat.reduceLeDiff, Int.reduceEq, Int.reduceNe, Int.reduceLT, Int.reduceLE, Int.reduceBEq, Int.reduceBNe, Int.reduceToNat]
  refine run_up (N := l.length) (fun i e h => sat h F ∧ (e 0 = kvsV l ∧ e 1 = kvsV l ∧ e 5 = .int .i64 i)) ⟨hs, rfl, rfl, rfl⟩ ?_
  clear hs
  rintro i e h hi ⟨hs, he⟩
  have m1 : (i : Int) + 1 = ((i + 1 : Nat) : Int) := by omega
  simp (disch := omega) only [go_sem, reduceCtorEq, ↓reduceIte, Nat.reduceEqDiff, Nat.reduceAdd, Nat.reduceSub, Nat.reduceMul, Nat.reduceLT, Nat.reduceLeDiff, Int.reduceEq, Int.reduceNe, Int.reduceLT, Int.reduceLE, Int.reduceBEq, Int.reduceBNe, Int.reduceToNat, he, m1, len2]
  refine cnd_dec (fun h1 => ?_) (fun h1 => ?_)
  · have hi : i < l.length := by omega
    have ez := ia_lst (f := kvC) (l := l) (i := i) (s := 6) (k := .i64) hi (fun _ => rfl)
    have ek := kv_self l[i]
    simp only [kvC] at ek
    simp (disch := omega) only [go_sem, reduceCtorEq, ↓reduceIte, Nat.reduceEqDiff, Nat.reduceAdd, Nat.reduceSub, Nat.reduceMul, Nat.reduceLT, Nat.reduceLeDiff, Int.reduceEq, Int.reduceNe, Int.reduceLT, Int.reduceLE, Int.reduceBEq, Int.reduceBNe, Int.reduceToNat, he, ez, kvC, ek, m1]
    exact ⟨by omega, hs⟩
  · simp (disch := omega) only [go_sem, reduceCtorEq, ↓reduceIte, Nat.reduceEqDiff, Nat.reduceAdd, Nat.reduceSub, Nat.reduceMul, Nat.reduceLT, Nat.reduceLeDiff, Int.reduceEq, Int.reduceNe, Int.reduceLT, Int.reduceLE, Int.reduceBEq, Int.reduceBNe, Int.reduceToNat, he]
    exact hs
theorem sameReply (hs : sat h F) {x : Rp} (hx : RpOK x) : Triple Try.prog 10 [rpV x, rpV x] h (fun r h => r = .bool true ∧ sat h F) := by
  obtain ⟨h1, h2⟩ := hx
  refine t10 (Nat.le_of_ble_eq_true rfl) ?_
  simp (disch := omega) only [F10, rpC, go_sem, reduceCtorEq, ↓reduceIte, Nat.reduceEqDiff, Nat.reduceAdd, Nat.reduceSub, Nat.reduceMul, Nat.reduceLT, Nat.reduceLeDiff, Int.reduceEq, Int.reduceNe, Int.reduceLT, Int.reduceLE, Int.reduceBEq, Int.reduceBNe, Int.reduceToNat]
  refine new_opq hs fun a h hs => ?_
  simp (disch := omega) only [go_sem, reduceCtorEq, ↓reduceIte, Nat.reduceEqDiff, Nat.reduceAdd, Nat.reduceSub, Nat.reduceMul, Nat.reduceLT, Nat.reduceLeDiff, Int.reduceEq, Int.reduceNe, Int.reduceLT, Int.reduceLE, Int.reduceBEq, Int.reduceBNe, Int.reduceToNat, rpC]
  refine new_opq hs fun b h hs => ?_
  have ha := hs.p1.at
  have hb := hs.at
  have len2 : lenL (ressV x.res) = some (.int .i64 x.res.length) := by simp [lenL]
  simp (disch := omega) only [go_sem, reduceCtorEq, ↓reduceIte, Nat.reduceEqDiff, Nat.reduceAdd, Nat.reduceSub, Nat.reduceMul, Nat.reduceLT, Nat.reduceLeDiff, Int.reduceEq, Int.reduceNe, Int.reduceLT, Int.reduceLE, Int.reduceBEq, Int.reduceBNe, Int.reduceToNat, ha, hb, len2]
  refine run_up (N := x.res.length) (fun i e h => sat h (pto b (.row 5 [rpC x] 1) :: pto a (.row 5 [rpC x] 1) :: F) ∧ (e 2 = .ptr a 5 0 0 ∧ e 3 = .ptr b 5 0 0 ∧ e 5 = .int .i64 i)) ⟨hs, rfl, rfl, rfl⟩ ?_
  clear hs ha hb
  rintro i e h hi ⟨hs, he⟩
  have m1 : (i : Int) + 1 = ((i + 1 : Nat) : Int) := by omega
  have ha := hs.p1.at
  have hb := hs.at
  simp only [rpC] at ha hb
  simp (disch := omega) only [go_sem, reduceCtorEq, ↓reduceIte, Nat.reduceEqDiff, Nat.reduceAdd, Nat.reduceSub, Nat.reduceMul, Nat.reduceLT, Nat.reduceLeDiff, Int.reduceEq, Int.reduceNe, Int.reduceLT, Int.reduceLE, Int.reduceBEq, Int.reduceBNe, Int.reduceToNat, he, ha, hb, m1, len2]
  refine cnd_dec (fun h1 => ?_) (fun h1 => ?_)
  · have hi : i < x.res.length := by omega
    have ez := ia_lst (f := resC) (l := x.res) (i := i) (s := 2) (k := .i64) hi (fun _ => rfl)
    have hq := h2 _ (List.getElem_mem hi)
    simp (disch := omega) only [go_sem, reduceCtorEq, ↓reduceIte, Nat.reduceEqDiff, Nat.reduceAdd, Nat.reduceSub, Nat.reduceMul, Nat.reduceLT, Nat.reduceLeDiff, Int.reduceEq, Int.reduceNe, Int.reduceLT, Int.reduceLE, Int.reduceBEq, Int.reduceBNe, Int.reduceToNat, he, ha, hb, ez, resC]
    refine call_use (sameKVs hs (l := x.res[i].kvs) (by omega)) ?_
    rintro r h ⟨hr, hs⟩
    subst hr
    simp (disch := omega) only [go_sem, reduceCtorEq, ↓reduceIte, Nat.reduceEqDiff, Nat.reduceAdd, Nat.reduceSub, Nat.reduceMul, Nat.reduceLT, Nat.reduceLeDiff, Int.reduceEq, Int.reduceNe, Int.reduceLT, Int.reduceLE, Int.reduceBEq, Int.reduceBNe, Int.reduceToNat, he, m1]
    exact ⟨by omega, hs⟩
  · simp (disch := omega) only [go_sem, reduceCtorEq, ↓reduceIte, Nat.reduceEqDiff, Nat.reduceAdd, Nat.reduceSub, Nat.reduceMul, Nat.reduceLT, Nat.reduceLeDiff, Int.reduceEq, Int.reduceNe, Int.reduceLT, Int.reduceLE, Int.reduceBEq, Int.reduceBNe, Int.reduceToNat, he]
    exact hs.drop.drop
end
end Go.Proofs.Ytbaokmcljlfhnaa
/- The law FolkPlays, walked. -/
set_option linter.unusedSimpArgs false
set_option linter.unusedVariables false
set_option maxRecDepth 10000
namespace Go.Proofs.Ytbaokmcljlfhnaa
open Go.Hz

structure FCall where
  client : Int
  seq : Int
  does : Bool
  rep : Rp
def fcC (c : FCall) : List AV := [.int .i64 c.client, .int .i64 c.seq, .bool c.does, .int .i64 c.rep.err, .int .i64 c.rep.rev, .bool c.rep.thn, ressV c.rep.res, .int .i64 c.rep.time]
def fcallsV (l : List FCall) : AV := .lst (l.map fcC)

theorem plays11 {cs : List FCall} (hl : cs.length ≤ 9223372036854775807) (hr : ∀ c ∈ cs, ∀ q ∈ c.rep.res, q.kvs.length * 64 ≤ 140737488355328) :
    Triple Try.prog 3 [fcallsV cs] Hp.emp (fun r _ => r = .bool true) := by
  have hs : sat Hp.emp [] := trivial
  refine t3 (Nat.le_of_ble_eq_true rfl) ?_
  simp (disch := omega) only [F3, go_sem, reduceCtorEq, ↓reduceIte, Nat.reduceEqDiff, Nat.reduceAdd, Nat.reduceSub, Nat.reduceMul, Nat.reduceLT, Nat.reduceLeDiff, Int.reduceEq, Int.reduceNe, Int.reduceLT, Int.reduceLE, Int.reduceBEq, Int.reduceBNe, Int.reduceToNat]
  refine call_use (known11 hs) ?_
  rintro r h ⟨hr, hs⟩
  subst hr
  simp (disch := omega) only [go_sem, reduceCtorEq, ↓reduceIte, Nat.reduceEqDiff, Nat.reduceAdd, Nat.reduceSub, Nat.reduceMul, Nat.reduceLT, Nat.reduceLeDiff, Int.reduceEq, Int.reduceNe, Int.reduceLT, Int.reduceLE, Int.reduceBEq, Int.reduceBNe, Int.reduceToNat]
  refine call_use (fkNew hs) ?_
  rintro r h ⟨p, hr', hs⟩
  subst hr'
  simp (disch := omega) only [go_sem, reduceCtorEq, ↓reduceIte, Nat.reduceEqDiff, Nat.reduceAdd, Nat.reduceSub, Nat.reduceMul, Nat.reduceLT, Nat.reduceLeDiff, Int.reduceEq, Int.reduceNe, Int.reduceLT, Int.reduceLE, Int.reduceBEq, Int.reduceBNe, Int.reduceToNat]
  refine new_opq hs fun q h hs => ?_
  have hs : sat h [BxS 7 q (([] : List Fk).map fkC), FkP p []] := bxS_nil hs
  simp (disch := omega) only [go_sem, reduceCtorEq, ↓reduceIte, Nat.reduceEqDiff, Nat.reduceAdd, Nat.reduceSub, Nat.reduceMul, Nat.reduceLT, Nat.reduceLeDiff, Int.reduceEq, Int.reduceNe, Int.reduceLT, Int.reduceLE, Int.reduceBEq, Int.reduceBNe, Int.reduceToNat]
  have len2 : lenL (fcallsV cs) = some (.int .i64 cs.length) := by simp [fcallsV, lenL]
  refine run_loopN (fun m e h => ∃ (i : Nat) (X : List Fk), m = 200 - i ∧ i ≤ 200 ∧ sat h [BxS 7 q (X.map fkC), FkP p X] ∧
    (e 0 = fcallsV cs ∧ e 3 = .ptr p 1 0 0 ∧ e 4 = .ptr q 1 0 0 ∧ e 5 = .int .i64 i)) 200
    ⟨0, [], rfl, by omega, hs, rfl, rfl, rfl, rfl⟩ ?_
  clear hs
  rintro m e h ⟨i, X, rfl, hi100, hs, he⟩
  have hX : FkOK X := (fkP.1 hs.p1).choose_spec.1
  by_cases hc : i < cs.length ∧ i < 200
  · obtain ⟨i1, c3⟩ := hc
    have c1 : (i : Int) < cs.length := by omega
    have c2 : (i : Int) < 200 := by omega
    have hia1 : iaA 8 (fcallsV cs) (.int .i64 (i : Int)) = some (.ro (fcC cs[i])) := ia_lst (f := fcC) i1 fun _ => rfl
    have hri := hr _ (List.getElem_mem i1)
    generalize cs[i] = c at hia1 hri
    have m1 : (i : Int) + 1 = ((i + 1 : Nat) : Int) := by omega
    simp (disch := omega) only [go_sem, reduceCtorEq, ↓reduceIte, Nat.reduceEqDiff, Nat.reduceAdd, Nat.reduceSub, Nat.reduceMul, Nat.reduceLT, Nat.reduceLeDiff, Int.reduceEq, Int.reduceNe, Int.reduceLT, Int.reduceLE, Int.reduceBEq, Int.reduceBNe, Int.reduceToNat, he, len2, c1, c2, hia1, fcC]
    refine new_opq hs fun a h hs => ?_
    have ha := hs.at
    have hs := hs.set (o' := .row 8 [fcC c] 1)
    have ha2 := hs.at
    simp only [fcC] at hs ha2
    simp (disch := omega) only [go_sem, reduceCtorEq, ↓reduceIte, Nat.reduceEqDiff, Nat.reduceAdd, Nat.reduceSub, Nat.reduceMul, Nat.reduceLT, Nat.reduceLeDiff, Int.reduceEq, Int.reduceNe, Int.reduceLT, Int.reduceLE, Int.reduceBEq, Int.reduceBNe, Int.reduceToNat, ha, ha2, lenL_lst]
    generalize Hp.set h a _ = h3 at hs ha2 ⊢
    by_cases h5 : (c.rep.res.length : Int) > 5
    · simp (disch := omega) only [go_sem, reduceCtorEq, ↓reduceIte, Nat.reduceEqDiff, Nat.reduceAdd, Nat.reduceSub, Nat.reduceMul, Nat.reduceLT, Nat.reduceLeDiff, Int.reduceEq, Int.reduceNe, Int.reduceLT, Int.reduceLE, Int.reduceBEq, Int.reduceBNe, Int.reduceToNat, h5, he, m1]
      exact ⟨200 - (i + 1), by omega, i + 1, X, rfl, by omega, hs.drop, rfl⟩
    have hrp : RpOK c.rep := ⟨by omega, hri⟩
    simp (disch := omega) only [go_sem, reduceCtorEq, ↓reduceIte, Nat.reduceEqDiff, Nat.reduceAdd, Nat.reduceSub, Nat.reduceMul, Nat.reduceLT, Nat.reduceLeDiff, Int.reduceEq, Int.reduceNe, Int.reduceLT, Int.reduceLE, Int.reduceBEq, Int.reduceBNe, Int.reduceToNat, h5, ha2, he]
    have hask := fkAsk_ok (c := c.client) (s := c.seq) hX
    have hnote : (fkAsk X c.client c.seq).2 = true → c.client ≠ 0 → fkNote X c.client c.seq c.rep = fkPut X ⟨c.client, c.seq, c.rep⟩ := fun h1 h2 => by rw [fkNote, if_pos ⟨h2, h1⟩]
    generalize hR : fkAsk X c.client c.seq = R at hask hnote
    obtain ⟨rp, do_⟩ := R
    refine call_use (fkAskT hs.p1.p2) ?_
    rintro r h ⟨hr, hs⟩
    subst hr
    simp (disch := omega) only [go_sem, reduceCtorEq, ↓reduceIte, Nat.reduceEqDiff, Nat.reduceAdd, Nat.reduceSub, Nat.reduceMul, Nat.reduceLT, Nat.reduceLeDiff, Int.reduceEq, Int.reduceNe, Int.reduceLT, Int.reduceLE, Int.reduceBEq, Int.reduceBNe, Int.reduceToNat, hR, he, rpC]
    refine new_opq hs fun x h hs => ?_
    have hx := hs.at
    have hs := hs.set (o' := .row 5 [rpC rp] 1)
    have ha := hs.p3.at
    simp only [rpC] at hs ha
    simp (disch := omega) only [go_sem, reduceCtorEq, ↓reduceIte, Nat.reduceEqDiff, Nat.reduceAdd, Nat.reduceSub, Nat.reduceMul, Nat.reduceLT, Nat.reduceLeDiff, Int.reduceEq, Int.reduceNe, Int.reduceLT, Int.reduceLE, Int.reduceBEq, Int.reduceBNe, Int.reduceToNat, hx, rpC, ha, he]
    generalize Hp.set h x _ = h4 at hs ⊢
    refine call_use (rfkAsk hX hs.p3.p2.p3) ?_
    rintro r h ⟨hr, hs⟩
    subst hr
    simp (disch := omega) only [go_sem, reduceCtorEq, ↓reduceIte, Nat.reduceEqDiff, Nat.reduceAdd, Nat.reduceSub, Nat.reduceMul, Nat.reduceLT, Nat.reduceLeDiff, Int.reduceEq, Int.reduceNe, Int.reduceLT, Int.reduceLE, Int.reduceBEq, Int.reduceBNe, Int.reduceToNat, hR, he, rpC]
    refine new_opq hs fun y h hs => ?_
    have hy := hs.at
    have hs := hs.set (o' := .row 5 [rpC rp] 1)
    have ha := hs.p3.at
    have hx := hs.p4.at
    have hy2 := hs.at
    simp only [rpC] at hs ha hx hy2
    simp (disch := omega) only [go_sem, reduceCtorEq, ↓reduceIte, Nat.reduceEqDiff, Nat.reduceAdd, Nat.reduceSub, Nat.reduceMul, Nat.reduceLT, Nat.reduceLeDiff, Int.reduceEq, Int.reduceNe, Int.reduceLT, Int.reduceLE, Int.reduceBEq, Int.reduceBNe, Int.reduceToNat, hy, rpC, ha, he, hx, hy2]
    generalize Hp.set h y _ = h5 at hs ⊢
    refine call_use (sameReply hs (x := rp) hask) ?_
    rintro r h ⟨hr, hs⟩
    subst hr
    simp (disch := omega) only [go_sem, reduceCtorEq, ↓reduceIte, Nat.reduceEqDiff, Nat.reduceAdd, Nat.reduceSub, Nat.reduceMul, Nat.reduceLT, Nat.reduceLeDiff, Int.reduceEq, Int.reduceNe, Int.reduceLT, Int.reduceLE, Int.reduceBEq, Int.reduceBNe, Int.reduceToNat, he]
    refine cnd_join2 (Q := fun e h => ∃ X' : List Fk, sat h [BxS 7 q (X'.map fkC), FkP p X'] ∧ (e 0 = fcallsV cs ∧ e 3 = .ptr p 1 0 0 ∧ e 4 = .ptr q 1 0 0 ∧ e 5 = .int .i64 i)) ?_ ?_
    · have fin : ∀ {h : Hp}, sat h [pto y (.row 5 [rpC rp] 1), BxS 7 q (X.map fkC), FkP p X, pto a (.row 8 [fcC c] 1), pto x (.row 5 [rpC rp] 1)] → sat h [BxS 7 q (X.map fkC), FkP p X] := fun hs => hs.drop.p2.drop.p2.drop.p1.p1
      cases do_ with
      | false =>
        simp (disch := omega) only [go_sem, reduceCtorEq, ↓reduceIte, Nat.reduceEqDiff, Nat.reduceAdd, Nat.reduceSub, Nat.reduceMul, Nat.reduceLT, Nat.reduceLeDiff, Int.reduceEq, Int.reduceNe, Int.reduceLT, Int.reduceLE, Int.reduceBEq, Int.reduceBNe, Int.reduceToNat, he]
        exact ⟨X, fin hs⟩
      | true =>
        have ha := hs.p3.at
        cases hd : c.does with
        | false =>
          simp (disch := omega) only [go_sem, reduceCtorEq, ↓reduceIte, Nat.reduceEqDiff, Nat.reduceAdd, Nat.reduceSub, Nat.reduceMul, Nat.reduceLT, Nat.reduceLeDiff, Int.reduceEq, Int.reduceNe, Int.reduceLT, Int.reduceLE, Int.reduceBEq, Int.reduceBNe, Int.reduceToNat, he, ha, hd]
          exact ⟨X, fin hs⟩
        | true =>
          simp (disch := omega) only [go_sem, reduceCtorEq, ↓reduceIte, Nat.reduceEqDiff, Nat.reduceAdd, Nat.reduceSub, Nat.reduceMul, Nat.reduceLT, Nat.reduceLeDiff, Int.reduceEq, Int.reduceNe, Int.reduceLT, Int.reduceLE, Int.reduceBEq, Int.reduceBNe, Int.reduceToNat, he, ha, hd]
          refine call_use (fkNoteT (c := c.client) (q := c.seq) hs.drop.p3.drop.p2.p1.p2 hrp) ?_
          intro r h hs
          have ha := hs.p2.at
          simp (disch := omega) only [go_sem, reduceCtorEq, ↓reduceIte, Nat.reduceEqDiff, Nat.reduceAdd, Nat.reduceSub, Nat.reduceMul, Nat.reduceLT, Nat.reduceLeDiff, Int.reduceEq, Int.reduceNe, Int.reduceLT, Int.reduceLE, Int.reduceBEq, Int.reduceBNe, Int.reduceToNat, he, ha]
          by_cases c0 : c.client = 0
          · have e1 : fkNote X c.client c.seq c.rep = X := by rw [fkNote, if_neg]; intro hh; exact hh.1 c0
            rw [e1] at hs
            rw [c0]
            refine call_use (rfkNote0 (q := c.seq) (x := c.rep) hs.p2.drop.p1) ?_
            intro r h hs
            simp (disch := omega) only [go_sem, reduceCtorEq, ↓reduceIte, Nat.reduceEqDiff, Nat.reduceAdd, Nat.reduceSub, Nat.reduceMul, Nat.reduceLT, Nat.reduceLeDiff, Int.reduceEq, Int.reduceNe, Int.reduceLT, Int.reduceLE, Int.reduceBEq, Int.reduceBNe, Int.reduceToNat, he]
            exact ⟨_, hs⟩
          · rw [hnote rfl c0] at hs
            refine call_use (rfkNote (q := c.seq) (x := c.rep) hX c0 hs.p2.drop.p1) ?_
            intro r h hs
            simp (disch := omega) only [go_sem, reduceCtorEq, ↓reduceIte, Nat.reduceEqDiff, Nat.reduceAdd, Nat.reduceSub, Nat.reduceMul, Nat.reduceLT, Nat.reduceLeDiff, Int.reduceEq, Int.reduceNe, Int.reduceLT, Int.reduceLE, Int.reduceBEq, Int.reduceBNe, Int.reduceToNat, he]
            exact ⟨_, hs⟩
    clear hs ha hx hy hy2 he hX hask hnote
    rintro e h ⟨X', hs, he⟩
    have hX : FkOK X' := (fkP.1 hs.p1).choose_spec.1
    have hX1 := hX.2.2
    simp (disch := omega) only [go_sem, reduceCtorEq, ↓reduceIte, Nat.reduceEqDiff, Nat.reduceAdd, Nat.reduceSub, Nat.reduceMul, Nat.reduceLT, Nat.reduceLeDiff, Int.reduceEq, Int.reduceNe, Int.reduceLT, Int.reduceLE, Int.reduceBEq, Int.reduceBNe, Int.reduceToNat, he]
    refine call_use (fkAllR hs.p1) ?_
    rintro r h ⟨hr, hs⟩
    subst hr
    simp (disch := omega) only [go_sem, reduceCtorEq, ↓reduceIte, Nat.reduceEqDiff, Nat.reduceAdd, Nat.reduceSub, Nat.reduceMul, Nat.reduceLT, Nat.reduceLeDiff, Int.reduceEq, Int.reduceNe, Int.reduceLT, Int.reduceLE, Int.reduceBEq, Int.reduceBNe, Int.reduceToNat]
    obtain ⟨v, hs⟩ := bxS.1 hs.p1
    have hq := hs.at
    have hlv := hs.p1.els.len
    rw [List.length_map] at hlv
    simp (disch := omega) only [go_sem, reduceCtorEq, ↓reduceIte, Nat.reduceEqDiff, Nat.reduceAdd, Nat.reduceSub, Nat.reduceMul, Nat.reduceLT, Nat.reduceLeDiff, Int.reduceEq, Int.reduceNe, Int.reduceLT, Int.reduceLE, Int.reduceBEq, Int.reduceBNe, Int.reduceToNat, lenL_lst, he, hq, hlv]
    have hs : sat h (BxS 7 q (X'.map fkC) :: FkP p X' :: []) := bxS.2 ⟨v, hs⟩
    refine blk_join (Q := fun e h => sat h [BxS 7 q (X'.map fkC), FkP p X'] ∧ (e 0 = fcallsV cs ∧ e 3 = .ptr p 1 0 0 ∧ e 4 = .ptr q 1 0 0 ∧ e 5 = .int .i64 i)) ?_ ?_
    · refine run_up (N := X'.length) (fun k e h => sat h [BxS 7 q (X'.map fkC), FkP p X'] ∧ (e 0 = fcallsV cs ∧ e 3 = .ptr p 1 0 0 ∧ e 4 = .ptr q 1 0 0 ∧ e 5 = .int .i64 i ∧ e 11 = .lst (X'.map fkC) ∧ e 12 = .int .i64 k)) ⟨hs, by simp [Env.upd_apply, he]⟩ ?_
      clear hs he hq
      rintro k e h hk ⟨hs, he⟩
      have m1 : (k : Int) + 1 = ((k + 1 : Nat) : Int) := by omega
      have lenX : lenL (.lst (X'.map fkC)) = some (.int .i64 X'.length) := by simp [lenL]
      simp (disch := omega) only [go_sem, reduceCtorEq, ↓reduceIte, Nat.reduceEqDiff, Nat.reduceAdd, Nat.reduceSub, Nat.reduceMul, Nat.reduceLT, Nat.reduceLeDiff, Int.reduceEq, Int.reduceNe, Int.reduceLT, Int.reduceLE, Int.reduceBEq, Int.reduceBNe, Int.reduceToNat, he, m1, lenX]
      refine cnd_dec (fun h1 => ?_) (fun h1 => ?_)
      · have hk : k < X'.length := by omega
        have ez := ia_lst (f := fkC) (l := X') (i := k) (s := 7) (k := .i64) hk (fun _ => rfl)
        have hrow : (X'.map fkC)[k]? = some (fkC X'[k]) := by simp [hk]
        rcases bxS_cases hs with ⟨hn0, _⟩ | ⟨b, cap, hle, hs3⟩
        · exfalso
          have : X' = [] := by simpa using hn0
          subst this; simp at hk
        have hlen : (X'.map fkC).length = X'.length := by simp
        rw [hlen] at hs3
        have hq := hs3.at
        have hb := hs3.p1.at
        simp (disch := omega) only [go_sem, reduceCtorEq, ↓reduceIte, Nat.reduceEqDiff, Nat.reduceAdd, Nat.reduceSub, Nat.reduceMul, Nat.reduceLT, Nat.reduceLeDiff, Int.reduceEq, Int.reduceNe, Int.reduceLT, Int.reduceLE, Int.reduceBEq, Int.reduceBNe, Int.reduceToNat, he, ez, fkC, hq, hb, hrow, Int.toNat_natCast, m1]
        refine call_use (sameReply hs (x := X'[k].rep) (hX.2.1 _ (List.getElem_mem hk)).2.2) ?_
        rintro r h ⟨hr, hs⟩
        subst hr
        simp (disch := omega) only [go_sem, reduceCtorEq, ↓reduceIte, Nat.reduceEqDiff, Nat.reduceAdd, Nat.reduceSub, Nat.reduceMul, Nat.reduceLT, Nat.reduceLeDiff, Int.reduceEq, Int.reduceNe, Int.reduceLT, Int.reduceLE, Int.reduceBEq, Int.reduceBNe, Int.reduceToNat, he, m1]
        exact ⟨by omega, hs⟩
      · simp (disch := omega) only [go_sem, reduceCtorEq, ↓reduceIte, Nat.reduceEqDiff, Nat.reduceAdd, Nat.reduceSub, Nat.reduceMul, Nat.reduceLT, Nat.reduceLeDiff, Int.reduceEq, Int.reduceNe, Int.reduceLT, Int.reduceLE, Int.reduceBEq, Int.reduceBNe, Int.reduceToNat, he]
        exact hs
    clear hs he
    rintro e h ⟨hs, he⟩
    simp (disch := omega) only [go_sem, reduceCtorEq, ↓reduceIte, Nat.reduceEqDiff, Nat.reduceAdd, Nat.reduceSub, Nat.reduceMul, Nat.reduceLT, Nat.reduceLeDiff, Int.reduceEq, Int.reduceNe, Int.reduceLT, Int.reduceLE, Int.reduceBEq, Int.reduceBNe, Int.reduceToNat, he, m1]
    exact ⟨200 - (i + 1), by omega, i + 1, X', rfl, by omega, hs, rfl⟩
  · have hcase : (¬ (i : Int) < cs.length) ∨ ((i : Int) < cs.length ∧ ¬ (i : Int) < 200) := by omega
    rcases hcase with c1 | ⟨c1, c2⟩
    · simp (disch := omega) only [go_sem, reduceCtorEq, ↓reduceIte, Nat.reduceEqDiff, Nat.reduceAdd, Nat.reduceSub, Nat.reduceMul, Nat.reduceLT, Nat.reduceLeDiff, Int.reduceEq, Int.reduceNe, Int.reduceLT, Int.reduceLE, Int.reduceBEq, Int.reduceBNe, Int.reduceToNat, he, len2, c1]
    · simp (disch := omega) only [go_sem, reduceCtorEq, ↓reduceIte, Nat.reduceEqDiff, Nat.reduceAdd, Nat.reduceSub, Nat.reduceMul, Nat.reduceLT, Nat.reduceLeDiff, Int.reduceEq, Int.reduceNe, Int.reduceLT, Int.reduceLE, Int.reduceBEq, Int.reduceBNe, Int.reduceToNat, he, len2, c1, c2]
def tyKV : Ty := .fcons .str (.fcons .str (.fcons (.int .i64) (.fcons (.int .i64) (.fcons (.int .i64) (.fcons (.int .i64) .fnil)))))
def tyRes : Ty := .fcons (.int .i64) (.fcons (.sl (.st tyKV)) .fnil)
def tyRep : Ty := .fcons (.int .i64) (.fcons (.int .i64) (.fcons .bool (.fcons (.sl (.st tyRes)) (.fcons (.int .i64) .fnil))))
def tyFC : Ty := .fcons (.int .i64) (.fcons (.int .i64) (.fcons .bool (.fcons (.st tyRep) .fnil)))
theorem kv_of {cs : List AV} (h : tyKV.shape cs) : ∃ x : Kv, cs = kvC x := by
  obtain ⟨_, _, rfl, ⟨k, rfl, _⟩, _, _, rfl, ⟨v, rfl, _⟩, _, _, rfl, ⟨a, rfl, _⟩, _, _, rfl, ⟨b, rfl, _⟩, _, _, rfl, ⟨c, rfl, _⟩, _, _, rfl, ⟨d, rfl, _⟩, rfl⟩ := h
  exact ⟨⟨k, v, a, b, c, d⟩, rfl⟩
theorem res_of {M : Nat} {cs : List AV} (h : tyRes.shape cs) (hm : tyRes.small M cs) : ∃ x : Res, cs = resC x ∧ x.kvs.length * 64 ≤ M := by
  obtain ⟨_, _, rfl, ⟨k, rfl, _⟩, _, _, rfl, ⟨es, rfl, _, hes⟩, rfl⟩ := h
  obtain ⟨l, rfl, _⟩ := rows_of (f := kvC) (Q := fun _ => True) (P := (Ty.st tyKV).shape) (fun x hx => (kv_of hx).imp fun _ h => ⟨h, trivial⟩) hes
  refine ⟨⟨k, l⟩, rfl, ?_⟩
  have h2 := (hm.2.1 (l.map kvC) rfl).1
  have h3 : (Ty.st tyKV).bytes = 64 := rfl
  rw [h3, List.length_map] at h2
  exact h2
theorem rep_of {M : Nat} {cs : List AV} (h : tyRep.shape cs) (hm : tyRep.small M cs) : ∃ x : Rp, cs = rpC x ∧ ∀ q ∈ x.res, q.kvs.length * 64 ≤ M := by
  obtain ⟨_, _, rfl, ⟨k, rfl, _⟩, _, _, rfl, ⟨v, rfl, _⟩, _, _, rfl, ⟨a, rfl⟩, _, _, rfl, ⟨es, rfl, _, hes⟩, _, _, rfl, ⟨d, rfl, _⟩, rfl⟩ := h
  have h2 := (hm.2.2.2.1 es rfl).2
  obtain ⟨l, rfl, hl⟩ := rows_of (f := resC) (Q := fun x => x.kvs.length * 64 ≤ M) (P := fun x => (Ty.st tyRes).shape x ∧ (Ty.st tyRes).small M x) (fun x hx => res_of hx.1 hx.2) fun x hx => ⟨hes x hx, h2 x hx⟩
  exact ⟨⟨k, v, a, l, d⟩, rfl, hl⟩
theorem fc_of {M : Nat} {cs : List AV} (h : tyFC.shape cs) (hm : tyFC.small M cs) : ∃ x : FCall, cs = fcC x ∧ ∀ q ∈ x.rep.res, q.kvs.length * 64 ≤ M := by
  obtain ⟨_, _, rfl, ⟨k, rfl, _⟩, _, _, rfl, ⟨v, rfl, _⟩, _, _, rfl, ⟨a, rfl⟩, rs, _, rfl, hrs, rfl⟩ := h
  have h2 : tyRep.small M ((rs ++ []).take 5) := hm.2.2.2.1
  rw [List.append_nil] at h2
  have hl : rs.length = 5 := by
    have hrs : tyRep.shape rs := hrs
    obtain ⟨_, _, rfl, ⟨k, rfl, _⟩, _, _, rfl, ⟨v, rfl, _⟩, _, _, rfl, ⟨a, rfl⟩, _, _, rfl, ⟨es, rfl, _, hes⟩, _, _, rfl, ⟨d, rfl, _⟩, rfl⟩ := hrs
    rfl
  rw [List.take_of_length_le (by omega)] at h2
  obtain ⟨x, rfl, hx⟩ := rep_of hrs h2
  exact ⟨⟨k, v, a, x⟩, rfl, hx⟩
theorem folkPlays_law (vs : List AV) (h : Ty.ones [.sl (.st tyFC)] vs) (hm : Ty.smalls 140737488351232 [.sl (.st tyFC)] vs) : Triple Try.prog 3 vs Hp.emp (fun r _ => r = .bool true) := by
  obtain ⟨a, _, rfl, ha, h⟩ := ones_cons h
  obtain rfl := ones_nil h
  obtain ⟨es, rfl', hl, hes⟩ := ha
  cases rfl'
  have h2 := (hm.1 es rfl).2
  obtain ⟨l, rfl, hl2⟩ := rows_of (f := fcC) (Q := fun x => ∀ q ∈ x.rep.res, q.kvs.length * 64 ≤ 140737488351232) (P := fun x => (Ty.st tyFC).shape x ∧ (Ty.st tyFC).small 140737488351232 x) (fun x hx => fc_of hx.1 hx.2) fun x hx => ⟨hes x hx, h2 x hx⟩
  rw [List.length_map] at hl
  exact plays11 (Nat.le_trans hl (by decide)) fun c hc q hq => Nat.le_trans (hl2 c hc q hq) (by decide)
end Go.Proofs.Ytbaokmcljlfhnaa
