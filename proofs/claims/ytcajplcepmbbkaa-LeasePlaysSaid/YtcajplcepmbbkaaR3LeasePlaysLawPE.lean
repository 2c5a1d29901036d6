/- slices: pdqsort. -/
import Derived.Test.YtcajplcepmbbkaaR3LeasePlaysLawPD
set_option linter.unusedSimpArgs false
set_option linter.unusedVariables false
set_option maxRecDepth 10000
namespace Go.Proofs.Ytcajplcepmbbkaa
open Go.Hz Go.Sort

section
variable {h : Hp} {F : List Asr} {G : List AV → Prop} {lt : List AV → List AV → Bool}

theorem pdq_L {fc : Nat} {caps : List AV} (hf : okFn Try.prog fc = true) (hc : CmpT Try.prog true G lt fc caps) (E : GoodE 3 true G) (hO : SWO lt) : ∀ (m : Nat) (F : List Asr) (h : Hp) (d : Array (List AV)) (a bb lim b cap : Nat), bb - a ≤ m → sat h (pto b (.row 3 d.toList cap) :: F) → GA G d → a ≤ bb → bb ≤ d.size → d.size ≤ 100000000 → Below lt a bb d → lim ≤ 64 →
    Triple Try.prog 32 [.arr b 3 0 d.size cap, .int .i64 a, .int .i64 bb, .int .i64 lim, .fn fc caps] h (fun r h => ∃ R : Array (List AV), PermIn a bb d R ∧ SortedIn lt a bb R ∧ GA G R ∧ R.size = d.size ∧ sat h (pto b (.row 3 R.toList cap) :: F)) := by
  intro m
  induction m using Nat.strongRecOn with
  | _ m ih =>
  intro F h d a0 b0 lim0 b cap hm hs hg ha hb hsz hB hlim
  refine t32 (Nat.le_of_ble_eq_true rfl) ?_
  simp (disch := omega) only [F32, go_sem, reduceCtorEq, ↓reduceIte, Nat.reduceEqDiff, Nat.reduceAdd, Nat.reduceSub, Nat.reduceMul, Nat.reduceLT, Nat.reduceLeDiff, Int.reduceEq, Int.reduceNe, Int.reduceLT, Int.reduceLE, Int.reduceBEq, Int.reduceBNe, Int.reduceToNat]
  refine run_loopN (fun n e h => ∃ (a bb lim : Nat) (wb wp : Bool) (D : Array (List AV)), n = bb - a ∧ bb - a ≤ b0 - a0 ∧ a ≤ bb ∧ bb ≤ d.size ∧ lim ≤ 64 ∧ Below lt a bb D ∧ GA G D ∧ D.size = d.size ∧
    (∀ R, PermIn a bb D R → SortedIn lt a bb R → PermIn a0 b0 d R ∧ SortedIn lt a0 b0 R) ∧ sat h (pto b (.row 3 D.toList cap) :: F) ∧
    (e 0 = .arr b 3 0 d.size cap ∧ e 1 = .int .i64 a ∧ e 2 = .int .i64 bb ∧ e 3 = .int .i64 lim ∧ e 4 = .fn fc caps ∧ e 10 = .bool wb ∧ e 11 = .bool wp)) _ ⟨a0, b0, lim0, true, true, d, rfl, Nat.le_refl _, ha, hb, hlim, hB, hg, rfl, fun R h1 h2 => ⟨h1, h2⟩, hs, rfl, rfl, rfl, rfl, rfl, rfl, rfl⟩ ?_
  rintro n e h ⟨a, bb, lim, wb, wp, D, rfl, hl, hab, hbs, hlim, hB, hgD, hzD, hC, hs, he⟩
  have n0 : (bb : Int) - a = ((bb - a : Nat) : Int) := by omega
  simp (disch := omega) only [go_sem, reduceCtorEq, ↓reduceIte, Nat.reduceEqDiff, Nat.reduceAdd, Nat.reduceSub, Nat.reduceMul, Nat.reduceLT, Nat.reduceLeDiff, Int.reduceEq, Int.reduceNe, Int.reduceLT, Int.reduceLE, Int.reduceBEq, Int.reduceBNe, Int.reduceToNat, he, n0]
  refine cnd_dec (fun h12 => ?_) (fun h12 => ?_)
  · simp (disch := omega) only [go_sem, reduceCtorEq, ↓reduceIte, Nat.reduceEqDiff, Nat.reduceAdd, Nat.reduceSub, Nat.reduceMul, Nat.reduceLT, Nat.reduceLeDiff, Int.reduceEq, Int.reduceNe, Int.reduceLT, Int.reduceLE, Int.reduceBEq, Int.reduceBNe, Int.reduceToNat, he]
    refine call_use (by rw [← hzD]; exact ins_L hf hc E hs hgD hab (by omega) (by omega)) ?_
    rintro r h ⟨hg1, hz1, hs⟩
    obtain ⟨p1, p2⟩ := insertionSort_holds (lt := lt) hO D a bb hab (by omega)
    obtain ⟨c1, c2⟩ := hC _ p1 p2
    simp (disch := omega) only [go_sem, reduceCtorEq, ↓reduceIte, Nat.reduceEqDiff, Nat.reduceAdd, Nat.reduceSub, Nat.reduceMul, Nat.reduceLT, Nat.reduceLeDiff, Int.reduceEq, Int.reduceNe, Int.reduceLT, Int.reduceLE, Int.reduceBEq, Int.reduceBNe, Int.reduceToNat]
    exact ⟨_, c1, c2, hg1, by omega, hs⟩
  have hle : ((lim : Int) == 0) = decide (lim = 0) := by
    by_cases hq : lim = 0
    · subst hq; rfl
    · simp [hq]
  simp (disch := omega) only [go_sem, reduceCtorEq, ↓reduceIte, Nat.reduceEqDiff, Nat.reduceAdd, Nat.reduceSub, Nat.reduceMul, Nat.reduceLT, Nat.reduceLeDiff, Int.reduceEq, Int.reduceNe, Int.reduceLT, Int.reduceLE, Int.reduceBEq, Int.reduceBNe, Int.reduceToNat, he, hle]
  refine cnd_bool (fun h0 => ?_) (fun h0 => ?_)
  · simp (disch := omega) only [go_sem, reduceCtorEq, ↓reduceIte, Nat.reduceEqDiff, Nat.reduceAdd, Nat.reduceSub, Nat.reduceMul, Nat.reduceLT, Nat.reduceLeDiff, Int.reduceEq, Int.reduceNe, Int.reduceLT, Int.reduceLE, Int.reduceBEq, Int.reduceBNe, Int.reduceToNat, he]
    refine call_use (by rw [← hzD]; exact heap_L hf hc E hs hgD hab (by omega) (by omega)) ?_
    rintro r h ⟨hg1, hz1, hs⟩
    obtain ⟨p1, p2⟩ := heapSort_holds (lt := lt) hO D a bb hab (by omega)
    obtain ⟨c1, c2⟩ := hC _ p1 p2
    simp (disch := omega) only [go_sem, reduceCtorEq, ↓reduceIte, Nat.reduceEqDiff, Nat.reduceAdd, Nat.reduceSub, Nat.reduceMul, Nat.reduceLT, Nat.reduceLeDiff, Int.reduceEq, Int.reduceNe, Int.reduceLT, Int.reduceLE, Int.reduceBEq, Int.reduceBNe, Int.reduceToNat]
    exact ⟨_, c1, c2, hg1, by omega, hs⟩
  have h0 : lim ≠ 0 := by simpa using h0
  simp (disch := omega) only [go_sem, reduceCtorEq, ↓reduceIte, Nat.reduceEqDiff, Nat.reduceAdd, Nat.reduceSub, Nat.reduceMul, Nat.reduceLT, Nat.reduceLeDiff, Int.reduceEq, Int.reduceNe, Int.reduceLT, Int.reduceLE, Int.reduceBEq, Int.reduceBNe, Int.reduceToNat, he]
  refine cnd_join (Q := fun e h => ∃ (D1 : Array (List AV)) (lim1 : Nat), PermIn a bb D D1 ∧ GA G D1 ∧ D1.size = d.size ∧ lim1 ≤ 64 ∧ sat h (pto b (.row 3 D1.toList cap) :: F) ∧
    (e 0 = .arr b 3 0 d.size cap ∧ e 1 = .int .i64 a ∧ e 2 = .int .i64 bb ∧ e 3 = .int .i64 lim1 ∧ e 4 = .fn fc caps ∧ e 10 = .bool wb ∧ e 11 = .bool wp ∧ e 12 = .int .i64 (bb - a : Nat))) ?_ ?_
  · cases wb
    · have ml : (lim : Int) - 1 = ((lim - 1 : Nat) : Int) := by omega
      simp (disch := omega) only [go_sem, reduceCtorEq, ↓reduceIte, Nat.reduceEqDiff, Nat.reduceAdd, Nat.reduceSub, Nat.reduceMul, Nat.reduceLT, Nat.reduceLeDiff, Int.reduceEq, Int.reduceNe, Int.reduceLT, Int.reduceLE, Int.reduceBEq, Int.reduceBNe, Int.reduceToNat, he]
      refine call_use (by rw [← hzD]; exact brk_L E hs hgD (by omega) (by omega) (by omega)) ?_
      rintro r h ⟨D1, p1, hg1, hz1, hs⟩
      simp (disch := omega) only [go_sem, reduceCtorEq, ↓reduceIte, Nat.reduceEqDiff, Nat.reduceAdd, Nat.reduceSub, Nat.reduceMul, Nat.reduceLT, Nat.reduceLeDiff, Int.reduceEq, Int.reduceNe, Int.reduceLT, Int.reduceLE, Int.reduceBEq, Int.reduceBNe, Int.reduceToNat, he, ml]
      exact ⟨D1, lim - 1, p1, hg1, by omega, by omega, hs, rfl⟩
    · simp (disch := omega) only [go_sem, reduceCtorEq, ↓reduceIte, Nat.reduceEqDiff, Nat.reduceAdd, Nat.reduceSub, Nat.reduceMul, Nat.reduceLT, Nat.reduceLeDiff, Int.reduceEq, Int.reduceNe, Int.reduceLT, Int.reduceLE, Int.reduceBEq, Int.reduceBNe, Int.reduceToNat, he]
      exact ⟨D, lim, permIn_refl D a bb, hgD, hzD, hlim, hs, rfl⟩
  rintro e h ⟨D1, lim1, hp1, hg1, hz1, hlim1, hs, he⟩
  simp (disch := omega) only [go_sem, reduceCtorEq, ↓reduceIte, Nat.reduceEqDiff, Nat.reduceAdd, Nat.reduceSub, Nat.reduceMul, Nat.reduceLT, Nat.reduceLeDiff, Int.reduceEq, Int.reduceNe, Int.reduceLT, Int.reduceLE, Int.reduceBEq, Int.reduceBNe, Int.reduceToNat, he]
  refine call_use (by rw [← hz1]; exact piv_L hf hc E hs hg1 (by omega) (by omega) (by omega)) ?_
  rintro r h ⟨u, t, hr, hu1, hu2, ht, hs⟩
  subst hr
  simp (disch := omega) only [go_sem, reduceCtorEq, ↓reduceIte, Nat.reduceEqDiff, Nat.reduceAdd, Nat.reduceSub, Nat.reduceMul, Nat.reduceLT, Nat.reduceLeDiff, Int.reduceEq, Int.reduceNe, Int.reduceLT, Int.reduceLE, Int.reduceBEq, Int.reduceBNe, Int.reduceToNat, he]
  have hte : ((t : Int) == 2) = decide (t = 2) := by
    by_cases hq : t = 2
    · subst hq; rfl
    · simp [hq]; omega
  simp (disch := omega) only [go_sem, reduceCtorEq, ↓reduceIte, Nat.reduceEqDiff, Nat.reduceAdd, Nat.reduceSub, Nat.reduceMul, Nat.reduceLT, Nat.reduceLeDiff, Int.reduceEq, Int.reduceNe, Int.reduceLT, Int.reduceLE, Int.reduceBEq, Int.reduceBNe, Int.reduceToNat, hte]
  refine cnd_join (Q := fun e h => ∃ (D2 : Array (List AV)) (u t : Nat), PermIn a bb D D2 ∧ GA G D2 ∧ D2.size = d.size ∧ a ≤ u ∧ u < bb ∧ sat h (pto b (.row 3 D2.toList cap) :: F) ∧
    (e 0 = .arr b 3 0 d.size cap ∧ e 1 = .int .i64 a ∧ e 2 = .int .i64 bb ∧ e 3 = .int .i64 lim1 ∧ e 4 = .fn fc caps ∧ e 10 = .bool wb ∧ e 11 = .bool wp ∧ e 12 = .int .i64 (bb - a : Nat) ∧ e 13 = .int .i64 u ∧ e 14 = .int .i64 t)) ?_ ?_
  · refine cnd_bool (fun ht2 => ?_) (fun ht2 => ?_)
    · have q1 : (bb : Int) - 1 = ((bb - 1 : Nat) : Int) := by omega
      have q2 : (u : Int) - a = ((u - a : Nat) : Int) := by omega
      have q3 : ((bb - 1 : Nat) : Int) - ((u - a : Nat) : Int) = ((bb - 1 - (u - a) : Nat) : Int) := by omega
      simp (disch := omega) only [go_sem, reduceCtorEq, ↓reduceIte, Nat.reduceEqDiff, Nat.reduceAdd, Nat.reduceSub, Nat.reduceMul, Nat.reduceLT, Nat.reduceLeDiff, Int.reduceEq, Int.reduceNe, Int.reduceLT, Int.reduceLE, Int.reduceBEq, Int.reduceBNe, Int.reduceToNat, he]
      refine call_use (by rw [← hz1]; exact rev_L E hs hg1 (by omega) (by omega) (by omega)) ?_
      rintro r h ⟨p2, hg2, hz2, hs⟩
      simp (disch := omega) only [go_sem, reduceCtorEq, ↓reduceIte, Nat.reduceEqDiff, Nat.reduceAdd, Nat.reduceSub, Nat.reduceMul, Nat.reduceLT, Nat.reduceLeDiff, Int.reduceEq, Int.reduceNe, Int.reduceLT, Int.reduceLE, Int.reduceBEq, Int.reduceBNe, Int.reduceToNat, he, q1, q2, q3]
      exact ⟨_, bb - 1 - (u - a), 1, permIn_trans _ _ _ _ _ hp1 p2, hg2, by omega, by omega, by omega, hs, rfl, rfl⟩
    · simp (disch := omega) only [go_sem, reduceCtorEq, ↓reduceIte, Nat.reduceEqDiff, Nat.reduceAdd, Nat.reduceSub, Nat.reduceMul, Nat.reduceLT, Nat.reduceLeDiff, Int.reduceEq, Int.reduceNe, Int.reduceLT, Int.reduceLE, Int.reduceBEq, Int.reduceBNe, Int.reduceToNat, he]
      exact ⟨D1, u, t, hp1, hg1, hz1, by omega, by omega, hs, rfl, rfl⟩
  rintro e h ⟨D2, u, t, hp2, hg2, hz2, hu1, hu2, hs, he⟩
  simp (disch := omega) only [go_sem, reduceCtorEq, ↓reduceIte, Nat.reduceEqDiff, Nat.reduceAdd, Nat.reduceSub, Nat.reduceMul, Nat.reduceLT, Nat.reduceLeDiff, Int.reduceEq, Int.reduceNe, Int.reduceLT, Int.reduceLE, Int.reduceBEq, Int.reduceBNe, Int.reduceToNat, he]
  refine cnd_join (Q := fun e h => ∃ (q : Bool) (v : AV) (w : Bool), (if q = true then v else AV.bool false) = .bool w ∧ sat h (pto b (.row 3 D2.toList cap) :: F) ∧ (e 0 = .arr b 3 0 d.size cap ∧ e 1 = .int .i64 a ∧ e 2 = .int .i64 bb ∧ e 3 = .int .i64 lim1 ∧ e 4 = .fn fc caps ∧ e 10 = .bool wb ∧ e 11 = .bool wp ∧ e 12 = .int .i64 (bb - a : Nat) ∧ e 13 = .int .i64 u ∧ e 14 = .int .i64 t ∧ e 69 = .bool q ∧ e 70 = v)) ?_ ?_
  · cases wb
    · simp (disch := omega) only [go_sem, reduceCtorEq, ↓reduceIte, Nat.reduceEqDiff, Nat.reduceAdd, Nat.reduceSub, Nat.reduceMul, Nat.reduceLT, Nat.reduceLeDiff, Int.reduceEq, Int.reduceNe, Int.reduceLT, Int.reduceLE, Int.reduceBEq, Int.reduceBNe, Int.reduceToNat, he]
      exact ⟨_, _, false, rfl, hs, rfl, rfl⟩
    · simp (disch := omega) only [go_sem, reduceCtorEq, ↓reduceIte, Nat.reduceEqDiff, Nat.reduceAdd, Nat.reduceSub, Nat.reduceMul, Nat.reduceLT, Nat.reduceLeDiff, Int.reduceEq, Int.reduceNe, Int.reduceLT, Int.reduceLE, Int.reduceBEq, Int.reduceBNe, Int.reduceToNat, he]
      exact ⟨_, _, wp, rfl, hs, rfl, rfl⟩
  rintro e h ⟨q, v, w, hq, hs, he⟩
  simp (disch := omega) only [go_sem, reduceCtorEq, ↓reduceIte, Nat.reduceEqDiff, Nat.reduceAdd, Nat.reduceSub, Nat.reduceMul, Nat.reduceLT, Nat.reduceLeDiff, Int.reduceEq, Int.reduceNe, Int.reduceLT, Int.reduceLE, Int.reduceBEq, Int.reduceBNe, Int.reduceToNat, he, hq]
  refine cnd_join (Q := fun e h => ∃ (q : Bool) (v : AV) (w : Bool), (if q = true then v else AV.bool false) = .bool w ∧ sat h (pto b (.row 3 D2.toList cap) :: F) ∧ (e 0 = .arr b 3 0 d.size cap ∧ e 1 = .int .i64 a ∧ e 2 = .int .i64 bb ∧ e 3 = .int .i64 lim1 ∧ e 4 = .fn fc caps ∧ e 10 = .bool wb ∧ e 11 = .bool wp ∧ e 12 = .int .i64 (bb - a : Nat) ∧ e 13 = .int .i64 u ∧ e 72 = .bool q ∧ e 74 = v)) ?_ ?_
  · cases w
    · simp (disch := omega) only [go_sem, reduceCtorEq, ↓reduceIte, Nat.reduceEqDiff, Nat.reduceAdd, Nat.reduceSub, Nat.reduceMul, Nat.reduceLT, Nat.reduceLeDiff, Int.reduceEq, Int.reduceNe, Int.reduceLT, Int.reduceLE, Int.reduceBEq, Int.reduceBNe, Int.reduceToNat, he]
      exact ⟨_, _, false, rfl, hs, rfl, rfl⟩
    · simp (disch := omega) only [go_sem, reduceCtorEq, ↓reduceIte, Nat.reduceEqDiff, Nat.reduceAdd, Nat.reduceSub, Nat.reduceMul, Nat.reduceLT, Nat.reduceLeDiff, Int.reduceEq, Int.reduceNe, Int.reduceLT, Int.reduceLE, Int.reduceBEq, Int.reduceBNe, Int.reduceToNat, he]
      exact ⟨_, _, _, rfl, hs, rfl, rfl⟩
  rintro e h ⟨q2, v2, w2, hq2, hs, he⟩
  simp (disch := omega) only [go_sem, reduceCtorEq, ↓reduceIte, Nat.reduceEqDiff, Nat.reduceAdd, Nat.reduceSub, Nat.reduceMul, Nat.reduceLT, Nat.reduceLeDiff, Int.reduceEq, Int.reduceNe, Int.reduceLT, Int.reduceLE, Int.reduceBEq, Int.reduceBNe, Int.reduceToNat, he, hq2]
  have hB2 : Below lt a bb D2 := Below.permA permIn_all (by omega) hB hp2
  refine cnd_join (Q := fun e h => ∃ D3 : Array (List AV), PermIn a bb D D3 ∧ GA G D3 ∧ D3.size = d.size ∧ sat h (pto b (.row 3 D3.toList cap) :: F) ∧ (e 0 = .arr b 3 0 d.size cap ∧ e 1 = .int .i64 a ∧ e 2 = .int .i64 bb ∧ e 3 = .int .i64 lim1 ∧ e 4 = .fn fc caps ∧ e 10 = .bool wb ∧ e 11 = .bool wp ∧ e 12 = .int .i64 (bb - a : Nat) ∧ e 13 = .int .i64 u)) ?_ ?_
  · cases w2
    · simp (disch := omega) only [go_sem, reduceCtorEq, ↓reduceIte, Nat.reduceEqDiff, Nat.reduceAdd, Nat.reduceSub, Nat.reduceMul, Nat.reduceLT, Nat.reduceLeDiff, Int.reduceEq, Int.reduceNe, Int.reduceLT, Int.reduceLE, Int.reduceBEq, Int.reduceBNe, Int.reduceToNat, he]
      exact ⟨D2, hp2, hg2, hz2, hs⟩
    · simp (disch := omega) only [go_sem, reduceCtorEq, ↓reduceIte, Nat.reduceEqDiff, Nat.reduceAdd, Nat.reduceSub, Nat.reduceMul, Nat.reduceLT, Nat.reduceLeDiff, Int.reduceEq, Int.reduceNe, Int.reduceLT, Int.reduceLE, Int.reduceBEq, Int.reduceBNe, Int.reduceToNat, he]
      refine call_use (by rw [← hz2]; exact par_L hf hc E hs hg2 (by omega) (by omega) (by omega)) ?_
      rintro r h ⟨hr, hg3, hz3, hs⟩
      subst hr
      obtain ⟨p1, p2⟩ := partialInsertionSort_holds (lt := lt) hO D2 a bb (by omega) (by omega) hB2
      have p3 := permIn_trans _ _ _ _ _ hp2 p1
      simp (disch := omega) only [go_sem, reduceCtorEq, ↓reduceIte, Nat.reduceEqDiff, Nat.reduceAdd, Nat.reduceSub, Nat.reduceMul, Nat.reduceLT, Nat.reduceLeDiff, Int.reduceEq, Int.reduceNe, Int.reduceLT, Int.reduceLE, Int.reduceBEq, Int.reduceBNe, Int.reduceToNat, he]
      refine cnd_bool (fun hd => ?_) (fun hd => ?_)
      · obtain ⟨c1, c2⟩ := hC _ p3 (p2 hd)
        simp (disch := omega) only [go_sem, reduceCtorEq, ↓reduceIte, Nat.reduceEqDiff, Nat.reduceAdd, Nat.reduceSub, Nat.reduceMul, Nat.reduceLT, Nat.reduceLeDiff, Int.reduceEq, Int.reduceNe, Int.reduceLT, Int.reduceLE, Int.reduceBEq, Int.reduceBNe, Int.reduceToNat, he]
        exact ⟨_, c1, c2, hg3, by omega, hs⟩
      · simp (disch := omega) only [go_sem, reduceCtorEq, ↓reduceIte, Nat.reduceEqDiff, Nat.reduceAdd, Nat.reduceSub, Nat.reduceMul, Nat.reduceLT, Nat.reduceLeDiff, Int.reduceEq, Int.reduceNe, Int.reduceLT, Int.reduceLE, Int.reduceBEq, Int.reduceBNe, Int.reduceToNat, he]
        exact ⟨_, p3, hg3, by omega, hs⟩
  rintro e h ⟨D3, hp3, hg3, hz3, hs, he⟩
  simp (disch := omega) only [go_sem, reduceCtorEq, ↓reduceIte, Nat.reduceEqDiff, Nat.reduceAdd, Nat.reduceSub, Nat.reduceMul, Nat.reduceLT, Nat.reduceLeDiff, Int.reduceEq, Int.reduceNe, Int.reduceLT, Int.reduceLE, Int.reduceBEq, Int.reduceBNe, Int.reduceToNat, he]
  refine cnd_join (Q := fun e h => ∃ (q : Bool) (v : AV) (w : Bool), (if q = true then v else AV.bool false) = .bool w ∧ w = (decide (0 < a) && !lt D3[a - 1]! D3[u]!) ∧ sat h (pto b (.row 3 D3.toList cap) :: F) ∧ (e 0 = .arr b 3 0 d.size cap ∧ e 1 = .int .i64 a ∧ e 2 = .int .i64 bb ∧ e 3 = .int .i64 lim1 ∧ e 4 = .fn fc caps ∧ e 10 = .bool wb ∧ e 11 = .bool wp ∧ e 12 = .int .i64 (bb - a : Nat) ∧ e 13 = .int .i64 u ∧ e 83 = .bool q ∧ e 96 = v)) ?_ ?_
  · refine cnd_dec (fun ha0 => ?_) (fun ha0 => ?_)
    · have m1 : (a : Int) - 1 = ((a - 1 : Nat) : Int) := by omega
      have r1 := rd_c E hg3 (i := a - 1) (by omega)
      have r2 := rd_c E hg3 (i := u) (by omega)
      simp (disch := omega) only [go_sem, reduceCtorEq, ↓reduceIte, Nat.reduceEqDiff, Nat.reduceAdd, Nat.reduceSub, Nat.reduceMul, Nat.reduceLT, Nat.reduceLeDiff, Int.reduceEq, Int.reduceNe, Int.reduceLT, Int.reduceLE, Int.reduceBEq, Int.reduceBNe, Int.reduceToNat, he, hs.at, r1, r2, m1]
      refine callv_use hf (hc _ _ _ _ (hg3 _ (by omega)) (hg3 _ (by omega)) hs) ?_
      rintro r h ⟨c, hr, hcl, hs⟩
      subst hr
      simp (disch := omega) only [go_sem, reduceCtorEq, ↓reduceIte, Nat.reduceEqDiff, Nat.reduceAdd, Nat.reduceSub, Nat.reduceMul, Nat.reduceLT, Nat.reduceLeDiff, Int.reduceEq, Int.reduceNe, Int.reduceLT, Int.reduceLE, Int.reduceBEq, Int.reduceBNe, Int.reduceToNat, he, ha0, hcl]
      exact ⟨_, _, _, rfl, by rw [decide_eq_true (by omega), Bool.true_and], hs, rfl, rfl⟩
    · simp (disch := omega) only [go_sem, reduceCtorEq, ↓reduceIte, Nat.reduceEqDiff, Nat.reduceAdd, Nat.reduceSub, Nat.reduceMul, Nat.reduceLT, Nat.reduceLeDiff, Int.reduceEq, Int.reduceNe, Int.reduceLT, Int.reduceLE, Int.reduceBEq, Int.reduceBNe, Int.reduceToNat, he, ha0]
      exact ⟨_, _, _, rfl, by rw [decide_eq_false (by omega), Bool.false_and], hs, rfl, rfl⟩
  rintro e h ⟨q3, v3, w3, hq3, hw3, hs, he⟩
  simp (disch := omega) only [go_sem, reduceCtorEq, ↓reduceIte, Nat.reduceEqDiff, Nat.reduceAdd, Nat.reduceSub, Nat.reduceMul, Nat.reduceLT, Nat.reduceLeDiff, Int.reduceEq, Int.reduceNe, Int.reduceLT, Int.reduceLE, Int.reduceBEq, Int.reduceBNe, Int.reduceToNat, he, hq3]
  have hB3 : Below lt a bb D3 := Below.permA permIn_all (by omega) hB hp3
  have hC3 : ∀ R, PermIn a bb D3 R → SortedIn lt a bb R → PermIn a0 b0 d R ∧ SortedIn lt a0 b0 R := fun R h1 h2 => hC R (permIn_trans _ _ _ _ _ hp3 h1) h2
  refine cnd_bool (fun hw => ?_) (fun hw => ?_)
  · subst hw
    simp only [Bool.true_eq, Bool.and_eq_true, decide_eq_true_eq, Bool.not_eq_true'] at hw3
    simp (disch := omega) only [go_sem, reduceCtorEq, ↓reduceIte, Nat.reduceEqDiff, Nat.reduceAdd, Nat.reduceSub, Nat.reduceMul, Nat.reduceLT, Nat.reduceLeDiff, Int.reduceEq, Int.reduceNe, Int.reduceLT, Int.reduceLE, Int.reduceBEq, Int.reduceBNe, Int.reduceToNat, he]
    refine call_use (by rw [← hz3]; exact peq_L hf hc E hs hg3 hu1 hu2 (by omega) (by omega)) ?_
    rintro r h ⟨hr, hg4, hz4, hs⟩
    obtain ⟨mid, d4, hx⟩ : ∃ mid d4, partitionEqual lt D3 a bb u = (mid, d4) := ⟨_, _, rfl⟩
    rw [hx] at hr hg4 hz4 hs
    simp only at hr hg4 hz4 hs
    subst hr
    obtain ⟨e1, e2, e3, e4, e5⟩ := round_eq hO (partitionEqual_holds lt) hw3.1 hu1 hu2 (by omega) hB3 hw3.2 hx
    simp (disch := omega) only [go_sem, reduceCtorEq, ↓reduceIte, Nat.reduceEqDiff, Nat.reduceAdd, Nat.reduceSub, Nat.reduceMul, Nat.reduceLT, Nat.reduceLeDiff, Int.reduceEq, Int.reduceNe, Int.reduceLT, Int.reduceLE, Int.reduceBEq, Int.reduceBNe, Int.reduceToNat, he]
    exact ⟨bb - mid, by omega, mid, bb, lim1, wb, wp, d4, rfl, by omega, by omega, by omega, hlim1, e4, hg4, by omega, fun R h1 h2 => hC3 R (e5 R h1 h2).1 (e5 R h1 h2).2, hs, rfl, rfl, rfl, rfl, rfl⟩
  · simp (disch := omega) only [go_sem, reduceCtorEq, ↓reduceIte, Nat.reduceEqDiff, Nat.reduceAdd, Nat.reduceSub, Nat.reduceMul, Nat.reduceLT, Nat.reduceLeDiff, Int.reduceEq, Int.reduceNe, Int.reduceLT, Int.reduceLE, Int.reduceBEq, Int.reduceBNe, Int.reduceToNat, he]
    refine call_use (by rw [← hz3]; exact prt_L hf hc E hs hg3 hu1 hu2 (by omega) (by omega)) ?_
    rintro r h ⟨hr, hg4, hz4, hs⟩
    obtain ⟨mid, ap, d4, hx⟩ : ∃ mid ap d4, partition lt D3 a bb u = (mid, ap, d4) := ⟨_, _, _, rfl⟩
    rw [hx] at hr hg4 hz4 hs
    simp only at hr hg4 hz4 hs
    subst hr
    obtain ⟨e1, e2, e3, eL, eR, c1, c2⟩ := round_part hO (partition_holds lt) hu1 hu2 (by omega) hB3 hx
    have q1 : (mid : Int) - a = ((mid - a : Nat) : Int) := by omega
    have q2 : (bb : Int) - mid = ((bb - mid : Nat) : Int) := by omega
    have q3 : (mid : Int) + 1 = ((mid + 1 : Nat) : Int) := by omega
    have q4 : ((bb - a : Nat) : Int).tdiv 8 = (((bb - a) / 8 : Nat) : Int) := by rw [Int.tdiv_eq_ediv_of_nonneg (by omega)]; omega
    simp (disch := omega) only [go_sem, reduceCtorEq, ↓reduceIte, Nat.reduceEqDiff, Nat.reduceAdd, Nat.reduceSub, Nat.reduceMul, Nat.reduceLT, Nat.reduceLeDiff, Int.reduceEq, Int.reduceNe, Int.reduceLT, Int.reduceLE, Int.reduceBEq, Int.reduceBNe, Int.reduceToNat, he, q1, q2, q4]
    refine cnd_dec (fun hlt => ?_) (fun hge => ?_)
    · simp (disch := omega) only [go_sem, reduceCtorEq, ↓reduceIte, Nat.reduceEqDiff, Nat.reduceAdd, Nat.reduceSub, Nat.reduceMul, Nat.reduceLT, Nat.reduceLeDiff, Int.reduceEq, Int.reduceNe, Int.reduceLT, Int.reduceLE, Int.reduceBEq, Int.reduceBNe, Int.reduceToNat, he, q3]
      refine call_use (by rw [← hz3, ← e3]; exact ih (mid - a) (by omega) F _ d4 a mid lim1 b cap (Nat.le_refl _) hs hg4 e1 (by omega) (by omega) eL hlim1) ?_
      rintro r h ⟨R1, p1, s1, hg5, hz5, hs⟩
      obtain ⟨f1, f2⟩ := c1 R1 p1 s1
      simp (disch := omega) only [go_sem, reduceCtorEq, ↓reduceIte, Nat.reduceEqDiff, Nat.reduceAdd, Nat.reduceSub, Nat.reduceMul, Nat.reduceLT, Nat.reduceLeDiff, Int.reduceEq, Int.reduceNe, Int.reduceLT, Int.reduceLE, Int.reduceBEq, Int.reduceBNe, Int.reduceToNat, he, q3]
      exact ⟨bb - (mid + 1), by omega, mid + 1, bb, lim1, _, ap, R1, rfl, by omega, by omega, by omega, hlim1, f1, hg5, by omega, fun R h1 h2 => hC3 R (f2 R h1 h2).1 (f2 R h1 h2).2, hs, rfl, rfl, rfl, rfl, rfl⟩
    · simp (disch := omega) only [go_sem, reduceCtorEq, ↓reduceIte, Nat.reduceEqDiff, Nat.reduceAdd, Nat.reduceSub, Nat.reduceMul, Nat.reduceLT, Nat.reduceLeDiff, Int.reduceEq, Int.reduceNe, Int.reduceLT, Int.reduceLE, Int.reduceBEq, Int.reduceBNe, Int.reduceToNat, he, q3]
      refine call_use (by rw [← hz3, ← e3]; exact ih (bb - (mid + 1)) (by omega) F _ d4 (mid + 1) bb lim1 b cap (Nat.le_refl _) hs hg4 (by omega) (by omega) (by omega) eR hlim1) ?_
      rintro r h ⟨R1, p1, s1, hg5, hz5, hs⟩
      obtain ⟨f1, f2⟩ := c2 R1 p1 s1
      simp (disch := omega) only [go_sem, reduceCtorEq, ↓reduceIte, Nat.reduceEqDiff, Nat.reduceAdd, Nat.reduceSub, Nat.reduceMul, Nat.reduceLT, Nat.reduceLeDiff, Int.reduceEq, Int.reduceNe, Int.reduceLT, Int.reduceLE, Int.reduceBEq, Int.reduceBNe, Int.reduceToNat, he, q3]
      exact ⟨mid - a, by omega, a, mid, lim1, _, ap, R1, rfl, by omega, by omega, by omega, hlim1, f1, hg5, by omega, fun R h1 h2 => hC3 R (f2 R h1 h2).1 (f2 R h1 h2).2, hs, rfl, rfl, rfl, rfl, rfl⟩
end
end Go.Proofs.Ytcajplcepmbbkaa
/- slices.SortFunc; cmp.Compare. -/
set_option linter.unusedSimpArgs false
set_option linter.unusedVariables false
set_option maxRecDepth 10000
namespace Go.Proofs.Ytcajplcepmbbkaa
open Go.Hz Go.Sort

section
variable {h : Hp} {F : List Asr} {G : List AV → Prop} {lt : List AV → List AV → Bool}


theorem srt_L {fc : Nat} {caps : List AV} (hf : okFn Try.prog fc = true) (hc : CmpT Try.prog true G lt fc caps) (E : GoodE 3 true G) (hO : SWO lt) {d : Array (List AV)} {b cap : Nat} (hs : sat h (pto b (.row 3 d.toList cap) :: F)) (hg : GA G d) (hsz : d.size ≤ 100000000) :
    Triple Try.prog 28 [.arr b 3 0 d.size cap, .fn fc caps] h (fun r h => ∃ R : Array (List AV), PermIn 0 d.size d R ∧ SortedIn lt 0 d.size R ∧ GA G R ∧ R.size = d.size ∧ sat h (pto b (.row 3 R.toList cap) :: F)) := by
  have w1 := wu64 (n := d.size) (by omega)
  refine t28 (Nat.le_of_ble_eq_true rfl) ?_
  simp (disch := omega) only [F28, w1, go_sem, reduceCtorEq, ↓reduceIte, Nat.reduceEqDiff, Nat.reduceAdd, Nat.reduceSub, Nat.reduceMul, Nat.reduceLT, Nat.reduceLeDiff, Int.reduceEq, Int.reduceNe, Int.reduceLT, Int.reduceLE, Int.reduceBEq, Int.reduceBNe, Int.reduceToNat]
  refine call_use (len0 hs (by omega)) ?_
  rintro r h ⟨t, hr, h1, h2, h3, hs⟩
  subst hr
  simp (disch := omega) only [go_sem, reduceCtorEq, ↓reduceIte, Nat.reduceEqDiff, Nat.reduceAdd, Nat.reduceSub, Nat.reduceMul, Nat.reduceLT, Nat.reduceLeDiff, Int.reduceEq, Int.reduceNe, Int.reduceLT, Int.reduceLE, Int.reduceBEq, Int.reduceBNe, Int.reduceToNat]
  refine call_use (pdq_L hf hc E hO _ F _ d 0 d.size t b cap (Nat.le_refl _) hs hg (Nat.zero_le _) (Nat.le_refl _) hsz (.inl rfl) (by omega)) ?_
  rintro r h ⟨R, p1, p2, p3, p4, hs⟩
  simp (disch := omega) only [go_sem, reduceCtorEq, ↓reduceIte, Nat.reduceEqDiff, Nat.reduceAdd, Nat.reduceSub, Nat.reduceMul, Nat.reduceLT, Nat.reduceLeDiff, Int.reduceEq, Int.reduceNe, Int.reduceLT, Int.reduceLE, Int.reduceBEq, Int.reduceBNe, Int.reduceToNat]
  exact ⟨R, p1, p2, p3, p4, hs⟩
theorem nan_int {a : Int} (hs : sat h F) : Triple Try.prog 30 [.int .i64 a] h (fun r h => r = .bool false ∧ sat h F) := by
  refine t30 (Nat.le_of_ble_eq_true rfl) ?_
  simp (disch := omega) only [F30, go_sem, reduceCtorEq, ↓reduceIte, Nat.reduceEqDiff, Nat.reduceAdd, Nat.reduceSub, Nat.reduceMul, Nat.reduceLT, Nat.reduceLeDiff, Int.reduceEq, Int.reduceNe, Int.reduceLT, Int.reduceLE, Int.reduceBEq, Int.reduceBNe, Int.reduceToNat]
  exact hs
theorem cmp_int {a b : Int} (hs : sat h F) : Triple Try.prog 25 [.int .i64 a, .int .i64 b] h (fun r h => ∃ c : Int, r = .int .i64 c ∧ decide (c < 0) = decide (a < b) ∧ sat h F) := by
  refine t25 (Nat.le_of_ble_eq_true rfl) ?_
  simp (disch := omega) only [F25, go_sem, reduceCtorEq, ↓reduceIte, Nat.reduceEqDiff, Nat.reduceAdd, Nat.reduceSub, Nat.reduceMul, Nat.reduceLT, Nat.reduceLeDiff, Int.reduceEq, Int.reduceNe, Int.reduceLT, Int.reduceLE, Int.reduceBEq, Int.reduceBNe, Int.reduceToNat]
  refine call_use (nan_int hs) ?_
  rintro r h ⟨hr, hs⟩
  subst hr
  simp (disch := omega) only [go_sem, reduceCtorEq, ↓reduceIte, Nat.reduceEqDiff, Nat.reduceAdd, Nat.reduceSub, Nat.reduceMul, Nat.reduceLT, Nat.reduceLeDiff, Int.reduceEq, Int.reduceNe, Int.reduceLT, Int.reduceLE, Int.reduceBEq, Int.reduceBNe, Int.reduceToNat]
  refine call_use (nan_int hs) ?_
  rintro r h ⟨hr, hs⟩
  subst hr
  simp (disch := omega) only [go_sem, reduceCtorEq, ↓reduceIte, Nat.reduceEqDiff, Nat.reduceAdd, Nat.reduceSub, Nat.reduceMul, Nat.reduceLT, Nat.reduceLeDiff, Int.reduceEq, Int.reduceNe, Int.reduceLT, Int.reduceLE, Int.reduceBEq, Int.reduceBNe, Int.reduceToNat]
  refine cnd_dec (fun h1 => ?_) (fun h1 => ?_)
  · simp (disch := omega) only [go_sem, reduceCtorEq, ↓reduceIte, Nat.reduceEqDiff, Nat.reduceAdd, Nat.reduceSub, Nat.reduceMul, Nat.reduceLT, Nat.reduceLeDiff, Int.reduceEq, Int.reduceNe, Int.reduceLT, Int.reduceLE, Int.reduceBEq, Int.reduceBNe, Int.reduceToNat]
    exact ⟨-1, rfl, by simp [h1], hs⟩
  · simp (disch := omega) only [go_sem, reduceCtorEq, ↓reduceIte, Nat.reduceEqDiff, Nat.reduceAdd, Nat.reduceSub, Nat.reduceMul, Nat.reduceLT, Nat.reduceLeDiff, Int.reduceEq, Int.reduceNe, Int.reduceLT, Int.reduceLE, Int.reduceBEq, Int.reduceBNe, Int.reduceToNat]
    refine cnd_dec (fun h2 => ?_) (fun h2 => ?_)
    · simp (disch := omega) only [go_sem, reduceCtorEq, ↓reduceIte, Nat.reduceEqDiff, Nat.reduceAdd, Nat.reduceSub, Nat.reduceMul, Nat.reduceLT, Nat.reduceLeDiff, Int.reduceEq, Int.reduceNe, Int.reduceLT, Int.reduceLE, Int.reduceBEq, Int.reduceBNe, Int.reduceToNat]
      exact ⟨1, rfl, by simp; omega, hs⟩
    · simp (disch := omega) only [go_sem, reduceCtorEq, ↓reduceIte, Nat.reduceEqDiff, Nat.reduceAdd, Nat.reduceSub, Nat.reduceMul, Nat.reduceLT, Nat.reduceLeDiff, Int.reduceEq, Int.reduceNe, Int.reduceLT, Int.reduceLE, Int.reduceBEq, Int.reduceBNe, Int.reduceToNat]
      exact ⟨0, rfl, by simp; omega, hs⟩
end
end Go.Proofs.Ytcajplcepmbbkaa
/- The rounds of the loops over functions, in the form of the logic. -/
set_option maxRecDepth 100000
namespace Go.Proofs.Ytcajplcepmbbkaa
open Go.Hz Go

def G31a : Code := (.region 2 (.mk [(.mk (.some 5) (.alloc 31) 0 "iter.go:51" (.mk []) none), (.mk none (.store 31 (.tmp 5) (.tmp 7)) 0 "iter.go:51" (.mk [(.mk 0 .data), (.mk 0 .phase)]) none)]) false)
def F31a : ACode := (.reg [((.mk (.some 5) (.alloc [(.int .i64 0), (.int .i64 0), (.int .i64 0)]) none), []), ((.mk none (.st 3 (.tm 5) (.tm 7)) none), [])])
theorem c31a : compC Try.prog 13 false G31a = some F31a := by kernel_rfl
def G31b : Code := (.block 1 (.region 3 (.mk [(.mk (.some 8) (.load 28 (.tmp 2)) 28 "iter.go:52" (.mk []) none), (.mk (.some 9) (.load 31 (.tmp 5)) 31 "iter.go:52" (.mk []) none), (.mk (.some 10) (.buildSlice 28 1 (.mk [(0, (.tmp 9))])) 28 "iter.go:52" (.mk [(.mk 1 .data)]) none), (.mk (.some 11) (.call (.mk (.builtin .append) (.mk [(.tmp 8), (.tmp 10)]) (.mk [28, 28]))) 28 "iter.go:52" (.mk [(.mk 0 .data), (.mk 2 .data)]) none), (.mk none (.store 28 (.tmp 2) (.tmp 11)) 0 "iter.go:52" (.mk [(.mk 3 .data), (.mk 3 .chain), (.mk 0 .phase), (.mk 1 .phase), (.mk 2 .phase), (.mk 3 .phase)]) none)]) false))
def F31b : ACode := (.block 1 (.reg [((.mk (.some 8) (.ld 1 false (.tm 2)) none), []), ((.mk (.some 9) (.ld 3 true (.tm 5)) none), []), ((.mk (.some 10) (.bsl [(.int .i64 0), (.int .i64 0), (.int .i64 0)] 1 [(0, (.tm 9))]) none), []), ((.mk (.some 11) (.app 3 24 (.tm 8) (.tm 10)) none), []), ((.mk none (.st 1 (.tm 2) (.tm 11)) none), [])]))
theorem c31b : compC Try.prog 13 false G31b = some F31b := by kernel_rfl
end Go.Proofs.Ytcajplcepmbbkaa
/- maps.Values, slices.Collect, slices.SortedFunc: a loop over a function. -/
set_option linter.unusedSimpArgs false
set_option linter.unusedVariables false
set_option maxRecDepth 10000
namespace Go.Proofs.Ytcajplcepmbbkaa
open Go.Hz Go.Sort

section
variable {h : Hp} {F : List Asr}

/-- A slice of one's own, its header in a cell. -/
def BxOw (z s : Nat) (es : List (List AV)) : Asr := fun h => ∃ v, sat h [pto s (.row 1 [[v]] 1), Ow z v es]
theorem bxow {z s : Nat} {es : List (List AV)} : sat h (BxOw z s es :: F) ↔ ∃ v, sat h (pto s (.row 1 [[v]] 1) :: Ow z v es :: F) := by
  unfold BxOw
  rw [sat_ex]
  exact exists_congr fun v => sat_sl (l1 := [pto s (.row 1 [[v]] 1), Ow z v es]) (l := F)

theorem val1_L {l n bx mb clk : Nat} {e0 : Env} {p : Nat} {asg bd : Code} {kvs : List (AV × AV × Nat)} (J : List AV → Asr) (hp : p < n)
    (hs : sat h (pto l (.lp n e0 [p] asg bd) :: pto bx (.row 1 [[.map mb]] 1) :: pto mb (.mp kvs clk) :: J [] :: F))
    (hy : ∀ (pre : List AV) (x : AV) (L : List Asr) (h : Hp), x ∈ kvs.map (·.2.1) → pre.length < kvs.length → sat h (J pre :: L) → CodeT Try.prog n asg (putPs e0 [p] [x]) h fun e1 h1 => CodeT Try.prog n bd e1 h1 fun _ h2 => sat h2 (J (pre ++ [x]) :: L))
    (hc : ∀ x ∈ kvs, x.2.2 < clk) (hn : (kvs.map (·.2.2)).Nodup) (hz : ∀ x ∈ kvs, ∃ c, x.2.1 = .agg c ∧ c.length = 3 ∧ c.all AV.isAtom = true) :
    Triple Try.prog 29 [.yl l, .ptr bx 1 0 0] h (fun r h => ∃ xs : List AV, xs.Perm (kvs.map (·.2.1)) ∧ sat h (pto l (.lp n e0 [p] asg bd) :: pto bx (.row 1 [[.map mb]] 1) :: pto mb (.mp kvs clk) :: J xs :: F)) := by
  have hb := hs.p1.at
  refine t29 (Nat.le_of_ble_eq_true rfl) ?_
  simp (disch := omega) only [F29, hb, go_sem, reduceCtorEq, ↓reduceIte, Nat.reduceEqDiff, Nat.reduceAdd, Nat.reduceSub, Nat.reduceMul, Nat.reduceLT, Nat.reduceLeDiff, Int.reduceEq, Int.reduceNe, Int.reduceLT, Int.reduceLE, Int.reduceBEq, Int.reduceBNe, Int.reduceToNat]
  refine rng_use hs.p2 fun q h hs => ?_
  simp (disch := omega) only [go_sem, reduceCtorEq, ↓reduceIte, Nat.reduceEqDiff, Nat.reduceAdd, Nat.reduceSub, Nat.reduceMul, Nat.reduceLT, Nat.reduceLeDiff, Int.reduceEq, Int.reduceNe, Int.reduceLT, Int.reduceLE, Int.reduceBEq, Int.reduceBNe, Int.reduceToNat]
  refine run_loopN (fun k e h => ∃ es rest, k = rest.length ∧ (es ++ rest).Perm kvs ∧ sat h (pto q (.itr (some mb) clk (es.map (·.2.2)) clk) :: pto mb (.mp kvs clk) :: pto l (.lp n e0 [p] asg bd) :: pto bx (.row 1 [[.map mb]] 1) :: J (es.map (·.2.1)) :: F) ∧
    (e 0 = .yl l ∧ e 6 = .ptr q 1 0 0)) kvs.length ⟨[], kvs, rfl, .refl _, hs, rfl, rfl⟩ ?_
  rintro k e h ⟨es, rest, rfl, hpm, hs, he⟩
  simp (disch := omega) only [go_sem, reduceCtorEq, ↓reduceIte, Nat.reduceEqDiff, Nat.reduceAdd, Nat.reduceSub, Nat.reduceMul, Nat.reduceLT, Nat.reduceLeDiff, Int.reduceEq, Int.reduceNe, Int.reduceLT, Int.reduceLE, Int.reduceBEq, Int.reduceBNe, Int.reduceToNat, he]
  refine nxt_use hs (Nat.le_refl _) hc (fun x hx hns h hs => ?_) (fun hall => ?_)
  · obtain ⟨c, hx1, hx2, hx3⟩ := hz x hx
    have hx4 : c.take 3 = c := by rw [← hx2]; exact List.take_length
    obtain ⟨rest', r1, r2⟩ := rng_step hpm hx hns
    have hen := ent_at hs hx hn
    simp (disch := omega) only [go_sem, reduceCtorEq, ↓reduceIte, Nat.reduceEqDiff, Nat.reduceAdd, Nat.reduceSub, Nat.reduceMul, Nat.reduceLT, Nat.reduceLeDiff, Int.reduceEq, Int.reduceNe, Int.reduceLT, Int.reduceLE, Int.reduceBEq, Int.reduceBNe, Int.reduceToNat, he]
    rw [hen]
    simp (disch := omega) only [go_sem, reduceCtorEq, ↓reduceIte, Nat.reduceEqDiff, Nat.reduceAdd, Nat.reduceSub, Nat.reduceMul, Nat.reduceLT, Nat.reduceLeDiff, Int.reduceEq, Int.reduceNe, Int.reduceLT, Int.reduceLE, Int.reduceBEq, Int.reduceBNe, Int.reduceToNat, hx1]
    refine new_opq hs fun a h hs => ?_
    have ha := hs.at
    have hs2 := hs.set (o' := .row 3 [c] 1)
    have ha2 := hs2.at
    simp (disch := omega) only [go_sem, reduceCtorEq, ↓reduceIte, Nat.reduceEqDiff, Nat.reduceAdd, Nat.reduceSub, Nat.reduceMul, Nat.reduceLT, Nat.reduceLeDiff, Int.reduceEq, Int.reduceNe, Int.reduceLT, Int.reduceLE, Int.reduceBEq, Int.reduceBNe, Int.reduceToNat, hx1, ha, hx2, hx3, ha2, he, hx4]
    generalize Hp.set h a (.row 3 [c] 1) = h2 at hs2 ha2 ⊢
    refine yl_use (F := pto a (.row 3 [c] 1) :: pto q (.itr (some mb) clk (es.map (·.2.2) ++ [x.2.2]) clk) :: pto mb (.mp kvs clk) :: pto bx (.row 1 [[.map mb]] 1) :: J (es.map (·.2.1)) :: F) hs2.p3 rfl (by simpa using hp) fun h hs => ?_
    refine (hy (es.map (·.2.1)) (.agg c) (pto a (.row 3 [c] 1) :: pto q (.itr (some mb) clk (es.map (·.2.2) ++ [x.2.2]) clk) :: pto mb (.mp kvs clk) :: pto bx (.row 1 [[.map mb]] 1) :: F) h (hx1 ▸ List.mem_map_of_mem hx) (by have := r1.length_eq; simp at this ⊢; omega) hs.p4).mono fun e1 h1 t => t.mono fun e2 h2 hs => ?_
    refine ⟨_, hs, fun h3 hs => ?_⟩
    simp (disch := omega) only [go_sem, reduceCtorEq, ↓reduceIte, Nat.reduceEqDiff, Nat.reduceAdd, Nat.reduceSub, Nat.reduceMul, Nat.reduceLT, Nat.reduceLeDiff, Int.reduceEq, Int.reduceNe, Int.reduceLT, Int.reduceLE, Int.reduceBEq, Int.reduceBNe, Int.reduceToNat]
    exact ⟨rest'.length, by omega, es ++ [x], rest', rfl, r1, by simpa [hx1] using hs.p2.drop.p1.p4.p2.p4.p4, he.1, he.2⟩
  · have r1 := rng_end hpm hn hall
    simp (disch := omega) only [go_sem, reduceCtorEq, ↓reduceIte, Nat.reduceEqDiff, Nat.reduceAdd, Nat.reduceSub, Nat.reduceMul, Nat.reduceLT, Nat.reduceLeDiff, Int.reduceEq, Int.reduceNe, Int.reduceLT, Int.reduceLE, Int.reduceBEq, Int.reduceBNe, Int.reduceToNat]
    exact ⟨_, r1.map _, hs.drop.p3.p1.p3.p3⟩
/-- A round of the loop: the value goes to the end. -/
theorem rnd_L {s : Nat} {e0 : Env} {pre : List AV} {x : AV} {c : List AV} {L : List Asr} (he : e0 2 = .ptr s 1 0 0) (hx : x = .agg c) (h2 : c.length = 3) (h3 : c.all AV.isAtom = true) (hl : pre.length < 1000000)
    (hs : sat h (BxOw 3 s (pre.map AV.cells) :: L)) :
    CodeT Try.prog 13 G31a (putPs e0 [7] [x]) h fun e1 h1 => CodeT Try.prog 13 G31b e1 h1 fun _ h2 => sat h2 (BxOw 3 s ((pre ++ [x]).map AV.cells) :: L) := by
  obtain ⟨v, hs⟩ := bxow.1 hs
  have h4 : c.take 3 = c := by rw [← h2]; exact List.take_length
  subst hx
  refine code_T mixed c31a (show run Try.prog F31a [] _ _ ⟨_, _, _⟩ from ?_)
  simp only [putPs, F31a]
  simp (disch := omega) only [go_sem, reduceCtorEq, ↓reduceIte, Nat.reduceEqDiff, Nat.reduceAdd, Nat.reduceSub, Nat.reduceMul, Nat.reduceLT, Nat.reduceLeDiff, Int.reduceEq, Int.reduceNe, Int.reduceLT, Int.reduceLE, Int.reduceBEq, Int.reduceBNe, Int.reduceToNat]
  refine new_opq hs fun a h hs => ?_
  have ha := hs.at
  have hs2 := hs.set (o' := .row 3 [c] 1)
  simp (disch := omega) only [go_sem, reduceCtorEq, ↓reduceIte, Nat.reduceEqDiff, Nat.reduceAdd, Nat.reduceSub, Nat.reduceMul, Nat.reduceLT, Nat.reduceLeDiff, Int.reduceEq, Int.reduceNe, Int.reduceLT, Int.reduceLE, Int.reduceBEq, Int.reduceBNe, Int.reduceToNat, ha, h2, h3]
  generalize Hp.set h a (.row 3 [c] 1) = h5 at hs2 ⊢
  refine code_T mixed c31b (show run Try.prog F31b [] _ _ ⟨_, _, _⟩ from ?_)
  have ha2 := hs2.at
  have hb2 := hs2.p1.at
  simp only [F31b]
  simp (disch := omega) only [go_sem, reduceCtorEq, ↓reduceIte, Nat.reduceEqDiff, Nat.reduceAdd, Nat.reduceSub, Nat.reduceMul, Nat.reduceLT, Nat.reduceLeDiff, Int.reduceEq, Int.reduceNe, Int.reduceLT, Int.reduceLE, Int.reduceBEq, Int.reduceBNe, Int.reduceToNat, he, ha2, hb2, h4, h2, h3]
  refine new_opq hs2 fun y h hs => ?_
  simp (disch := omega) only [go_sem, reduceCtorEq, ↓reduceIte, Nat.reduceEqDiff, Nat.reduceAdd, Nat.reduceSub, Nat.reduceMul, Nat.reduceLT, Nat.reduceLeDiff, Int.reduceEq, Int.reduceNe, Int.reduceLT, Int.reduceLE, Int.reduceBEq, Int.reduceBNe, Int.reduceToNat]
  refine app_sat hs.p3 (src_one hs.at) (atoms_one h3) (by simp; omega) fun v' h hs ca aa => ?_
  have hb3 := hs.p3.at
  simp (disch := omega) only [go_sem, reduceCtorEq, ↓reduceIte, Nat.reduceEqDiff, Nat.reduceAdd, Nat.reduceSub, Nat.reduceMul, Nat.reduceLT, Nat.reduceLeDiff, Int.reduceEq, Int.reduceNe, Int.reduceLT, Int.reduceLE, Int.reduceBEq, Int.reduceBNe, Int.reduceToNat, he, hb3, ca, aa]
  have hs3 := hs.p3.set (o' := .row 1 [[v']] 1)
  refine bxow.2 ⟨v', ?_⟩
  simpa [AV.cells] using hs3.p2.drop.p2.drop.p1.p1
theorem aps_L {mb bx clk : Nat} {kvs : List (AV × AV × Nat)} (hs : sat h (pto bx (.row 1 [[.map mb]] 1) :: pto mb (.mp kvs clk) :: F))
    (hc : ∀ x ∈ kvs, x.2.2 < clk) (hn : (kvs.map (·.2.2)).Nodup) (hz : ∀ x ∈ kvs, ∃ c, x.2.1 = .agg c ∧ c.length = 3 ∧ c.all AV.isAtom = true) (hk : kvs.length ≤ 1000000) :
    Triple Try.prog 31 [.nils, .fn 29 [.ptr bx 1 0 0]] h (fun r h => ∃ xs : List AV, xs.Perm (kvs.map (·.2.1)) ∧ sat h (Ow 3 r (xs.map AV.cells) :: pto mb (.mp kvs clk) :: F)) := by
  refine t31 (Nat.le_of_ble_eq_true rfl) ?_
  simp (disch := omega) only [F31, go_sem, reduceCtorEq, ↓reduceIte, Nat.reduceEqDiff, Nat.reduceAdd, Nat.reduceSub, Nat.reduceMul, Nat.reduceLT, Nat.reduceLeDiff, Int.reduceEq, Int.reduceNe, Int.reduceLT, Int.reduceLE, Int.reduceBEq, Int.reduceBNe, Int.reduceToNat]
  refine new_opq hs fun s h hs => ?_
  simp (disch := omega) only [go_sem, reduceCtorEq, ↓reduceIte, Nat.reduceEqDiff, Nat.reduceAdd, Nat.reduceSub, Nat.reduceMul, Nat.reduceLT, Nat.reduceLeDiff, Int.reduceEq, Int.reduceNe, Int.reduceLT, Int.reduceLE, Int.reduceBEq, Int.reduceBNe, Int.reduceToNat]
  refine rngF_use rfl hs fun l h hs => ?_
  have h1 := (hs.p1.tl fun _ h => h.add (A := Ow 3 .nils []) ow_nil)
  have h2 := (bxow.2 ⟨.nils, h1⟩).p3.p3.p3
  refine (val1_L (F := F) (fun pre => BxOw 3 s (pre.map AV.cells)) (by decide) h2 ?_ hc hn hz).mono fun r h q => ?_
  · intro pre x L h hx hl hs
    obtain ⟨y, hy1, rfl⟩ := List.mem_map.1 hx
    obtain ⟨c, hc1, hc2, hc3⟩ := hz _ hy1
    exact rnd_L rfl hc1 hc2 hc3 (by omega) hs
  · obtain ⟨xs, hp, hs⟩ := q
    refine ⟨_, hs, fun h hs => ?_⟩
    obtain ⟨v, hs⟩ := bxow.1 hs.p2
    have ha := hs.at
    simp (disch := omega) only [go_sem, reduceCtorEq, ↓reduceIte, Nat.reduceEqDiff, Nat.reduceAdd, Nat.reduceSub, Nat.reduceMul, Nat.reduceLT, Nat.reduceLeDiff, Int.reduceEq, Int.reduceNe, Int.reduceLT, Int.reduceLE, Int.reduceBEq, Int.reduceBNe, Int.reduceToNat, ha]
    exact ⟨xs, hp, hs.drop.p1.drop.p1.p1⟩
theorem col_L {mb bx clk : Nat} {kvs : List (AV × AV × Nat)} (hs : sat h (pto bx (.row 1 [[.map mb]] 1) :: pto mb (.mp kvs clk) :: F))
    (hc : ∀ x ∈ kvs, x.2.2 < clk) (hn : (kvs.map (·.2.2)).Nodup) (hz : ∀ x ∈ kvs, ∃ c, x.2.1 = .agg c ∧ c.length = 3 ∧ c.all AV.isAtom = true) (hk : kvs.length ≤ 1000000) :
    Triple Try.prog 27 [.fn 29 [.ptr bx 1 0 0]] h (fun r h => ∃ xs : List AV, xs.Perm (kvs.map (·.2.1)) ∧ sat h (Ow 3 r (xs.map AV.cells) :: pto mb (.mp kvs clk) :: F)) := by
  refine t27 (Nat.le_of_ble_eq_true rfl) ?_
  simp (disch := omega) only [F27, go_sem, reduceCtorEq, ↓reduceIte, Nat.reduceEqDiff, Nat.reduceAdd, Nat.reduceSub, Nat.reduceMul, Nat.reduceLT, Nat.reduceLeDiff, Int.reduceEq, Int.reduceNe, Int.reduceLT, Int.reduceLE, Int.reduceBEq, Int.reduceBNe, Int.reduceToNat]
  refine call_use (aps_L hs hc hn hz hk) ?_
  rintro r h ⟨xs, hp, hs⟩
  simp (disch := omega) only [go_sem, reduceCtorEq, ↓reduceIte, Nat.reduceEqDiff, Nat.reduceAdd, Nat.reduceSub, Nat.reduceMul, Nat.reduceLT, Nat.reduceLeDiff, Int.reduceEq, Int.reduceNe, Int.reduceLT, Int.reduceLE, Int.reduceBEq, Int.reduceBNe, Int.reduceToNat]
  exact ⟨xs, hp, hs⟩
theorem vals_L {mb clk : Nat} {kvs : List (AV × AV × Nat)} (hs : sat h (pto mb (.mp kvs clk) :: F)) :
    Triple Try.prog 23 [.map mb] h (fun r h => ∃ bx, r = .fn 29 [.ptr bx 1 0 0] ∧ sat h (pto bx (.row 1 [[.map mb]] 1) :: pto mb (.mp kvs clk) :: F)) := by
  refine t23 (Nat.le_of_ble_eq_true rfl) ?_
  simp (disch := omega) only [F23, go_sem, reduceCtorEq, ↓reduceIte, Nat.reduceEqDiff, Nat.reduceAdd, Nat.reduceSub, Nat.reduceMul, Nat.reduceLT, Nat.reduceLeDiff, Int.reduceEq, Int.reduceNe, Int.reduceLT, Int.reduceLE, Int.reduceBEq, Int.reduceBNe, Int.reduceToNat]
  refine new_opq hs fun s h hs => ?_
  simp (disch := omega) only [go_sem, reduceCtorEq, ↓reduceIte, Nat.reduceEqDiff, Nat.reduceAdd, Nat.reduceSub, Nat.reduceMul, Nat.reduceLT, Nat.reduceLeDiff, Int.reduceEq, Int.reduceNe, Int.reduceLT, Int.reduceLE, Int.reduceBEq, Int.reduceBNe, Int.reduceToNat]
  exact ⟨s, rfl, hs⟩
end
end Go.Proofs.Ytcajplcepmbbkaa
/- slices.SortedFunc: the values in order. -/
set_option linter.unusedSimpArgs false
set_option linter.unusedVariables false
set_option maxRecDepth 10000
namespace Go.Proofs.Ytcajplcepmbbkaa
open Go.Hz Go.Sort

theorem sorted_list {lt : List AV → List AV → Bool} {d R : Array (List AV)} (h1 : PermIn 0 d.size d R) (h2 : SortedIn lt 0 d.size R) (h3 : R.size = d.size) : R.toList.Perm d.toList ∧ R.toList.Pairwise (fun a b => lt b a = false) := by
  constructor
  · have := h1.2.2
    rw [Array.extract_size] at this
    rw [← h3, Array.extract_size] at this
    exact this
  · rw [List.pairwise_iff_getElem]
    intro i j hi hj hij
    have := h2 i j (Nat.zero_le _) hij (by simpa [h3] using hj)
    simpa [getElem!_pos R i (by simpa using hi), getElem!_pos R j (by simpa using hj)] using this
theorem ga_list {G : List AV → Prop} {l : List (List AV)} : GA G l.toArray ↔ ∀ x ∈ l, G x := by
  constructor
  · intro h x hx
    obtain ⟨i, hi, rfl⟩ := List.getElem_of_mem hx
    have := h i (by simpa using hi)
    simpa [hi] using this
  · intro h i hi
    have hi : i < l.length := by simpa using hi
    simpa [hi] using h _ (List.getElem_mem hi)
section
variable {h : Hp} {F : List Asr} {G : List AV → Prop} {lt : List AV → List AV → Bool}

theorem insn_L {f : AV} (hs : sat h F) : Triple Try.prog 34 [.nils, .int .i64 0, .int .i64 0, f] h (fun r h => sat h F) := by
  refine t34 (Nat.le_of_ble_eq_true rfl) ?_
  simp (disch := omega) only [F34, go_sem, reduceCtorEq, ↓reduceIte, Nat.reduceEqDiff, Nat.reduceAdd, Nat.reduceSub, Nat.reduceMul, Nat.reduceLT, Nat.reduceLeDiff, Int.reduceEq, Int.reduceNe, Int.reduceLT, Int.reduceLE, Int.reduceBEq, Int.reduceBNe, Int.reduceToNat]
  refine run_loopN (fun n e h => sat h F ∧ (e 1 = .int .i64 0 ∧ e 2 = .int .i64 0 ∧ e 8 = .int .i64 1)) 0 ⟨hs, rfl, rfl, rfl⟩ ?_
  rintro n e h ⟨hs, he⟩
  simp (disch := omega) only [go_sem, reduceCtorEq, ↓reduceIte, Nat.reduceEqDiff, Nat.reduceAdd, Nat.reduceSub, Nat.reduceMul, Nat.reduceLT, Nat.reduceLeDiff, Int.reduceEq, Int.reduceNe, Int.reduceLT, Int.reduceLE, Int.reduceBEq, Int.reduceBNe, Int.reduceToNat, he]
  exact hs
theorem pdqn_L {f lim : AV} (hs : sat h F) : Triple Try.prog 32 [.nils, .int .i64 0, .int .i64 0, lim, f] h (fun r h => sat h F) := by
  refine t32 (Nat.le_of_ble_eq_true rfl) ?_
  simp (disch := omega) only [F32, go_sem, reduceCtorEq, ↓reduceIte, Nat.reduceEqDiff, Nat.reduceAdd, Nat.reduceSub, Nat.reduceMul, Nat.reduceLT, Nat.reduceLeDiff, Int.reduceEq, Int.reduceNe, Int.reduceLT, Int.reduceLE, Int.reduceBEq, Int.reduceBNe, Int.reduceToNat]
  refine run_loopN (fun n e h => sat h F ∧ (e 0 = .nils ∧ e 1 = .int .i64 0 ∧ e 2 = .int .i64 0 ∧ e 4 = f)) 0 ⟨hs, rfl, rfl, rfl, rfl⟩ ?_
  rintro n e h ⟨hs, he⟩
  have z0 : decide ((0:Int) - 0 ≤ 12) = true := rfl
  simp (disch := omega) only [go_sem, reduceCtorEq, ↓reduceIte, Nat.reduceEqDiff, Nat.reduceAdd, Nat.reduceSub, Nat.reduceMul, Nat.reduceLT, Nat.reduceLeDiff, Int.reduceEq, Int.reduceNe, Int.reduceLT, Int.reduceLE, Int.reduceBEq, Int.reduceBNe, Int.reduceToNat, he, z0]
  refine call_use (insn_L hs) ?_
  intro r h hs
  simp (disch := omega) only [go_sem, reduceCtorEq, ↓reduceIte, Nat.reduceEqDiff, Nat.reduceAdd, Nat.reduceSub, Nat.reduceMul, Nat.reduceLT, Nat.reduceLeDiff, Int.reduceEq, Int.reduceNe, Int.reduceLT, Int.reduceLE, Int.reduceBEq, Int.reduceBNe, Int.reduceToNat]
  exact hs
theorem srtn_L {f : AV} (hs : sat h F) : Triple Try.prog 28 [.nils, f] h (fun r h => sat h F) := by
  refine t28 (Nat.le_of_ble_eq_true rfl) ?_
  simp (disch := omega) only [F28, go_sem, reduceCtorEq, ↓reduceIte, Nat.reduceEqDiff, Nat.reduceAdd, Nat.reduceSub, Nat.reduceMul, Nat.reduceLT, Nat.reduceLeDiff, Int.reduceEq, Int.reduceNe, Int.reduceLT, Int.reduceLE, Int.reduceBEq, Int.reduceBNe, Int.reduceToNat]
  refine call_use (len0 (n := 0) hs (by omega)) ?_
  rintro r h ⟨t, hr, h1, h2, h3, hs⟩
  subst hr
  simp (disch := omega) only [go_sem, reduceCtorEq, ↓reduceIte, Nat.reduceEqDiff, Nat.reduceAdd, Nat.reduceSub, Nat.reduceMul, Nat.reduceLT, Nat.reduceLeDiff, Int.reduceEq, Int.reduceNe, Int.reduceLT, Int.reduceLE, Int.reduceBEq, Int.reduceBNe, Int.reduceToNat]
  refine call_use (pdqn_L hs) ?_
  intro r h hs
  simp (disch := omega) only [go_sem, reduceCtorEq, ↓reduceIte, Nat.reduceEqDiff, Nat.reduceAdd, Nat.reduceSub, Nat.reduceMul, Nat.reduceLT, Nat.reduceLeDiff, Int.reduceEq, Int.reduceNe, Int.reduceLT, Int.reduceLE, Int.reduceBEq, Int.reduceBNe, Int.reduceToNat]
  exact hs
/-- A map's values, in order. -/
theorem srd_L {mb bx clk fc : Nat} {caps : List AV} {kvs : List (AV × AV × Nat)} (hf : okFn Try.prog fc = true) (hm : CmpT Try.prog true G lt fc caps) (E : GoodE 3 true G) (hO : SWO lt)
    (hs : sat h (pto bx (.row 1 [[.map mb]] 1) :: pto mb (.mp kvs clk) :: F))
    (hc : ∀ x ∈ kvs, x.2.2 < clk) (hn : (kvs.map (·.2.2)).Nodup) (hz : ∀ x ∈ kvs, ∃ c, x.2.1 = .agg c ∧ G c) (hk : kvs.length ≤ 1000000) :
    Triple Try.prog 22 [.fn 29 [.ptr bx 1 0 0], .fn fc caps] h (fun r h => ∃ R : List (List AV), R.Perm (kvs.map (·.2.1.cells)) ∧ R.Pairwise (fun a b => lt b a = false) ∧ sat h (Ow 3 r R :: pto mb (.mp kvs clk) :: F)) := by
  refine t22 (Nat.le_of_ble_eq_true rfl) ?_
  simp (disch := omega) only [F22, go_sem, reduceCtorEq, ↓reduceIte, Nat.reduceEqDiff, Nat.reduceAdd, Nat.reduceSub, Nat.reduceMul, Nat.reduceLT, Nat.reduceLeDiff, Int.reduceEq, Int.reduceNe, Int.reduceLT, Int.reduceLE, Int.reduceBEq, Int.reduceBNe, Int.reduceToNat]
  refine call_use (col_L hs hc hn (fun x hx => (hz x hx).imp fun c h => ⟨h.1, E.len _ h.2, E.atoms _ h.2⟩) hk) ?_
  rintro r h ⟨xs, hp, hs⟩
  have hq : (xs.map AV.cells).Perm (kvs.map (·.2.1.cells)) := by simpa [Function.comp_def] using hp.map AV.cells
  have hg : ∀ x ∈ xs.map AV.cells, G x := by
    intro x hx
    obtain ⟨y, hy, rfl⟩ := List.mem_map.1 (hq.mem_iff.1 hx)
    obtain ⟨c, h1, h2⟩ := hz _ hy
    rw [h1]; exact h2
  have hl : (xs.map AV.cells).length = kvs.length := by simpa using hq.length_eq
  generalize xs.map AV.cells = es at hs hq hg hl
  rcases hs.cases with ⟨rfl, rfl, hs⟩ | ⟨b, cap, rfl, hs, hle⟩
  · simp (disch := omega) only [go_sem, reduceCtorEq, ↓reduceIte, Nat.reduceEqDiff, Nat.reduceAdd, Nat.reduceSub, Nat.reduceMul, Nat.reduceLT, Nat.reduceLeDiff, Int.reduceEq, Int.reduceNe, Int.reduceLT, Int.reduceLE, Int.reduceBEq, Int.reduceBNe, Int.reduceToNat]
    refine call_use (srtn_L hs) ?_
    intro r h hs
    simp (disch := omega) only [go_sem, reduceCtorEq, ↓reduceIte, Nat.reduceEqDiff, Nat.reduceAdd, Nat.reduceSub, Nat.reduceMul, Nat.reduceLT, Nat.reduceLeDiff, Int.reduceEq, Int.reduceNe, Int.reduceLT, Int.reduceLE, Int.reduceBEq, Int.reduceBNe, Int.reduceToNat]
    exact ⟨[], hq, .nil, hs⟩
  · simp (disch := omega) only [go_sem, reduceCtorEq, ↓reduceIte, Nat.reduceEqDiff, Nat.reduceAdd, Nat.reduceSub, Nat.reduceMul, Nat.reduceLT, Nat.reduceLeDiff, Int.reduceEq, Int.reduceNe, Int.reduceLT, Int.reduceLE, Int.reduceBEq, Int.reduceBNe, Int.reduceToNat]
    refine call_use (srt_L hf hm E hO (d := es.toArray) hs (ga_list.2 hg) (by simp; omega)) ?_
    rintro r h ⟨R, p1, p2, p3, p4, hs⟩
    obtain ⟨q1, q2⟩ := sorted_list p1 p2 p4
    simp (disch := omega) only [go_sem, reduceCtorEq, ↓reduceIte, Nat.reduceEqDiff, Nat.reduceAdd, Nat.reduceSub, Nat.reduceMul, Nat.reduceLT, Nat.reduceLeDiff, Int.reduceEq, Int.reduceNe, Int.reduceLT, Int.reduceLE, Int.reduceBEq, Int.reduceBNe, Int.reduceToNat]
    refine ⟨R.toList, q1.trans hq, q2, ?_⟩
    have h5 : es.length = R.toList.length := by simpa using q1.length_eq.symm
    have h6 := hs.ow (by omega)
    rwa [← h5] at h6
end
end Go.Proofs.Ytcajplcepmbbkaa
/- The lease book's functions. -/
set_option linter.unusedSimpArgs false
set_option linter.unusedVariables false
set_option maxRecDepth 10000
namespace Go.Proofs.Ytcajplcepmbbkaa
open Go.Hz Go.Sort

section
variable {h : Hp} {F : List Asr} {X : List Lz} {p : Nat}

theorem cmpL : CmpT Try.prog true GLz ltI 24 [] := by
  rintro _ _ L h ⟨x, rfl⟩ ⟨y, rfl⟩ hs
  show Triple Try.prog _ [.agg [.int .i64 x.id, .int .i64 x.ttl, .int .i64 x.til], .agg [.int .i64 y.id, .int .i64 y.ttl, .int .i64 y.til]] h _
  refine t24 (Nat.le_of_ble_eq_true rfl) ?_
  simp (disch := omega) only [F24, go_sem, reduceCtorEq, ↓reduceIte, Nat.reduceEqDiff, Nat.reduceAdd, Nat.reduceSub, Nat.reduceMul, Nat.reduceLT, Nat.reduceLeDiff, Int.reduceEq, Int.reduceNe, Int.reduceLT, Int.reduceLE, Int.reduceBEq, Int.reduceBNe, Int.reduceToNat]
  refine new_opq hs fun a h hs => ?_
  simp (disch := omega) only [go_sem, reduceCtorEq, ↓reduceIte, Nat.reduceEqDiff, Nat.reduceAdd, Nat.reduceSub, Nat.reduceMul, Nat.reduceLT, Nat.reduceLeDiff, Int.reduceEq, Int.reduceNe, Int.reduceLT, Int.reduceLE, Int.reduceBEq, Int.reduceBNe, Int.reduceToNat]
  refine new_opq hs fun b h hs => ?_
  have ha := hs.at
  have hb := hs.p1.at
  simp (disch := omega) only [go_sem, reduceCtorEq, ↓reduceIte, Nat.reduceEqDiff, Nat.reduceAdd, Nat.reduceSub, Nat.reduceMul, Nat.reduceLT, Nat.reduceLeDiff, Int.reduceEq, Int.reduceNe, Int.reduceLT, Int.reduceLE, Int.reduceBEq, Int.reduceBNe, Int.reduceToNat, ha, hb]
  refine call_use (cmp_int hs) ?_
  rintro r h ⟨c, hr, h1, hs⟩
  subst hr
  simp (disch := omega) only [go_sem, reduceCtorEq, ↓reduceIte, Nat.reduceEqDiff, Nat.reduceAdd, Nat.reduceSub, Nat.reduceMul, Nat.reduceLT, Nat.reduceLeDiff, Int.reduceEq, Int.reduceNe, Int.reduceLT, Int.reduceLE, Int.reduceBEq, Int.reduceBNe, Int.reduceToNat]
  exact ⟨c, rfl, by rw [h1]; rfl, hs.drop.drop⟩
theorem lsNew (hs : sat h F) : Triple Try.prog 8 [] h (fun r h => ∃ p, r = .ptr p 1 0 0 ∧ sat h (LsP p [] :: F)) := by
  refine t8 (Nat.le_of_ble_eq_true rfl) ?_
  simp (disch := omega) only [F8, go_sem, reduceCtorEq, ↓reduceIte, Nat.reduceEqDiff, Nat.reduceAdd, Nat.reduceSub, Nat.reduceMul, Nat.reduceLT, Nat.reduceLeDiff, Int.reduceEq, Int.reduceNe, Int.reduceLT, Int.reduceLE, Int.reduceBEq, Int.reduceBNe, Int.reduceToNat]
  refine new_opq hs fun m h hs => ?_
  simp (disch := omega) only [go_sem, reduceCtorEq, ↓reduceIte, Nat.reduceEqDiff, Nat.reduceAdd, Nat.reduceSub, Nat.reduceMul, Nat.reduceLT, Nat.reduceLeDiff, Int.reduceEq, Int.reduceNe, Int.reduceLT, Int.reduceLE, Int.reduceBEq, Int.reduceBNe, Int.reduceToNat]
  refine new_opq hs fun p h hs => ?_
  simp (disch := omega) only [go_sem, reduceCtorEq, ↓reduceIte, Nat.reduceEqDiff, Nat.reduceAdd, Nat.reduceSub, Nat.reduceMul, Nat.reduceLT, Nat.reduceLeDiff, Int.reduceEq, Int.reduceNe, Int.reduceLT, Int.reduceLE, Int.reduceBEq, Int.reduceBNe, Int.reduceToNat]
  exact ⟨p, rfl, lsP.2 ⟨m, ⟨.nil, by simp, by simp⟩, (mpA_new hs.p1).p1⟩⟩
theorem lsNum {n : Int} (hs : sat h F) : Triple Try.prog 21 [.int .i64 n] h (fun r h => r = .bool (lzNum n) ∧ sat h F) := by
  refine t21 (Nat.le_of_ble_eq_true rfl) ?_
  simp (disch := omega) only [F21, go_sem, reduceCtorEq, ↓reduceIte, Nat.reduceEqDiff, Nat.reduceAdd, Nat.reduceSub, Nat.reduceMul, Nat.reduceLT, Nat.reduceLeDiff, Int.reduceEq, Int.reduceNe, Int.reduceLT, Int.reduceLE, Int.reduceBEq, Int.reduceBNe, Int.reduceToNat]
  refine cnd_dec (fun h1 => ?_) (fun h1 => ?_)
  · simp (disch := omega) only [go_sem, reduceCtorEq, ↓reduceIte, Nat.reduceEqDiff, Nat.reduceAdd, Nat.reduceSub, Nat.reduceMul, Nat.reduceLT, Nat.reduceLeDiff, Int.reduceEq, Int.reduceNe, Int.reduceLT, Int.reduceLE, Int.reduceBEq, Int.reduceBNe, Int.reduceToNat]
    exact ⟨by simp [lzNum, h1], hs⟩
  · simp (disch := omega) only [go_sem, reduceCtorEq, ↓reduceIte, Nat.reduceEqDiff, Nat.reduceAdd, Nat.reduceSub, Nat.reduceMul, Nat.reduceLT, Nat.reduceLeDiff, Int.reduceEq, Int.reduceNe, Int.reduceLT, Int.reduceLE, Int.reduceBEq, Int.reduceBNe, Int.reduceToNat]
    exact ⟨by simp [lzNum, h1], hs⟩
theorem lsHas {id : Int} (hs : sat h (LsP p X :: F)) : Triple Try.prog 14 [.ptr p 1 0 0, .int .i64 id] h (fun r h => r = .bool (lzHas X id) ∧ sat h (LsP p X :: F)) := by
  obtain ⟨m, hX, hs⟩ := lsP.1 hs
  have hp := hs.at
  cases hh : lzHas X id with
  | true =>
    obtain ⟨x, hx, rfl⟩ := lzHas_t hh
    have hl := lk_hit keyOK_int hs.p1 hX.nodup hx (ok := true) (z := .agg [.int .i64 0, .int .i64 0, .int .i64 0])
    refine t14 (Nat.le_of_ble_eq_true rfl) ?_
    simp (disch := omega) only [F14, hp, hl, go_sem, reduceCtorEq, ↓reduceIte, Nat.reduceEqDiff, Nat.reduceAdd, Nat.reduceSub, Nat.reduceMul, Nat.reduceLT, Nat.reduceLeDiff, Int.reduceEq, Int.reduceNe, Int.reduceLT, Int.reduceLE, Int.reduceBEq, Int.reduceBNe, Int.reduceToNat]
    refine new_opq hs fun a h hs => ?_
    have ha := hs.at
    simp (disch := omega) only [go_sem, reduceCtorEq, ↓reduceIte, Nat.reduceEqDiff, Nat.reduceAdd, Nat.reduceSub, Nat.reduceMul, Nat.reduceLT, Nat.reduceLeDiff, Int.reduceEq, Int.reduceNe, Int.reduceLT, Int.reduceLE, Int.reduceBEq, Int.reduceBNe, Int.reduceToNat, ha, lzC]
    exact lsP.2 ⟨m, hX, hs.set.drop⟩
  | false =>
    have hl := lk_miss keyOK_int hs.p1 (lzHas_f hh) (ok := true) (z := .agg [.int .i64 0, .int .i64 0, .int .i64 0])
    refine t14 (Nat.le_of_ble_eq_true rfl) ?_
    simp (disch := omega) only [F14, hp, hl, go_sem, reduceCtorEq, ↓reduceIte, Nat.reduceEqDiff, Nat.reduceAdd, Nat.reduceSub, Nat.reduceMul, Nat.reduceLT, Nat.reduceLeDiff, Int.reduceEq, Int.reduceNe, Int.reduceLT, Int.reduceLE, Int.reduceBEq, Int.reduceBNe, Int.reduceToNat]
    refine new_opq hs fun a h hs => ?_
    have ha := hs.at
    simp (disch := omega) only [go_sem, reduceCtorEq, ↓reduceIte, Nat.reduceEqDiff, Nat.reduceAdd, Nat.reduceSub, Nat.reduceMul, Nat.reduceLT, Nat.reduceLeDiff, Int.reduceEq, Int.reduceNe, Int.reduceLT, Int.reduceLE, Int.reduceBEq, Int.reduceBNe, Int.reduceToNat, ha]
    exact lsP.2 ⟨m, hX, hs.set.drop⟩
theorem lsGrant {id ttl now : Int} (hs : sat h (LsP p X :: F)) (hn : 0 ≤ now ∧ now ≤ 4611686018427387904) : Triple Try.prog 10 [.ptr p 1 0 0, .int .i64 id, .int .i64 ttl, .int .i64 now] h (fun r h => r = .int .i64 (lzGrant X id ttl now).1 ∧ sat h (LsP p (lzGrant X id ttl now).2 :: F)) := by
  obtain ⟨m, hX, hs⟩ := lsP.1 hs
  have hp := hs.at
  obtain ⟨z, hl, hz⟩ : ∃ z : Lz, lkA false true (.agg [.int .i64 0, .int .i64 0, .int .i64 0]) h (.map m) (.int .i64 id) = some (.tup [.agg (lzC z), .bool (lzHas X id)]) ∧ True := by
    cases hh : lzHas X id with
    | true =>
      obtain ⟨x, hx, rfl⟩ := lzHas_t hh
      exact ⟨x, lk_hit keyOK_int hs.p1 hX.nodup hx, trivial⟩
    | false => exact ⟨⟨0, 0, 0⟩, lk_miss keyOK_int hs.p1 (lzHas_f hh), trivial⟩
  refine t10 (Nat.le_of_ble_eq_true rfl) ?_
  simp (disch := omega) only [F10, hp, hl, go_sem, reduceCtorEq, ↓reduceIte, Nat.reduceEqDiff, Nat.reduceAdd, Nat.reduceSub, Nat.reduceMul, Nat.reduceLT, Nat.reduceLeDiff, Int.reduceEq, Int.reduceNe, Int.reduceLT, Int.reduceLE, Int.reduceBEq, Int.reduceBNe, Int.reduceToNat]
  refine new_opq hs fun a h hs => ?_
  have ha := hs.at
  simp (disch := omega) only [go_sem, reduceCtorEq, ↓reduceIte, Nat.reduceEqDiff, Nat.reduceAdd, Nat.reduceSub, Nat.reduceMul, Nat.reduceLT, Nat.reduceLeDiff, Int.reduceEq, Int.reduceNe, Int.reduceLT, Int.reduceLE, Int.reduceBEq, Int.reduceBNe, Int.reduceToNat, ha, lzC]
  have hs := (hs.set (o' := .row 3 [lzC z] 1)).drop
  cases h1 : lzNum id with
  | false =>
    refine call_use (lsNum hs) ?_
    rintro r h ⟨hr, hs⟩
    subst hr
    simp (disch := omega) only [go_sem, reduceCtorEq, ↓reduceIte, Nat.reduceEqDiff, Nat.reduceAdd, Nat.reduceSub, Nat.reduceMul, Nat.reduceLT, Nat.reduceLeDiff, Int.reduceEq, Int.reduceNe, Int.reduceLT, Int.reduceLE, Int.reduceBEq, Int.reduceBNe, Int.reduceToNat, h1]
    exact ⟨by simp [lzGrant, h1], lsP.2 ⟨m, by simpa [lzGrant, h1] using hX, by simpa [lzGrant, h1] using hs⟩⟩
  | true =>
  refine call_use (lsNum hs) ?_
  rintro r h ⟨hr, hs⟩
  subst hr
  simp (disch := omega) only [go_sem, reduceCtorEq, ↓reduceIte, Nat.reduceEqDiff, Nat.reduceAdd, Nat.reduceSub, Nat.reduceMul, Nat.reduceLT, Nat.reduceLeDiff, Int.reduceEq, Int.reduceNe, Int.reduceLT, Int.reduceLE, Int.reduceBEq, Int.reduceBNe, Int.reduceToNat, h1]
  cases h2 : lzNum ttl with
  | false =>
    refine call_use (lsNum hs) ?_
    rintro r h ⟨hr, hs⟩
    subst hr
    simp (disch := omega) only [go_sem, reduceCtorEq, ↓reduceIte, Nat.reduceEqDiff, Nat.reduceAdd, Nat.reduceSub, Nat.reduceMul, Nat.reduceLT, Nat.reduceLeDiff, Int.reduceEq, Int.reduceNe, Int.reduceLT, Int.reduceLE, Int.reduceBEq, Int.reduceBNe, Int.reduceToNat, h2]
    exact ⟨by simp [lzGrant, h1, h2], lsP.2 ⟨m, by simpa [lzGrant, h1, h2] using hX, by simpa [lzGrant, h1, h2] using hs⟩⟩
  | true =>
  refine call_use (lsNum hs) ?_
  rintro r h ⟨hr, hs⟩
  subst hr
  simp (disch := omega) only [go_sem, reduceCtorEq, ↓reduceIte, Nat.reduceEqDiff, Nat.reduceAdd, Nat.reduceSub, Nat.reduceMul, Nat.reduceLT, Nat.reduceLeDiff, Int.reduceEq, Int.reduceNe, Int.reduceLT, Int.reduceLE, Int.reduceBEq, Int.reduceBNe, Int.reduceToNat, h2]
  cases h3 : lzHas X id with
  | true =>
    simp (disch := omega) only [go_sem, reduceCtorEq, ↓reduceIte, Nat.reduceEqDiff, Nat.reduceAdd, Nat.reduceSub, Nat.reduceMul, Nat.reduceLT, Nat.reduceLeDiff, Int.reduceEq, Int.reduceNe, Int.reduceLT, Int.reduceLE, Int.reduceBEq, Int.reduceBNe, Int.reduceToNat]
    exact ⟨by simp [lzGrant, h1, h2, h3], lsP.2 ⟨m, by simpa [lzGrant, h1, h2, h3] using hX, by simpa [lzGrant, h1, h2, h3] using hs⟩⟩
  | false =>
  have hp := hs.at
  have hlen := len_mp hs.p1
  have e1 : decide ((X.length : Int) ≥ 1024) = decide (1024 ≤ X.length) := by simp only [decide_eq_decide]; omega
  simp (disch := omega) only [go_sem, reduceCtorEq, ↓reduceIte, Nat.reduceEqDiff, Nat.reduceAdd, Nat.reduceSub, Nat.reduceMul, Nat.reduceLT, Nat.reduceLeDiff, Int.reduceEq, Int.reduceNe, Int.reduceLT, Int.reduceLE, Int.reduceBEq, Int.reduceBNe, Int.reduceToNat, hp, hlen, e1]
  refine cnd_dec (fun h4 => ?_) (fun h4 => ?_)
  · simp (disch := omega) only [go_sem, reduceCtorEq, ↓reduceIte, Nat.reduceEqDiff, Nat.reduceAdd, Nat.reduceSub, Nat.reduceMul, Nat.reduceLT, Nat.reduceLeDiff, Int.reduceEq, Int.reduceNe, Int.reduceLT, Int.reduceLE, Int.reduceBEq, Int.reduceBNe, Int.reduceToNat]
    exact ⟨by simp [lzGrant, h1, h2, h3, h4], lsP.2 ⟨m, by simpa [lzGrant, h1, h2, h3, h4] using hX, by simpa [lzGrant, h1, h2, h3, h4] using hs⟩⟩
  have b1 : 1 ≤ id ∧ id ≤ 2147483647 := by simpa [lzNum] using h1
  have b2 : 1 ≤ ttl ∧ ttl ≤ 2147483647 := by simpa [lzNum] using h2
  simp (disch := omega) only [go_sem, reduceCtorEq, ↓reduceIte, Nat.reduceEqDiff, Nat.reduceAdd, Nat.reduceSub, Nat.reduceMul, Nat.reduceLT, Nat.reduceLeDiff, Int.reduceEq, Int.reduceNe, Int.reduceLT, Int.reduceLE, Int.reduceBEq, Int.reduceBNe, Int.reduceToNat, hp]
  refine mup_new keyOK_int hs.p1 (y := ⟨id, ttl, now + ttl⟩) (lzHas_f h3) fun h hs => ?_
  simp (disch := omega) only [go_sem, reduceCtorEq, ↓reduceIte, Nat.reduceEqDiff, Nat.reduceAdd, Nat.reduceSub, Nat.reduceMul, Nat.reduceLT, Nat.reduceLeDiff, Int.reduceEq, Int.reduceNe, Int.reduceLT, Int.reduceLE, Int.reduceBEq, Int.reduceBNe, Int.reduceToNat]
  have e2 : lzGrant X id ttl now = (0, lzIns X ⟨id, ttl, now + ttl⟩) := by simp [lzGrant, h1, h2, h3, h4]
  have hg := lzGrant_ok (id := id) (ttl := ttl) (now := now) hX
  rw [e2] at hg ⊢
  exact ⟨rfl, lsP.2 ⟨m, hg, (mpA_perm hs lzIns_perm).p1⟩⟩
theorem lsRenew {id now : Int} (hs : sat h (LsP p X :: F)) (hn : 0 ≤ now ∧ now ≤ 4611686018427387904) : Triple Try.prog 13 [.ptr p 1 0 0, .int .i64 id, .int .i64 now] h (fun r h => r = .int .i64 (lzRenew X id now).1 ∧ sat h (LsP p (lzRenew X id now).2 :: F)) := by
  obtain ⟨m, hX, hs⟩ := lsP.1 hs
  have hp := hs.at
  cases hh : lzHas X id with
  | false =>
    have hl := lk_miss keyOK_int hs.p1 (lzHas_f hh) (ok := true) (z := .agg [.int .i64 0, .int .i64 0, .int .i64 0])
    refine t13 (Nat.le_of_ble_eq_true rfl) ?_
    simp (disch := omega) only [F13, hp, hl, go_sem, reduceCtorEq, ↓reduceIte, Nat.reduceEqDiff, Nat.reduceAdd, Nat.reduceSub, Nat.reduceMul, Nat.reduceLT, Nat.reduceLeDiff, Int.reduceEq, Int.reduceNe, Int.reduceLT, Int.reduceLE, Int.reduceBEq, Int.reduceBNe, Int.reduceToNat]
    refine new_opq hs fun a h hs => ?_
    have ha := hs.at
    simp (disch := omega) only [go_sem, reduceCtorEq, ↓reduceIte, Nat.reduceEqDiff, Nat.reduceAdd, Nat.reduceSub, Nat.reduceMul, Nat.reduceLT, Nat.reduceLeDiff, Int.reduceEq, Int.reduceNe, Int.reduceLT, Int.reduceLE, Int.reduceBEq, Int.reduceBNe, Int.reduceToNat, ha]
    exact ⟨by simp [lzRenew, hh], lsP.2 ⟨m, by simpa [lzRenew, hh] using hX, by simpa [lzRenew, hh] using hs.set.drop⟩⟩
  | true =>
    obtain ⟨x, hx, rfl⟩ := lzHas_t hh
    have hl := lk_hit keyOK_int hs.p1 hX.nodup hx (ok := true) (z := .agg [.int .i64 0, .int .i64 0, .int .i64 0])
    obtain ⟨b1, b2, b3, b4⟩ := hX.2.1 x hx
    refine t13 (Nat.le_of_ble_eq_true rfl) ?_
    simp (disch := omega) only [F13, hp, hl, go_sem, reduceCtorEq, ↓reduceIte, Nat.reduceEqDiff, Nat.reduceAdd, Nat.reduceSub, Nat.reduceMul, Nat.reduceLT, Nat.reduceLeDiff, Int.reduceEq, Int.reduceNe, Int.reduceLT, Int.reduceLE, Int.reduceBEq, Int.reduceBNe, Int.reduceToNat]
    refine new_opq hs fun a h hs => ?_
    have ha := hs.at
    have hs2 := hs.set (o' := .row 3 [lzC ⟨x.id, x.ttl, now + x.ttl⟩] 1)
    have hp := hs2.p1.at
    have ha2 := hs2.at
    simp only [lzC] at hs2 hp ha2
    simp (disch := omega) only [go_sem, reduceCtorEq, ↓reduceIte, Nat.reduceEqDiff, Nat.reduceAdd, Nat.reduceSub, Nat.reduceMul, Nat.reduceLT, Nat.reduceLeDiff, Int.reduceEq, Int.reduceNe, Int.reduceLT, Int.reduceLE, Int.reduceBEq, Int.reduceBNe, Int.reduceToNat, ha, lzC, hp]
    generalize Hp.set h a (.row 3 [[.int .i64 x.id, .int .i64 x.ttl, .int .i64 (now + x.ttl)]] 1) = h2 at hs2 hp ha2 ⊢
    refine mup_set keyOK_int hs2.p2 hX.nodup hx (y := ⟨x.id, x.ttl, now + x.ttl⟩) rfl fun h hs => ?_
    simp (disch := omega) only [go_sem, reduceCtorEq, ↓reduceIte, Nat.reduceEqDiff, Nat.reduceAdd, Nat.reduceSub, Nat.reduceMul, Nat.reduceLT, Nat.reduceLeDiff, Int.reduceEq, Int.reduceNe, Int.reduceLT, Int.reduceLE, Int.reduceBEq, Int.reduceBNe, Int.reduceToNat]
    have e2 : lzRenew X x.id now = (0, lzRen X x.id now) := by simp [lzRenew, hh]
    have hg := lzRenew_ok (id := x.id) (now := now) hX
    rw [e2] at hg ⊢
    have e3 : (X.map fun z => if z.id = x.id then (⟨x.id, x.ttl, now + x.ttl⟩ : Lz) else z) = lzRen X x.id now := by
      refine List.map_congr_left fun z hz => ?_
      by_cases hq : z.id = x.id
      · have : z = x := nodup_map_inj hX.nodup hz hx hq
        subst this; simp
      · simp [hq]
    rw [e3] at hs
    exact ⟨rfl, lsP.2 ⟨m, hg, hs.p1.drop.p1⟩⟩
theorem lsRevoke {id : Int} (hs : sat h (LsP p X :: F)) : Triple Try.prog 17 [.ptr p 1 0 0, .int .i64 id] h (fun r h => r = .int .i64 (lzRevoke X id).1 ∧ sat h (LsP p (lzRevoke X id).2 :: F)) := by
  refine t17 (Nat.le_of_ble_eq_true rfl) ?_
  simp (disch := omega) only [F17, go_sem, reduceCtorEq, ↓reduceIte, Nat.reduceEqDiff, Nat.reduceAdd, Nat.reduceSub, Nat.reduceMul, Nat.reduceLT, Nat.reduceLeDiff, Int.reduceEq, Int.reduceNe, Int.reduceLT, Int.reduceLE, Int.reduceBEq, Int.reduceBNe, Int.reduceToNat]
  cases hh : lzHas X id with
  | false =>
    refine call_use (lsHas hs) ?_
    rintro r h ⟨hr, hs⟩
    subst hr
    simp (disch := omega) only [go_sem, reduceCtorEq, ↓reduceIte, Nat.reduceEqDiff, Nat.reduceAdd, Nat.reduceSub, Nat.reduceMul, Nat.reduceLT, Nat.reduceLeDiff, Int.reduceEq, Int.reduceNe, Int.reduceLT, Int.reduceLE, Int.reduceBEq, Int.reduceBNe, Int.reduceToNat, hh]
    exact ⟨by simp [lzRevoke, hh], by simpa [lzRevoke, hh] using hs⟩
  | true =>
    refine call_use (lsHas hs) ?_
    rintro r h ⟨hr, hs⟩
    subst hr
    simp (disch := omega) only [go_sem, reduceCtorEq, ↓reduceIte, Nat.reduceEqDiff, Nat.reduceAdd, Nat.reduceSub, Nat.reduceMul, Nat.reduceLT, Nat.reduceLeDiff, Int.reduceEq, Int.reduceNe, Int.reduceLT, Int.reduceLE, Int.reduceBEq, Int.reduceBNe, Int.reduceToNat, hh]
    obtain ⟨m, hX, hs⟩ := lsP.1 hs
    obtain ⟨x, hx, rfl⟩ := lzHas_t hh
    have hp := hs.at
    simp (disch := omega) only [go_sem, reduceCtorEq, ↓reduceIte, Nat.reduceEqDiff, Nat.reduceAdd, Nat.reduceSub, Nat.reduceMul, Nat.reduceLT, Nat.reduceLeDiff, Int.reduceEq, Int.reduceNe, Int.reduceLT, Int.reduceLE, Int.reduceBEq, Int.reduceBNe, Int.reduceToNat, hp]
    refine del_hit keyOK_int hs.p1 hX.nodup hx fun h hs => ?_
    simp (disch := omega) only [go_sem, reduceCtorEq, ↓reduceIte, Nat.reduceEqDiff, Nat.reduceAdd, Nat.reduceSub, Nat.reduceMul, Nat.reduceLT, Nat.reduceLeDiff, Int.reduceEq, Int.reduceNe, Int.reduceLT, Int.reduceLE, Int.reduceBEq, Int.reduceBNe, Int.reduceToNat]
    have e2 : lzRevoke X x.id = (0, lzDel X x.id) := by simp [lzRevoke, hh]
    have hg := lzRevoke_ok (id := x.id) hX
    rw [e2] at hg ⊢
    exact ⟨rfl, lsP.2 ⟨m, hg, hs.p1⟩⟩
theorem lsAll (hs : sat h (LsP p X :: F)) : Triple Try.prog 11 [.ptr p 1 0 0] h (fun r h => sat h (Ow 3 r (X.map lzC) :: LsP p X :: F)) := by
  obtain ⟨m, hX, hs⟩ := lsP.1 hs
  have hp := hs.at
  refine t11 (Nat.le_of_ble_eq_true rfl) ?_
  simp (disch := omega) only [F11, hp, go_sem, reduceCtorEq, ↓reduceIte, Nat.reduceEqDiff, Nat.reduceAdd, Nat.reduceSub, Nat.reduceMul, Nat.reduceLT, Nat.reduceLeDiff, Int.reduceEq, Int.reduceNe, Int.reduceLT, Int.reduceLE, Int.reduceBEq, Int.reduceBNe, Int.reduceToNat]
  obtain ⟨pl, c, ⟨q1, q2, q3⟩, hs⟩ := mpA.1 hs.p1
  refine call_use (vals_L hs) ?_
  rintro r h ⟨bx, hr, hs⟩
  subst hr
  simp (disch := omega) only [go_sem, reduceCtorEq, ↓reduceIte, Nat.reduceEqDiff, Nat.reduceAdd, Nat.reduceSub, Nat.reduceMul, Nat.reduceLT, Nat.reduceLeDiff, Int.reduceEq, Int.reduceNe, Int.reduceLT, Int.reduceLE, Int.reduceBEq, Int.reduceBNe, Int.reduceToNat]
  have hl : pl.length = X.length := by simpa using q1.length_eq
  refine call_use (srd_L rfl cmpL goodE_lz swo_ltI hs ?_ ?_ ?_ (by simp [kvOf]; have := hX.2.2; omega)) ?_
  · intro x hx
    obtain ⟨y, hy, rfl⟩ := List.mem_map.1 hx
    exact q3 y hy
  · simpa [kvOf, Function.comp_def] using q2
  · intro x hx
    obtain ⟨y, hy, rfl⟩ := List.mem_map.1 hx
    exact ⟨_, rfl, y.1, rfl⟩
  · rintro r h ⟨R, p1, p2, hs⟩
    simp (disch := omega) only [go_sem, reduceCtorEq, ↓reduceIte, Nat.reduceEqDiff, Nat.reduceAdd, Nat.reduceSub, Nat.reduceMul, Nat.reduceLT, Nat.reduceLeDiff, Int.reduceEq, Int.reduceNe, Int.reduceLT, Int.reduceLE, Int.reduceBEq, Int.reduceBNe, Int.reduceToNat]
    have p3 : R.Perm (X.map lzC) := by
      refine p1.trans ?_
      have := q1.map lzC
      simpa [kvOf, Function.comp_def, AV.cells] using this
    rw [lz_sorted hX p3 p2] at hs
    exact (lsP.2 ⟨m, hX, (mpA.2 ⟨pl, c, ⟨q1, q2, q3⟩, hs.p1⟩).p2⟩).p1
theorem lsAllR (hs : sat h (LsP p X :: F)) : Triple Try.prog 11 [.ptr p 1 0 0] h (fun r h => r = .lst (X.map lzC) ∧ sat h (LsP p X :: F)) :=
  Triple.lst 3 ((lsAll hs).mono fun r h hs => ⟨_, _, hs, fun h hs => ⟨rfl, hs⟩⟩)
theorem lsOver {now : Int} (hs : sat h (LsP p X :: F)) : Triple Try.prog 12 [.ptr p 1 0 0, .int .i64 now] h (fun r h => sat h (Ow 1 r ((lzOver X now).map fun x => [.int .i64 x.id]) :: LsP p X :: F)) := by
  have hX : LzOK X := (lsP.1 hs).choose_spec.1
  have hlen := hX.2.2
  refine t12 (Nat.le_of_ble_eq_true rfl) ?_
  simp (disch := omega) only [F12, go_sem, reduceCtorEq, ↓reduceIte, Nat.reduceEqDiff, Nat.reduceAdd, Nat.reduceSub, Nat.reduceMul, Nat.reduceLT, Nat.reduceLeDiff, Int.reduceEq, Int.reduceNe, Int.reduceLT, Int.reduceLE, Int.reduceBEq, Int.reduceBNe, Int.reduceToNat]
  refine call_use (lsAllR hs) ?_
  rintro r h ⟨hr, hs⟩
  subst hr
  simp (disch := omega) only [go_sem, reduceCtorEq, ↓reduceIte, Nat.reduceEqDiff, Nat.reduceAdd, Nat.reduceSub, Nat.reduceMul, Nat.reduceLT, Nat.reduceLeDiff, Int.reduceEq, Int.reduceNe, Int.reduceLT, Int.reduceLE, Int.reduceBEq, Int.reduceBNe, Int.reduceToNat]
  refine run_up (N := X.length) (fun i e h => sat h (Ow 1 (e 5) ((lzOver (X.take i) now).map fun x => [.int .i64 x.id]) :: LsP p X :: F) ∧ (e 1 = .int .i64 now ∧ e 9 = .lst (X.map lzC) ∧ e 10 = .int .i64 X.length ∧ e 11 = .int .i64 i)) ⟨hs.add ow_nil, rfl, rfl, rfl, rfl⟩ ?_
  rintro i e h hi ⟨hs, he⟩
  have m1 : (i : Int) + 1 = ((i + 1 : Nat) : Int) := by omega
  simp (disch := omega) only [go_sem, reduceCtorEq, ↓reduceIte, Nat.reduceEqDiff, Nat.reduceAdd, Nat.reduceSub, Nat.reduceMul, Nat.reduceLT, Nat.reduceLeDiff, Int.reduceEq, Int.reduceNe, Int.reduceLT, Int.reduceLE, Int.reduceBEq, Int.reduceBNe, Int.reduceToNat, he, m1]
  refine cnd_dec (fun h1 => ?_) (fun h1 => ?_)
  · have hi : i < X.length := by omega
    have e1 := ia_lst (f := lzC) (l := X) (i := i) (s := 3) (k := .i64) hi (fun _ => rfl)
    simp (disch := omega) only [go_sem, reduceCtorEq, ↓reduceIte, Nat.reduceEqDiff, Nat.reduceAdd, Nat.reduceSub, Nat.reduceMul, Nat.reduceLT, Nat.reduceLeDiff, Int.reduceEq, Int.reduceNe, Int.reduceLT, Int.reduceLE, Int.reduceBEq, Int.reduceBNe, Int.reduceToNat, he, e1, lzC]
    refine new_opq hs fun a h hs => ?_
    have hs2 := hs.set (o' := .row 3 [lzC X[i]] 1)
    have ha := hs.at
    have ha2 := hs2.at
    simp only [lzC] at hs2 ha2
    have hl2 : ((lzOver (X.take i) now).map fun x => [AV.int .i64 x.id]).length ≤ 1024 := by
      have := List.length_filter_le (fun x : Lz => decide (x.til ≤ now)) (X.take i)
      simp only [List.length_map, lzOver]
      rw [List.length_take] at this
      omega
    simp (disch := omega) only [go_sem, reduceCtorEq, ↓reduceIte, Nat.reduceEqDiff, Nat.reduceAdd, Nat.reduceSub, Nat.reduceMul, Nat.reduceLT, Nat.reduceLeDiff, Int.reduceEq, Int.reduceNe, Int.reduceLT, Int.reduceLE, Int.reduceBEq, Int.reduceBNe, Int.reduceToNat, he, ha, ha2]
    generalize Hp.set h a _ = h2 at hs2 ha2 ⊢
    refine cnd_dec (fun h2 => ?_) (fun h2 => ?_)
    · have e2 : lzOver (X.take (i + 1)) now = lzOver (X.take i) now ++ [X[i]] := by
        unfold lzOver
        rw [List.take_succ_eq_append_getElem hi, List.filter_append]
        simp only [List.filter_cons, List.filter_nil, h2, decide_true, if_true]
      simp (disch := omega) only [go_sem, reduceCtorEq, ↓reduceIte, Nat.reduceEqDiff, Nat.reduceAdd, Nat.reduceSub, Nat.reduceMul, Nat.reduceLT, Nat.reduceLeDiff, Int.reduceEq, Int.reduceNe, Int.reduceLT, Int.reduceLE, Int.reduceBEq, Int.reduceBNe, Int.reduceToNat, he, ha2]
      refine new_opq hs2 fun b h hs => ?_
      simp (disch := omega) only [go_sem, reduceCtorEq, ↓reduceIte, Nat.reduceEqDiff, Nat.reduceAdd, Nat.reduceSub, Nat.reduceMul, Nat.reduceLT, Nat.reduceLeDiff, Int.reduceEq, Int.reduceNe, Int.reduceLT, Int.reduceLE, Int.reduceBEq, Int.reduceBNe, Int.reduceToNat]
      refine app_sat hs.p2 (src_one hs.at) (atoms_one (by simp [AV.isAtom])) (by simp only [List.length_cons, List.length_nil]; omega) fun v' h hs ca aa => ?_
      simp (disch := omega) only [go_sem, reduceCtorEq, ↓reduceIte, Nat.reduceEqDiff, Nat.reduceAdd, Nat.reduceSub, Nat.reduceMul, Nat.reduceLT, Nat.reduceLeDiff, Int.reduceEq, Int.reduceNe, Int.reduceLT, Int.reduceLE, Int.reduceBEq, Int.reduceBNe, Int.reduceToNat, he, m1]
      rw [e2]
      exact ⟨by omega, by simpa using hs.d1.d1⟩
    · have e2 : lzOver (X.take (i + 1)) now = lzOver (X.take i) now := by
        unfold lzOver
        rw [List.take_succ_eq_append_getElem hi, List.filter_append]
        simp [List.filter_cons, List.filter_nil, h2, decide_false]
      simp (disch := omega) only [go_sem, reduceCtorEq, ↓reduceIte, Nat.reduceEqDiff, Nat.reduceAdd, Nat.reduceSub, Nat.reduceMul, Nat.reduceLT, Nat.reduceLeDiff, Int.reduceEq, Int.reduceNe, Int.reduceLT, Int.reduceLE, Int.reduceBEq, Int.reduceBNe, Int.reduceToNat, he, m1]
      rw [e2]
      exact ⟨by omega, hs2.drop⟩
  · have hi : i = X.length := by omega
    subst hi
    simp (disch := omega) only [go_sem, reduceCtorEq, ↓reduceIte, Nat.reduceEqDiff, Nat.reduceAdd, Nat.reduceSub, Nat.reduceMul, Nat.reduceLT, Nat.reduceLeDiff, Int.reduceEq, Int.reduceNe, Int.reduceLT, Int.reduceLE, Int.reduceBEq, Int.reduceBNe, Int.reduceToNat, he]
    simpa using hs
theorem lsOverR {now : Int} (hs : sat h (LsP p X :: F)) : Triple Try.prog 12 [.ptr p 1 0 0, .int .i64 now] h (fun r h => r = .lst ((lzOver X now).map fun x => [.int .i64 x.id]) ∧ sat h (LsP p X :: F)) :=
  Triple.lst 1 ((lsOver hs).mono fun r h hs => ⟨_, _, hs, fun h hs => ⟨rfl, hs⟩⟩)
end
end Go.Proofs.Ytcajplcepmbbkaa
/- within, the chapter's example; the laws LeaseLives, LeaseOver and LeaseMany, walked. -/
set_option linter.unusedSimpArgs false
set_option linter.unusedVariables false
set_option maxRecDepth 10000
namespace Go.Proofs.Ytcajplcepmbbkaa
open Go.Hz

/-- A number from 0 to n - 1. -/
theorem within10 {h : Hp} {F : List Asr} (hs : sat h F) {a : Int} {n : Nat} (h1 : -9223372036854775808 ≤ a) (h2 : a ≤ 9223372036854775807) (hn : 0 < n) (hn2 : n ≤ 4611686018427387904) :
    Triple Try.prog 9 [.int .i64 a, .int .i64 n] h (fun r h => ∃ k : Nat, r = .int .i64 k ∧ (k : Int) = a % n ∧ k < n ∧ sat h F) := by
  have m1 := Int.tmod_lt_of_pos a (b := n) (by omega)
  have m2 : -(n : Int) < a.tmod n := by
    have := Int.tmod_lt_of_pos (-a) (b := n) (by omega)
    rw [Int.neg_tmod] at this
    omega
  have hn0 : ¬ (n : Int) = 0 := by omega
  have e := Int.mul_tdiv_add_tmod a n
  have em : a % n = (a.tmod n) % n := by
    conv => lhs; rw [← e]
    rw [Int.mul_add_emod_self_left]
  refine t9 (Nat.le_of_ble_eq_true rfl) ?_
  simp (disch := omega) only [F9, hn0, go_sem, reduceCtorEq, ↓reduceIte, Nat.reduceEqDiff, Nat.reduceAdd, Nat.reduceSub, Nat.reduceMul, Nat.reduceLT, Nat.reduceLeDiff, Int.reduceEq, Int.reduceNe, Int.reduceLT, Int.reduceLE, Int.reduceBEq, Int.reduceBNe, Int.reduceToNat]
  refine cnd_dec (fun hc => ?_) (fun hc => ?_)
  · simp (disch := omega) only [go_sem, reduceCtorEq, ↓reduceIte, Nat.reduceEqDiff, Nat.reduceAdd, Nat.reduceSub, Nat.reduceMul, Nat.reduceLT, Nat.reduceLeDiff, Int.reduceEq, Int.reduceNe, Int.reduceLT, Int.reduceLE, Int.reduceBEq, Int.reduceBNe, Int.reduceToNat]
    refine ⟨(a.tmod n + n).toNat, by congr 1; omega, ?_, by omega, hs⟩
    rw [em, ← Int.add_emod_right, Int.emod_eq_of_lt (by omega) (by omega)]
    omega
  · simp (disch := omega) only [go_sem, reduceCtorEq, ↓reduceIte, Nat.reduceEqDiff, Nat.reduceAdd, Nat.reduceSub, Nat.reduceMul, Nat.reduceLT, Nat.reduceLeDiff, Int.reduceEq, Int.reduceNe, Int.reduceLT, Int.reduceLE, Int.reduceBEq, Int.reduceBNe, Int.reduceToNat]
    refine ⟨(a.tmod n).toNat, by congr 1; omega, ?_, by omega, hs⟩
    rw [em, Int.emod_eq_of_lt (by omega) (by omega)]
    omega

section
variable {h : Hp} {F : List Asr}
theorem known10 (hs : sat h F) : Triple Try.prog 7 [] h (fun r h => r = .bool true ∧ sat h F) := by
  refine t7 (Nat.le_of_ble_eq_true rfl) ?_
  simp (disch := omega) only [F7, go_sem, reduceCtorEq, ↓reduceIte, Nat.reduceEqDiff, Nat.reduceAdd, Nat.reduceSub, Nat.reduceMul, Nat.reduceLT, Nat.reduceLeDiff, Int.reduceEq, Int.reduceNe, Int.reduceLT, Int.reduceLE, Int.reduceBEq, Int.reduceBNe, Int.reduceToNat]
  refine call_use (lsNew hs) ?_
  rintro r h ⟨p, hr, hs⟩
  subst hr
  simp (disch := omega) only [go_sem, reduceCtorEq, ↓reduceIte, Nat.reduceEqDiff, Nat.reduceAdd, Nat.reduceSub, Nat.reduceMul, Nat.reduceLT, Nat.reduceLeDiff, Int.reduceEq, Int.reduceNe, Int.reduceLT, Int.reduceLE, Int.reduceBEq, Int.reduceBNe, Int.reduceToNat]
  refine call_use (lsGrant hs (by omega)) ?_
  rintro r h ⟨hr, hs⟩
  subst hr
  simp (disch := omega) only [go_sem, reduceCtorEq, ↓reduceIte, Nat.reduceEqDiff, Nat.reduceAdd, Nat.reduceSub, Nat.reduceMul, Nat.reduceLT, Nat.reduceLeDiff, Int.reduceEq, Int.reduceNe, Int.reduceLT, Int.reduceLE, Int.reduceBEq, Int.reduceBNe, Int.reduceToNat]
  have hs : sat h (LsP p [⟨1, 5, 15⟩] :: F) := hs
  have e1 : ((lzGrant [] 1 5 10).1 == 0) = true := rfl
  simp (disch := omega) only [go_sem, reduceCtorEq, ↓reduceIte, Nat.reduceEqDiff, Nat.reduceAdd, Nat.reduceSub, Nat.reduceMul, Nat.reduceLT, Nat.reduceLeDiff, Int.reduceEq, Int.reduceNe, Int.reduceLT, Int.reduceLE, Int.reduceBEq, Int.reduceBNe, Int.reduceToNat, e1]
  refine call_use (lsOverR hs) ?_
  rintro r h ⟨hr, hs⟩
  subst hr
  simp (disch := omega) only [go_sem, reduceCtorEq, ↓reduceIte, Nat.reduceEqDiff, Nat.reduceAdd, Nat.reduceSub, Nat.reduceMul, Nat.reduceLT, Nat.reduceLeDiff, Int.reduceEq, Int.reduceNe, Int.reduceLT, Int.reduceLE, Int.reduceBEq, Int.reduceBNe, Int.reduceToNat]
  have e2 : lzOver [⟨1, 5, 15⟩] 14 = [] := rfl
  simp (disch := omega) only [go_sem, reduceCtorEq, ↓reduceIte, Nat.reduceEqDiff, Nat.reduceAdd, Nat.reduceSub, Nat.reduceMul, Nat.reduceLT, Nat.reduceLeDiff, Int.reduceEq, Int.reduceNe, Int.reduceLT, Int.reduceLE, Int.reduceBEq, Int.reduceBNe, Int.reduceToNat, e2]
  refine call_use (lsOverR hs) ?_
  rintro r h ⟨hr, hs⟩
  subst hr
  simp (disch := omega) only [go_sem, reduceCtorEq, ↓reduceIte, Nat.reduceEqDiff, Nat.reduceAdd, Nat.reduceSub, Nat.reduceMul, Nat.reduceLT, Nat.reduceLeDiff, Int.reduceEq, Int.reduceNe, Int.reduceLT, Int.reduceLE, Int.reduceBEq, Int.reduceBNe, Int.reduceToNat]
  have e3 : lzOver [⟨1, 5, 15⟩] 15 = [⟨1, 5, 15⟩] := rfl
  simp (disch := omega) only [go_sem, reduceCtorEq, ↓reduceIte, Nat.reduceEqDiff, Nat.reduceAdd, Nat.reduceSub, Nat.reduceMul, Nat.reduceLT, Nat.reduceLeDiff, Int.reduceEq, Int.reduceNe, Int.reduceLT, Int.reduceLE, Int.reduceBEq, Int.reduceBNe, Int.reduceToNat, e3]
  exact hs.drop
theorem lives10 {ttl : Int} {st : List Int} (ht : -9223372036854775808 ≤ ttl ∧ ttl ≤ 9223372036854775807) (hl : st.length ≤ 9223372036854775807) (hr : ∀ k ∈ st, -9223372036854775808 ≤ k ∧ k ≤ 9223372036854775807) :
    Triple Try.prog 5 [.int .i64 ttl, nums st] Hp.emp (fun r _ => r = .bool true) := by
  have hs : sat Hp.emp [] := trivial
  refine t5 (Nat.le_of_ble_eq_true rfl) ?_
  simp (disch := omega) only [F5, go_sem, reduceCtorEq, ↓reduceIte, Nat.reduceEqDiff, Nat.reduceAdd, Nat.reduceSub, Nat.reduceMul, Nat.reduceLT, Nat.reduceLeDiff, Int.reduceEq, Int.reduceNe, Int.reduceLT, Int.reduceLE, Int.reduceBEq, Int.reduceBNe, Int.reduceToNat]
  refine call_use (known10 hs) ?_
  rintro r h ⟨hr, hs⟩
  subst hr
  simp (disch := omega) only [go_sem, reduceCtorEq, ↓reduceIte, Nat.reduceEqDiff, Nat.reduceAdd, Nat.reduceSub, Nat.reduceMul, Nat.reduceLT, Nat.reduceLeDiff, Int.reduceEq, Int.reduceNe, Int.reduceLT, Int.reduceLE, Int.reduceBEq, Int.reduceBNe, Int.reduceToNat]
  refine call_use (lsNew hs) ?_
  rintro r h ⟨p, hr', hs⟩
  subst hr'
  simp (disch := omega) only [go_sem, reduceCtorEq, ↓reduceIte, Nat.reduceEqDiff, Nat.reduceAdd, Nat.reduceSub, Nat.reduceMul, Nat.reduceLT, Nat.reduceLeDiff, Int.reduceEq, Int.reduceNe, Int.reduceLT, Int.reduceLE, Int.reduceBEq, Int.reduceBNe, Int.reduceToNat]
  refine call_use (within10 hs ht.1 ht.2 (n := 1000) (by omega) (by omega)) ?_
  rintro r h ⟨k, hr', hk, hk2, hs⟩
  subst hr'
  obtain ⟨t, et, t1, t2⟩ : ∃ t : Nat, (2 : Int) + k = t ∧ 2 ≤ t ∧ t < 1002 := ⟨2 + k, by omega, by omega, by omega⟩
  simp (disch := omega) only [go_sem, reduceCtorEq, ↓reduceIte, Nat.reduceEqDiff, Nat.reduceAdd, Nat.reduceSub, Nat.reduceMul, Nat.reduceLT, Nat.reduceLeDiff, Int.reduceEq, Int.reduceNe, Int.reduceLT, Int.reduceLE, Int.reduceBEq, Int.reduceBNe, Int.reduceToNat, et]
  refine call_use (lsGrant hs (by omega)) ?_
  rintro r h ⟨hr, hs⟩
  subst hr
  simp (disch := omega) only [go_sem, reduceCtorEq, ↓reduceIte, Nat.reduceEqDiff, Nat.reduceAdd, Nat.reduceSub, Nat.reduceMul, Nat.reduceLT, Nat.reduceLeDiff, Int.reduceEq, Int.reduceNe, Int.reduceLT, Int.reduceLE, Int.reduceBEq, Int.reduceBNe, Int.reduceToNat]
  have b1 : lzNum t = true := by simp [lzNum]; omega
  have e1 : lzGrant [] 9 t 5 = (0, [⟨9, t, 5 + t⟩]) := by
    simp [lzGrant, b1, show lzNum 9 = true from rfl, lzHas, lzIns]
  rw [e1] at hs ⊢
  simp (disch := omega) only [go_sem, reduceCtorEq, ↓reduceIte, Nat.reduceEqDiff, Nat.reduceAdd, Nat.reduceSub, Nat.reduceMul, Nat.reduceLT, Nat.reduceLeDiff, Int.reduceEq, Int.reduceNe, Int.reduceLT, Int.reduceLE, Int.reduceBEq, Int.reduceBNe, Int.reduceToNat]
  have len2 : lenL (nums st) = some (.int .i64 st.length) := num_len
  refine run_loopN (fun m e h => ∃ (i now : Nat), m = 40 - i ∧ i ≤ 40 ∧ now ≤ 5 + i * 1002 ∧ sat h [LsP p [⟨9, t, now + t⟩]] ∧
    (e 0 = .int .i64 t ∧ e 1 = nums st ∧ e 5 = .ptr p 1 0 0 ∧ e 6 = .int .i64 now ∧ e 7 = .int .i64 i)) 40
    ⟨0, 5, rfl, by omega, by omega, hs, rfl, rfl, rfl, rfl, rfl⟩ ?_
  rintro m e h ⟨i, now, rfl, hi40, hnow, hs, he⟩
  have ov : ∀ n : Int, n < now + t → lzOver [⟨9, t, now + t⟩] n = [] := fun n hn => by simp [lzOver]; omega
  by_cases hc : i < st.length ∧ i < 40
  · obtain ⟨i1, c3⟩ := hc
    have c1 : (i : Int) < st.length := by omega
    have c2 : (i : Int) < 40 := by omega
    have hia1 : iaA 1 (nums st) (.int .i64 (i : Int)) = some (.ro [.int .i64 st[i]]) := num_at i1
    have hri := hr _ (List.getElem_mem i1)
    simp (disch := omega) only [go_sem, reduceCtorEq, ↓reduceIte, Nat.reduceEqDiff, Nat.reduceAdd, Nat.reduceSub, Nat.reduceMul, Nat.reduceLT, Nat.reduceLeDiff, Int.reduceEq, Int.reduceNe, Int.reduceLT, Int.reduceLE, Int.reduceBEq, Int.reduceBNe, Int.reduceToNat, he, len2, c1, c2, hia1]
    refine call_use (within10 hs hri.1 hri.2 (n := t) (by omega) (by omega)) ?_
    rintro r h ⟨j, hr', hj, hj2, hs⟩
    subst hr'
    obtain ⟨now', en, n1, n2⟩ : ∃ n : Nat, (now : Int) + j = n ∧ n < now + t ∧ now ≤ n := ⟨now + j, by omega, by omega, by omega⟩
    simp (disch := omega) only [go_sem, reduceCtorEq, ↓reduceIte, Nat.reduceEqDiff, Nat.reduceAdd, Nat.reduceSub, Nat.reduceMul, Nat.reduceLT, Nat.reduceLeDiff, Int.reduceEq, Int.reduceNe, Int.reduceLT, Int.reduceLE, Int.reduceBEq, Int.reduceBNe, Int.reduceToNat, he, en]
    refine call_use (lsOverR hs) ?_
    rintro r h ⟨hr, hs⟩
    subst hr
    simp (disch := omega) only [go_sem, reduceCtorEq, ↓reduceIte, Nat.reduceEqDiff, Nat.reduceAdd, Nat.reduceSub, Nat.reduceMul, Nat.reduceLT, Nat.reduceLeDiff, Int.reduceEq, Int.reduceNe, Int.reduceLT, Int.reduceLE, Int.reduceBEq, Int.reduceBNe, Int.reduceToNat, he, ov _ (show (now' : Int) < now + t by omega), lenL_lst]
    have e2 : lzRenew [⟨9, t, now + t⟩] 9 now' = (0, [⟨9, t, now' + t⟩]) := by simp [lzRenew, lzHas, lzRen]
    have m1 : (i : Int) + 1 = ((i + 1 : Nat) : Int) := by omega
    refine call_use (lsRenew hs (by omega)) ?_
    rintro r h ⟨hr, hs⟩
    subst hr
    simp (disch := omega) only [go_sem, reduceCtorEq, ↓reduceIte, Nat.reduceEqDiff, Nat.reduceAdd, Nat.reduceSub, Nat.reduceMul, Nat.reduceLT, Nat.reduceLeDiff, Int.reduceEq, Int.reduceNe, Int.reduceLT, Int.reduceLE, Int.reduceBEq, Int.reduceBNe, Int.reduceToNat, e2, he, m1]
    rw [e2] at hs
    exact ⟨40 - (i + 1), by omega, i + 1, now', rfl, by omega, by omega, hs, rfl, rfl⟩
  · have hcase : (¬ (i : Int) < st.length) ∨ ((i : Int) < st.length ∧ ¬ (i : Int) < 40) := by omega
    have o1 := ov (now + t - 1) (by omega)
    have o2 : lzOver [⟨9, t, now + t⟩] (now + t) = [⟨9, t, now + t⟩] := by simp [lzOver]
    have o3 : lzHas [⟨9, t, now + t⟩] 9 = true := by simp [lzHas]
    rcases hcase with c1 | ⟨c1, c2⟩
    · simp (disch := omega) only [go_sem, reduceCtorEq, ↓reduceIte, Nat.reduceEqDiff, Nat.reduceAdd, Nat.reduceSub, Nat.reduceMul, Nat.reduceLT, Nat.reduceLeDiff, Int.reduceEq, Int.reduceNe, Int.reduceLT, Int.reduceLE, Int.reduceBEq, Int.reduceBNe, Int.reduceToNat, he, len2, c1]
      refine call_use (lsOverR hs) ?_
      rintro r h ⟨hr, hs⟩
      subst hr
      simp (disch := omega) only [go_sem, reduceCtorEq, ↓reduceIte, Nat.reduceEqDiff, Nat.reduceAdd, Nat.reduceSub, Nat.reduceMul, Nat.reduceLT, Nat.reduceLeDiff, Int.reduceEq, Int.reduceNe, Int.reduceLT, Int.reduceLE, Int.reduceBEq, Int.reduceBNe, Int.reduceToNat, o1, lenL_lst, he]
      refine call_use (lsOverR hs) ?_
      rintro r h ⟨hr, hs⟩
      subst hr
      simp (disch := omega) only [go_sem, reduceCtorEq, ↓reduceIte, Nat.reduceEqDiff, Nat.reduceAdd, Nat.reduceSub, Nat.reduceMul, Nat.reduceLT, Nat.reduceLeDiff, Int.reduceEq, Int.reduceNe, Int.reduceLT, Int.reduceLE, Int.reduceBEq, Int.reduceBNe, Int.reduceToNat, o2, lenL_lst, he]
      refine call_use (lsHas hs) ?_
      rintro r h ⟨hr, hs⟩
      subst hr
      simp (disch := omega) only [go_sem, reduceCtorEq, ↓reduceIte, Nat.reduceEqDiff, Nat.reduceAdd, Nat.reduceSub, Nat.reduceMul, Nat.reduceLT, Nat.reduceLeDiff, Int.reduceEq, Int.reduceNe, Int.reduceLT, Int.reduceLE, Int.reduceBEq, Int.reduceBNe, Int.reduceToNat, o3]
    · simp (disch := omega) only [go_sem, reduceCtorEq, ↓reduceIte, Nat.reduceEqDiff, Nat.reduceAdd, Nat.reduceSub, Nat.reduceMul, Nat.reduceLT, Nat.reduceLeDiff, Int.reduceEq, Int.reduceNe, Int.reduceLT, Int.reduceLE, Int.reduceBEq, Int.reduceBNe, Int.reduceToNat, he, len2, c1, c2]
      refine call_use (lsOverR hs) ?_
      rintro r h ⟨hr, hs⟩
      subst hr
      simp (disch := omega) only [go_sem, reduceCtorEq, ↓reduceIte, Nat.reduceEqDiff, Nat.reduceAdd, Nat.reduceSub, Nat.reduceMul, Nat.reduceLT, Nat.reduceLeDiff, Int.reduceEq, Int.reduceNe, Int.reduceLT, Int.reduceLE, Int.reduceBEq, Int.reduceBNe, Int.reduceToNat, o1, lenL_lst, he]
      refine call_use (lsOverR hs) ?_
      rintro r h ⟨hr, hs⟩
      subst hr
      simp (disch := omega) only [go_sem, reduceCtorEq, ↓reduceIte, Nat.reduceEqDiff, Nat.reduceAdd, Nat.reduceSub, Nat.reduceMul, Nat.reduceLT, Nat.reduceLeDiff, Int.reduceEq, Int.reduceNe, Int.reduceLT, Int.reduceLE, Int.reduceBEq, Int.reduceBNe, Int.reduceToNat, o2, lenL_lst, he]
      refine call_use (lsHas hs) ?_
      rintro r h ⟨hr, hs⟩
      subst hr
      simp (disch := omega) only [go_sem, reduceCtorEq, ↓reduceIte, Nat.reduceEqDiff, Nat.reduceAdd, Nat.reduceSub, Nat.reduceMul, Nat.reduceLT, Nat.reduceLeDiff, Int.reduceEq, Int.reduceNe, Int.reduceLT, Int.reduceLE, Int.reduceBEq, Int.reduceBNe, Int.reduceToNat, o3]

/-- What is over, after so many grants. -/
def ovT (ts : List Int) (j : Nat) : Int := 1 + (ts.getD j 0) % 100
def ovX (ts : List Int) (i : Nat) : List Lz := (List.range i).map fun (j : Nat) => (⟨(j : Int) + 1, ovT ts j, 50 + ovT ts j⟩ : Lz)
theorem lzIns_end {X : List Lz} {y : Lz} (hx : ∀ x ∈ X, x.id < y.id) : lzIns X y = X ++ [y] := by
  induction X with
  | nil => rfl
  | cons z X ih =>
    have ih := ih fun x h => hx x (by simp [h])
    have hz := hx z (by simp)
    unfold lzIns at ih ⊢
    rw [List.takeWhile_cons_of_pos (by simpa using hz), List.dropWhile_cons_of_pos (by simpa using hz), List.cons_append, ih, List.cons_append]
theorem ovX_snoc {ts : List Int} {i : Nat} : ovX ts (i + 1) = ovX ts i ++ [⟨i + 1, ovT ts i, 50 + ovT ts i⟩] := by
  unfold ovX
  rw [List.range_succ, List.map_append]; rfl
theorem ovX_mem {ts : List Int} {i : Nat} {x : Lz} (hx : x ∈ ovX ts i) : ∃ j, j < i ∧ x = ⟨j + 1, ovT ts j, 50 + ovT ts j⟩ := by
  obtain ⟨j, hj, rfl⟩ := List.mem_map.1 hx
  exact ⟨j, by simpa using hj, rfl⟩
theorem ovT_b {ts : List Int} {j : Nat} : 1 ≤ ovT ts j ∧ ovT ts j ≤ 100 := by
  unfold ovT
  have := Int.emod_nonneg (ts.getD j 0) (show (100 : Int) ≠ 0 by decide)
  have := Int.emod_lt_of_pos (ts.getD j 0) (show (0 : Int) < 100 by decide)
  omega
theorem ovX_grant {ts : List Int} {i : Nat} (hi : i < 30) : lzGrant (ovX ts i) (i + 1) (ovT ts i) 50 = (0, ovX ts (i + 1)) := by
  have b := ovT_b (ts := ts) (j := i)
  have h1 : lzNum (i + 1) = true := by simp [lzNum]; omega
  have h2 : lzNum (ovT ts i) = true := by simp [lzNum]; omega
  have h3 : lzHas (ovX ts i) (i + 1) = false := by
    rw [lzHas, List.any_eq_false]
    intro x hx
    obtain ⟨j, hj, rfl⟩ := ovX_mem hx
    simp; omega
  have h4 : ¬ 1024 ≤ (ovX ts i).length := by simp [ovX]; omega
  rw [lzGrant, if_neg (by simp [h1, h2]), if_neg (by simp [h3]), if_neg h4, lzIns_end, ovX_snoc]
  intro x hx
  obtain ⟨j, hj, rfl⟩ := ovX_mem hx
  show (j : Int) + 1 < i + 1
  omega
theorem over10 {ts : List Int} {now : Int} (hn : -9223372036854775808 ≤ now ∧ now ≤ 9223372036854775807) (hl : ts.length ≤ 9223372036854775807) (hr : ∀ k ∈ ts, -9223372036854775808 ≤ k ∧ k ≤ 9223372036854775807) :
    Triple Try.prog 4 [nums ts, .int .i64 now] Hp.emp (fun r _ => r = .bool true) := by
  have hs : sat Hp.emp [] := trivial
  refine t4 (Nat.le_of_ble_eq_true rfl) ?_
  simp (disch := omega) only [F4, go_sem, reduceCtorEq, ↓reduceIte, Nat.reduceEqDiff, Nat.reduceAdd, Nat.reduceSub, Nat.reduceMul, Nat.reduceLT, Nat.reduceLeDiff, Int.reduceEq, Int.reduceNe, Int.reduceLT, Int.reduceLE, Int.reduceBEq, Int.reduceBNe, Int.reduceToNat]
  refine call_use (known10 hs) ?_
  rintro r h ⟨hr, hs⟩
  subst hr
  simp (disch := omega) only [go_sem, reduceCtorEq, ↓reduceIte, Nat.reduceEqDiff, Nat.reduceAdd, Nat.reduceSub, Nat.reduceMul, Nat.reduceLT, Nat.reduceLeDiff, Int.reduceEq, Int.reduceNe, Int.reduceLT, Int.reduceLE, Int.reduceBEq, Int.reduceBNe, Int.reduceToNat]
  refine call_use (lsNew hs) ?_
  rintro r h ⟨p, hr', hs⟩
  subst hr'
  simp (disch := omega) only [go_sem, reduceCtorEq, ↓reduceIte, Nat.reduceEqDiff, Nat.reduceAdd, Nat.reduceSub, Nat.reduceMul, Nat.reduceLT, Nat.reduceLeDiff, Int.reduceEq, Int.reduceNe, Int.reduceLT, Int.reduceLE, Int.reduceBEq, Int.reduceBNe, Int.reduceToNat]
  refine call_use (within10 hs hn.1 hn.2 (n := 200) (by omega) (by omega)) ?_
  rintro r h ⟨k, hr', hk, hk2, hs⟩
  subst hr'
  simp (disch := omega) only [go_sem, reduceCtorEq, ↓reduceIte, Nat.reduceEqDiff, Nat.reduceAdd, Nat.reduceSub, Nat.reduceMul, Nat.reduceLT, Nat.reduceLeDiff, Int.reduceEq, Int.reduceNe, Int.reduceLT, Int.reduceLE, Int.reduceBEq, Int.reduceBNe, Int.reduceToNat]
  have len2 : lenL (nums ts) = some (.int .i64 ts.length) := num_len
  have hs : sat h [LsP p (ovX ts 0)] := hs
  refine blk_join (Q := fun e h => ∃ (i : Nat), i ≤ 30 ∧ i ≤ ts.length ∧ sat h [LsP p (ovX ts i)] ∧
    (e 0 = nums ts ∧ e 1 = .int .i64 k ∧ e 5 = .ptr p 1 0 0 ∧ e 6 = .int .i64 (lzOver (ovX ts i) k).length)) ?_ ?_
  · refine run_loopN (fun m e h => ∃ (i : Nat), m = 30 - i ∧ i ≤ 30 ∧ i ≤ ts.length ∧ sat h [LsP p (ovX ts i)] ∧
      (e 0 = nums ts ∧ e 1 = .int .i64 k ∧ e 5 = .ptr p 1 0 0 ∧ e 6 = .int .i64 (lzOver (ovX ts i) k).length ∧ e 7 = .int .i64 i)) 30
      ⟨0, rfl, by omega, by omega, hs, rfl, rfl, rfl, rfl, rfl⟩ ?_
    rintro m e h ⟨i, rfl, hi30, hil, hs, he⟩
    have hol : (lzOver (ovX ts i) k).length ≤ 30 := Nat.le_trans (List.length_filter_le _ _) (by simp [ovX]; omega)
    by_cases hc : i < ts.length ∧ i < 30
    · obtain ⟨i1, c3⟩ := hc
      have c1 : (i : Int) < ts.length := by omega
      have c2 : (i : Int) < 30 := by omega
      have hia1 : iaA 1 (nums ts) (.int .i64 (i : Int)) = some (.ro [.int .i64 ts[i]]) := num_at i1
      have hri := hr _ (List.getElem_mem i1)
      simp (disch := omega) only [go_sem, reduceCtorEq, ↓reduceIte, Nat.reduceEqDiff, Nat.reduceAdd, Nat.reduceSub, Nat.reduceMul, Nat.reduceLT, Nat.reduceLeDiff, Int.reduceEq, Int.reduceNe, Int.reduceLT, Int.reduceLE, Int.reduceBEq, Int.reduceBNe, Int.reduceToNat, he, len2, c1, c2, hia1]
      refine call_use (within10 hs hri.1 hri.2 (n := 100) (by omega) (by omega)) ?_
      rintro r h ⟨j, hr', hj, hj2, hs⟩
      subst hr'
      have e1 : (1 : Int) + j = ovT ts i := by rw [hj, ovT]; simp [i1]
      have b := ovT_b (ts := ts) (j := i)
      simp (disch := omega) only [go_sem, reduceCtorEq, ↓reduceIte, Nat.reduceEqDiff, Nat.reduceAdd, Nat.reduceSub, Nat.reduceMul, Nat.reduceLT, Nat.reduceLeDiff, Int.reduceEq, Int.reduceNe, Int.reduceLT, Int.reduceLE, Int.reduceBEq, Int.reduceBNe, Int.reduceToNat, he, e1]
      have e2 := ovX_grant (ts := ts) c3
      refine call_use (lsGrant hs (by omega)) ?_
      rintro r h ⟨hr, hs⟩
      subst hr
      simp (disch := omega) only [go_sem, reduceCtorEq, ↓reduceIte, Nat.reduceEqDiff, Nat.reduceAdd, Nat.reduceSub, Nat.reduceMul, Nat.reduceLT, Nat.reduceLeDiff, Int.reduceEq, Int.reduceNe, Int.reduceLT, Int.reduceLE, Int.reduceBEq, Int.reduceBNe, Int.reduceToNat, e2, he]
      rw [e2] at hs
      have m1 : (i : Int) + 1 = ((i + 1 : Nat) : Int) := by omega
      have e3 : lzOver (ovX ts (i + 1)) k = lzOver (ovX ts i) k ++ lzOver [⟨i + 1, ovT ts i, 50 + ovT ts i⟩] k := by rw [ovX_snoc]; simp [lzOver]
      refine cnd_dec (fun h1 => ?_) (fun h1 => ?_)
      · have e4 : ((lzOver (ovX ts i) k).length : Int) + 1 = ((lzOver (ovX ts (i + 1)) k).length : Int) := by rw [e3]; simp [lzOver, h1]
        simp (disch := omega) only [go_sem, reduceCtorEq, ↓reduceIte, Nat.reduceEqDiff, Nat.reduceAdd, Nat.reduceSub, Nat.reduceMul, Nat.reduceLT, Nat.reduceLeDiff, Int.reduceEq, Int.reduceNe, Int.reduceLT, Int.reduceLE, Int.reduceBEq, Int.reduceBNe, Int.reduceToNat, he, m1, e4]
        exact ⟨30 - (i + 1), by omega, i + 1, rfl, by omega, by omega, hs, rfl, rfl⟩
      · have e4 : lzOver (ovX ts (i + 1)) k = lzOver (ovX ts i) k := by rw [e3]; simp [lzOver, h1]
        simp (disch := omega) only [go_sem, reduceCtorEq, ↓reduceIte, Nat.reduceEqDiff, Nat.reduceAdd, Nat.reduceSub, Nat.reduceMul, Nat.reduceLT, Nat.reduceLeDiff, Int.reduceEq, Int.reduceNe, Int.reduceLT, Int.reduceLE, Int.reduceBEq, Int.reduceBNe, Int.reduceToNat, he, m1]
        exact ⟨30 - (i + 1), by omega, i + 1, rfl, by omega, by omega, hs, by rw [e4], rfl⟩
    · have hcase : (¬ (i : Int) < ts.length) ∨ ((i : Int) < ts.length ∧ ¬ (i : Int) < 30) := by omega
      rcases hcase with c1 | ⟨c1, c2⟩
      · simp (disch := omega) only [go_sem, reduceCtorEq, ↓reduceIte, Nat.reduceEqDiff, Nat.reduceAdd, Nat.reduceSub, Nat.reduceMul, Nat.reduceLT, Nat.reduceLeDiff, Int.reduceEq, Int.reduceNe, Int.reduceLT, Int.reduceLE, Int.reduceBEq, Int.reduceBNe, Int.reduceToNat, he, len2, c1]
        exact ⟨i, by omega, by omega, hs, rfl⟩
      · simp (disch := omega) only [go_sem, reduceCtorEq, ↓reduceIte, Nat.reduceEqDiff, Nat.reduceAdd, Nat.reduceSub, Nat.reduceMul, Nat.reduceLT, Nat.reduceLeDiff, Int.reduceEq, Int.reduceNe, Int.reduceLT, Int.reduceLE, Int.reduceBEq, Int.reduceBNe, Int.reduceToNat, he, len2, c1, c2]
        exact ⟨i, by omega, by omega, hs, rfl⟩
  rintro e h ⟨n, hn30, hnl, hs, he⟩
  simp (disch := omega) only [go_sem, reduceCtorEq, ↓reduceIte, Nat.reduceEqDiff, Nat.reduceAdd, Nat.reduceSub, Nat.reduceMul, Nat.reduceLT, Nat.reduceLeDiff, Int.reduceEq, Int.reduceNe, Int.reduceLT, Int.reduceLE, Int.reduceBEq, Int.reduceBNe, Int.reduceToNat, he]
  refine call_use (lsOverR hs) ?_
  rintro r h ⟨hr, hs⟩
  subst hr
  simp (disch := omega) only [go_sem, reduceCtorEq, ↓reduceIte, Nat.reduceEqDiff, Nat.reduceAdd, Nat.reduceSub, Nat.reduceMul, Nat.reduceLT, Nat.reduceLeDiff, Int.reduceEq, Int.reduceNe, Int.reduceLT, Int.reduceLE, Int.reduceBEq, Int.reduceBNe, Int.reduceToNat]
  have hok : LzOK (ovX ts n) := (lsP.1 hs).choose_spec.1
  have hz1 : (lzOver (ovX ts n) k).Pairwise (fun a b => a.id < b.id) := hok.1.filter _
  have hz2 : ∀ x ∈ lzOver (ovX ts n) k, ∃ j, j < n ∧ x = ⟨j + 1, ovT ts j, 50 + ovT ts j⟩ ∧ 50 + ovT ts j ≤ k := by
    intro x hx
    obtain ⟨h1, h2⟩ := List.mem_filter.1 hx
    obtain ⟨j, h3, rfl⟩ := ovX_mem h1
    exact ⟨j, h3, rfl, by simpa using h2⟩
  have hz3 : (lzOver (ovX ts n) k).length ≤ 30 := Nat.le_trans (List.length_filter_le _ _) (by simp [ovX]; omega)
  generalize lzOver (ovX ts n) k = Z at he hz1 hz2 hz3
  refine run_up (N := Z.length) (fun i e h => sat h [LsP p (ovX ts n)] ∧ (e 0 = nums ts ∧ e 1 = .int .i64 k ∧ e 6 = .int .i64 Z.length ∧ e 9 = .lst (Z.map fun x => [.int .i64 x.id]) ∧ e 10 = .int .i64 i)) ⟨hs, by simp [Env.upd_apply, he]⟩ ?_
  clear he hs
  rintro i e h hi ⟨hs, he⟩
  have m1 : (i : Int) + 1 = ((i + 1 : Nat) : Int) := by omega
  have lenZ : lenL (.lst (Z.map fun x => [AV.int .i64 x.id])) = some (.int .i64 Z.length) := by simp [lenL]
  simp (disch := omega) only [go_sem, reduceCtorEq, ↓reduceIte, Nat.reduceEqDiff, Nat.reduceAdd, Nat.reduceSub, Nat.reduceMul, Nat.reduceLT, Nat.reduceLeDiff, Int.reduceEq, Int.reduceNe, Int.reduceLT, Int.reduceLE, Int.reduceBEq, Int.reduceBNe, Int.reduceToNat, he, m1, lenZ]
  refine cnd_dec (fun h1 => ?_) (fun h1 => ?_)
  · have hi : i < Z.length := by omega
    have ez := ia_lst (f := fun x : Lz => [AV.int .i64 x.id]) (l := Z) (i := i) (s := 1) (k := .i64) hi (fun _ => rfl)
    obtain ⟨j, hj, hx, hle⟩ := hz2 _ (List.getElem_mem hi)
    have eid : Z[i].id = (j : Int) + 1 := by rw [hx]
    have hjt : j < ts.length := by omega
    have d1 : ((j : Int) + 1 < 1) = False := by simp; omega
    have d2 : (j : Int) + 1 - 1 = (j : Int) := by omega
    have hia1 : iaA 1 (nums ts) (.int .i64 (j : Int)) = some (.ro [.int .i64 ts[j]]) := num_at hjt
    have hri := hr _ (List.getElem_mem hjt)
    simp (disch := omega) only [go_sem, reduceCtorEq, ↓reduceIte, Nat.reduceEqDiff, Nat.reduceAdd, Nat.reduceSub, Nat.reduceMul, Nat.reduceLT, Nat.reduceLeDiff, Int.reduceEq, Int.reduceNe, Int.reduceLT, Int.reduceLE, Int.reduceBEq, Int.reduceBNe, Int.reduceToNat, he, ez, eid, d1, d2, hia1]
    refine call_use (within10 hs hri.1 hri.2 (n := 100) (by omega) (by omega)) ?_
    rintro r h ⟨j', hr', hj', hj2, hs⟩
    subst hr'
    have e5 : (51 : Int) + j' ≤ k := by
      have : ovT ts j = 1 + ts[j] % 100 := by simp [ovT, hjt]
      omega
    have d3 : ((51 : Int) + j' > k) = False := by simp; omega
    by_cases h0 : i = 0
    · subst h0
      have d4 : (((0 : Nat) : Int) > 0) = False := by simp
      simp (disch := omega) only [go_sem, reduceCtorEq, ↓reduceIte, Nat.reduceEqDiff, Nat.reduceAdd, Nat.reduceSub, Nat.reduceMul, Nat.reduceLT, Nat.reduceLeDiff, Int.reduceEq, Int.reduceNe, Int.reduceLT, Int.reduceLE, Int.reduceBEq, Int.reduceBNe, Int.reduceToNat, he, d3, d4]
      exact ⟨by omega, hs, rfl⟩
    · have d4 : ((i : Int) > 0) = True := by simp; omega
      have m2 : (i : Int) - 1 = ((i - 1 : Nat) : Int) := by omega
      have ez2 := ia_lst (f := fun x : Lz => [AV.int .i64 x.id]) (l := Z) (i := i - 1) (s := 1) (k := .i64) (by omega) (fun _ => rfl)
      have hlt : Z[i - 1].id < Z[i].id := List.pairwise_iff_getElem.1 hz1 (i - 1) i (by omega) hi (by omega)
      have d5 : ((j : Int) + 1 ≤ Z[i - 1].id) = False := by simp; omega
      simp (disch := omega) only [go_sem, reduceCtorEq, ↓reduceIte, Nat.reduceEqDiff, Nat.reduceAdd, Nat.reduceSub, Nat.reduceMul, Nat.reduceLT, Nat.reduceLeDiff, Int.reduceEq, Int.reduceNe, Int.reduceLT, Int.reduceLE, Int.reduceBEq, Int.reduceBNe, Int.reduceToNat, he, d3, d4, ez, m2, ez2, eid, d5, m1]
      exact ⟨by omega, hs⟩
  · have hi : i = Z.length := by omega
    subst hi
    simp (disch := omega) only [go_sem, reduceCtorEq, ↓reduceIte, Nat.reduceEqDiff, Nat.reduceAdd, Nat.reduceSub, Nat.reduceMul, Nat.reduceLT, Nat.reduceLeDiff, Int.reduceEq, Int.reduceNe, Int.reduceLT, Int.reduceLE, Int.reduceBEq, Int.reduceBNe, Int.reduceToNat, he, lenZ]
end
end Go.Proofs.Ytcajplcepmbbkaa
/- The law LeaseMany, walked. -/
set_option linter.unusedSimpArgs false
set_option linter.unusedVariables false
set_option maxRecDepth 10000
namespace Go.Proofs.Ytcajplcepmbbkaa
open Go.Hz

theorem odd_inj {s i j : Nat} (h2 : s % 2 = 1) (hi : i < 2048) (hj : j < 2048) (h : (i * s) % 2048 = (j * s) % 2048) : i = j := by
  have c2 : Nat.Coprime s 2 := by
    have := Nat.gcd_rec 2 s
    unfold Nat.Coprime
    rw [Nat.gcd_comm, this, h2]
    rfl
  have cop : Nat.Coprime s 2048 := by
    have c4 := c2.mul_right c2
    have c16 := c4.mul_right c4
    have c256 := c16.mul_right c16
    have c2048 := (c256.mul_right c4).mul_right c2
    simpa using c2048
  have key : ∀ a b : Nat, a ≤ b → b < 2048 → (a * s) % 2048 = (b * s) % 2048 → a = b := by
    intro a b hab hb he
    have h1 : 2048 ∣ (b - a) * s := by
      rw [Nat.sub_mul]
      exact Nat.dvd_of_mod_eq_zero (Nat.sub_mod_eq_zero_of_mod_eq he.symm)
    have h3 : 2048 ∣ b - a := cop.symm.dvd_of_dvd_mul_right h1
    have := Nat.eq_zero_of_dvd_of_lt h3 (by omega)
    omega
  rcases Nat.le_total i j with hh | hh
  · exact key i j hh hj h
  · exact (key j i hh hi h.symm).symm

theorem many10 {n0 s0 : Int} (hn : -9223372036854775808 ≤ n0 ∧ n0 ≤ 9223372036854775807) (hst : -9223372036854775808 ≤ s0 ∧ s0 ≤ 9223372036854775807) :
    Triple Try.prog 3 [.int .i64 n0, .int .i64 s0] Hp.emp (fun r _ => r = .bool true) := by
  have hs : sat Hp.emp [] := trivial
  refine t3 (Nat.le_of_ble_eq_true rfl) ?_
  simp (disch := omega) only [F3, go_sem, reduceCtorEq, ↓reduceIte, Nat.reduceEqDiff, Nat.reduceAdd, Nat.reduceSub, Nat.reduceMul, Nat.reduceLT, Nat.reduceLeDiff, Int.reduceEq, Int.reduceNe, Int.reduceLT, Int.reduceLE, Int.reduceBEq, Int.reduceBNe, Int.reduceToNat]
  refine call_use (known10 hs) ?_
  rintro r h ⟨hr, hs⟩
  subst hr
  simp (disch := omega) only [go_sem, reduceCtorEq, ↓reduceIte, Nat.reduceEqDiff, Nat.reduceAdd, Nat.reduceSub, Nat.reduceMul, Nat.reduceLT, Nat.reduceLeDiff, Int.reduceEq, Int.reduceNe, Int.reduceLT, Int.reduceLE, Int.reduceBEq, Int.reduceBNe, Int.reduceToNat]
  refine call_use (lsNew hs) ?_
  rintro r h ⟨p, hr', hs⟩
  subst hr'
  simp (disch := omega) only [go_sem, reduceCtorEq, ↓reduceIte, Nat.reduceEqDiff, Nat.reduceAdd, Nat.reduceSub, Nat.reduceMul, Nat.reduceLT, Nat.reduceLeDiff, Int.reduceEq, Int.reduceNe, Int.reduceLT, Int.reduceLE, Int.reduceBEq, Int.reduceBNe, Int.reduceToNat]
  refine call_use (within10 hs hn.1 hn.2 (n := 8) (by omega) (by omega)) ?_
  rintro r h ⟨k, hr', hk, hk2, hs⟩
  subst hr'
  simp (disch := omega) only [go_sem, reduceCtorEq, ↓reduceIte, Nat.reduceEqDiff, Nat.reduceAdd, Nat.reduceSub, Nat.reduceMul, Nat.reduceLT, Nat.reduceLeDiff, Int.reduceEq, Int.reduceNe, Int.reduceLT, Int.reduceLE, Int.reduceBEq, Int.reduceBNe, Int.reduceToNat]
  refine call_use (within10 hs hst.1 hst.2 (n := 500) (by omega) (by omega)) ?_
  rintro r h ⟨c, hr', hc, hc2, hs⟩
  subst hr'
  obtain ⟨n, en, n1, n2⟩ : ∃ n : Nat, (1020 : Int) + k = n ∧ 1020 ≤ n ∧ n < 1028 := ⟨1020 + k, by omega, by omega, by omega⟩
  obtain ⟨s, es, s1, s2⟩ : ∃ s : Nat, (1 : Int) + 2 * c = s ∧ s % 2 = 1 ∧ s < 1001 := ⟨1 + 2 * c, by omega, by omega, by omega⟩
  simp (disch := omega) only [go_sem, reduceCtorEq, ↓reduceIte, Nat.reduceEqDiff, Nat.reduceAdd, Nat.reduceSub, Nat.reduceMul, Nat.reduceLT, Nat.reduceLeDiff, Int.reduceEq, Int.reduceNe, Int.reduceLT, Int.reduceLE, Int.reduceBEq, Int.reduceBNe, Int.reduceToNat, en, es]
  refine blk_join (Q := fun e h => ∃ X : List Lz, X.length = min n 1024 ∧ (∀ x ∈ X, x.til ≤ 3000) ∧ sat h [LsP p X] ∧ (e 0 = .int .i64 n ∧ e 5 = .ptr p 1 0 0)) ?_ ?_
  · refine run_up (N := n) (fun i e h => ∃ X : List Lz, X.length = min i 1024 ∧ (∀ x ∈ X, x.til ≤ 3000) ∧ (∀ x ∈ X, ∃ j, j < i ∧ x.id = ((1 + (j * s) % 2048 : Nat) : Int)) ∧ sat h [LsP p X] ∧ (e 0 = .int .i64 n ∧ e 1 = .int .i64 s ∧ e 5 = .ptr p 1 0 0 ∧ e 6 = .int .i64 i)) ⟨[], by simp, by simp, by simp, hs, by simp [Env.upd_apply]⟩ ?_
    clear hs
    rintro i e h hi ⟨X, x1, x2, x3, hs, he⟩
    have m1 : (i : Int) + 1 = ((i + 1 : Nat) : Int) := by omega
    have b1 : i * s ≤ 1028 * 1001 := Nat.mul_le_mul (by omega) (by omega)
    have m2 : (i : Int) * s = ((i * s : Nat) : Int) := by simp
    have m3 : ((i * s : Nat) : Int).tmod 2048 = ((i * s % 2048 : Nat) : Int) := by rw [Int.tmod_eq_emod_of_nonneg (by omega)]; omega
    have m4 : (1 : Int) + ((i * s % 2048 : Nat) : Int) = ((1 + i * s % 2048 : Nat) : Int) := by omega
    simp (disch := omega) only [go_sem, reduceCtorEq, ↓reduceIte, Nat.reduceEqDiff, Nat.reduceAdd, Nat.reduceSub, Nat.reduceMul, Nat.reduceLT, Nat.reduceLeDiff, Int.reduceEq, Int.reduceNe, Int.reduceLT, Int.reduceLE, Int.reduceBEq, Int.reduceBNe, Int.reduceToNat, he, m2, m3, m4]
    refine cnd_dec (fun h1 => ?_) (fun h1 => ?_)
    · have hi : i < n := by omega
      simp (disch := omega) only [go_sem, reduceCtorEq, ↓reduceIte, Nat.reduceEqDiff, Nat.reduceAdd, Nat.reduceSub, Nat.reduceMul, Nat.reduceLT, Nat.reduceLeDiff, Int.reduceEq, Int.reduceNe, Int.reduceLT, Int.reduceLE, Int.reduceBEq, Int.reduceBNe, Int.reduceToNat, he, m2, m3, m4]
      have g1 : lzNum ((1 + i * s % 2048 : Nat) : Int) = true := by
        have := Nat.mod_lt (i * s) (show 0 < 2048 by omega)
        simp only [lzNum, decide_eq_true_eq]; omega
      have g2 : lzNum 5 = true := rfl
      have g3 : lzHas X ((1 + i * s % 2048 : Nat) : Int) = false := by
        rw [lzHas, List.any_eq_false]
        intro x hx hq
        obtain ⟨j, hj, hxj⟩ := x3 x hx
        have hq : x.id = ((1 + i * s % 2048 : Nat) : Int) := by simpa using hq
        have := odd_inj s1 (show j < 2048 by omega) (show i < 2048 by omega) (by omega)
        omega
      by_cases hf : i < 1024
      · have g4 : lzGrant X ((1 + i * s % 2048 : Nat) : Int) 5 i = (0, lzIns X ⟨((1 + i * s % 2048 : Nat) : Int), 5, i + 5⟩) := by
          rw [lzGrant, g1, g2, g3, if_neg (by decide), if_neg (by decide), if_neg (by omega)]
        refine call_use (lsGrant (now := (i : Int)) hs (by omega)) ?_
        rintro r h ⟨hr, hs⟩
        subst hr
        simp (disch := omega) only [go_sem, reduceCtorEq, ↓reduceIte, Nat.reduceEqDiff, Nat.reduceAdd, Nat.reduceSub, Nat.reduceMul, Nat.reduceLT, Nat.reduceLeDiff, Int.reduceEq, Int.reduceNe, Int.reduceLT, Int.reduceLE, Int.reduceBEq, Int.reduceBNe, Int.reduceToNat, he, g4, m1, show ((i : Int) < 1024) = True by simp; omega, show ((i : Int) ≥ 1024) = False by simp; omega]
        rw [g4] at hs
        have hp := lzIns_perm (X := X) (y := ⟨((1 + i * s % 2048 : Nat) : Int), 5, i + 5⟩)
        refine ⟨by omega, lzIns X ⟨((1 + i * s % 2048 : Nat) : Int), 5, i + 5⟩, ?_, ?_, ?_, hs⟩
        · rw [← hp.length_eq]; simp; omega
        · intro x hx
          rcases List.mem_append.1 (hp.mem_iff.2 hx) with hx | hx
          · exact x2 x hx
          · simp at hx; subst hx; show (i : Int) + 5 ≤ 3000; omega
        · intro x hx
          rcases List.mem_append.1 (hp.mem_iff.2 hx) with hx | hx
          · obtain ⟨j, h1, h2⟩ := x3 x hx; exact ⟨j, by omega, h2⟩
          · simp at hx; subst hx; exact ⟨i, by omega, rfl⟩
      · have g4 : lzGrant X ((1 + i * s % 2048 : Nat) : Int) 5 i = (4, X) := by
          rw [lzGrant, g1, g2, g3, if_neg (by decide), if_neg (by decide), if_pos (by omega)]
        refine call_use (lsGrant (now := (i : Int)) hs (by omega)) ?_
        rintro r h ⟨hr, hs⟩
        subst hr
        simp (disch := omega) only [go_sem, reduceCtorEq, ↓reduceIte, Nat.reduceEqDiff, Nat.reduceAdd, Nat.reduceSub, Nat.reduceMul, Nat.reduceLT, Nat.reduceLeDiff, Int.reduceEq, Int.reduceNe, Int.reduceLT, Int.reduceLE, Int.reduceBEq, Int.reduceBNe, Int.reduceToNat, he, g4, m1, show ((i : Int) < 1024) = False by simp; omega, show ((i : Int) ≥ 1024) = True by simp; omega]
        rw [g4] at hs
        refine ⟨by omega, X, by omega, x2, ?_, hs⟩
        intro x hx; obtain ⟨j, h1, h2⟩ := x3 x hx; exact ⟨j, by omega, h2⟩
    · have hi : i = n := by omega
      subst hi
      simp (disch := omega) only [go_sem, reduceCtorEq, ↓reduceIte, Nat.reduceEqDiff, Nat.reduceAdd, Nat.reduceSub, Nat.reduceMul, Nat.reduceLT, Nat.reduceLeDiff, Int.reduceEq, Int.reduceNe, Int.reduceLT, Int.reduceLE, Int.reduceBEq, Int.reduceBNe, Int.reduceToNat, he]
      exact ⟨X, x1, x2, hs⟩
  rintro e h ⟨X, x1, x2, hs, he⟩
  have hok : LzOK X := (lsP.1 hs).choose_spec.1
  simp (disch := omega) only [go_sem, reduceCtorEq, ↓reduceIte, Nat.reduceEqDiff, Nat.reduceAdd, Nat.reduceSub, Nat.reduceMul, Nat.reduceLT, Nat.reduceLeDiff, Int.reduceEq, Int.reduceNe, Int.reduceLT, Int.reduceLE, Int.reduceBEq, Int.reduceBNe, Int.reduceToNat, he]
  refine call_use (lsAllR hs) ?_
  rintro r h ⟨hr, hs⟩
  subst hr
  simp (disch := omega) only [go_sem, reduceCtorEq, ↓reduceIte, Nat.reduceEqDiff, Nat.reduceAdd, Nat.reduceSub, Nat.reduceMul, Nat.reduceLT, Nat.reduceLeDiff, Int.reduceEq, Int.reduceNe, Int.reduceLT, Int.reduceLE, Int.reduceBEq, Int.reduceBNe, Int.reduceToNat]
  refine blk_join (Q := fun e h => sat h [LsP p X] ∧ (e 0 = .int .i64 n ∧ e 5 = .ptr p 1 0 0 ∧ e 8 = .lst (X.map lzC))) ?_ ?_
  · refine run_up (N := X.length) (fun i e h => sat h [LsP p X] ∧ (e 0 = .int .i64 n ∧ e 5 = .ptr p 1 0 0 ∧ e 8 = .lst (X.map lzC) ∧ e 9 = .int .i64 (i + 1 : Nat))) ⟨hs, by simp [Env.upd_apply, he]⟩ ?_
    clear hs he
    rintro i e h hi ⟨hs, he⟩
    have m1 : ((i + 1 : Nat) : Int) + 1 = ((i + 1 + 1 : Nat) : Int) := by omega
    have m2 : ((i + 1 : Nat) : Int) - 1 = (i : Int) := by omega
    have lenX : lenL (.lst (X.map lzC)) = some (.int .i64 X.length) := by simp [lenL]
    simp (disch := omega) only [go_sem, reduceCtorEq, ↓reduceIte, Nat.reduceEqDiff, Nat.reduceAdd, Nat.reduceSub, Nat.reduceMul, Nat.reduceLT, Nat.reduceLeDiff, Int.reduceEq, Int.reduceNe, Int.reduceLT, Int.reduceLE, Int.reduceBEq, Int.reduceBNe, Int.reduceToNat, he, lenX]
    refine cnd_dec (fun h1 => ?_) (fun h1 => ?_)
    · have hi : i + 1 < X.length := by omega
      have e1 := ia_lst (f := lzC) (l := X) (i := i) (s := 3) (k := .i64) (by omega) (fun _ => rfl)
      have e2 := ia_lst (f := lzC) (l := X) (i := i + 1) (s := 3) (k := .i64) hi (fun _ => rfl)
      have hlt : X[i].id < X[i + 1].id := List.pairwise_iff_getElem.1 hok.1 i (i + 1) (by omega) hi (by omega)
      have d5 : (X[i + 1].id ≤ X[i].id) = False := by simp; omega
      simp (disch := omega) only [go_sem, reduceCtorEq, ↓reduceIte, Nat.reduceEqDiff, Nat.reduceAdd, Nat.reduceSub, Nat.reduceMul, Nat.reduceLT, Nat.reduceLeDiff, Int.reduceEq, Int.reduceNe, Int.reduceLT, Int.reduceLE, Int.reduceBEq, Int.reduceBNe, Int.reduceToNat, he, e1, e2, m2, lzC, d5, m1]
      exact ⟨by omega, hs⟩
    · simp (disch := omega) only [go_sem, reduceCtorEq, ↓reduceIte, Nat.reduceEqDiff, Nat.reduceAdd, Nat.reduceSub, Nat.reduceMul, Nat.reduceLT, Nat.reduceLeDiff, Int.reduceEq, Int.reduceNe, Int.reduceLT, Int.reduceLE, Int.reduceBEq, Int.reduceBNe, Int.reduceToNat, he]
      exact hs
  clear hs he
  rintro e h ⟨hs, he⟩
  have eo : lzOver X 1099511627776 = X := by
    rw [lzOver, List.filter_eq_self]
    intro x hx
    have := x2 x hx
    simp; omega
  have em : (if (1024 : Int) < n then (1024 : Int) else n) = ((min n 1024 : Nat) : Int) := by split <;> omega
  have e8 : ((X.length : Int) == ((min n 1024 : Nat) : Int)) = true := by rw [x1]; simp
  simp (disch := omega) only [go_sem, reduceCtorEq, ↓reduceIte, Nat.reduceEqDiff, Nat.reduceAdd, Nat.reduceSub, Nat.reduceMul, Nat.reduceLT, Nat.reduceLeDiff, Int.reduceEq, Int.reduceNe, Int.reduceLT, Int.reduceLE, Int.reduceBEq, Int.reduceBNe, Int.reduceToNat, he, lenL_lst, em, e8]
  refine call_use (lsOverR hs) ?_
  rintro r h ⟨hr, hs⟩
  subst hr
  simp (disch := omega) only [go_sem, reduceCtorEq, ↓reduceIte, Nat.reduceEqDiff, Nat.reduceAdd, Nat.reduceSub, Nat.reduceMul, Nat.reduceLT, Nat.reduceLeDiff, Int.reduceEq, Int.reduceNe, Int.reduceLT, Int.reduceLE, Int.reduceBEq, Int.reduceBNe, Int.reduceToNat, he, eo, lenL_lst]
theorem leaseMany_law (vs : List AV) (h : Ty.ones [.int .i64, .int .i64] vs) : Triple Try.prog 3 vs Hp.emp (fun r _ => r = .bool true) := by
  obtain ⟨a, _, rfl, ha, h⟩ := ones_cons h
  obtain ⟨c, _, rfl, hc, h⟩ := ones_cons h
  obtain rfl := ones_nil h
  obtain ⟨n, rfl, hn⟩ := int_of ha
  obtain ⟨s, rfl, hs⟩ := int_of hc
  exact many10 hn hs
theorem leaseOver_law (vs : List AV) (h : Ty.ones [.sl (.int .i64), .int .i64] vs) : Triple Try.prog 4 vs Hp.emp (fun r _ => r = .bool true) := by
  obtain ⟨a, _, rfl, ha, h⟩ := ones_cons h
  obtain ⟨c, _, rfl, hc, h⟩ := ones_cons h
  obtain rfl := ones_nil h
  obtain ⟨l, rfl, hl, hi⟩ := nums_of ha
  obtain ⟨s, rfl, hs⟩ := int_of hc
  exact over10 hs hl hi
theorem leaseLives_law (vs : List AV) (h : Ty.ones [.int .i64, .sl (.int .i64)] vs) : Triple Try.prog 5 vs Hp.emp (fun r _ => r = .bool true) := by
  obtain ⟨a, _, rfl, ha, h⟩ := ones_cons h
  obtain ⟨c, _, rfl, hc, h⟩ := ones_cons h
  obtain rfl := ones_nil h
  obtain ⟨s, rfl, hs⟩ := int_of ha
  obtain ⟨l, rfl, hl, hi⟩ := nums_of hc
  exact lives10 hs hl hi
end Go.Proofs.Ytcajplcepmbbkaa
/- The document's books: where one stands. -/
set_option linter.unusedSimpArgs false
set_option linter.unusedVariables false
set_option maxRecDepth 10000
namespace Go.Proofs.Ytcajplcepmbbkaa
open Go.Hz

section
variable {h : Hp} {F : List Asr} {p : Nat}

theorem rfAt_L {X : List Lz} {id : Int} (hs : sat h (BxS 3 p (X.map lzC) :: F)) (hl : X.length ≤ 1000000) : Triple Try.prog 26 [.ptr p 1 0 0, .int .i64 id] h (fun r h => ∃ k : Int, r = .int .i64 k ∧ AtK Lz.id X id k ∧ sat h (BxS 3 p (X.map lzC) :: F)) := by
  refine t26 (Nat.le_of_ble_eq_true rfl) ?_
  simp (disch := omega) only [F26, go_sem, reduceCtorEq, ↓reduceIte, Nat.reduceEqDiff, Nat.reduceAdd, Nat.reduceSub, Nat.reduceMul, Nat.reduceLT, Nat.reduceLeDiff, Int.reduceEq, Int.reduceNe, Int.reduceLT, Int.reduceLE, Int.reduceBEq, Int.reduceBNe, Int.reduceToNat]
  rcases bxS_cases hs with ⟨hn, hs1⟩ | ⟨b, cap, hle, hs⟩
  · have : X = [] := by simpa using hn
    subst this
    refine run_loopN (fun n e h => sat h (pto p (.row 1 [[.nils]] 1) :: F) ∧ (e 0 = .ptr p 1 0 0 ∧ e 5 = .int .i64 0)) 0 ⟨hs1, rfl, rfl⟩ ?_
    clear hs hs1
    rintro n e h ⟨hs, he⟩
    have hp := hs.at
    simp (disch := omega) only [go_sem, reduceCtorEq, ↓reduceIte, Nat.reduceEqDiff, Nat.reduceAdd, Nat.reduceSub, Nat.reduceMul, Nat.reduceLT, Nat.reduceLeDiff, Int.reduceEq, Int.reduceNe, Int.reduceLT, Int.reduceLE, Int.reduceBEq, Int.reduceBNe, Int.reduceToNat, he, hp]
    exact ⟨-1, rfl, .inl ⟨rfl, by simp⟩, bxS_nil hs⟩
  have hlen : (X.map lzC).length = X.length := by simp
  rw [hlen] at hs hle
  refine run_up (N := X.length) (fun i e h => (∀ j (hj : j < X.length), j < i → Lz.id X[j] ≠ id) ∧ sat h (pto p (.row 1 [[.arr b 3 0 X.length cap]] 1) :: pto b (.row 3 (X.map lzC) cap) :: F) ∧ (e 0 = .ptr p 1 0 0 ∧ e 1 = .int .i64 id ∧ e 5 = .int .i64 i)) ⟨fun _ _ h => by omega, hs, rfl, rfl, rfl⟩ ?_
  clear hs
  rintro i e h hi ⟨hb, hs, he⟩
  have hp := hs.at
  have hq := hs.p1.at
  have m1 : (i : Int) + 1 = ((i + 1 : Nat) : Int) := by omega
  have back : ∀ {h : Hp}, sat h (pto p (.row 1 [[.arr b 3 0 X.length cap]] 1) :: pto b (.row 3 (X.map lzC) cap) :: F) → sat h (BxS 3 p (X.map lzC) :: F) := fun hs => bxS_arr (b := b) (cap := cap) (by simpa using hs) (by simpa using hle)
  simp (disch := omega) only [go_sem, reduceCtorEq, ↓reduceIte, Nat.reduceEqDiff, Nat.reduceAdd, Nat.reduceSub, Nat.reduceMul, Nat.reduceLT, Nat.reduceLeDiff, Int.reduceEq, Int.reduceNe, Int.reduceLT, Int.reduceLE, Int.reduceBEq, Int.reduceBNe, Int.reduceToNat, he, hp, m1]
  refine cnd_dec (fun h1 => ?_) (fun h1 => ?_)
  · have hi : i < X.length := by omega
    have hrow : (X.map lzC)[i]? = some (lzC X[i]) := by simp [hi]
    by_cases hk : Lz.id X[i] = id
    · have ek : (Lz.id X[i] == id) = true := by simpa using hk
      simp (disch := omega) only [go_sem, reduceCtorEq, ↓reduceIte, Nat.reduceEqDiff, Nat.reduceAdd, Nat.reduceSub, Nat.reduceMul, Nat.reduceLT, Nat.reduceLeDiff, Int.reduceEq, Int.reduceNe, Int.reduceLT, Int.reduceLE, Int.reduceBEq, Int.reduceBNe, Int.reduceToNat, he, hp, hq, hrow, lzC, Int.toNat_natCast, ek]
      exact ⟨i, rfl, .inr ⟨i, rfl, hi, hk⟩, back hs⟩
    · have ek : (Lz.id X[i] == id) = false := by simpa using hk
      simp (disch := omega) only [go_sem, reduceCtorEq, ↓reduceIte, Nat.reduceEqDiff, Nat.reduceAdd, Nat.reduceSub, Nat.reduceMul, Nat.reduceLT, Nat.reduceLeDiff, Int.reduceEq, Int.reduceNe, Int.reduceLT, Int.reduceLE, Int.reduceBEq, Int.reduceBNe, Int.reduceToNat, he, hp, hq, hrow, lzC, Int.toNat_natCast, ek, m1]
      refine ⟨by omega, fun j hj hji => ?_, hs⟩
      by_cases hjj : j = i
      · subst hjj; exact hk
      · exact hb j hj (by omega)
  · have hi : i = X.length := by omega
    subst hi
    simp (disch := omega) only [go_sem, reduceCtorEq, ↓reduceIte, Nat.reduceEqDiff, Nat.reduceAdd, Nat.reduceSub, Nat.reduceMul, Nat.reduceLT, Nat.reduceLeDiff, Int.reduceEq, Int.reduceNe, Int.reduceLT, Int.reduceLE, Int.reduceBEq, Int.reduceBNe, Int.reduceToNat, he]
    refine ⟨-1, rfl, .inl ⟨rfl, fun x hx => ?_⟩, back hs⟩
    obtain ⟨j, hj, rfl⟩ := List.getElem_of_mem hx
    exact hb j hj hj
end
end Go.Proofs.Ytcajplcepmbbkaa
/- The document's book of leases. -/
set_option linter.unusedSimpArgs false
set_option linter.unusedVariables false
set_option maxRecDepth 10000
namespace Go.Proofs.Ytcajplcepmbbkaa
open Go.Hz

section
variable {h : Hp} {F : List Asr} {p : Nat} {X : List Lz}
theorem atK_has {id k : Int} (hk : AtK Lz.id X id k) : (k ≥ 0) = (lzHas X id = true) := by
  rcases hk with ⟨rfl, hn⟩ | ⟨i, rfl, hi, he⟩
  · have : lzHas X id = false := by rw [lzHas, List.any_eq_false]; intro x hx; simpa using hn x hx
    simp [this]
  · have : lzHas X id = true := by rw [lzHas, List.any_eq_true]; exact ⟨_, List.getElem_mem hi, by simpa using he⟩
    simp [this]
theorem rfHas {id : Int} (hs : sat h (BxS 3 p (X.map lzC) :: F)) (hl : X.length ≤ 1000000) : Triple Try.prog 20 [.ptr p 1 0 0, .int .i64 id] h (fun r h => r = .bool (lzHas X id) ∧ sat h (BxS 3 p (X.map lzC) :: F)) := by
  refine t20 (Nat.le_of_ble_eq_true rfl) ?_
  simp (disch := omega) only [F20, go_sem, reduceCtorEq, ↓reduceIte, Nat.reduceEqDiff, Nat.reduceAdd, Nat.reduceSub, Nat.reduceMul, Nat.reduceLT, Nat.reduceLeDiff, Int.reduceEq, Int.reduceNe, Int.reduceLT, Int.reduceLE, Int.reduceBEq, Int.reduceBNe, Int.reduceToNat]
  refine call_use (rfAt_L (id := id) hs hl) ?_
  rintro r h ⟨k, hr, hk, hs⟩
  subst hr
  simp (disch := omega) only [go_sem, reduceCtorEq, ↓reduceIte, Nat.reduceEqDiff, Nat.reduceAdd, Nat.reduceSub, Nat.reduceMul, Nat.reduceLT, Nat.reduceLeDiff, Int.reduceEq, Int.reduceNe, Int.reduceLT, Int.reduceLE, Int.reduceBEq, Int.reduceBNe, Int.reduceToNat]
  refine ⟨?_, hs⟩
  rw [AV.bool.injEq]
  have := atK_has hk
  cases hh : lzHas X id <;> simp [hh] at this ⊢ <;> omega
theorem rfRevoke {id : Int} (hX : LzOK X) (hs : sat h (BxS 3 p (X.map lzC) :: F)) : Triple Try.prog 18 [.ptr p 1 0 0, .int .i64 id] h (fun r h => r = .int .i64 (lzRevoke X id).1 ∧ sat h (BxS 3 p ((lzRevoke X id).2.map lzC) :: F)) := by
  have hl := hX.2.2
  refine t18 (Nat.le_of_ble_eq_true rfl) ?_
  simp (disch := omega) only [F18, go_sem, reduceCtorEq, ↓reduceIte, Nat.reduceEqDiff, Nat.reduceAdd, Nat.reduceSub, Nat.reduceMul, Nat.reduceLT, Nat.reduceLeDiff, Int.reduceEq, Int.reduceNe, Int.reduceLT, Int.reduceLE, Int.reduceBEq, Int.reduceBNe, Int.reduceToNat]
  refine call_use (rfAt_L (id := id) hs (by omega)) ?_
  rintro r h ⟨k, hr, hk, hs⟩
  subst hr
  have hh := atK_has hk
  rcases hk with ⟨rfl, hn⟩ | ⟨i, rfl, hi, he⟩
  · have e1 : lzRevoke X id = (2, X) := by rw [lzRevoke, if_neg]; rw [← hh]; decide
    rw [e1]
    simp (disch := omega) only [go_sem, reduceCtorEq, ↓reduceIte, Nat.reduceEqDiff, Nat.reduceAdd, Nat.reduceSub, Nat.reduceMul, Nat.reduceLT, Nat.reduceLeDiff, Int.reduceEq, Int.reduceNe, Int.reduceLT, Int.reduceLE, Int.reduceBEq, Int.reduceBNe, Int.reduceToNat]
    exact hs
  have e1 : lzRevoke X id = (0, lzDel X id) := by rw [lzRevoke, if_pos]; rw [← hh]; omega
  rw [e1]
  obtain ⟨v, hs⟩ := bxS.1 hs
  have hp := hs.at
  have hlv := hs.p1.els.len
  obtain ⟨x, q1, q2, q3⟩ := ow_slc (k := .i64) (k' := .i64) (lo := 0) (hi := i) (Nat.zero_le _) (by simp; omega) hs.p1
  obtain ⟨y, r1, r2, r3⟩ := ow_slc (k := .i64) (k' := .i64) (lo := i + 1) (hi := (X.map lzC).length) (by simp; omega) (Nat.le_refl _) hs.p1
  rw [show ((0 : Nat) : Int) = 0 from rfl, ← slc_lo] at q1
  rw [← slc_hi hlv] at r1
  have m1 : (i : Int) + 1 = ((i + 1 : Nat) : Int) := by omega
  simp (disch := omega) only [go_sem, reduceCtorEq, ↓reduceIte, Nat.reduceEqDiff, Nat.reduceAdd, Nat.reduceSub, Nat.reduceMul, Nat.reduceLT, Nat.reduceLeDiff, Int.reduceEq, Int.reduceNe, Int.reduceLT, Int.reduceLE, Int.reduceBEq, Int.reduceBNe, Int.reduceToNat, show ((i : Int) < 0) = False by simp, hp, q1]
  have hsn : sat h (Ow 3 .nils [] :: pto p (.row 1 [[v]] 1) :: Ow 3 v (X.map lzC) :: F) := hs.add ow_nil
  refine app_sat hsn (q2 _ _ hs.p1).1 ((atoms_lz X).drop.take) (by simp <;> omega) fun v1 h hs c1 a1 => ?_
  have hp := hs.p1.at
  simp (disch := omega) only [go_sem, reduceCtorEq, ↓reduceIte, Nat.reduceEqDiff, Nat.reduceAdd, Nat.reduceSub, Nat.reduceMul, Nat.reduceLT, Nat.reduceLeDiff, Int.reduceEq, Int.reduceNe, Int.reduceLT, Int.reduceLE, Int.reduceBEq, Int.reduceBNe, Int.reduceToNat, hp, m1, r1]
  refine app_sat hs (r2 _ _ hs.p1.p1.p2).1 ((atoms_lz X).drop.take) (by simp <;> omega) fun v2 h hs c2 a2 => ?_
  have hp := hs.p1.at
  simp (disch := omega) only [go_sem, reduceCtorEq, ↓reduceIte, Nat.reduceEqDiff, Nat.reduceAdd, Nat.reduceSub, Nat.reduceMul, Nat.reduceLT, Nat.reduceLeDiff, Int.reduceEq, Int.reduceNe, Int.reduceLT, Int.reduceLE, Int.reduceBEq, Int.reduceBNe, Int.reduceToNat, hp, c2, a2]
  refine bxS.2 ⟨v2, ?_⟩
  have hs2 := hs.p1.set (o' := .row 1 [[v2]] 1)
  have e2 : [] ++ ((X.map lzC).drop 0).take (i - 0) ++ ((X.map lzC).drop (i + 1)).take ((X.map lzC).length - (i + 1)) = (lzDel X id).map lzC := by
    rw [show lzDel X id = X.take i ++ X.drop (i + 1) from filter_at (key := Lz.id) hX.nodup hi he, List.take_of_length_le (l := (X.map lzC).drop (i + 1)) (by simp)]
    simp
  rw [e2] at hs2
  exact hs2.p2.drop.p1.p1
theorem rfRenew {id now : Int} (hX : LzOK X) (hs : sat h (BxS 3 p (X.map lzC) :: F)) (hn : 0 ≤ now ∧ now ≤ 4611686018427387904) : Triple Try.prog 16 [.ptr p 1 0 0, .int .i64 id, .int .i64 now] h (fun r h => r = .int .i64 (lzRenew X id now).1 ∧ sat h (BxS 3 p ((lzRenew X id now).2.map lzC) :: F)) := by
  have hl := hX.2.2
  refine t16 (Nat.le_of_ble_eq_true rfl) ?_
  simp (disch := omega) only [F16, go_sem, reduceCtorEq, ↓reduceIte, Nat.reduceEqDiff, Nat.reduceAdd, Nat.reduceSub, Nat.reduceMul, Nat.reduceLT, Nat.reduceLeDiff, Int.reduceEq, Int.reduceNe, Int.reduceLT, Int.reduceLE, Int.reduceBEq, Int.reduceBNe, Int.reduceToNat]
  refine call_use (rfAt_L (id := id) hs (by omega)) ?_
  rintro r h ⟨k, hr, hk, hs⟩
  subst hr
  have hh := atK_has hk
  rcases hk with ⟨rfl, hn⟩ | ⟨i, rfl, hi, he⟩
  · have e1 : lzRenew X id now = (2, X) := by rw [lzRenew, if_neg]; rw [← hh]; decide
    rw [e1]
    simp (disch := omega) only [go_sem, reduceCtorEq, ↓reduceIte, Nat.reduceEqDiff, Nat.reduceAdd, Nat.reduceSub, Nat.reduceMul, Nat.reduceLT, Nat.reduceLeDiff, Int.reduceEq, Int.reduceNe, Int.reduceLT, Int.reduceLE, Int.reduceBEq, Int.reduceBNe, Int.reduceToNat]
    exact hs
  have e1 : lzRenew X id now = (0, lzRen X id now) := by rw [lzRenew, if_pos]; rw [← hh]; omega
  rw [e1]
  simp (disch := omega) only [go_sem, reduceCtorEq, ↓reduceIte, Nat.reduceEqDiff, Nat.reduceAdd, Nat.reduceSub, Nat.reduceMul, Nat.reduceLT, Nat.reduceLeDiff, Int.reduceEq, Int.reduceNe, Int.reduceLT, Int.reduceLE, Int.reduceBEq, Int.reduceBNe, Int.reduceToNat, show ((i : Int) < 0) = False by simp]
  refine new_opq hs fun n h hs => ?_
  obtain ⟨v, hs⟩ := bxS.1 hs.p1
  have hp := hs.at
  simp (disch := omega) only [go_sem, reduceCtorEq, ↓reduceIte, Nat.reduceEqDiff, Nat.reduceAdd, Nat.reduceSub, Nat.reduceMul, Nat.reduceLT, Nat.reduceLeDiff, Int.reduceEq, Int.reduceNe, Int.reduceLT, Int.reduceLE, Int.reduceBEq, Int.reduceBNe, Int.reduceToNat, hp]
  refine app_new (bytes := 24) hs.p2 hs.p1.els.1 (atoms_lz X) (by simp only [List.length_map]; omega) fun v1 h hs c1 a1 => ?_
  have hp := hs.p1.at
  simp (disch := omega) only [go_sem, reduceCtorEq, ↓reduceIte, Nat.reduceEqDiff, Nat.reduceAdd, Nat.reduceSub, Nat.reduceMul, Nat.reduceLT, Nat.reduceLeDiff, Int.reduceEq, Int.reduceNe, Int.reduceLT, Int.reduceLE, Int.reduceBEq, Int.reduceBNe, Int.reduceToNat, hp, c1, a1]
  have hs2 := hs.p1.set (o' := .row 1 [[v1]] 1)
  generalize Hp.set h p _ = h2 at hs2 ⊢
  have hlen : (X.map lzC).length = X.length := by simp
  rcases hs2.p1.cases with ⟨rfl, hn0, _⟩ | ⟨b, cap, rfl, hs3, hle⟩
  · exfalso
    have : X = [] := by simpa using hn0
    subst this; simp at hi
  rw [hlen] at hs3 hle
  have hp := hs3.p1.at
  have hb := hs3.at
  have hrow : (X.map lzC)[i]? = some (lzC X[i]) := by simp [hi]
  have hb2 := hX.2.1 _ (List.getElem_mem hi)
  simp (disch := omega) only [go_sem, reduceCtorEq, ↓reduceIte, Nat.reduceEqDiff, Nat.reduceAdd, Nat.reduceSub, Nat.reduceMul, Nat.reduceLT, Nat.reduceLeDiff, Int.reduceEq, Int.reduceNe, Int.reduceLT, Int.reduceLE, Int.reduceBEq, Int.reduceBNe, Int.reduceToNat, hlen, hp, hb, hrow, lzC, Int.toNat_natCast]
  have e3 : (X.map lzC).set i (lzC ⟨X[i].id, X[i].ttl, now + X[i].ttl⟩) = (lzRen X id now).map lzC := by
    rw [← List.map_set]
    congr 1
    rw [set_kSet (key := Lz.id) (y := ⟨X[i].id, X[i].ttl, now + X[i].ttl⟩) hX.nodup hi rfl]
    unfold kSet lzRen
    refine List.map_congr_left fun z hz => ?_
    by_cases hq : z.id = id
    · have : z = X[i] := nodup_map_inj hX.nodup hz (List.getElem_mem hi) (hq.trans he.symm)
      subst this
      simp [hq]
    · rw [if_neg hq, if_neg (by show ¬ z.id = X[i].id; rw [he]; exact hq)]
  simp only [lzC] at e3
  rw [e3]
  have e4 : X.length = ((lzRen X id now).map lzC).length := by simp [lzRen]
  refine bxS_arr (b := b) (cap := cap) ?_ (by rw [← e4]; exact hle)
  rw [← e4]
  exact hs3.set.p2.drop.p1
theorem rfOver {now : Int} (hX : LzOK X) (hs : sat h (BxS 3 p (X.map lzC) :: F)) : Triple Try.prog 19 [.ptr p 1 0 0, .int .i64 now] h (fun r h => r = .lst ((lzOver X now).map fun x => [.int .i64 x.id]) ∧ sat h (BxS 3 p (X.map lzC) :: F)) := by
  have hl := hX.2.2
  refine Triple.lst 1 ?_
  refine t19 (Nat.le_of_ble_eq_true rfl) ?_
  simp (disch := omega) only [F19, go_sem, reduceCtorEq, ↓reduceIte, Nat.reduceEqDiff, Nat.reduceAdd, Nat.reduceSub, Nat.reduceMul, Nat.reduceLT, Nat.reduceLeDiff, Int.reduceEq, Int.reduceNe, Int.reduceLT, Int.reduceLE, Int.reduceBEq, Int.reduceBNe, Int.reduceToNat]
  rcases bxS_cases hs with ⟨hn, hs1⟩ | ⟨b, cap, hle, hs⟩
  · have : X = [] := by simpa using hn
    subst this
    refine run_loopN (fun n e h => sat h (pto p (.row 1 [[.nils]] 1) :: F) ∧ (e 0 = .ptr p 1 0 0 ∧ e 5 = .nils ∧ e 6 = .int .i64 0)) 0 ⟨hs1, rfl, rfl, rfl⟩ ?_
    clear hs hs1
    rintro n e h ⟨hs, he⟩
    have hp := hs.at
    simp (disch := omega) only [go_sem, reduceCtorEq, ↓reduceIte, Nat.reduceEqDiff, Nat.reduceAdd, Nat.reduceSub, Nat.reduceMul, Nat.reduceLT, Nat.reduceLeDiff, Int.reduceEq, Int.reduceNe, Int.reduceLT, Int.reduceLE, Int.reduceBEq, Int.reduceBNe, Int.reduceToNat, he, hp]
    exact ⟨[], _, hs.add ow_nil, fun h hs => ⟨rfl, bxS_nil hs⟩⟩
  have hlen : (X.map lzC).length = X.length := by simp
  rw [hlen] at hs hle
  have back : ∀ {h : Hp}, sat h (pto p (.row 1 [[.arr b 3 0 X.length cap]] 1) :: pto b (.row 3 (X.map lzC) cap) :: F) → sat h (BxS 3 p (X.map lzC) :: F) := fun hs => bxS_arr (b := b) (cap := cap) (by simpa using hs) (by simpa using hle)
  refine run_up (N := X.length) (fun i e h => sat h (Ow 1 (e 5) ((lzOver (X.take i) now).map fun x => [.int .i64 x.id]) :: pto p (.row 1 [[.arr b 3 0 X.length cap]] 1) :: pto b (.row 3 (X.map lzC) cap) :: F) ∧ (e 0 = .ptr p 1 0 0 ∧ e 1 = .int .i64 now ∧ e 6 = .int .i64 i)) ⟨hs.add ow_nil, rfl, rfl, rfl⟩ ?_
  clear hs
  rintro i e h hi ⟨hs, he⟩
  have hp := hs.p1.at
  have hq := hs.p2.at
  have m1 : (i : Int) + 1 = ((i + 1 : Nat) : Int) := by omega
  simp (disch := omega) only [go_sem, reduceCtorEq, ↓reduceIte, Nat.reduceEqDiff, Nat.reduceAdd, Nat.reduceSub, Nat.reduceMul, Nat.reduceLT, Nat.reduceLeDiff, Int.reduceEq, Int.reduceNe, Int.reduceLT, Int.reduceLE, Int.reduceBEq, Int.reduceBNe, Int.reduceToNat, he, hp, m1]
  refine cnd_dec (fun h1 => ?_) (fun h1 => ?_)
  · have hi : i < X.length := by omega
    have hrow : (X.map lzC)[i]? = some (lzC X[i]) := by simp [hi]
    have hl2 : ((lzOver (X.take i) now).map fun x => [AV.int .i64 x.id]).length ≤ 1024 := by
      have := List.length_filter_le (fun x : Lz => decide (x.til ≤ now)) (X.take i)
      simp only [List.length_map, lzOver]
      rw [List.length_take] at this
      omega
    simp (disch := omega) only [go_sem, reduceCtorEq, ↓reduceIte, Nat.reduceEqDiff, Nat.reduceAdd, Nat.reduceSub, Nat.reduceMul, Nat.reduceLT, Nat.reduceLeDiff, Int.reduceEq, Int.reduceNe, Int.reduceLT, Int.reduceLE, Int.reduceBEq, Int.reduceBNe, Int.reduceToNat, he, hp, hq, hrow, lzC, Int.toNat_natCast]
    refine cnd_dec (fun h2 => ?_) (fun h2 => ?_)
    · have e2 : lzOver (X.take (i + 1)) now = lzOver (X.take i) now ++ [X[i]] := by
        unfold lzOver
        rw [List.take_succ_eq_append_getElem hi, List.filter_append]
        simp only [List.filter_cons, List.filter_nil, h2, decide_true, if_true]
      simp (disch := omega) only [go_sem, reduceCtorEq, ↓reduceIte, Nat.reduceEqDiff, Nat.reduceAdd, Nat.reduceSub, Nat.reduceMul, Nat.reduceLT, Nat.reduceLeDiff, Int.reduceEq, Int.reduceNe, Int.reduceLT, Int.reduceLE, Int.reduceBEq, Int.reduceBNe, Int.reduceToNat, he, hp, hq, hrow, lzC, Int.toNat_natCast]
      refine new_opq hs fun c h hs => ?_
      simp (disch := omega) only [go_sem, reduceCtorEq, ↓reduceIte, Nat.reduceEqDiff, Nat.reduceAdd, Nat.reduceSub, Nat.reduceMul, Nat.reduceLT, Nat.reduceLeDiff, Int.reduceEq, Int.reduceNe, Int.reduceLT, Int.reduceLE, Int.reduceBEq, Int.reduceBNe, Int.reduceToNat]
      refine app_sat hs.p1 (src_one hs.at) (atoms_one (by simp [AV.isAtom])) (by simp only [List.length_cons, List.length_nil]; omega) fun v' h hs ca aa => ?_
      simp (disch := omega) only [go_sem, reduceCtorEq, ↓reduceIte, Nat.reduceEqDiff, Nat.reduceAdd, Nat.reduceSub, Nat.reduceMul, Nat.reduceLT, Nat.reduceLeDiff, Int.reduceEq, Int.reduceNe, Int.reduceLT, Int.reduceLE, Int.reduceBEq, Int.reduceBNe, Int.reduceToNat, he, m1]
      rw [e2]
      exact ⟨by omega, by simpa using hs.d1⟩
    · have e2 : lzOver (X.take (i + 1)) now = lzOver (X.take i) now := by
        unfold lzOver
        rw [List.take_succ_eq_append_getElem hi, List.filter_append]
        simp [List.filter_cons, List.filter_nil, h2, decide_false]
      simp (disch := omega) only [go_sem, reduceCtorEq, ↓reduceIte, Nat.reduceEqDiff, Nat.reduceAdd, Nat.reduceSub, Nat.reduceMul, Nat.reduceLT, Nat.reduceLeDiff, Int.reduceEq, Int.reduceNe, Int.reduceLT, Int.reduceLE, Int.reduceBEq, Int.reduceBNe, Int.reduceToNat, he, m1]
      rw [e2]
      exact ⟨by omega, hs⟩
  · have hi : i = X.length := by omega
    subst hi
    simp (disch := omega) only [go_sem, reduceCtorEq, ↓reduceIte, Nat.reduceEqDiff, Nat.reduceAdd, Nat.reduceSub, Nat.reduceMul, Nat.reduceLT, Nat.reduceLeDiff, Int.reduceEq, Int.reduceNe, Int.reduceLT, Int.reduceLE, Int.reduceBEq, Int.reduceBNe, Int.reduceToNat, he]
    rw [List.take_length] at hs
    exact ⟨_, _, hs, fun h hs => ⟨rfl, back hs⟩⟩
theorem rfGrant {id ttl now : Int} (hX : LzOK X) (hs : sat h (BxS 3 p (X.map lzC) :: F)) (hn : 0 ≤ now ∧ now ≤ 4611686018427387904) : Triple Try.prog 15 [.ptr p 1 0 0, .int .i64 id, .int .i64 ttl, .int .i64 now] h (fun r h => r = .int .i64 (lzGrant X id ttl now).1 ∧ sat h (BxS 3 p ((lzGrant X id ttl now).2.map lzC) :: F)) := by
  have hl := hX.2.2
  refine t15 (Nat.le_of_ble_eq_true rfl) ?_
  simp (disch := omega) only [F15, go_sem, reduceCtorEq, ↓reduceIte, Nat.reduceEqDiff, Nat.reduceAdd, Nat.reduceSub, Nat.reduceMul, Nat.reduceLT, Nat.reduceLeDiff, Int.reduceEq, Int.reduceNe, Int.reduceLT, Int.reduceLE, Int.reduceBEq, Int.reduceBNe, Int.reduceToNat]
  by_cases i1 : id < 1
  · have e1 : lzGrant X id ttl now = (1, X) := by rw [lzGrant, if_pos (.inl (by simp [lzNum]; omega))]
    rw [e1]
    simp (disch := omega) only [go_sem, reduceCtorEq, ↓reduceIte, Nat.reduceEqDiff, Nat.reduceAdd, Nat.reduceSub, Nat.reduceMul, Nat.reduceLT, Nat.reduceLeDiff, Int.reduceEq, Int.reduceNe, Int.reduceLT, Int.reduceLE, Int.reduceBEq, Int.reduceBNe, Int.reduceToNat, i1]
    exact hs
  by_cases i2 : id > 2147483647
  · have e1 : lzGrant X id ttl now = (1, X) := by rw [lzGrant, if_pos (.inl (by simp [lzNum]; omega))]
    rw [e1]
    simp (disch := omega) only [go_sem, reduceCtorEq, ↓reduceIte, Nat.reduceEqDiff, Nat.reduceAdd, Nat.reduceSub, Nat.reduceMul, Nat.reduceLT, Nat.reduceLeDiff, Int.reduceEq, Int.reduceNe, Int.reduceLT, Int.reduceLE, Int.reduceBEq, Int.reduceBNe, Int.reduceToNat, i1, i2]
    exact hs
  by_cases i3 : ttl < 1
  · have e1 : lzGrant X id ttl now = (1, X) := by rw [lzGrant, if_pos (.inr (by simp [lzNum]; omega))]
    rw [e1]
    simp (disch := omega) only [go_sem, reduceCtorEq, ↓reduceIte, Nat.reduceEqDiff, Nat.reduceAdd, Nat.reduceSub, Nat.reduceMul, Nat.reduceLT, Nat.reduceLeDiff, Int.reduceEq, Int.reduceNe, Int.reduceLT, Int.reduceLE, Int.reduceBEq, Int.reduceBNe, Int.reduceToNat, i1, i2, i3]
    exact hs
  by_cases i4 : ttl > 2147483647
  · have e1 : lzGrant X id ttl now = (1, X) := by rw [lzGrant, if_pos (.inr (by simp [lzNum]; omega))]
    rw [e1]
    simp (disch := omega) only [go_sem, reduceCtorEq, ↓reduceIte, Nat.reduceEqDiff, Nat.reduceAdd, Nat.reduceSub, Nat.reduceMul, Nat.reduceLT, Nat.reduceLeDiff, Int.reduceEq, Int.reduceNe, Int.reduceLT, Int.reduceLE, Int.reduceBEq, Int.reduceBNe, Int.reduceToNat, i1, i2, i3, i4]
    exact hs
  have n1 : lzNum id = true := by simp [lzNum]; omega
  have n2 : lzNum ttl = true := by simp [lzNum]; omega
  simp (disch := omega) only [go_sem, reduceCtorEq, ↓reduceIte, Nat.reduceEqDiff, Nat.reduceAdd, Nat.reduceSub, Nat.reduceMul, Nat.reduceLT, Nat.reduceLeDiff, Int.reduceEq, Int.reduceNe, Int.reduceLT, Int.reduceLE, Int.reduceBEq, Int.reduceBNe, Int.reduceToNat, i1, i2, i3, i4]
  refine call_use (rfAt_L (id := id) hs (by omega)) ?_
  rintro r h ⟨k, hr, hk, hs⟩
  subst hr
  have hh := atK_has hk
  cases h3 : lzHas X id with
  | true =>
    have hk0 : k ≥ 0 := by rw [hh]; exact h3
    have e1 : lzGrant X id ttl now = (7, X) := by rw [lzGrant, n1, n2, h3, if_neg (by decide), if_pos rfl]
    rw [e1]
    simp (disch := omega) only [go_sem, reduceCtorEq, ↓reduceIte, Nat.reduceEqDiff, Nat.reduceAdd, Nat.reduceSub, Nat.reduceMul, Nat.reduceLT, Nat.reduceLeDiff, Int.reduceEq, Int.reduceNe, Int.reduceLT, Int.reduceLE, Int.reduceBEq, Int.reduceBNe, Int.reduceToNat, hk0]
    exact hs
  | false =>
  have hk0 : ¬ k ≥ 0 := by rw [hh, h3]; decide
  obtain ⟨v, hs⟩ := bxS.1 hs
  have hp := hs.at
  have hlv := hs.p1.els.len
  rw [List.length_map] at hlv
  by_cases h4 : 1024 ≤ X.length
  · have e1 : lzGrant X id ttl now = (4, X) := by rw [lzGrant, n1, n2, h3, if_neg (by decide), if_neg (by decide), if_pos h4]
    rw [e1]
    simp (disch := omega) only [go_sem, reduceCtorEq, ↓reduceIte, Nat.reduceEqDiff, Nat.reduceAdd, Nat.reduceSub, Nat.reduceMul, Nat.reduceLT, Nat.reduceLeDiff, Int.reduceEq, Int.reduceNe, Int.reduceLT, Int.reduceLE, Int.reduceBEq, Int.reduceBNe, Int.reduceToNat, hk0, hp, hlv, show ((X.length : Int) ≥ 1024) = True by simp; omega]
    exact bxS.2 ⟨v, hs⟩
  have e1 : lzGrant X id ttl now = (0, kIns Lz.id X ⟨id, ttl, now + ttl⟩) := by rw [lzGrant, n1, n2, h3, if_neg (by decide), if_neg (by decide), if_neg h4]; rfl
  rw [e1, kIns_at]
  simp (disch := omega) only [go_sem, reduceCtorEq, ↓reduceIte, Nat.reduceEqDiff, Nat.reduceAdd, Nat.reduceSub, Nat.reduceMul, Nat.reduceLT, Nat.reduceLeDiff, Int.reduceEq, Int.reduceNe, Int.reduceLT, Int.reduceLE, Int.reduceBEq, Int.reduceBNe, Int.reduceToNat, hk0, hp, hlv, show ((X.length : Int) ≥ 1024) = False by simp; omega]
  refine blk_join (Q := fun e h => sat h (pto p (.row 1 [[v]] 1) :: Ow 3 v (X.map lzC) :: F) ∧ (e 0 = .ptr p 1 0 0 ∧ e 1 = .int .i64 id ∧ e 2 = .int .i64 ttl ∧ e 3 = .int .i64 now ∧ e 9 = .int .i64 (aheadK Lz.id X id))) ?_ ?_
  · refine run_up (N := X.length) (fun i e h => (∀ j (hj : j < X.length), j < i → Lz.id X[j] < id) ∧ sat h (pto p (.row 1 [[v]] 1) :: Ow 3 v (X.map lzC) :: F) ∧ (e 0 = .ptr p 1 0 0 ∧ e 1 = .int .i64 id ∧ e 2 = .int .i64 ttl ∧ e 3 = .int .i64 now ∧ e 9 = .int .i64 i)) ⟨fun _ _ h => by omega, hs, by simp [Env.upd_apply, initE]⟩ ?_
    clear hs hp
    rintro i e h hi ⟨hb, hs, he⟩
    have hp := hs.at
    have m1 : (i : Int) + 1 = ((i + 1 : Nat) : Int) := by omega
    by_cases hi : i < X.length
    · have hrow : (X.map lzC)[i]? = some (lzC X[i]) := by simp [hi]
      rcases hs.p1.cases with ⟨_, hn0, _⟩ | ⟨b, cap, hv, hs3, hle⟩
      · exfalso
        have : X = [] := by simpa using hn0
        subst this; simp at hi
      subst hv
      have hlen : (X.map lzC).length = X.length := by simp
      have hq := hs3.at
      by_cases hk : X[i].id < id
      · simp (disch := omega) only [go_sem, reduceCtorEq, ↓reduceIte, Nat.reduceEqDiff, Nat.reduceAdd, Nat.reduceSub, Nat.reduceMul, Nat.reduceLT, Nat.reduceLeDiff, Int.reduceEq, Int.reduceNe, Int.reduceLT, Int.reduceLE, Int.reduceBEq, Int.reduceBNe, Int.reduceToNat, he, hp, hq, hlv, hlen, show ((i : Int) < X.length) = True by simp; omega, hrow, lzC, Int.toNat_natCast, hk, m1]
        refine ⟨by omega, fun j hj hji => ?_, by rw [hlen] at hs; exact hs⟩
        by_cases hjj : j = i
        · subst hjj; exact hk
        · exact hb j hj (by omega)
      · simp (disch := omega) only [go_sem, reduceCtorEq, ↓reduceIte, Nat.reduceEqDiff, Nat.reduceAdd, Nat.reduceSub, Nat.reduceMul, Nat.reduceLT, Nat.reduceLeDiff, Int.reduceEq, Int.reduceNe, Int.reduceLT, Int.reduceLE, Int.reduceBEq, Int.reduceBNe, Int.reduceToNat, he, hp, hq, hlv, hlen, show ((i : Int) < X.length) = True by simp; omega, hrow, lzC, Int.toNat_natCast, hk]
        exact ⟨by rw [hlen] at hs; exact hs, by rw [ahead_step (key := Lz.id) hi hb hk]⟩
    · have hi : i = X.length := by omega
      subst hi
      simp (disch := omega) only [go_sem, reduceCtorEq, ↓reduceIte, Nat.reduceEqDiff, Nat.reduceAdd, Nat.reduceSub, Nat.reduceMul, Nat.reduceLT, Nat.reduceLeDiff, Int.reduceEq, Int.reduceNe, Int.reduceLT, Int.reduceLE, Int.reduceBEq, Int.reduceBNe, Int.reduceToNat, he, hp, hlv, show ((X.length : Int) < X.length) = False by simp]
      exact ⟨hs, by rw [ahead_all (key := Lz.id) fun j hj => hb j hj hj]⟩
  clear hs hp
  rintro e h ⟨hs, he⟩
  have hal : aheadK Lz.id X id ≤ X.length := ahead_le
  generalize aheadK Lz.id X id = i at he hal ⊢
  have hp := hs.at
  obtain ⟨x, q1, q2, q3⟩ := ow_slc (k := .i64) (k' := .i64) (lo := 0) (hi := i) (Nat.zero_le _) (by simp; omega) hs.p1
  obtain ⟨y, r1, r2, r3⟩ := ow_slc (k := .i64) (k' := .i64) (lo := i) (hi := (X.map lzC).length) (by simp; omega) (Nat.le_refl _) hs.p1
  rw [show ((0 : Nat) : Int) = 0 from rfl, ← slc_lo] at q1
  rw [← slc_hi hs.p1.els.len] at r1
  simp (disch := omega) only [go_sem, reduceCtorEq, ↓reduceIte, Nat.reduceEqDiff, Nat.reduceAdd, Nat.reduceSub, Nat.reduceMul, Nat.reduceLT, Nat.reduceLeDiff, Int.reduceEq, Int.reduceNe, Int.reduceLT, Int.reduceLE, Int.reduceBEq, Int.reduceBNe, Int.reduceToNat, he, hp, q1]
  have hsn : sat h (Ow 3 .nils [] :: pto p (.row 1 [[v]] 1) :: Ow 3 v (X.map lzC) :: F) := hs.add ow_nil
  refine app_sat hsn (q2 _ _ hs.p1).1 ((atoms_lz X).drop.take) (by simp <;> omega) fun v1 h hs c1 a1 => ?_
  simp (disch := omega) only [go_sem, reduceCtorEq, ↓reduceIte, Nat.reduceEqDiff, Nat.reduceAdd, Nat.reduceSub, Nat.reduceMul, Nat.reduceLT, Nat.reduceLeDiff, Int.reduceEq, Int.reduceNe, Int.reduceLT, Int.reduceLE, Int.reduceBEq, Int.reduceBNe, Int.reduceToNat, he]
  refine new_opq hs fun n h hs => ?_
  simp (disch := omega) only [go_sem, reduceCtorEq, ↓reduceIte, Nat.reduceEqDiff, Nat.reduceAdd, Nat.reduceSub, Nat.reduceMul, Nat.reduceLT, Nat.reduceLeDiff, Int.reduceEq, Int.reduceNe, Int.reduceLT, Int.reduceLE, Int.reduceBEq, Int.reduceBNe, Int.reduceToNat]
  refine app_sat hs.p1 (src_one hs.at) (atoms_one (by simp [AV.isAtom])) (by simp <;> omega) fun v2 h hs c2 a2 => ?_
  have hp := hs.p2.at
  simp (disch := omega) only [go_sem, reduceCtorEq, ↓reduceIte, Nat.reduceEqDiff, Nat.reduceAdd, Nat.reduceSub, Nat.reduceMul, Nat.reduceLT, Nat.reduceLeDiff, Int.reduceEq, Int.reduceNe, Int.reduceLT, Int.reduceLE, Int.reduceBEq, Int.reduceBNe, Int.reduceToNat, he, hp, r1]
  refine app_sat hs (r2 _ _ hs.p2.p2.p2.p3).1 ((atoms_lz X).drop.take) (by simp <;> omega) fun v3 h hs c3 a3 => ?_
  have hp := hs.p2.at
  simp (disch := omega) only [go_sem, reduceCtorEq, ↓reduceIte, Nat.reduceEqDiff, Nat.reduceAdd, Nat.reduceSub, Nat.reduceMul, Nat.reduceLT, Nat.reduceLeDiff, Int.reduceEq, Int.reduceNe, Int.reduceLT, Int.reduceLE, Int.reduceBEq, Int.reduceBNe, Int.reduceToNat, he, hp, c3, a3]
  refine bxS.2 ⟨v3, ?_⟩
  have hs2 := hs.p2.set (o' := .row 1 [[v3]] 1)
  have e2 : [] ++ ((X.map lzC).drop 0).take (i - 0) ++ [[AV.int .i64 id, .int .i64 ttl, .int .i64 (now + ttl)]] ++ ((X.map lzC).drop i).take ((X.map lzC).length - i) = (X.take i ++ ⟨id, ttl, now + ttl⟩ :: X.drop i).map lzC := by
    rw [List.take_of_length_le (l := (X.map lzC).drop i) (by simp)]
    simp [lzC]
  rw [e2] at hs2
  exact hs2.p2.drop.p2.drop.p1.p1
end
end Go.Proofs.Ytcajplcepmbbkaa
/- The law LeasePlays, walked. -/
set_option linter.unusedSimpArgs false
set_option linter.unusedVariables false
set_option maxRecDepth 10000
namespace Go.Proofs.Ytcajplcepmbbkaa
open Go.Hz

structure LCall where
  kind : Int
  id : Int
  ttl : Int
  now : Int
def lcC (c : LCall) : List AV := [.int .i64 c.kind, .int .i64 c.id, .int .i64 c.ttl, .int .i64 c.now]
def callsV (l : List LCall) : AV := .lst (l.map lcC)

theorem plays10 {cs : List LCall} (hl : cs.length ≤ 9223372036854775807) (hr : ∀ c ∈ cs, -9223372036854775808 ≤ c.now ∧ c.now ≤ 9223372036854775807) :
    Triple Try.prog 6 [callsV cs] Hp.emp (fun r _ => r = .bool true) := by
  have hs : sat Hp.emp [] := trivial
  refine t6 (Nat.le_of_ble_eq_true rfl) ?_
  simp (disch := omega) only [F6, go_sem, reduceCtorEq, ↓reduceIte, Nat.reduceEqDiff, Nat.reduceAdd, Nat.reduceSub, Nat.reduceMul, Nat.reduceLT, Nat.reduceLeDiff, Int.reduceEq, Int.reduceNe, Int.reduceLT, Int.reduceLE, Int.reduceBEq, Int.reduceBNe, Int.reduceToNat]
  refine call_use (known10 hs) ?_
  rintro r h ⟨hr, hs⟩
  subst hr
  simp (disch := omega) only [go_sem, reduceCtorEq, ↓reduceIte, Nat.reduceEqDiff, Nat.reduceAdd, Nat.reduceSub, Nat.reduceMul, Nat.reduceLT, Nat.reduceLeDiff, Int.reduceEq, Int.reduceNe, Int.reduceLT, Int.reduceLE, Int.reduceBEq, Int.reduceBNe, Int.reduceToNat]
  refine call_use (lsNew hs) ?_
  rintro r h ⟨p, hr', hs⟩
  subst hr'
  simp (disch := omega) only [go_sem, reduceCtorEq, ↓reduceIte, Nat.reduceEqDiff, Nat.reduceAdd, Nat.reduceSub, Nat.reduceMul, Nat.reduceLT, Nat.reduceLeDiff, Int.reduceEq, Int.reduceNe, Int.reduceLT, Int.reduceLE, Int.reduceBEq, Int.reduceBNe, Int.reduceToNat]
  refine new_opq hs fun q h hs => ?_
  have hs : sat h [BxS 3 q (([] : List Lz).map lzC), LsP p []] := bxS_nil hs
  simp (disch := omega) only [go_sem, reduceCtorEq, ↓reduceIte, Nat.reduceEqDiff, Nat.reduceAdd, Nat.reduceSub, Nat.reduceMul, Nat.reduceLT, Nat.reduceLeDiff, Int.reduceEq, Int.reduceNe, Int.reduceLT, Int.reduceLE, Int.reduceBEq, Int.reduceBNe, Int.reduceToNat]
  have len2 : lenL (callsV cs) = some (.int .i64 cs.length) := by simp [callsV, lenL]
  refine run_loopN (fun m e h => ∃ (i : Nat) (X : List Lz), m = 100 - i ∧ i ≤ 100 ∧ sat h [BxS 3 q (X.map lzC), LsP p X] ∧
    (e 0 = callsV cs ∧ e 3 = .ptr p 1 0 0 ∧ e 4 = .ptr q 1 0 0 ∧ e 5 = .int .i64 i)) 100
    ⟨0, [], rfl, by omega, hs, rfl, rfl, rfl, rfl⟩ ?_
  clear hs
  rintro m e h ⟨i, X, rfl, hi100, hs, he⟩
  by_cases hc : i < cs.length ∧ i < 100
  · obtain ⟨i1, c3⟩ := hc
    have c1 : (i : Int) < cs.length := by omega
    have c2 : (i : Int) < 100 := by omega
    have hia1 : iaA 4 (callsV cs) (.int .i64 (i : Int)) = some (.ro (lcC cs[i])) := ia_lst (f := lcC) i1 fun _ => rfl
    have hri := hr _ (List.getElem_mem i1)
    generalize cs[i] = c at hia1 hri
    simp (disch := omega) only [go_sem, reduceCtorEq, ↓reduceIte, Nat.reduceEqDiff, Nat.reduceAdd, Nat.reduceSub, Nat.reduceMul, Nat.reduceLT, Nat.reduceLeDiff, Int.reduceEq, Int.reduceNe, Int.reduceLT, Int.reduceLE, Int.reduceBEq, Int.reduceBNe, Int.reduceToNat, he, len2, c1, c2, hia1, lcC]
    refine new_opq hs fun a h hs => ?_
    have ha := hs.at
    have hs2 := hs.set (o' := .row 4 [lcC c] 1)
    have ha2 := hs2.at
    simp only [lcC] at hs2 ha2
    simp (disch := omega) only [go_sem, reduceCtorEq, ↓reduceIte, Nat.reduceEqDiff, Nat.reduceAdd, Nat.reduceSub, Nat.reduceMul, Nat.reduceLT, Nat.reduceLeDiff, Int.reduceEq, Int.reduceNe, Int.reduceLT, Int.reduceLE, Int.reduceBEq, Int.reduceBNe, Int.reduceToNat, ha, ha2]
    generalize Hp.set h a _ = h3 at hs2 ha2 ⊢
    refine call_use (within10 hs2 hri.1 hri.2 (n := 1099511627777) (by omega) (by omega)) ?_
    rintro r h ⟨now, hr', hnow, hnow2, hs⟩
    subst hr'
    have ha := hs.at
    simp (disch := omega) only [go_sem, reduceCtorEq, ↓reduceIte, Nat.reduceEqDiff, Nat.reduceAdd, Nat.reduceSub, Nat.reduceMul, Nat.reduceLT, Nat.reduceLeDiff, Int.reduceEq, Int.reduceNe, Int.reduceLT, Int.reduceLE, Int.reduceBEq, Int.reduceBNe, Int.reduceToNat, ha]
    refine cnd_join (Q := fun e h => ∃ (X' : List Lz) (z : Int), sat h [BxS 3 q (X'.map lzC), LsP p X', pto a (.row 4 [[.int .i64 c.kind, .int .i64 c.id, .int .i64 c.ttl, .int .i64 c.now]] 1)] ∧
      (e 0 = callsV cs ∧ e 3 = .ptr p 1 0 0 ∧ e 4 = .ptr q 1 0 0 ∧ e 5 = .int .i64 i ∧ e 6 = .ptr a 4 0 0 ∧ e 7 = .int .i64 now ∧ e 8 = .int .i64 z ∧ e 9 = .int .i64 z)) ?_ ?_
    · have hX : LzOK X := (lsP.1 hs.p2).choose_spec.1
      by_cases k0 : c.kind = 0
      · simp (disch := omega) only [go_sem, reduceCtorEq, ↓reduceIte, Nat.reduceEqDiff, Nat.reduceAdd, Nat.reduceSub, Nat.reduceMul, Nat.reduceLT, Nat.reduceLeDiff, Int.reduceEq, Int.reduceNe, Int.reduceLT, Int.reduceLE, Int.reduceBEq, Int.reduceBNe, Int.reduceToNat, show (c.kind == 0) = true by simpa using k0, ha, he]
        refine call_use' (lsGrant (now := (now : Int)) hs.p1.p2 (by omega)) ?_
        rintro r h ⟨hr', hs⟩
        subst hr'
        have ha := hs.p2.at
        simp (disch := omega) only [go_sem, reduceCtorEq, ↓reduceIte, Nat.reduceEqDiff, Nat.reduceAdd, Nat.reduceSub, Nat.reduceMul, Nat.reduceLT, Nat.reduceLeDiff, Int.reduceEq, Int.reduceNe, Int.reduceLT, Int.reduceLE, Int.reduceBEq, Int.reduceBNe, Int.reduceToNat, ha, he]
        refine call_use (rfGrant (now := (now : Int)) hX hs.p1 (by omega)) ?_
        rintro r h ⟨hr, hs⟩
        subst hr
        simp (disch := omega) only [go_sem, reduceCtorEq, ↓reduceIte, Nat.reduceEqDiff, Nat.reduceAdd, Nat.reduceSub, Nat.reduceMul, Nat.reduceLT, Nat.reduceLeDiff, Int.reduceEq, Int.reduceNe, Int.reduceLT, Int.reduceLE, Int.reduceBEq, Int.reduceBNe, Int.reduceToNat, he]
        exact ⟨_, _, hs, rfl, rfl⟩
      have k0' : (c.kind == 0) = false := by simpa using k0
      by_cases k1 : c.kind = 1
      · simp (disch := omega) only [go_sem, reduceCtorEq, ↓reduceIte, Nat.reduceEqDiff, Nat.reduceAdd, Nat.reduceSub, Nat.reduceMul, Nat.reduceLT, Nat.reduceLeDiff, Int.reduceEq, Int.reduceNe, Int.reduceLT, Int.reduceLE, Int.reduceBEq, Int.reduceBNe, Int.reduceToNat, k0', show (c.kind == 1) = true by simpa using k1, ha, he]
        refine call_use' (lsRenew (now := (now : Int)) hs.p1.p2 (by omega)) ?_
        rintro r h ⟨hr', hs⟩
        subst hr'
        have ha := hs.p2.at
        simp (disch := omega) only [go_sem, reduceCtorEq, ↓reduceIte, Nat.reduceEqDiff, Nat.reduceAdd, Nat.reduceSub, Nat.reduceMul, Nat.reduceLT, Nat.reduceLeDiff, Int.reduceEq, Int.reduceNe, Int.reduceLT, Int.reduceLE, Int.reduceBEq, Int.reduceBNe, Int.reduceToNat, ha, he]
        refine call_use (rfRenew (now := (now : Int)) hX hs.p1 (by omega)) ?_
        rintro r h ⟨hr, hs⟩
        subst hr
        simp (disch := omega) only [go_sem, reduceCtorEq, ↓reduceIte, Nat.reduceEqDiff, Nat.reduceAdd, Nat.reduceSub, Nat.reduceMul, Nat.reduceLT, Nat.reduceLeDiff, Int.reduceEq, Int.reduceNe, Int.reduceLT, Int.reduceLE, Int.reduceBEq, Int.reduceBNe, Int.reduceToNat, he]
        exact ⟨_, _, hs, rfl, rfl⟩
      have k1' : (c.kind == 1) = false := by simpa using k1
      by_cases k2 : c.kind = 2
      · simp (disch := omega) only [go_sem, reduceCtorEq, ↓reduceIte, Nat.reduceEqDiff, Nat.reduceAdd, Nat.reduceSub, Nat.reduceMul, Nat.reduceLT, Nat.reduceLeDiff, Int.reduceEq, Int.reduceNe, Int.reduceLT, Int.reduceLE, Int.reduceBEq, Int.reduceBNe, Int.reduceToNat, k0', k1', show (c.kind == 2) = true by simpa using k2, ha, he]
        refine call_use' (lsRevoke hs.p1.p2) ?_
        rintro r h ⟨hr', hs⟩
        subst hr'
        have ha := hs.p2.at
        simp (disch := omega) only [go_sem, reduceCtorEq, ↓reduceIte, Nat.reduceEqDiff, Nat.reduceAdd, Nat.reduceSub, Nat.reduceMul, Nat.reduceLT, Nat.reduceLeDiff, Int.reduceEq, Int.reduceNe, Int.reduceLT, Int.reduceLE, Int.reduceBEq, Int.reduceBNe, Int.reduceToNat, ha, he]
        refine call_use (rfRevoke hX hs.p1) ?_
        rintro r h ⟨hr, hs⟩
        subst hr
        simp (disch := omega) only [go_sem, reduceCtorEq, ↓reduceIte, Nat.reduceEqDiff, Nat.reduceAdd, Nat.reduceSub, Nat.reduceMul, Nat.reduceLT, Nat.reduceLeDiff, Int.reduceEq, Int.reduceNe, Int.reduceLT, Int.reduceLE, Int.reduceBEq, Int.reduceBNe, Int.reduceToNat, he]
        exact ⟨_, _, hs, rfl, rfl⟩
      have k2' : (c.kind == 2) = false := by simpa using k2
      simp (disch := omega) only [go_sem, reduceCtorEq, ↓reduceIte, Nat.reduceEqDiff, Nat.reduceAdd, Nat.reduceSub, Nat.reduceMul, Nat.reduceLT, Nat.reduceLeDiff, Int.reduceEq, Int.reduceNe, Int.reduceLT, Int.reduceLE, Int.reduceBEq, Int.reduceBNe, Int.reduceToNat, k0', k1', k2', he]
      exact ⟨X, 0, hs.p2.p2, rfl, rfl⟩
    clear hs ha he hs2 ha2
    rintro e h ⟨X', z, hs, he⟩
    have hX : LzOK X' := (lsP.1 hs.p1).choose_spec.1
    simp (disch := omega) only [go_sem, reduceCtorEq, ↓reduceIte, Nat.reduceEqDiff, Nat.reduceAdd, Nat.reduceSub, Nat.reduceMul, Nat.reduceLT, Nat.reduceLeDiff, Int.reduceEq, Int.reduceNe, Int.reduceLT, Int.reduceLE, Int.reduceBEq, Int.reduceBNe, Int.reduceToNat, he]
    refine call_use (lsOverR hs.p1) ?_
    rintro r h ⟨hr, hs⟩
    subst hr
    simp (disch := omega) only [go_sem, reduceCtorEq, ↓reduceIte, Nat.reduceEqDiff, Nat.reduceAdd, Nat.reduceSub, Nat.reduceMul, Nat.reduceLT, Nat.reduceLeDiff, Int.reduceEq, Int.reduceNe, Int.reduceLT, Int.reduceLE, Int.reduceBEq, Int.reduceBNe, Int.reduceToNat, he]
    refine call_use (rfOver hX hs.p1) ?_
    rintro r h ⟨hr, hs⟩
    subst hr
    simp (disch := omega) only [go_sem, reduceCtorEq, ↓reduceIte, Nat.reduceEqDiff, Nat.reduceAdd, Nat.reduceSub, Nat.reduceMul, Nat.reduceLT, Nat.reduceLeDiff, Int.reduceEq, Int.reduceNe, Int.reduceLT, Int.reduceLE, Int.reduceBEq, Int.reduceBNe, Int.reduceToNat, he]
    refine call_use (lsAllR hs.p1) ?_
    rintro r h ⟨hr, hs⟩
    subst hr
    simp (disch := omega) only [go_sem, reduceCtorEq, ↓reduceIte, Nat.reduceEqDiff, Nat.reduceAdd, Nat.reduceSub, Nat.reduceMul, Nat.reduceLT, Nat.reduceLeDiff, Int.reduceEq, Int.reduceNe, Int.reduceLT, Int.reduceLE, Int.reduceBEq, Int.reduceBNe, Int.reduceToNat, he]
    obtain ⟨v, hs⟩ := bxS.1 hs.p1
    have hq := hs.at
    have ha := hs.p3.at
    have hlv := hs.p1.els.len
    rw [List.length_map] at hlv
    simp (disch := omega) only [go_sem, reduceCtorEq, ↓reduceIte, Nat.reduceEqDiff, Nat.reduceAdd, Nat.reduceSub, Nat.reduceMul, Nat.reduceLT, Nat.reduceLeDiff, Int.reduceEq, Int.reduceNe, Int.reduceLT, Int.reduceLE, Int.reduceBEq, Int.reduceBNe, Int.reduceToNat, lenL_lst, he, hq, hlv, ha]
    have hs : sat h (BxS 3 q (X'.map lzC) :: LsP p X' :: pto a (.row 4 [[.int .i64 c.kind, .int .i64 c.id, .int .i64 c.ttl, .int .i64 c.now]] 1) :: []) := bxS.2 ⟨v, hs⟩
    refine call_use' (lsHas hs.p1) ?_
    rintro r h ⟨hr', hs⟩
    subst hr'
    have ha := hs.p2.at
    simp (disch := omega) only [go_sem, reduceCtorEq, ↓reduceIte, Nat.reduceEqDiff, Nat.reduceAdd, Nat.reduceSub, Nat.reduceMul, Nat.reduceLT, Nat.reduceLeDiff, Int.reduceEq, Int.reduceNe, Int.reduceLT, Int.reduceLE, Int.reduceBEq, Int.reduceBNe, Int.reduceToNat, ha, he]
    refine call_use (rfHas hs.p1 (by have := hX.2.2; omega)) ?_
    rintro r h ⟨hr, hs⟩
    subst hr
    simp (disch := omega) only [go_sem, reduceCtorEq, ↓reduceIte, Nat.reduceEqDiff, Nat.reduceAdd, Nat.reduceSub, Nat.reduceMul, Nat.reduceLT, Nat.reduceLeDiff, Int.reduceEq, Int.reduceNe, Int.reduceLT, Int.reduceLE, Int.reduceBEq, Int.reduceBNe, Int.reduceToNat, he]
    have hX1 := hX.2.2
    refine blk_join (Q := fun e h => sat h [BxS 3 q (X'.map lzC), LsP p X'] ∧ (e 0 = callsV cs ∧ e 3 = .ptr p 1 0 0 ∧ e 4 = .ptr q 1 0 0 ∧ e 5 = .int .i64 i ∧ e 12 = .lst (X'.map lzC))) ?_ ?_
    · have hzl : (lzOver X' now).length ≤ 1024 := Nat.le_trans (List.length_filter_le _ _) hX1
      refine run_up (N := (lzOver X' now).length) (fun k e h => sat h [BxS 3 q (X'.map lzC), LsP p X'] ∧ (e 0 = callsV cs ∧ e 3 = .ptr p 1 0 0 ∧ e 4 = .ptr q 1 0 0 ∧ e 5 = .int .i64 i ∧ e 12 = .lst (X'.map lzC) ∧
        e 10 = .lst ((lzOver X' now).map fun x => [.int .i64 x.id]) ∧ e 11 = .lst ((lzOver X' now).map fun x => [.int .i64 x.id]) ∧ e 13 = .int .i64 k)) ⟨hs.p2.drop.p1.p1, by simp [Env.upd_apply, he]⟩ ?_
      clear hs he ha
      rintro k e h hk ⟨hs, he⟩
      generalize lzOver X' now = Z at *
      have m1 : (k : Int) + 1 = ((k + 1 : Nat) : Int) := by omega
      have lenZ : lenL (.lst (Z.map fun x => [AV.int .i64 x.id])) = some (.int .i64 Z.length) := by simp [lenL]
      simp (disch := omega) only [go_sem, reduceCtorEq, ↓reduceIte, Nat.reduceEqDiff, Nat.reduceAdd, Nat.reduceSub, Nat.reduceMul, Nat.reduceLT, Nat.reduceLeDiff, Int.reduceEq, Int.reduceNe, Int.reduceLT, Int.reduceLE, Int.reduceBEq, Int.reduceBNe, Int.reduceToNat, he, m1, lenZ]
      refine cnd_dec (fun h1 => ?_) (fun h1 => ?_)
      · have hk : k < Z.length := by omega
        have ez := ia_lst (f := fun x : Lz => [AV.int .i64 x.id]) (l := Z) (i := k) (s := 1) (k := .i64) hk (fun _ => rfl)
        simp (disch := omega) only [go_sem, reduceCtorEq, ↓reduceIte, Nat.reduceEqDiff, Nat.reduceAdd, Nat.reduceSub, Nat.reduceMul, Nat.reduceLT, Nat.reduceLeDiff, Int.reduceEq, Int.reduceNe, Int.reduceLT, Int.reduceLE, Int.reduceBEq, Int.reduceBNe, Int.reduceToNat, he, ez, m1]
        exact ⟨by omega, hs⟩
      · simp (disch := omega) only [go_sem, reduceCtorEq, ↓reduceIte, Nat.reduceEqDiff, Nat.reduceAdd, Nat.reduceSub, Nat.reduceMul, Nat.reduceLT, Nat.reduceLeDiff, Int.reduceEq, Int.reduceNe, Int.reduceLT, Int.reduceLE, Int.reduceBEq, Int.reduceBNe, Int.reduceToNat, he]
        exact hs
    clear hs he ha
    rintro e h ⟨hs, he⟩
    simp (disch := omega) only [go_sem, reduceCtorEq, ↓reduceIte, Nat.reduceEqDiff, Nat.reduceAdd, Nat.reduceSub, Nat.reduceMul, Nat.reduceLT, Nat.reduceLeDiff, Int.reduceEq, Int.reduceNe, Int.reduceLT, Int.reduceLE, Int.reduceBEq, Int.reduceBNe, Int.reduceToNat, he]
    refine blk_join (Q := fun e h => sat h [BxS 3 q (X'.map lzC), LsP p X'] ∧ (e 0 = callsV cs ∧ e 3 = .ptr p 1 0 0 ∧ e 4 = .ptr q 1 0 0 ∧ e 5 = .int .i64 i)) ?_ ?_
    · refine run_up (N := X'.length) (fun k e h => sat h [BxS 3 q (X'.map lzC), LsP p X'] ∧ (e 0 = callsV cs ∧ e 3 = .ptr p 1 0 0 ∧ e 4 = .ptr q 1 0 0 ∧ e 5 = .int .i64 i ∧ e 12 = .lst (X'.map lzC) ∧ e 14 = .int .i64 k)) ⟨hs, by simp [Env.upd_apply, he]⟩ ?_
      clear hs he
      rintro k e h hk ⟨hs, he⟩
      have m1 : (k : Int) + 1 = ((k + 1 : Nat) : Int) := by omega
      have lenX : lenL (.lst (X'.map lzC)) = some (.int .i64 X'.length) := by simp [lenL]
      simp (disch := omega) only [go_sem, reduceCtorEq, ↓reduceIte, Nat.reduceEqDiff, Nat.reduceAdd, Nat.reduceSub, Nat.reduceMul, Nat.reduceLT, Nat.reduceLeDiff, Int.reduceEq, Int.reduceNe, Int.reduceLT, Int.reduceLE, Int.reduceBEq, Int.reduceBNe, Int.reduceToNat, he, m1, lenX]
      refine cnd_dec (fun h1 => ?_) (fun h1 => ?_)
      · have hk : k < X'.length := by omega
        have ez := ia_lst (f := lzC) (l := X') (i := k) (s := 3) (k := .i64) hk (fun _ => rfl)
        have hrow : (X'.map lzC)[k]? = some (lzC X'[k]) := by simp [hk]
        rcases bxS_cases hs with ⟨hn0, _⟩ | ⟨b, cap, hle, hs3⟩
        · exfalso
          have : X' = [] := by simpa using hn0
          subst this; simp at hk
        have hlen : (X'.map lzC).length = X'.length := by simp
        rw [hlen] at hs3
        have hq := hs3.at
        have hb := hs3.p1.at
        simp (disch := omega) only [go_sem, reduceCtorEq, ↓reduceIte, Nat.reduceEqDiff, Nat.reduceAdd, Nat.reduceSub, Nat.reduceMul, Nat.reduceLT, Nat.reduceLeDiff, Int.reduceEq, Int.reduceNe, Int.reduceLT, Int.reduceLE, Int.reduceBEq, Int.reduceBNe, Int.reduceToNat, he, ez, lzC, hq, hb, hrow, Int.toNat_natCast, m1]
        exact ⟨by omega, hs⟩
      · simp (disch := omega) only [go_sem, reduceCtorEq, ↓reduceIte, Nat.reduceEqDiff, Nat.reduceAdd, Nat.reduceSub, Nat.reduceMul, Nat.reduceLT, Nat.reduceLeDiff, Int.reduceEq, Int.reduceNe, Int.reduceLT, Int.reduceLE, Int.reduceBEq, Int.reduceBNe, Int.reduceToNat, he]
        exact hs
    clear hs he
    rintro e h ⟨hs, he⟩
    have m1 : (i : Int) + 1 = ((i + 1 : Nat) : Int) := by omega
    simp (disch := omega) only [go_sem, reduceCtorEq, ↓reduceIte, Nat.reduceEqDiff, Nat.reduceAdd, Nat.reduceSub, Nat.reduceMul, Nat.reduceLT, Nat.reduceLeDiff, Int.reduceEq, Int.reduceNe, Int.reduceLT, Int.reduceLE, Int.reduceBEq, Int.reduceBNe, Int.reduceToNat, he, m1]
    exact ⟨100 - (i + 1), by omega, i + 1, X', rfl, by omega, hs, rfl⟩
  · have hcase : (¬ (i : Int) < cs.length) ∨ ((i : Int) < cs.length ∧ ¬ (i : Int) < 100) := by omega
    rcases hcase with c1 | ⟨c1, c2⟩
    · simp (disch := omega) only [go_sem, reduceCtorEq, ↓reduceIte, Nat.reduceEqDiff, Nat.reduceAdd, Nat.reduceSub, Nat.reduceMul, Nat.reduceLT, Nat.reduceLeDiff, Int.reduceEq, Int.reduceNe, Int.reduceLT, Int.reduceLE, Int.reduceBEq, Int.reduceBNe, Int.reduceToNat, he, len2, c1]
    · simp (disch := omega) only [go_sem, reduceCtorEq, ↓reduceIte, Nat.reduceEqDiff, Nat.reduceAdd, Nat.reduceSub, Nat.reduceMul, Nat.reduceLT, Nat.reduceLeDiff, Int.reduceEq, Int.reduceNe, Int.reduceLT, Int.reduceLE, Int.reduceBEq, Int.reduceBNe, Int.reduceToNat, he, len2, c1, c2]
theorem leasePlays_law (vs : List AV) (h : Ty.ones [.sl (.st (.fcons (.int .i64) (.fcons (.int .i64) (.fcons (.int .i64) (.fcons (.int .i64) .fnil)))))] vs) : Triple Try.prog 6 vs Hp.emp (fun r _ => r = .bool true) := by
  obtain ⟨a, _, rfl, ha, h⟩ := ones_cons h
  obtain rfl := ones_nil h
  obtain ⟨es, rfl', hl, hes⟩ := ha
  cases rfl'
  obtain ⟨l, rfl, hl2⟩ := rows_of (f := lcC) (Q := fun c => -9223372036854775808 ≤ c.now ∧ c.now ≤ 9223372036854775807) (fun x hx => by
    obtain ⟨x1, x2, rfl, ⟨a, rfl, ha⟩, y1, y2, rfl, ⟨b, rfl, hb⟩, z1, z2, rfl, ⟨c, rfl, hc⟩, w1, w2, rfl, ⟨d, rfl, hd⟩, rfl⟩ := hx
    exact ⟨⟨a, b, c, d⟩, rfl, int_in hd⟩) hes
  rw [List.length_map] at hl
  exact plays10 (Nat.le_trans hl (by decide)) hl2
end Go.Proofs.Ytcajplcepmbbkaa
