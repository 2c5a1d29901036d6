/- net: messages are read. -/
import Derived.Test.YtfbflmiipepmiaaR2NetD
set_option linter.unusedSimpArgs false
set_option linter.unusedVariables false
set_option maxRecDepth 10000
namespace Go.Proofs.Ytfbflmiipepmiaa
open Go.Hz

section
variable {h : Hp} {F : List Asr} {p : Nat} {s : RS}

theorem entries (hs : sat h (Rd p s :: F)) : Triple Try.prog 91 [.ptr p 3 0 0] h (fun r h => r = ensV (entP (s.v 1) (s.adv 1)).1 ∧ sat h (Rd p (entP (s.v 1) (s.adv 1)).2 :: F)) := by
  obtain ⟨k1, k2⟩ := s.v_val
  refine Triple.lst 4 ?_
  refine t91 (Nat.le_of_ble_eq_true rfl) ?_
  simp (disch := omega) only [F91, go_sem, reduceCtorEq, ↓reduceIte, Nat.reduceEqDiff, Nat.reduceAdd, Nat.reduceSub, Nat.reduceMul, Nat.reduceLT, Nat.reduceLeDiff, Int.reduceEq, Int.reduceNe, Int.reduceLT, Int.reduceLE, Int.reduceBEq, Int.reduceBNe, Int.reduceToNat]
  refine call_use (rU8 hs) ?_
  rintro r h ⟨hr, hs⟩
  subst hr
  simp (disch := omega) only [go_sem, reduceCtorEq, ↓reduceIte, Nat.reduceEqDiff, Nat.reduceAdd, Nat.reduceSub, Nat.reduceMul, Nat.reduceLT, Nat.reduceLeDiff, Int.reduceEq, Int.reduceNe, Int.reduceLT, Int.reduceLE, Int.reduceBEq, Int.reduceBNe, Int.reduceToNat, k1]
  refine run_loopN (fun n e h => ∃ acc t, acc ++ (entP n t).1 = (entP (s.v 1) (s.adv 1)).1 ∧ (entP n t).2 = (entP (s.v 1) (s.adv 1)).2 ∧ acc.length + n ≤ s.v 1 ∧
    (e 0 = .ptr p 3 0 0 ∧ e 4 = .int .i64 n) ∧ sat h (Rd p t :: Ow 4 (e 3) (acc.map En.row) :: F)) (s.v 1) ⟨[], s.adv 1, rfl, rfl, by simp, ⟨rfl, rfl⟩, by simpa [Env.upd_apply] using (hs.add (ow_nil (s := 4))).p1⟩ ?_
  rintro n e h ⟨acc, t, h1, h2, h3, he, hs⟩
  generalize hv : e 3 = v at hs
  simp (disch := omega) only [go_sem, reduceCtorEq, ↓reduceIte, Nat.reduceEqDiff, Nat.reduceAdd, Nat.reduceSub, Nat.reduceMul, Nat.reduceLT, Nat.reduceLeDiff, Int.reduceEq, Int.reduceNe, Int.reduceLT, Int.reduceLE, Int.reduceBEq, Int.reduceBNe, Int.reduceToNat, he]
  have fin : ∀ h, (entP n t).1 = [] → (entP n t).2 = t → sat h (Rd p t :: Ow 4 v (acc.map En.row) :: F) → ∃ es F_1, sat h (Ow 4 v es :: F_1) ∧ ∀ h'', sat h'' F_1 → (fun (r : AV) h => r = ensV (entP (s.v 1) (s.adv 1)).1 ∧ sat h (Rd p (entP (s.v 1) (s.adv 1)).2 :: F)) (.lst es) h'' := by
    intro h g1 g2 hs
    refine ⟨_, _, hs.p1, fun h hs => ?_⟩
    rw [← h1, ← h2, g1, g2, List.append_nil]
    exact ⟨rfl, hs⟩
  refine cnd_dec (fun hc => ?_) (fun hc => ?_)
  · obtain ⟨m, rfl⟩ : ∃ m, n = m + 1 := ⟨n - 1, by omega⟩
    simp (disch := omega) only [go_sem, reduceCtorEq, ↓reduceIte, Nat.reduceEqDiff, Nat.reduceAdd, Nat.reduceSub, Nat.reduceMul, Nat.reduceLT, Nat.reduceLeDiff, Int.reduceEq, Int.reduceNe, Int.reduceLT, Int.reduceLE, Int.reduceBEq, Int.reduceBNe, Int.reduceToNat, he]
    rcases (Rd.iff.1 hs).1.2.2 with h0 | h8
    · refine call_use (rErr hs) ?_
      rintro r h ⟨hr, hs⟩
      subst hr
      simp (disch := omega) only [go_sem, reduceCtorEq, ↓reduceIte, Nat.reduceEqDiff, Nat.reduceAdd, Nat.reduceSub, Nat.reduceMul, Nat.reduceLT, Nat.reduceLeDiff, Int.reduceEq, Int.reduceNe, Int.reduceLT, Int.reduceLE, Int.reduceBEq, Int.reduceBNe, Int.reduceToNat, he, h0, hc]
      refine call_use (rInt hs) ?_
      rintro r h ⟨hr, hs⟩
      subst hr
      simp (disch := omega) only [go_sem, reduceCtorEq, ↓reduceIte, Nat.reduceEqDiff, Nat.reduceAdd, Nat.reduceSub, Nat.reduceMul, Nat.reduceLT, Nat.reduceLeDiff, Int.reduceEq, Int.reduceNe, Int.reduceLT, Int.reduceLE, Int.reduceBEq, Int.reduceBNe, Int.reduceToNat, he]
      refine call_use (rInt hs) ?_
      rintro r h ⟨hr, hs⟩
      subst hr
      simp (disch := omega) only [go_sem, reduceCtorEq, ↓reduceIte, Nat.reduceEqDiff, Nat.reduceAdd, Nat.reduceSub, Nat.reduceMul, Nat.reduceLT, Nat.reduceLeDiff, Int.reduceEq, Int.reduceNe, Int.reduceLT, Int.reduceLE, Int.reduceBEq, Int.reduceBNe, Int.reduceToNat, he]
      refine call_use (rU8 hs) ?_
      rintro r h ⟨hr, hs⟩
      subst hr
      simp (disch := omega) only [go_sem, reduceCtorEq, ↓reduceIte, Nat.reduceEqDiff, Nat.reduceAdd, Nat.reduceSub, Nat.reduceMul, Nat.reduceLT, Nat.reduceLeDiff, Int.reduceEq, Int.reduceNe, Int.reduceLT, Int.reduceLE, Int.reduceBEq, Int.reduceBNe, Int.reduceToNat, he]
      refine new_opq hs fun b h hs => ?_
      simp (disch := omega) only [go_sem, reduceCtorEq, ↓reduceIte, Nat.reduceEqDiff, Nat.reduceAdd, Nat.reduceSub, Nat.reduceMul, Nat.reduceLT, Nat.reduceLeDiff, Int.reduceEq, Int.reduceNe, Int.reduceLT, Int.reduceLE, Int.reduceBEq, Int.reduceBNe, Int.reduceToNat, hs.at, he]
      refine call_use (rText hs.set.p1) ?_
      rintro r h ⟨hr, hs⟩
      subst hr
      simp (disch := omega) only [go_sem, reduceCtorEq, ↓reduceIte, Nat.reduceEqDiff, Nat.reduceAdd, Nat.reduceSub, Nat.reduceMul, Nat.reduceLT, Nat.reduceLeDiff, Int.reduceEq, Int.reduceNe, Int.reduceLT, Int.reduceLE, Int.reduceBEq, Int.reduceBNe, Int.reduceToNat, he]
      refine strb_ro ?_
      simp (disch := omega) only [go_sem, reduceCtorEq, ↓reduceIte, Nat.reduceEqDiff, Nat.reduceAdd, Nat.reduceSub, Nat.reduceMul, Nat.reduceLT, Nat.reduceLeDiff, Int.reduceEq, Int.reduceNe, Int.reduceLT, Int.reduceLE, Int.reduceBEq, Int.reduceBNe, Int.reduceToNat, he, hs.p1.at, hv]
      have hs := hs.p1.set (o' := .row 4 [(En.mk (t.val 8) ((t.adv 8).val 8) (((t.adv 8).adv 8).val 1) ((((t.adv 8).adv 8).adv 1).tx)).row] 1)
      refine new_opq hs fun x h hs => ?_
      simp (disch := omega) only [go_sem, reduceCtorEq, ↓reduceIte, Nat.reduceEqDiff, Nat.reduceAdd, Nat.reduceSub, Nat.reduceMul, Nat.reduceLT, Nat.reduceLeDiff, Int.reduceEq, Int.reduceNe, Int.reduceLT, Int.reduceLE, Int.reduceBEq, Int.reduceBNe, Int.reduceToNat, he, hv]
      refine app_sat hs.p3 (src_one hs.at) (atoms_one rfl) (by simp; omega) fun v' h hs hc' ha' => ?_
      simp (disch := omega) only [go_sem, reduceCtorEq, ↓reduceIte, Nat.reduceEqDiff, Nat.reduceAdd, Nat.reduceSub, Nat.reduceMul, Nat.reduceLT, Nat.reduceLeDiff, Int.reduceEq, Int.reduceNe, Int.reduceLT, Int.reduceLE, Int.reduceBEq, Int.reduceBNe, Int.reduceToNat, he]
      have e0 : entP (m + 1) t = ((En.mk (t.val 8) ((t.adv 8).val 8) (((t.adv 8).adv 8).val 1) ((((t.adv 8).adv 8).adv 1).tx)) :: (entP m (((t.adv 8).adv 8).adv 1).atx).1, (entP m (((t.adv 8).adv 8).adv 1).atx).2) := by
        rw [entP, if_pos h0]
      rw [e0] at h1 h2
      refine ⟨m, by omega, acc ++ [_], _, by rw [← h1, List.append_assoc]; rfl, h2, by simp; omega, by congr 1; omega, ?_⟩
      rw [List.map_append]
      exact hs.d1.d1.p1
    · have hne : ¬ t.err = 0 := by omega
      refine call_use (rErr hs) ?_
      rintro r h ⟨hr, hs⟩
      subst hr
      simp (disch := omega) only [go_sem, reduceCtorEq, ↓reduceIte, Nat.reduceEqDiff, Nat.reduceAdd, Nat.reduceSub, Nat.reduceMul, Nat.reduceLT, Nat.reduceLeDiff, Int.reduceEq, Int.reduceNe, Int.reduceLT, Int.reduceLE, Int.reduceBEq, Int.reduceBNe, Int.reduceToNat, he, h8, hc, hv]
      have e0 : entP (m + 1) t = ([], t) := by rw [entP, if_neg hne]
      exact fin _ (by rw [e0]) (by rw [e0]) hs
  · have : n = 0 := by omega
    subst this
    simp (disch := omega) only [go_sem, reduceCtorEq, ↓reduceIte, Nat.reduceEqDiff, Nat.reduceAdd, Nat.reduceSub, Nat.reduceMul, Nat.reduceLT, Nat.reduceLeDiff, Int.reduceEq, Int.reduceNe, Int.reduceLT, Int.reduceLE, Int.reduceBEq, Int.reduceBNe, Int.reduceToNat, he, hv]
    exact fin _ rfl rfl hs

/-- A message of which one slice is held elsewhere. -/
def cellsV (m : Ms) (v d : AV) : List AV :=
  [.int .i64 m.kind, .int .i64 m.frm, .int .i64 m.to, .int .i64 m.term, .int .i64 m.index, .int .i64 m.lterm, ensV m.es, .int .i64 m.commit, .int .i64 m.seq, .bool m.ok, .int .i64 m.mtch,
   .int .i64 m.mi, .int .i64 m.mt, v, d]

theorem pRead (hs : sat h (Rd p s :: F)) : Triple Try.prog 50 [.ptr p 3 0 0] h (fun r h => ∃ cs, r = .tup [.agg cs, .int .i64 (erP s)] ∧ (cs.length = 15 ∧ cs.all AV.isAtom = true) ∧ (erP s = 0 → cs = (msP s).cells) ∧ sat h F) := by
  have err : ∀ (cs : List AV) (k : Int) (h : Hp), (cs.length = 15 ∧ cs.all AV.isAtom = true) → erP s = k → k ≠ 0 → sat h F → ∃ r' h'', GV (.tup [.agg cs, .int .i64 k]) h r' h'' ∧ (fun r h => ∃ cs, r = .tup [.agg cs, .int .i64 (erP s)] ∧ (cs.length = 15 ∧ cs.all AV.isAtom = true) ∧ (erP s = 0 → cs = (msP s).cells) ∧ sat h F) r' h'' := by
    intro cs k h hcs hk h0 hs
    subst hk
    exact ⟨_, h, GV.refl _ _, cs, rfl, hcs, fun hh => absurd hh h0, hs⟩
  refine Triple.view ?_
  refine t50 (Nat.le_of_ble_eq_true rfl) ?_
  simp (disch := omega) only [F50, go_sem, reduceCtorEq, ↓reduceIte, Nat.reduceEqDiff, Nat.reduceAdd, Nat.reduceSub, Nat.reduceMul, Nat.reduceLT, Nat.reduceLeDiff, Int.reduceEq, Int.reduceNe, Int.reduceLT, Int.reduceLE, Int.reduceBEq, Int.reduceBNe, Int.reduceToNat]
  refine new_opq hs fun n2 h hs => ?_
  simp (disch := omega) only [go_sem, reduceCtorEq, ↓reduceIte, Nat.reduceEqDiff, Nat.reduceAdd, Nat.reduceSub, Nat.reduceMul, Nat.reduceLT, Nat.reduceLeDiff, Int.reduceEq, Int.reduceNe, Int.reduceLT, Int.reduceLE, Int.reduceBEq, Int.reduceBNe, Int.reduceToNat, hs.at]
  refine call_use (rU8 hs.p1) ?_
  rintro r h ⟨hr, hs⟩
  subst hr
  simp (disch := omega) only [go_sem, reduceCtorEq, ↓reduceIte, Nat.reduceEqDiff, Nat.reduceAdd, Nat.reduceSub, Nat.reduceMul, Nat.reduceLT, Nat.reduceLeDiff, Int.reduceEq, Int.reduceNe, Int.reduceLT, Int.reduceLE, Int.reduceBEq, Int.reduceBNe, Int.reduceToNat]
  refine new_opq hs fun n4 h hs => ?_
  simp (disch := omega) only [go_sem, reduceCtorEq, ↓reduceIte, Nat.reduceEqDiff, Nat.reduceAdd, Nat.reduceSub, Nat.reduceMul, Nat.reduceLT, Nat.reduceLeDiff, Int.reduceEq, Int.reduceNe, Int.reduceLT, Int.reduceLE, Int.reduceBEq, Int.reduceBNe, Int.reduceToNat, hs.at]
  have hs := hs.set (o' := .row 15 [[.int .i64 (s.val 1), .int .i64 0, .int .i64 0, .int .i64 0, .int .i64 0, .int .i64 0, .nils, .int .i64 0, .int .i64 0, .bool false, .int .i64 0, .int .i64 0, .int .i64 0, .nils, .nils]] 1)
  by_cases bad : (s.adv 1).err = 0 ∧ (s.val 1 < 1 ∨ 5 < s.val 1)
  · have he : erP s = 3 := by unfold erP; rw [if_pos bad]
    obtain ⟨b1, b2⟩ := bad
    refine call_use (rErr hs.p1) ?_
    rintro r h ⟨hr, hs⟩
    subst hr
    simp (disch := omega) only [go_sem, reduceCtorEq, ↓reduceIte, Nat.reduceEqDiff, Nat.reduceAdd, Nat.reduceSub, Nat.reduceMul, Nat.reduceLT, Nat.reduceLeDiff, Int.reduceEq, Int.reduceNe, Int.reduceLT, Int.reduceLE, Int.reduceBEq, Int.reduceBNe, Int.reduceToNat, b1, hs.p1.at]
    by_cases b3 : s.val 1 < 1
    · simp (disch := omega) only [go_sem, reduceCtorEq, ↓reduceIte, Nat.reduceEqDiff, Nat.reduceAdd, Nat.reduceSub, Nat.reduceMul, Nat.reduceLT, Nat.reduceLeDiff, Int.reduceEq, Int.reduceNe, Int.reduceLT, Int.reduceLE, Int.reduceBEq, Int.reduceBNe, Int.reduceToNat, b3, hs.p1.at, hs.p2.at]
      exact err _ 3 _ ⟨rfl, rfl⟩ he (by omega) ((hs.p2.set).drop.drop.drop)
    · have b4 : 5 < s.val 1 := by omega
      simp (disch := omega) only [go_sem, reduceCtorEq, ↓reduceIte, Nat.reduceEqDiff, Nat.reduceAdd, Nat.reduceSub, Nat.reduceMul, Nat.reduceLT, Nat.reduceLeDiff, Int.reduceEq, Int.reduceNe, Int.reduceLT, Int.reduceLE, Int.reduceBEq, Int.reduceBNe, Int.reduceToNat, b3, b4, hs.p1.at, hs.p2.at]
      exact err _ 3 _ ⟨rfl, rfl⟩ he (by omega) ((hs.p2.set).drop.drop.drop)
  have hk : (s.adv 1).err = 0 → (¬ s.val 1 < 1) ∧ ¬ 5 < s.val 1 := fun hh => ⟨fun q => bad ⟨hh, .inl q⟩, fun q => bad ⟨hh, .inr q⟩⟩
  rcases (Rd.iff.1 hs.p1).1.2.2 with b1 | b1
  all_goals
    refine call_use (rErr hs.p1) ?_
    rintro r h ⟨hr, hs⟩
    subst hr
    first
      | (have b3 := (hk b1).1; have b4 := (hk b1).2; simp (disch := omega) only [go_sem, reduceCtorEq, ↓reduceIte, Nat.reduceEqDiff, Nat.reduceAdd, Nat.reduceSub, Nat.reduceMul, Nat.reduceLT, Nat.reduceLeDiff, Int.reduceEq, Int.reduceNe, Int.reduceLT, Int.reduceLE, Int.reduceBEq, Int.reduceBNe, Int.reduceToNat, b1, b3, b4, hs.p1.at])
      | simp (disch := omega) only [go_sem, reduceCtorEq, ↓reduceIte, Nat.reduceEqDiff, Nat.reduceAdd, Nat.reduceSub, Nat.reduceMul, Nat.reduceLT, Nat.reduceLeDiff, Int.reduceEq, Int.reduceNe, Int.reduceLT, Int.reduceLE, Int.reduceBEq, Int.reduceBNe, Int.reduceToNat, b1, hs.p1.at]
    refine call_use (rInt hs) ?_
    rintro r h ⟨hr, hs⟩
    subst hr
    simp (disch := omega) only [go_sem, reduceCtorEq, ↓reduceIte, Nat.reduceEqDiff, Nat.reduceAdd, Nat.reduceSub, Nat.reduceMul, Nat.reduceLT, Nat.reduceLeDiff, Int.reduceEq, Int.reduceNe, Int.reduceLT, Int.reduceLE, Int.reduceBEq, Int.reduceBNe, Int.reduceToNat]
    refine call_use (rInt hs) ?_
    rintro r h ⟨hr, hs⟩
    subst hr
    simp (disch := omega) only [go_sem, reduceCtorEq, ↓reduceIte, Nat.reduceEqDiff, Nat.reduceAdd, Nat.reduceSub, Nat.reduceMul, Nat.reduceLT, Nat.reduceLeDiff, Int.reduceEq, Int.reduceNe, Int.reduceLT, Int.reduceLE, Int.reduceBEq, Int.reduceBNe, Int.reduceToNat]
    refine call_use (rInt hs) ?_
    rintro r h ⟨hr, hs⟩
    subst hr
    simp (disch := omega) only [go_sem, reduceCtorEq, ↓reduceIte, Nat.reduceEqDiff, Nat.reduceAdd, Nat.reduceSub, Nat.reduceMul, Nat.reduceLT, Nat.reduceLeDiff, Int.reduceEq, Int.reduceNe, Int.reduceLT, Int.reduceLE, Int.reduceBEq, Int.reduceBNe, Int.reduceToNat]
    refine call_use (rInt hs) ?_
    rintro r h ⟨hr, hs⟩
    subst hr
    simp (disch := omega) only [go_sem, reduceCtorEq, ↓reduceIte, Nat.reduceEqDiff, Nat.reduceAdd, Nat.reduceSub, Nat.reduceMul, Nat.reduceLT, Nat.reduceLeDiff, Int.reduceEq, Int.reduceNe, Int.reduceLT, Int.reduceLE, Int.reduceBEq, Int.reduceBNe, Int.reduceToNat]
    refine call_use (rInt hs) ?_
    rintro r h ⟨hr, hs⟩
    subst hr
    simp (disch := omega) only [go_sem, reduceCtorEq, ↓reduceIte, Nat.reduceEqDiff, Nat.reduceAdd, Nat.reduceSub, Nat.reduceMul, Nat.reduceLT, Nat.reduceLeDiff, Int.reduceEq, Int.reduceNe, Int.reduceLT, Int.reduceLE, Int.reduceBEq, Int.reduceBNe, Int.reduceToNat, hs.p1.at]
    generalize hs1 : (((((s.adv 1).adv 8).adv 8).adv 8).adv 8).adv 8 = s1 at hs
    refine call_use (entries hs.p1.set.p1) ?_
    rintro r h ⟨hr, hs⟩
    subst hr
    simp (disch := omega) only [go_sem, reduceCtorEq, ↓reduceIte, Nat.reduceEqDiff, Nat.reduceAdd, Nat.reduceSub, Nat.reduceMul, Nat.reduceLT, Nat.reduceLeDiff, Int.reduceEq, Int.reduceNe, Int.reduceLT, Int.reduceLE, Int.reduceBEq, Int.reduceBNe, Int.reduceToNat, hs.p1.at]
    generalize hE : entP (s1.v 1) (s1.adv 1) = E at hs
    refine call_use (rInt hs.p1.set.p1) ?_
    rintro r h ⟨hr, hs⟩
    subst hr
    simp (disch := omega) only [go_sem, reduceCtorEq, ↓reduceIte, Nat.reduceEqDiff, Nat.reduceAdd, Nat.reduceSub, Nat.reduceMul, Nat.reduceLT, Nat.reduceLeDiff, Int.reduceEq, Int.reduceNe, Int.reduceLT, Int.reduceLE, Int.reduceBEq, Int.reduceBNe, Int.reduceToNat]
    refine call_use (rInt hs) ?_
    rintro r h ⟨hr, hs⟩
    subst hr
    simp (disch := omega) only [go_sem, reduceCtorEq, ↓reduceIte, Nat.reduceEqDiff, Nat.reduceAdd, Nat.reduceSub, Nat.reduceMul, Nat.reduceLT, Nat.reduceLeDiff, Int.reduceEq, Int.reduceNe, Int.reduceLT, Int.reduceLE, Int.reduceBEq, Int.reduceBNe, Int.reduceToNat, hs.p1.at]
    refine call_use (rU8 hs.p1.set.p1) ?_
    rintro r h ⟨hr, hs⟩
    subst hr
    simp (disch := omega) only [go_sem, reduceCtorEq, ↓reduceIte, Nat.reduceEqDiff, Nat.reduceAdd, Nat.reduceSub, Nat.reduceMul, Nat.reduceLT, Nat.reduceLeDiff, Int.reduceEq, Int.reduceNe, Int.reduceLT, Int.reduceLE, Int.reduceBEq, Int.reduceBNe, Int.reduceToNat]
    generalize hs2 : E.2 = s2 at hs
    have e2 : (rdP s).s2 = s2 := by unfold rdP; simp only; rw [hs1, hE, hs2]
    have e1 : (rdP s).es = E.1 := by unfold rdP; simp only; rw [hs1, hE]
    have erk : erP s = (if (((s2.adv 8).adv 8).adv 1).err = 0 ∧ 1 < ((s2.adv 8).adv 8).val 1 then 11
        else if (rdP s).s3.atx.err ≠ 0 then 8 else if (rdP s).s3.atx.a < s.b.length then 9 else 0) := by
      unfold erP
      simp only
      rw [if_neg bad, e2]
    by_cases bad2 : (((s2.adv 8).adv 8).adv 1).err = 0 ∧ 1 < ((s2.adv 8).adv 8).val 1
    · rw [if_pos bad2] at erk
      obtain ⟨c1, c2⟩ := bad2
      refine call_use (rErr hs) ?_
      rintro r h ⟨hr, hs⟩
      subst hr
      simp (disch := omega) only [go_sem, reduceCtorEq, ↓reduceIte, Nat.reduceEqDiff, Nat.reduceAdd, Nat.reduceSub, Nat.reduceMul, Nat.reduceLT, Nat.reduceLeDiff, Int.reduceEq, Int.reduceNe, Int.reduceLT, Int.reduceLE, Int.reduceBEq, Int.reduceBNe, Int.reduceToNat, c1, c2, hs.p1.at, hs.p2.at]
      exact err _ 11 _ ⟨rfl, rfl⟩ erk (by omega) ((hs.p2.set).drop.drop.drop)
    rw [if_neg bad2] at erk
    have hk2 : (((s2.adv 8).adv 8).adv 1).err = 0 → ¬ 1 < ((s2.adv 8).adv 8).val 1 := fun hh q => bad2 ⟨hh, q⟩
    rcases (Rd.iff.1 hs).1.2.2 with c1 | c1
    all_goals
      refine call_use (rErr hs) ?_
      rintro r h ⟨hr, hs⟩
      subst hr
      first
        | (have c2 := hk2 c1; simp (disch := omega) only [go_sem, reduceCtorEq, ↓reduceIte, Nat.reduceEqDiff, Nat.reduceAdd, Nat.reduceSub, Nat.reduceMul, Nat.reduceLT, Nat.reduceLeDiff, Int.reduceEq, Int.reduceNe, Int.reduceLT, Int.reduceLE, Int.reduceBEq, Int.reduceBNe, Int.reduceToNat, c1, c2, hs.p1.at])
        | simp (disch := omega) only [go_sem, reduceCtorEq, ↓reduceIte, Nat.reduceEqDiff, Nat.reduceAdd, Nat.reduceSub, Nat.reduceMul, Nat.reduceLT, Nat.reduceLeDiff, Int.reduceEq, Int.reduceNe, Int.reduceLT, Int.reduceLE, Int.reduceBEq, Int.reduceBNe, Int.reduceToNat, c1, hs.p1.at]
      refine call_use (rInt hs.p1.set.p1) ?_
      rintro r h ⟨hr, hs⟩
      subst hr
      simp (disch := omega) only [go_sem, reduceCtorEq, ↓reduceIte, Nat.reduceEqDiff, Nat.reduceAdd, Nat.reduceSub, Nat.reduceMul, Nat.reduceLT, Nat.reduceLeDiff, Int.reduceEq, Int.reduceNe, Int.reduceLT, Int.reduceLE, Int.reduceBEq, Int.reduceBNe, Int.reduceToNat, hs.p1.at]
      refine call_use (rInt hs.p1.set.p1) ?_
      rintro r h ⟨hr, hs⟩
      subst hr
      simp (disch := omega) only [go_sem, reduceCtorEq, ↓reduceIte, Nat.reduceEqDiff, Nat.reduceAdd, Nat.reduceSub, Nat.reduceMul, Nat.reduceLT, Nat.reduceLeDiff, Int.reduceEq, Int.reduceNe, Int.reduceLT, Int.reduceLE, Int.reduceBEq, Int.reduceBNe, Int.reduceToNat]
      refine call_use (rInt hs) ?_
      rintro r h ⟨hr, hs⟩
      subst hr
      simp (disch := omega) only [go_sem, reduceCtorEq, ↓reduceIte, Nat.reduceEqDiff, Nat.reduceAdd, Nat.reduceSub, Nat.reduceMul, Nat.reduceLT, Nat.reduceLeDiff, Int.reduceEq, Int.reduceNe, Int.reduceLT, Int.reduceLE, Int.reduceBEq, Int.reduceBNe, Int.reduceToNat, hs.p1.at]
      generalize hs3 : (((((s2.adv 8).adv 8).adv 1).adv 8).adv 8).adv 8 = s3 at hs
      obtain ⟨v1, v2⟩ := s3.v_val
      refine call_use (rU8 hs.p1.set.p1) ?_
      rintro r h ⟨hr, hs⟩
      subst hr
      simp (disch := omega) only [go_sem, reduceCtorEq, ↓reduceIte, Nat.reduceEqDiff, Nat.reduceAdd, Nat.reduceSub, Nat.reduceMul, Nat.reduceLT, Nat.reduceLeDiff, Int.reduceEq, Int.reduceNe, Int.reduceLT, Int.reduceLE, Int.reduceBEq, Int.reduceBNe, Int.reduceToNat, v1]
      generalize hV : votP (s3.v 1) (s3.adv 1) = V
      have e3 : (rdP s).vs = V.1 ∧ (rdP s).s3 = V.2 := by unfold rdP; simp only; rw [hs1, hE, hs2, hs3, hV]; exact ⟨rfl, rfl⟩
      rw [e3.2] at erk
      have hb : V.2.b = s.b := by
        rw [← hV, votP_b, ← hs3, ← hs2, ← hE]
        simp only [RS.adv_b, entP_b, ← hs1]
      refine run_loopN (fun n e h => ∃ acc t v, acc ++ (votP n t).1 = V.1 ∧ (votP n t).2 = V.2 ∧ acc.length + n ≤ s3.v 1 ∧ (e 0 = .ptr p 3 0 0 ∧ e 4 = .ptr n4 15 0 0 ∧ e 6 = .int .i64 n ∧ e 2 = .ptr n2 15 0 0) ∧
        sat h (Rd p t :: Ow 1 v (acc.map fun k => [AV.int .i64 k]) :: pto n4 (.row 15 [cellsV (msP s) v .nils] 1) ::
          pto n2 (.row 15 [[.int .i64 0, .int .i64 0, .int .i64 0, .int .i64 0, .int .i64 0, .int .i64 0, .nils, .int .i64 0, .int .i64 0, .bool false, .int .i64 0, .int .i64 0, .int .i64 0, .nils, .nils]] 1) :: F)) (s3.v 1)
        ⟨[], s3.adv 1, .nils, by rw [hV]; rfl, by rw [hV], by simp, ⟨rfl, rfl, rfl, rfl⟩, (hs.add (ow_nil (s := 1))).p1 |> fun hs => by simpa [cellsV, msP, e1, e2, hs1] using hs⟩ ?_
      rintro n e h ⟨acc, t, v, g1, g2, g3, he, hs⟩
      simp (disch := omega) only [go_sem, reduceCtorEq, ↓reduceIte, Nat.reduceEqDiff, Nat.reduceAdd, Nat.reduceSub, Nat.reduceMul, Nat.reduceLT, Nat.reduceLeDiff, Int.reduceEq, Int.reduceNe, Int.reduceLT, Int.reduceLE, Int.reduceBEq, Int.reduceBNe, Int.reduceToNat, he]
      have fin : (votP n t).1 = [] → (votP n t).2 = t → V.1 = acc ∧ V.2 = t := by
        intro q1 q2
        rw [← g1, ← g2, q1, q2, List.append_nil]
        exact ⟨rfl, rfl⟩
      by_cases hgo : 0 < n ∧ t.err = 0
      · obtain ⟨m, rfl⟩ : ∃ m, n = m + 1 := ⟨n - 1, by omega⟩
        have hc : (0 : Int) < ((m + 1 : Nat) : Int) := by omega
        have h0 := hgo.2
        have hat := hs.p1.els
        simp (disch := omega) only [go_sem, reduceCtorEq, ↓reduceIte, Nat.reduceEqDiff, Nat.reduceAdd, Nat.reduceSub, Nat.reduceMul, Nat.reduceLT, Nat.reduceLeDiff, Int.reduceEq, Int.reduceNe, Int.reduceLT, Int.reduceLE, Int.reduceBEq, Int.reduceBNe, Int.reduceToNat, he, hc]
        refine call_use (rErr hs) ?_
        rintro r h ⟨hr, hs⟩
        subst hr
        simp (disch := omega) only [go_sem, reduceCtorEq, ↓reduceIte, Nat.reduceEqDiff, Nat.reduceAdd, Nat.reduceSub, Nat.reduceMul, Nat.reduceLT, Nat.reduceLeDiff, Int.reduceEq, Int.reduceNe, Int.reduceLT, Int.reduceLE, Int.reduceBEq, Int.reduceBNe, Int.reduceToNat, he, h0, hc, hs.p2.at, cellsV]
        refine call_use' (rInt hs) ?_
        rintro r h ⟨hr, hs⟩
        subst hr
        simp (disch := omega) only [go_sem, reduceCtorEq, ↓reduceIte, Nat.reduceEqDiff, Nat.reduceAdd, Nat.reduceSub, Nat.reduceMul, Nat.reduceLT, Nat.reduceLeDiff, Int.reduceEq, Int.reduceNe, Int.reduceLT, Int.reduceLE, Int.reduceBEq, Int.reduceBNe, Int.reduceToNat, he, hs.p2.at, cellsV]
        refine new_opq hs fun x h hs => ?_
        simp (disch := omega) only [go_sem, reduceCtorEq, ↓reduceIte, Nat.reduceEqDiff, Nat.reduceAdd, Nat.reduceSub, Nat.reduceMul, Nat.reduceLT, Nat.reduceLeDiff, Int.reduceEq, Int.reduceNe, Int.reduceLT, Int.reduceLE, Int.reduceBEq, Int.reduceBNe, Int.reduceToNat, hs.at, he]
        refine app_sat hs.p2 (src_one hs.at) (atoms_one rfl) (by simp; omega) fun v' h hs hc' ha' => ?_
        simp (disch := omega) only [go_sem, reduceCtorEq, ↓reduceIte, Nat.reduceEqDiff, Nat.reduceAdd, Nat.reduceSub, Nat.reduceMul, Nat.reduceLT, Nat.reduceLeDiff, Int.reduceEq, Int.reduceNe, Int.reduceLT, Int.reduceLE, Int.reduceBEq, Int.reduceBNe, Int.reduceToNat, he, hs.p3.at, cellsV, hc', ha']
        have e0 : votP (m + 1) t = (t.val 8 :: (votP m (t.adv 8)).1, (votP m (t.adv 8)).2) := by
          rw [votP, if_pos h0]
        rw [e0] at g1 g2
        refine ⟨m, by omega, acc ++ [t.val 8], t.adv 8, v', by rw [← g1, List.append_assoc]; rfl, g2, by simp; omega, by congr 1; omega, ?_⟩
        have hs := (hs.p3.set (o' := .row 15 [cellsV (msP s) v' .nils] 1)).d2.p2.q1
        rw [List.map_append]
        simpa [cellsV] using hs
      · have hstop : (votP n t).1 = [] ∧ (votP n t).2 = t := by
          cases n with
          | zero => exact ⟨rfl, rfl⟩
          | succ m =>
            have hne : ¬ t.err = 0 := fun hh => hgo ⟨by omega, hh⟩
            rw [votP, if_neg hne]
            exact ⟨rfl, rfl⟩
        obtain ⟨r1, r2⟩ := fin hstop.1 hstop.2
        have stop : (¬ (0 : Int) < n) ∨ ((0 : Int) < n ∧ t.err = 8) := by
          by_cases hn : 0 < n
          · exact .inr ⟨by omega, by
              rcases (Rd.iff.1 hs).1.2.2 with q | q
              · exact absurd ⟨hn, q⟩ hgo
              · exact q⟩
          · exact .inl (by omega)
        rw [r2] at erk hb
        have hfin : ∀ (h : Hp) , erP s = 0 → sat h (Ow 1 v (V.1.map fun k => [AV.int .i64 k]) :: F) → ∃ r' h'', GV (.tup [.agg (cellsV (msP s) v (bytesV t.tx)), .int .i64 0]) h r' h'' ∧ (fun r h => ∃ cs, r = .tup [.agg cs, .int .i64 (erP s)] ∧ (cs.length = 15 ∧ cs.all AV.isAtom = true) ∧ (erP s = 0 → cs = (msP s).cells) ∧ sat h F) r' h'' := by
          intro h h0 hs
          obtain ⟨h'', g, hs'⟩ := hs.view
          refine ⟨_, h'', GV.tup [] [.int .i64 0] (GV.agg [.int .i64 (msP s).kind, .int .i64 (msP s).frm, .int .i64 (msP s).to, .int .i64 (msP s).term, .int .i64 (msP s).index, .int .i64 (msP s).lterm, ensV (msP s).es, .int .i64 (msP s).commit,
            .int .i64 (msP s).seq, .bool (msP s).ok, .int .i64 (msP s).mtch, .int .i64 (msP s).mi, .int .i64 (msP s).mt] [bytesV t.tx] g), _, by rw [h0]; rfl, ⟨rfl, rfl⟩, fun _ => ?_, hs'⟩
          have ev : (msP s).vs = V.1 := e3.1
          have ed : (msP s).data = t.tx := by unfold msP; simp only; rw [e3.2, r2]
          rw [← ev, ← ed]
          rfl
        rw [← r1] at hs
        have hva := hs.p1.els.atom
        rcases stop with hc | ⟨hc, h8⟩
        all_goals
          first
            | (simp (disch := omega) only [go_sem, reduceCtorEq, ↓reduceIte, Nat.reduceEqDiff, Nat.reduceAdd, Nat.reduceSub, Nat.reduceMul, Nat.reduceLT, Nat.reduceLeDiff, Int.reduceEq, Int.reduceNe, Int.reduceLT, Int.reduceLE, Int.reduceBEq, Int.reduceBNe, Int.reduceToNat, he, hc]; done)
            | (simp (disch := omega) only [go_sem, reduceCtorEq, ↓reduceIte, Nat.reduceEqDiff, Nat.reduceAdd, Nat.reduceSub, Nat.reduceMul, Nat.reduceLT, Nat.reduceLeDiff, Int.reduceEq, Int.reduceNe, Int.reduceLT, Int.reduceLE, Int.reduceBEq, Int.reduceBNe, Int.reduceToNat, he, hc]; refine call_use (rErr hs) ?_; rintro r h ⟨hr, hs⟩; subst hr; simp (disch := omega) only [go_sem, reduceCtorEq, ↓reduceIte, Nat.reduceEqDiff, Nat.reduceAdd, Nat.reduceSub, Nat.reduceMul, Nat.reduceLT, Nat.reduceLeDiff, Int.reduceEq, Int.reduceNe, Int.reduceLT, Int.reduceLE, Int.reduceBEq, Int.reduceBNe, Int.reduceToNat, he, h8, hc])
            | simp (disch := omega) only [go_sem, reduceCtorEq, ↓reduceIte, Nat.reduceEqDiff, Nat.reduceAdd, Nat.reduceSub, Nat.reduceMul, Nat.reduceLT, Nat.reduceLeDiff, Int.reduceEq, Int.reduceNe, Int.reduceLT, Int.reduceLE, Int.reduceBEq, Int.reduceBNe, Int.reduceToNat, he, hc]
          refine call_use (rText hs) ?_
          rintro r h ⟨hr, hs⟩
          subst hr
          simp (disch := omega) only [go_sem, reduceCtorEq, ↓reduceIte, Nat.reduceEqDiff, Nat.reduceAdd, Nat.reduceSub, Nat.reduceMul, Nat.reduceLT, Nat.reduceLeDiff, Int.reduceEq, Int.reduceNe, Int.reduceLT, Int.reduceLE, Int.reduceBEq, Int.reduceBNe, Int.reduceToNat, he]
          refine strb_ro ?_
          simp (disch := omega) only [go_sem, reduceCtorEq, ↓reduceIte, Nat.reduceEqDiff, Nat.reduceAdd, Nat.reduceSub, Nat.reduceMul, Nat.reduceLT, Nat.reduceLeDiff, Int.reduceEq, Int.reduceNe, Int.reduceLT, Int.reduceLE, Int.reduceBEq, Int.reduceBNe, Int.reduceToNat, he, hs.p2.at, cellsV]
          have hs := hs.p2.set (o' := .row 15 [cellsV (msP s) v (bytesV t.tx)] 1)
          rcases (Rd.iff.1 hs.p1).1.2.2 with d1 | d1
          · refine call_use (rErr hs.p1) ?_
            rintro r h ⟨hr, hs⟩
            subst hr
            simp (disch := omega) only [go_sem, reduceCtorEq, ↓reduceIte, Nat.reduceEqDiff, Nat.reduceAdd, Nat.reduceSub, Nat.reduceMul, Nat.reduceLT, Nat.reduceLeDiff, Int.reduceEq, Int.reduceNe, Int.reduceLT, Int.reduceLE, Int.reduceBEq, Int.reduceBNe, Int.reduceToNat, he, d1]
            refine call_use (rLeft hs) ?_
            rintro r h ⟨hr, hs⟩
            subst hr
            simp (disch := omega) only [go_sem, reduceCtorEq, ↓reduceIte, Nat.reduceEqDiff, Nat.reduceAdd, Nat.reduceSub, Nat.reduceMul, Nat.reduceLT, Nat.reduceLeDiff, Int.reduceEq, Int.reduceNe, Int.reduceLT, Int.reduceLE, Int.reduceBEq, Int.reduceBNe, Int.reduceToNat, he]
            have el : t.atx.b.length = s.b.length := by rw [RS.atx_b, hb]
            refine cnd_dec (fun c5 => ?_) (fun c5 => ?_)
            · simp (disch := omega) only [go_sem, reduceCtorEq, ↓reduceIte, Nat.reduceEqDiff, Nat.reduceAdd, Nat.reduceSub, Nat.reduceMul, Nat.reduceLT, Nat.reduceLeDiff, Int.reduceEq, Int.reduceNe, Int.reduceLT, Int.reduceLE, Int.reduceBEq, Int.reduceBNe, Int.reduceToNat, he, hs.p1.at, hs.p3.at, cellsV, hva]
              rw [if_neg (by omega), if_pos (by omega)] at erk
              exact err _ 9 _ ⟨rfl, by simp only [List.all_cons, List.all_nil, hva, atom_int, atom_bool, atom_lst, ensV_atom, bytesV_atom, Bool.and_self]⟩ erk (by omega) (hs.p3.set).drop.drop.drop.drop
            · simp (disch := omega) only [go_sem, reduceCtorEq, ↓reduceIte, Nat.reduceEqDiff, Nat.reduceAdd, Nat.reduceSub, Nat.reduceMul, Nat.reduceLT, Nat.reduceLeDiff, Int.reduceEq, Int.reduceNe, Int.reduceLT, Int.reduceLE, Int.reduceBEq, Int.reduceBNe, Int.reduceToNat, he, hs.p1.at, hs.p3.at, cellsV, hva]
              rw [if_neg (by omega), if_neg (by omega)] at erk
              exact hfin _ erk (hs.p3.set).drop.drop.drop
          · rw [if_pos (by omega)] at erk
            refine call_use (rErr hs.p1) ?_
            rintro r h ⟨hr, hs⟩
            subst hr
            simp (disch := omega) only [go_sem, reduceCtorEq, ↓reduceIte, Nat.reduceEqDiff, Nat.reduceAdd, Nat.reduceSub, Nat.reduceMul, Nat.reduceLT, Nat.reduceLeDiff, Int.reduceEq, Int.reduceNe, Int.reduceLT, Int.reduceLE, Int.reduceBEq, Int.reduceBNe, Int.reduceToNat, he, d1, hs.p1.at, cellsV]
            refine call_use' (rErr hs) ?_
            rintro r h ⟨hr, hs⟩
            subst hr
            simp (disch := omega) only [go_sem, reduceCtorEq, ↓reduceIte, Nat.reduceEqDiff, Nat.reduceAdd, Nat.reduceSub, Nat.reduceMul, Nat.reduceLT, Nat.reduceLeDiff, Int.reduceEq, Int.reduceNe, Int.reduceLT, Int.reduceLE, Int.reduceBEq, Int.reduceBNe, Int.reduceToNat, he, d1, hs.p1.at, hs.p3.at, cellsV, hva]
            exact err _ 8 _ ⟨rfl, by simp only [List.all_cons, List.all_nil, hva, atom_int, atom_bool, atom_lst, ensV_atom, bytesV_atom, Bool.and_self]⟩ erk (by omega) (hs.p3.set).drop.drop.drop.drop
end
end Go.Proofs.Ytfbflmiipepmiaa
