/- net: the document's reader of messages. -/
import Derived.Test.YtfbflmiipepmiaaR2NetF
set_option linter.unusedSimpArgs false
set_option linter.unusedVariables false
set_option maxRecDepth 10000
namespace Go.Proofs.Ytfbflmiipepmiaa
open Go.Hz

section
variable {h : Hp} {F : List Asr} {p : Nat} {s : RS} {b : List UInt8}

theorem bE {b : List UInt8} {F : List Asr} : ∀ h, sat h F → Bts h (bytesV b) b := fun _ _ => Els.lst (eb_one b)
theorem bC {b : List UInt8} : CapOK (bytesV b) := capOK_lst

theorem xReadMeta (hs : sat h (Xr p (bytesV b) s :: F)) (hb : s.b = b) : Triple Try.prog 56 [.ptr p 3 0 0] h (fun r h =>
    r = .agg (metaC (s.val 8) ((s.adv 8).val 8) (votP (((s.adv 8).adv 8).v 1) (((s.adv 8).adv 8).adv 1)).1) ∧ sat h (Xr p (bytesV b) (votP (((s.adv 8).adv 8).v 1) (((s.adv 8).adv 8).adv 1)).2 :: F)) := by
  subst hb
  have fin : ∀ (v : AV) (l : List Int) (t : RS) (h : Hp) (i j : Int), l = (votP (((s.adv 8).adv 8).v 1) (((s.adv 8).adv 8).adv 1)).1 → t = (votP (((s.adv 8).adv 8).v 1) (((s.adv 8).adv 8).adv 1)).2 →
      sat h (Ow 1 v (l.map fun k => [AV.int .i64 k]) :: Xr p (bytesV s.b) t :: F) → i = s.val 8 → j = (s.adv 8).val 8 → ∃ r' h'', GV (.agg [.int .i64 i, .int .i64 j, v]) h r' h'' ∧
      (fun r h => r = .agg (metaC (s.val 8) ((s.adv 8).val 8) (votP (((s.adv 8).adv 8).v 1) (((s.adv 8).adv 8).adv 1)).1) ∧ sat h (Xr p (bytesV s.b) (votP (((s.adv 8).adv 8).v 1) (((s.adv 8).adv 8).adv 1)).2 :: F)) r' h'' := by
    intro v l t h i j hl ht hs hi hj
    obtain ⟨h'', g, hs'⟩ := hs.view
    refine ⟨_, h'', GV.agg [.int .i64 i, .int .i64 j] [] g, ?_, by rw [← ht]; exact hs'⟩
    rw [← hl, ← hi, ← hj]
    rfl
  refine Triple.view ?_
  refine t56 (Nat.le_of_ble_eq_true rfl) ?_
  simp (disch := omega) only [F56, go_sem, reduceCtorEq, ↓reduceIte, Nat.reduceEqDiff, Nat.reduceAdd, Nat.reduceSub, Nat.reduceMul, Nat.reduceLT, Nat.reduceLeDiff, Int.reduceEq, Int.reduceNe, Int.reduceLT, Int.reduceLE, Int.reduceBEq, Int.reduceBNe, Int.reduceToNat]
  refine new_opq hs fun n2 h hs => ?_
  simp (disch := omega) only [go_sem, reduceCtorEq, ↓reduceIte, Nat.reduceEqDiff, Nat.reduceAdd, Nat.reduceSub, Nat.reduceMul, Nat.reduceLT, Nat.reduceLeDiff, Int.reduceEq, Int.reduceNe, Int.reduceLT, Int.reduceLE, Int.reduceBEq, Int.reduceBNe, Int.reduceToNat, hs.at]
  refine call_use (xrInt hs.p1 bE) ?_
  rintro r h ⟨hr, hs⟩
  subst hr
  simp (disch := omega) only [go_sem, reduceCtorEq, ↓reduceIte, Nat.reduceEqDiff, Nat.reduceAdd, Nat.reduceSub, Nat.reduceMul, Nat.reduceLT, Nat.reduceLeDiff, Int.reduceEq, Int.reduceNe, Int.reduceLT, Int.reduceLE, Int.reduceBEq, Int.reduceBNe, Int.reduceToNat]
  refine call_use (xrInt hs bE) ?_
  rintro r h ⟨hr, hs⟩
  subst hr
  simp (disch := omega) only [go_sem, reduceCtorEq, ↓reduceIte, Nat.reduceEqDiff, Nat.reduceAdd, Nat.reduceSub, Nat.reduceMul, Nat.reduceLT, Nat.reduceLeDiff, Int.reduceEq, Int.reduceNe, Int.reduceLT, Int.reduceLE, Int.reduceBEq, Int.reduceBNe, Int.reduceToNat]
  refine new_opq hs fun n3 h hs => ?_
  simp (disch := omega) only [go_sem, reduceCtorEq, ↓reduceIte, Nat.reduceEqDiff, Nat.reduceAdd, Nat.reduceSub, Nat.reduceMul, Nat.reduceLT, Nat.reduceLeDiff, Int.reduceEq, Int.reduceNe, Int.reduceLT, Int.reduceLE, Int.reduceBEq, Int.reduceBNe, Int.reduceToNat, hs.at]
  have hs := hs.set (o' := .row 3 [[.int .i64 (s.val 8), .int .i64 ((s.adv 8).val 8), .nils]] 1)
  generalize hs3 : (s.adv 8).adv 8 = s3 at *
  have hb3 : s3.b = s.b := by rw [← hs3]; rfl
  obtain ⟨k1, k2⟩ := s3.v_val
  have hq := hs.p1
  rw [← hb3] at hq
  refine call_use (xrU8 hq bE) ?_
  rintro r h ⟨hr, hs⟩
  subst hr
  simp (disch := omega) only [go_sem, reduceCtorEq, ↓reduceIte, Nat.reduceEqDiff, Nat.reduceAdd, Nat.reduceSub, Nat.reduceMul, Nat.reduceLT, Nat.reduceLeDiff, Int.reduceEq, Int.reduceNe, Int.reduceLT, Int.reduceLE, Int.reduceBEq, Int.reduceBNe, Int.reduceToNat, k1]
  generalize hV : votP (s3.v 1) (s3.adv 1) = V at *
  refine run_up (N := s3.v 1) (fun i e h => ∃ acc t v, acc ++ (votP (s3.v 1 - i) t).1 = V.1 ∧ (votP (s3.v 1 - i) t).2 = V.2 ∧ t.b = s.b ∧ acc.length ≤ i ∧ (e 0 = .ptr p 3 0 0 ∧ e 2 = .ptr n2 3 0 0 ∧ e 3 = .ptr n3 3 0 0 ∧ e 4 = .int .i64 (s3.v 1) ∧ e 5 = .int .i64 i) ∧
    sat h (Xr p (bytesV s.b) t :: Ow 1 v (acc.map fun k => [AV.int .i64 k]) :: pto n3 (.row 3 [[.int .i64 (s.val 8), .int .i64 ((s.adv 8).val 8), v]] 1) :: pto n2 (.row 3 [[.int .i64 0, .int .i64 0, .nils]] 1) :: F))
    ⟨[], s3.adv 1, .nils, by rw [Nat.sub_zero, hV]; rfl, by rw [Nat.sub_zero, hV], by rw [← hb3]; rfl, by simp, ⟨rfl, rfl, rfl, rfl, rfl⟩, by rw [← hb3]; exact (hs.add (ow_nil (s := 1))).p1⟩ ?_
  rintro i e h hi ⟨acc, t, v, g1, g2, htb, g3, he, hs⟩
  have ⟨tg, hs'⟩ := Xr.iff.1 hs
  have hp := hs'.at
  have hva := hs.p1.els.atom
  by_cases hgo : i < s3.v 1 ∧ t.err = 0
  · obtain ⟨m, hm⟩ : ∃ m, s3.v 1 - i = m + 1 := ⟨s3.v 1 - i - 1, by omega⟩
    have hm2 : s3.v 1 - (i + 1) = m := by omega
    have hc : (i : Int) < (s3.v 1 : Int) := by omega
    have e1 : (t.err != 0) = false := by simp [hgo.2]
    rw [hm, votP, if_pos hgo.2] at g1 g2
    have hq := hs
    rw [← htb] at hq
    simp (disch := omega) only [go_sem, reduceCtorEq, ↓reduceIte, Nat.reduceEqDiff, Nat.reduceAdd, Nat.reduceSub, Nat.reduceMul, Nat.reduceLT, Nat.reduceLeDiff, Int.reduceEq, Int.reduceNe, Int.reduceLT, Int.reduceLE, Int.reduceBEq, Int.reduceBNe, Int.reduceToNat, he, hc, hp, e1, hs.p2.at]
    refine call_use' (xrInt hq bE) ?_
    rintro r h ⟨hr, hs⟩
    subst hr
    rw [htb] at hs
    simp (disch := omega) only [go_sem, reduceCtorEq, ↓reduceIte, Nat.reduceEqDiff, Nat.reduceAdd, Nat.reduceSub, Nat.reduceMul, Nat.reduceLT, Nat.reduceLeDiff, Int.reduceEq, Int.reduceNe, Int.reduceLT, Int.reduceLE, Int.reduceBEq, Int.reduceBNe, Int.reduceToNat, he, hs.p2.at]
    refine new_opq hs fun x h hs => ?_
    simp (disch := omega) only [go_sem, reduceCtorEq, ↓reduceIte, Nat.reduceEqDiff, Nat.reduceAdd, Nat.reduceSub, Nat.reduceMul, Nat.reduceLT, Nat.reduceLeDiff, Int.reduceEq, Int.reduceNe, Int.reduceLT, Int.reduceLE, Int.reduceBEq, Int.reduceBNe, Int.reduceToNat, hs.at, he]
    refine app_sat hs.p2 (src_one hs.at) (atoms_one rfl) (by simp; omega) fun v' h hs hc' ha' => ?_
    simp (disch := omega) only [go_sem, reduceCtorEq, ↓reduceIte, Nat.reduceEqDiff, Nat.reduceAdd, Nat.reduceSub, Nat.reduceMul, Nat.reduceLT, Nat.reduceLeDiff, Int.reduceEq, Int.reduceNe, Int.reduceLT, Int.reduceLE, Int.reduceBEq, Int.reduceBNe, Int.reduceToNat, he, hs.p3.at, hc', ha']
    refine ⟨by omega, acc ++ [t.val 8], t.adv 8, v', by rw [hm2, ← g1, List.append_assoc]; rfl, by rw [hm2]; exact g2, htb, by simp; omega, by congr 1, ?_⟩
    have hs := (hs.p3.set (o' := .row 3 [[.int .i64 (s.val 8), .int .i64 ((s.adv 8).val 8), v']] 1)).d2.p2.q1
    rw [List.map_append]
    exact hs
  · have hstop : (votP (s3.v 1 - i) t).1 = [] ∧ (votP (s3.v 1 - i) t).2 = t := by
      cases hk : s3.v 1 - i with
      | zero => exact ⟨rfl, rfl⟩
      | succ m =>
        have hne : ¬ t.err = 0 := fun hh => hgo ⟨by omega, hh⟩
        rw [votP, if_neg hne]
        exact ⟨rfl, rfl⟩
    rw [hstop.1, List.append_nil] at g1
    rw [hstop.2] at g2
    have last := fun (h : Hp) (o : AObj) (hs : sat h (Xr p (bytesV s.b) t :: Ow 1 v (acc.map fun k => [AV.int .i64 k]) :: pto n3 (.row 3 [[.int .i64 (s.val 8), .int .i64 ((s.adv 8).val 8), v]] 1) :: pto n2 (.row 3 [[.int .i64 0, .int .i64 0, .nils]] 1) :: F)) =>
      fin v acc t (h.set n2 o) (s.val 8) ((s.adv 8).val 8) g1 g2 ((hs.p3.set (o' := o)).drop.swap.d2) rfl rfl
    by_cases hc : (i : Int) < (s3.v 1 : Int)
    · have e1 : (t.err != 0) = true := by
        simp
        intro hh
        exact hgo ⟨by omega, hh⟩
      simp (disch := omega) only [go_sem, reduceCtorEq, ↓reduceIte, Nat.reduceEqDiff, Nat.reduceAdd, Nat.reduceSub, Nat.reduceMul, Nat.reduceLT, Nat.reduceLeDiff, Int.reduceEq, Int.reduceNe, Int.reduceLT, Int.reduceLE, Int.reduceBEq, Int.reduceBNe, Int.reduceToNat, he, hc, hp, e1]
      simp (disch := omega) only [go_sem, reduceCtorEq, ↓reduceIte, Nat.reduceEqDiff, Nat.reduceAdd, Nat.reduceSub, Nat.reduceMul, Nat.reduceLT, Nat.reduceLeDiff, Int.reduceEq, Int.reduceNe, Int.reduceLT, Int.reduceLE, Int.reduceBEq, Int.reduceBNe, Int.reduceToNat, he, hs.p2.at, hs.p3.at, hva]
      exact last _ _ hs
    · simp (disch := omega) only [go_sem, reduceCtorEq, ↓reduceIte, Nat.reduceEqDiff, Nat.reduceAdd, Nat.reduceSub, Nat.reduceMul, Nat.reduceLT, Nat.reduceLeDiff, Int.reduceEq, Int.reduceNe, Int.reduceLT, Int.reduceLE, Int.reduceBEq, Int.reduceBNe, Int.reduceToNat, he, hc]
      simp (disch := omega) only [go_sem, reduceCtorEq, ↓reduceIte, Nat.reduceEqDiff, Nat.reduceAdd, Nat.reduceSub, Nat.reduceMul, Nat.reduceLT, Nat.reduceLeDiff, Int.reduceEq, Int.reduceNe, Int.reduceLT, Int.reduceLE, Int.reduceBEq, Int.reduceBNe, Int.reduceToNat, he, hs.p2.at, hs.p3.at, hva]
      exact last _ _ hs

theorem zeroB (s : RS) : s.b = s.b := rfl

theorem xParse {v : AV} (hs : sat h F) (hE : ∀ h, sat h F → Bts h v b) (hc : CapOK v) (hb : b.length ≤ 100000000000) (hat : v.cells = [v] ∧ v.isAtom = true) :
    Triple Try.prog 18 [v] h (fun r h => r = .tup [.agg (parM b).cells, .int .i64 (parE b)] ∧ sat h F) := by
  have hl := Bts.len (hE _ hs)
  have err : ∀ (k : Int) (h : Hp), parE b = k → k ≠ 0 → sat h F → ∃ r' h'', GV (.tup [.agg zeroM, .int .i64 k]) h r' h'' ∧ (fun r h => r = .tup [.agg (parM b).cells, .int .i64 (parE b)] ∧ sat h F) r' h'' := by
    intro k h hk h0 hs
    have hm : parM b = Ms.zero := by unfold parM; rw [if_neg (by omega)]
    subst hk
    rw [hm]
    exact ⟨_, h, GV.zeroM h _, rfl, hs⟩
  have hul : (unF b).1.length ≤ b.length := by
    unfold unF
    repeat' split
    all_goals simp
    omega
  refine Triple.view ?_
  refine t18 (Nat.le_of_ble_eq_true rfl) ?_
  simp (disch := omega) only [F18, go_sem, reduceCtorEq, ↓reduceIte, Nat.reduceEqDiff, Nat.reduceAdd, Nat.reduceSub, Nat.reduceMul, Nat.reduceLT, Nat.reduceLeDiff, Int.reduceEq, Int.reduceNe, Int.reduceLT, Int.reduceLE, Int.reduceBEq, Int.reduceBNe, Int.reduceToNat]
  refine new_opq hs fun n2 h hs => ?_
  simp (disch := omega) only [go_sem, reduceCtorEq, ↓reduceIte, Nat.reduceEqDiff, Nat.reduceAdd, Nat.reduceSub, Nat.reduceMul, Nat.reduceLT, Nat.reduceLeDiff, Int.reduceEq, Int.reduceNe, Int.reduceLT, Int.reduceLE, Int.reduceBEq, Int.reduceBNe, Int.reduceToNat, hs.at]
  have hz := hs
  by_cases h0 : (unF b).2.2 = 0
  · by_cases hlt : (unF b).2.1 < b.length
    · have hk : parE b = 9 := by unfold parE; rw [if_neg (by omega), if_pos hlt]
      have hlt' : ((unF b).2.1 : Int) < b.length := by omega
      refine call_use (xUnframe hs (fun h hs => hE _ hs.drop) hc hb hat) ?_
      rintro r h ⟨hr, hs⟩
      subst hr
      simp (disch := omega) only [go_sem, reduceCtorEq, ↓reduceIte, Nat.reduceEqDiff, Nat.reduceAdd, Nat.reduceSub, Nat.reduceMul, Nat.reduceLT, Nat.reduceLeDiff, Int.reduceEq, Int.reduceNe, Int.reduceLT, Int.reduceLE, Int.reduceBEq, Int.reduceBNe, Int.reduceToNat, h0, hl, hlt', hs.at]
      exact err 9 _ hk (by omega) (hs.set).drop
    · have hlt' : ¬ ((unF b).2.1 : Int) < b.length := by omega
      have hk : parE b = erP ⟨(unF b).1, 0, 0⟩ := by unfold parE; rw [if_neg (by omega), if_neg hlt]
      refine call_use (xUnframe hs (fun h hs => hE _ hs.drop) hc hb hat) ?_
      rintro r h ⟨hr, hs⟩
      subst hr
      simp (disch := omega) only [go_sem, reduceCtorEq, ↓reduceIte, Nat.reduceEqDiff, Nat.reduceAdd, Nat.reduceSub, Nat.reduceMul, Nat.reduceLT, Nat.reduceLeDiff, Int.reduceEq, Int.reduceNe, Int.reduceLT, Int.reduceLE, Int.reduceBEq, Int.reduceBNe, Int.reduceToNat, h0, hl, hlt', hs.at]
      generalize hin : (unF b).1 = x at *
      generalize hs0 : RS.mk x 0 0 = s at *
      have hsb : s.b = x := by rw [← hs0]
      refine new_opq hs fun p h hs => ?_
      simp (disch := omega) only [go_sem, reduceCtorEq, ↓reduceIte, Nat.reduceEqDiff, Nat.reduceAdd, Nat.reduceSub, Nat.reduceMul, Nat.reduceLT, Nat.reduceLeDiff, Int.reduceEq, Int.reduceNe, Int.reduceLT, Int.reduceLE, Int.reduceBEq, Int.reduceBNe, Int.reduceToNat, hs.at]
      have hs : sat h (Xr p (bytesV x) s :: _) := Xr.iff.2 ⟨by rw [← hs0]; exact ⟨Nat.zero_le _, by simp only; omega, .inl rfl⟩, by rw [← hs0]; exact hs⟩
      refine call_use (xrU8 hs (by rw [hsb]; exact bE)) ?_
      rintro r h ⟨hr, hs⟩
      subst hr
      simp (disch := omega) only [go_sem, reduceCtorEq, ↓reduceIte, Nat.reduceEqDiff, Nat.reduceAdd, Nat.reduceSub, Nat.reduceMul, Nat.reduceLT, Nat.reduceLeDiff, Int.reduceEq, Int.reduceNe, Int.reduceLT, Int.reduceLE, Int.reduceBEq, Int.reduceBNe, Int.reduceToNat]
      refine new_opq hs fun n8 h hs => ?_
      simp (disch := omega) only [go_sem, reduceCtorEq, ↓reduceIte, Nat.reduceEqDiff, Nat.reduceAdd, Nat.reduceSub, Nat.reduceMul, Nat.reduceLT, Nat.reduceLeDiff, Int.reduceEq, Int.reduceNe, Int.reduceLT, Int.reduceLE, Int.reduceBEq, Int.reduceBNe, Int.reduceToNat, hs.at]
      have hs := hs.set (o' := .row 15 [[.int .i64 (s.val 1), .int .i64 0, .int .i64 0, .int .i64 0, .int .i64 0, .int .i64 0, .nils, .int .i64 0, .int .i64 0, .bool false, .int .i64 0, .int .i64 0, .int .i64 0, .nils, .nils]] 1)
      have hp := (Xr.iff.1 hs.p1).2.at
      by_cases bad : (s.adv 1).err = 0 ∧ (s.val 1 < 1 ∨ 5 < s.val 1)
      · have he : erP s = 3 := by unfold erP; rw [if_pos bad]
        obtain ⟨b1, b2⟩ := bad
        have e1 : ((s.adv 1).err != 0) = false := by simp [b1]
        by_cases b3 : s.val 1 < 1
        · simp (disch := omega) only [go_sem, reduceCtorEq, ↓reduceIte, Nat.reduceEqDiff, Nat.reduceAdd, Nat.reduceSub, Nat.reduceMul, Nat.reduceLT, Nat.reduceLeDiff, Int.reduceEq, Int.reduceNe, Int.reduceLT, Int.reduceLE, Int.reduceBEq, Int.reduceBNe, Int.reduceToNat, hp, e1, b3, hs.p2.at]
          exact err 3 _ (by rw [hk, he]) (by omega) ((hs.p2.set).drop.drop.drop)
        · have b4 : 5 < s.val 1 := by omega
          simp (disch := omega) only [go_sem, reduceCtorEq, ↓reduceIte, Nat.reduceEqDiff, Nat.reduceAdd, Nat.reduceSub, Nat.reduceMul, Nat.reduceLT, Nat.reduceLeDiff, Int.reduceEq, Int.reduceNe, Int.reduceLT, Int.reduceLE, Int.reduceBEq, Int.reduceBNe, Int.reduceToNat, hp, e1, b3, b4, hs.p2.at]
          exact err 3 _ (by rw [hk, he]) (by omega) ((hs.p2.set).drop.drop.drop)
      have hk1 : (s.adv 1).err = 0 → (¬ s.val 1 < 1) ∧ ¬ 5 < s.val 1 := fun hh => ⟨fun q => bad ⟨hh, .inl q⟩, fun q => bad ⟨hh, .inr q⟩⟩
      have hX : ∀ (G : List Asr) h, sat h G → Bts h (bytesV x) s.b := by rw [hsb]; exact fun G => bE
      rcases (Xr.iff.1 hs.p1).1.2.2 with b1 | b1
      all_goals
        first
          | (have e1 := RS.e0 b1; have b3 := (hk1 b1).1; have b4 := (hk1 b1).2; simp (disch := omega) only [go_sem, reduceCtorEq, ↓reduceIte, Nat.reduceEqDiff, Nat.reduceAdd, Nat.reduceSub, Nat.reduceMul, Nat.reduceLT, Nat.reduceLeDiff, Int.reduceEq, Int.reduceNe, Int.reduceLT, Int.reduceLE, Int.reduceBEq, Int.reduceBNe, Int.reduceToNat, hp, e1, b3, b4])
          | (have e1 := RS.e8 b1; simp (disch := omega) only [go_sem, reduceCtorEq, ↓reduceIte, Nat.reduceEqDiff, Nat.reduceAdd, Nat.reduceSub, Nat.reduceMul, Nat.reduceLT, Nat.reduceLeDiff, Int.reduceEq, Int.reduceNe, Int.reduceLT, Int.reduceLE, Int.reduceBEq, Int.reduceBNe, Int.reduceToNat, hp, e1])
        refine call_use (xrInt hs.p1 (hX _)) ?_
        rintro r h ⟨hr, hs⟩
        subst hr
        simp (disch := omega) only [go_sem, reduceCtorEq, ↓reduceIte, Nat.reduceEqDiff, Nat.reduceAdd, Nat.reduceSub, Nat.reduceMul, Nat.reduceLT, Nat.reduceLeDiff, Int.reduceEq, Int.reduceNe, Int.reduceLT, Int.reduceLE, Int.reduceBEq, Int.reduceBNe, Int.reduceToNat, hs.p1.at]
        refine call_use (xrInt hs.p1.set.p1 (hX _)) ?_
        rintro r h ⟨hr, hs⟩
        subst hr
        simp (disch := omega) only [go_sem, reduceCtorEq, ↓reduceIte, Nat.reduceEqDiff, Nat.reduceAdd, Nat.reduceSub, Nat.reduceMul, Nat.reduceLT, Nat.reduceLeDiff, Int.reduceEq, Int.reduceNe, Int.reduceLT, Int.reduceLE, Int.reduceBEq, Int.reduceBNe, Int.reduceToNat, hs.p1.at]
        refine call_use (xrInt hs.p1.set.p1 (hX _)) ?_
        rintro r h ⟨hr, hs⟩
        subst hr
        simp (disch := omega) only [go_sem, reduceCtorEq, ↓reduceIte, Nat.reduceEqDiff, Nat.reduceAdd, Nat.reduceSub, Nat.reduceMul, Nat.reduceLT, Nat.reduceLeDiff, Int.reduceEq, Int.reduceNe, Int.reduceLT, Int.reduceLE, Int.reduceBEq, Int.reduceBNe, Int.reduceToNat, hs.p1.at]
        refine call_use (xrInt hs.p1.set.p1 (hX _)) ?_
        rintro r h ⟨hr, hs⟩
        subst hr
        simp (disch := omega) only [go_sem, reduceCtorEq, ↓reduceIte, Nat.reduceEqDiff, Nat.reduceAdd, Nat.reduceSub, Nat.reduceMul, Nat.reduceLT, Nat.reduceLeDiff, Int.reduceEq, Int.reduceNe, Int.reduceLT, Int.reduceLE, Int.reduceBEq, Int.reduceBNe, Int.reduceToNat, hs.p1.at]
        refine call_use (xrInt hs.p1.set.p1 (hX _)) ?_
        rintro r h ⟨hr, hs⟩
        subst hr
        simp (disch := omega) only [go_sem, reduceCtorEq, ↓reduceIte, Nat.reduceEqDiff, Nat.reduceAdd, Nat.reduceSub, Nat.reduceMul, Nat.reduceLT, Nat.reduceLeDiff, Int.reduceEq, Int.reduceNe, Int.reduceLT, Int.reduceLE, Int.reduceBEq, Int.reduceBNe, Int.reduceToNat, hs.p1.at]
        have hs := hs.p1.set (o' := .row 15 [[.int .i64 (s.val 1), .int .i64 ((s.adv 1).val 8), .int .i64 (((s.adv 1).adv 8).val 8), .int .i64 ((((s.adv 1).adv 8).adv 8).val 8), .int .i64 (((((s.adv 1).adv 8).adv 8).adv 8).val 8),
          .int .i64 ((((((s.adv 1).adv 8).adv 8).adv 8).adv 8).val 8), .nils, .int .i64 0, .int .i64 0, .bool false, .int .i64 0, .int .i64 0, .int .i64 0, .nils, .nils]] 1)
        generalize hs1 : (((((s.adv 1).adv 8).adv 8).adv 8).adv 8).adv 8 = s1 at hs
        have hb1 : s1.b = x := by rw [← hs1, ← hsb]; rfl
        obtain ⟨v1, v2⟩ := s1.v_val
        refine call_use (xrU8 hs.p1 (by rw [hb1]; exact bE)) ?_
        rintro r h ⟨hr, hs⟩
        subst hr
        simp (disch := omega) only [go_sem, reduceCtorEq, ↓reduceIte, Nat.reduceEqDiff, Nat.reduceAdd, Nat.reduceSub, Nat.reduceMul, Nat.reduceLT, Nat.reduceLeDiff, Int.reduceEq, Int.reduceNe, Int.reduceLT, Int.reduceLE, Int.reduceBEq, Int.reduceBNe, Int.reduceToNat, v1]
        generalize hE1 : entP (s1.v 1) (s1.adv 1) = E
        refine run_up (N := s1.v 1) (fun i e h => ∃ acc t v, acc ++ (entP (s1.v 1 - i) t).1 = E.1 ∧ (entP (s1.v 1 - i) t).2 = E.2 ∧ t.b = x ∧ acc.length ≤ i ∧
          (e 2 = .ptr n2 15 0 0 ∧ e 4 = bytesV x ∧ e 7 = .ptr p 3 0 0 ∧ e 8 = .ptr n8 15 0 0 ∧ e 9 = .int .i64 (s1.v 1) ∧ e 10 = .int .i64 i) ∧
          sat h (Xr p (bytesV x) t :: Ow 4 v (acc.map En.row) :: pto n8 (.row 15 [[.int .i64 (s.val 1), .int .i64 ((s.adv 1).val 8), .int .i64 (((s.adv 1).adv 8).val 8), .int .i64 ((((s.adv 1).adv 8).adv 8).val 8), .int .i64 (((((s.adv 1).adv 8).adv 8).adv 8).val 8),
          .int .i64 ((((((s.adv 1).adv 8).adv 8).adv 8).adv 8).val 8), v, .int .i64 0, .int .i64 0, .bool false, .int .i64 0, .int .i64 0, .int .i64 0, .nils, .nils]] 1) ::
            pto n2 (.row 15 [zeroM] 1) :: F))
          ⟨[], s1.adv 1, .nils, by rw [Nat.sub_zero, hE1]; rfl, by rw [Nat.sub_zero, hE1], hb1, by simp, ⟨rfl, rfl, rfl, rfl, rfl, rfl⟩, (hs.add (ow_nil (s := 4))).p1⟩ ?_
        rintro i e h hi ⟨acc, t, v, g1, g2, htb, g3, he, hs⟩
        have ⟨tg, hs'⟩ := Xr.iff.1 hs
        have hp := hs'.at
        have hva := hs.p1.els.atom
        by_cases hgo : i < s1.v 1 ∧ t.err = 0
        · obtain ⟨m, hm⟩ : ∃ m, s1.v 1 - i = m + 1 := ⟨s1.v 1 - i - 1, by omega⟩
          have hm2 : s1.v 1 - (i + 1) = m := by omega
          have hc : (i : Int) < (s1.v 1 : Int) := by omega
          have e1 : (t.err != 0) = false := by simp [hgo.2]
          rw [hm, entP, if_pos hgo.2] at g1 g2
          have hT : ∀ (G : List Asr) h, sat h G → Bts h (bytesV x) t.b := by rw [htb]; exact fun G => bE
          simp (disch := omega) only [go_sem, reduceCtorEq, ↓reduceIte, Nat.reduceEqDiff, Nat.reduceAdd, Nat.reduceSub, Nat.reduceMul, Nat.reduceLT, Nat.reduceLeDiff, Int.reduceEq, Int.reduceNe, Int.reduceLT, Int.reduceLE, Int.reduceBEq, Int.reduceBNe, Int.reduceToNat, he, hc, hp, e1]
          refine call_use (xrInt hs (hT _)) ?_
          rintro r h ⟨hr, hs⟩
          subst hr
          simp (disch := omega) only [go_sem, reduceCtorEq, ↓reduceIte, Nat.reduceEqDiff, Nat.reduceAdd, Nat.reduceSub, Nat.reduceMul, Nat.reduceLT, Nat.reduceLeDiff, Int.reduceEq, Int.reduceNe, Int.reduceLT, Int.reduceLE, Int.reduceBEq, Int.reduceBNe, Int.reduceToNat, he]
          refine call_use (xrInt hs (hT _)) ?_
          rintro r h ⟨hr, hs⟩
          subst hr
          simp (disch := omega) only [go_sem, reduceCtorEq, ↓reduceIte, Nat.reduceEqDiff, Nat.reduceAdd, Nat.reduceSub, Nat.reduceMul, Nat.reduceLT, Nat.reduceLeDiff, Int.reduceEq, Int.reduceNe, Int.reduceLT, Int.reduceLE, Int.reduceBEq, Int.reduceBNe, Int.reduceToNat, he]
          refine call_use (xrU8 hs (hT _)) ?_
          rintro r h ⟨hr, hs⟩
          subst hr
          simp (disch := omega) only [go_sem, reduceCtorEq, ↓reduceIte, Nat.reduceEqDiff, Nat.reduceAdd, Nat.reduceSub, Nat.reduceMul, Nat.reduceLT, Nat.reduceLeDiff, Int.reduceEq, Int.reduceNe, Int.reduceLT, Int.reduceLE, Int.reduceBEq, Int.reduceBNe, Int.reduceToNat, he]
          refine new_opq hs fun q h hs => ?_
          simp (disch := omega) only [go_sem, reduceCtorEq, ↓reduceIte, Nat.reduceEqDiff, Nat.reduceAdd, Nat.reduceSub, Nat.reduceMul, Nat.reduceLT, Nat.reduceLeDiff, Int.reduceEq, Int.reduceNe, Int.reduceLT, Int.reduceLE, Int.reduceBEq, Int.reduceBNe, Int.reduceToNat, hs.at, he]
          refine call_use (xrText hs.set.p1 (hT _) bC) ?_
          rintro r h ⟨hr, hs⟩
          subst hr
          simp (disch := omega) only [go_sem, reduceCtorEq, ↓reduceIte, Nat.reduceEqDiff, Nat.reduceAdd, Nat.reduceSub, Nat.reduceMul, Nat.reduceLT, Nat.reduceLeDiff, Int.reduceEq, Int.reduceNe, Int.reduceLT, Int.reduceLE, Int.reduceBEq, Int.reduceBNe, Int.reduceToNat, he]
          refine strb_ro ?_
          simp (disch := omega) only [go_sem, reduceCtorEq, ↓reduceIte, Nat.reduceEqDiff, Nat.reduceAdd, Nat.reduceSub, Nat.reduceMul, Nat.reduceLT, Nat.reduceLeDiff, Int.reduceEq, Int.reduceNe, Int.reduceLT, Int.reduceLE, Int.reduceBEq, Int.reduceBNe, Int.reduceToNat, he, hs.p1.at, hs.p1.set.p3.at]
          refine new_opq (hs.p1.set (o' := .row 4 [(En.mk (t.val 8) ((t.adv 8).val 8) (((t.adv 8).adv 8).val 1) ((((t.adv 8).adv 8).adv 1).tx)).row] 1)) fun y h hs => ?_
          simp (disch := omega) only [go_sem, reduceCtorEq, ↓reduceIte, Nat.reduceEqDiff, Nat.reduceAdd, Nat.reduceSub, Nat.reduceMul, Nat.reduceLT, Nat.reduceLeDiff, Int.reduceEq, Int.reduceNe, Int.reduceLT, Int.reduceLE, Int.reduceBEq, Int.reduceBNe, Int.reduceToNat, he]
          refine app_sat hs.p3 (src_one hs.at) (atoms_one rfl) (by simp; omega) fun v' h hs hc' ha' => ?_
          simp (disch := omega) only [go_sem, reduceCtorEq, ↓reduceIte, Nat.reduceEqDiff, Nat.reduceAdd, Nat.reduceSub, Nat.reduceMul, Nat.reduceLT, Nat.reduceLeDiff, Int.reduceEq, Int.reduceNe, Int.reduceLT, Int.reduceLE, Int.reduceBEq, Int.reduceBNe, Int.reduceToNat, he, hs.p4.at, hc', ha']
          refine ⟨by omega, acc ++ [En.mk (t.val 8) ((t.adv 8).val 8) (((t.adv 8).adv 8).val 1) ((((t.adv 8).adv 8).adv 1).tx)], _, v', by rw [hm2, ← g1, List.append_assoc]; rfl, by rw [hm2]; exact g2, by rw [RS.atx_b]; exact htb, by simp; omega, by congr 1, ?_⟩
          rw [List.map_append]
          exact hs.p4.set.d2.d2.p2.q1
        · have hstop : (entP (s1.v 1 - i) t).1 = [] ∧ (entP (s1.v 1 - i) t).2 = t := by
            cases hk : s1.v 1 - i with
            | zero => exact ⟨rfl, rfl⟩
            | succ m =>
              have hne : ¬ t.err = 0 := fun hh => hgo ⟨by omega, hh⟩
              rw [entP, if_neg hne]
              exact ⟨rfl, rfl⟩
          rw [hstop.1, List.append_nil] at g1
          rw [hstop.2] at g2
          have q1 : (rdP s).es = acc := by unfold rdP; simp only; rw [hs1, hE1, g1]
          have q2 : (rdP s).s2 = t := by unfold rdP; simp only; rw [hs1, hE1, g2]
          have erk : erP s = (if (((t.adv 8).adv 8).adv 1).err = 0 ∧ 1 < ((t.adv 8).adv 8).val 1 then 11
              else if (rdP s).s3.atx.err ≠ 0 then 8 else if (rdP s).s3.atx.a < s.b.length then 9 else 0) := by
            unfold erP
            simp only
            rw [if_neg bad, q2]
          have hT : ∀ (G : List Asr) h, sat h G → Bts h (bytesV x) t.b := by rw [htb]; exact fun G => bE
          have stop : (¬ (i : Int) < (s1.v 1 : Int)) ∨ ((i : Int) < (s1.v 1 : Int) ∧ t.err = 8) := by
            by_cases hn : i < s1.v 1
            · exact .inr ⟨by omega, by
                rcases tg.2.2 with q | q
                · exact absurd ⟨hn, q⟩ hgo
                · exact q⟩
            · exact .inl (by omega)
          rcases stop with hc | ⟨hc, h8⟩
          all_goals
            first
              | (have e1 := RS.e8 h8; simp (disch := omega) only [go_sem, reduceCtorEq, ↓reduceIte, Nat.reduceEqDiff, Nat.reduceAdd, Nat.reduceSub, Nat.reduceMul, Nat.reduceLT, Nat.reduceLeDiff, Int.reduceEq, Int.reduceNe, Int.reduceLT, Int.reduceLE, Int.reduceBEq, Int.reduceBNe, Int.reduceToNat, he, hc, hp, e1])
              | simp (disch := omega) only [go_sem, reduceCtorEq, ↓reduceIte, Nat.reduceEqDiff, Nat.reduceAdd, Nat.reduceSub, Nat.reduceMul, Nat.reduceLT, Nat.reduceLeDiff, Int.reduceEq, Int.reduceNe, Int.reduceLT, Int.reduceLE, Int.reduceBEq, Int.reduceBNe, Int.reduceToNat, he, hc]
            refine call_use (xrInt hs (hT _)) ?_
            rintro r h ⟨hr, hs⟩
            subst hr
            simp (disch := omega) only [go_sem, reduceCtorEq, ↓reduceIte, Nat.reduceEqDiff, Nat.reduceAdd, Nat.reduceSub, Nat.reduceMul, Nat.reduceLT, Nat.reduceLeDiff, Int.reduceEq, Int.reduceNe, Int.reduceLT, Int.reduceLE, Int.reduceBEq, Int.reduceBNe, Int.reduceToNat, he, hs.p2.at]
            refine call_use (xrInt hs.p2.set.p1 (hT _)) ?_
            rintro r h ⟨hr, hs⟩
            subst hr
            simp (disch := omega) only [go_sem, reduceCtorEq, ↓reduceIte, Nat.reduceEqDiff, Nat.reduceAdd, Nat.reduceSub, Nat.reduceMul, Nat.reduceLT, Nat.reduceLeDiff, Int.reduceEq, Int.reduceNe, Int.reduceLT, Int.reduceLE, Int.reduceBEq, Int.reduceBNe, Int.reduceToNat, he, hs.p1.at, hva]
            refine call_use (xrU8 hs.p1.set.p1 (hT _)) ?_
            rintro r h ⟨hr, hs⟩
            subst hr
            simp (disch := omega) only [go_sem, reduceCtorEq, ↓reduceIte, Nat.reduceEqDiff, Nat.reduceAdd, Nat.reduceSub, Nat.reduceMul, Nat.reduceLT, Nat.reduceLeDiff, Int.reduceEq, Int.reduceNe, Int.reduceLT, Int.reduceLE, Int.reduceBEq, Int.reduceBNe, Int.reduceToNat, he]
            have ⟨tg2, hs'⟩ := Xr.iff.1 hs
            have hp := hs'.at
            by_cases bad2 : (((t.adv 8).adv 8).adv 1).err = 0 ∧ 1 < ((t.adv 8).adv 8).val 1
            · rw [if_pos bad2] at erk
              obtain ⟨c1, c2⟩ := bad2
              have e1 := RS.e0 c1
              simp (disch := omega) only [go_sem, reduceCtorEq, ↓reduceIte, Nat.reduceEqDiff, Nat.reduceAdd, Nat.reduceSub, Nat.reduceMul, Nat.reduceLT, Nat.reduceLeDiff, Int.reduceEq, Int.reduceNe, Int.reduceLT, Int.reduceLE, Int.reduceBEq, Int.reduceBNe, Int.reduceToNat, he, hp, e1, c2, hs.p3.at, zeroM]
              exact err 11 _ (by rw [hk, erk]) (by omega) ((hs.p3.set).drop.drop.drop.drop)
            rw [if_neg bad2] at erk
            have hk2 : (((t.adv 8).adv 8).adv 1).err = 0 → ¬ 1 < ((t.adv 8).adv 8).val 1 := fun hh q => bad2 ⟨hh, q⟩
            rcases tg2.2.2 with c1 | c1
            all_goals
              first
                | (have e1 := RS.e0 c1; have c2 := hk2 c1; simp (disch := omega) only [go_sem, reduceCtorEq, ↓reduceIte, Nat.reduceEqDiff, Nat.reduceAdd, Nat.reduceSub, Nat.reduceMul, Nat.reduceLT, Nat.reduceLeDiff, Int.reduceEq, Int.reduceNe, Int.reduceLT, Int.reduceLE, Int.reduceBEq, Int.reduceBNe, Int.reduceToNat, he, hp, e1, c2, hs.p1.at])
                | (have e1 := RS.e8 c1; simp (disch := omega) only [go_sem, reduceCtorEq, ↓reduceIte, Nat.reduceEqDiff, Nat.reduceAdd, Nat.reduceSub, Nat.reduceMul, Nat.reduceLT, Nat.reduceLeDiff, Int.reduceEq, Int.reduceNe, Int.reduceLT, Int.reduceLE, Int.reduceBEq, Int.reduceBNe, Int.reduceToNat, he, hp, e1, hs.p1.at])
              refine call_use (xrInt hs.p1.set.p1 (hT _)) ?_
              rintro r h ⟨hr, hs⟩
              subst hr
              simp (disch := omega) only [go_sem, reduceCtorEq, ↓reduceIte, Nat.reduceEqDiff, Nat.reduceAdd, Nat.reduceSub, Nat.reduceMul, Nat.reduceLT, Nat.reduceLeDiff, Int.reduceEq, Int.reduceNe, Int.reduceLT, Int.reduceLE, Int.reduceBEq, Int.reduceBNe, Int.reduceToNat, he, hs.p1.at, hva]
              refine call_use (xReadMeta hs.p1.set.p1 (by rw [← htb]; rfl)) ?_
              rintro r h ⟨hr, hs⟩
              subst hr
              simp (disch := omega) only [go_sem, reduceCtorEq, ↓reduceIte, Nat.reduceEqDiff, Nat.reduceAdd, Nat.reduceSub, Nat.reduceMul, Nat.reduceLT, Nat.reduceLeDiff, Int.reduceEq, Int.reduceNe, Int.reduceLT, Int.reduceLE, Int.reduceBEq, Int.reduceBNe, Int.reduceToNat, he, hs.p1.at, hva, metaC]
              generalize hV : votP (((((((t.adv 8).adv 8).adv 1).adv 8).adv 8).adv 8).v 1) (((((((t.adv 8).adv 8).adv 1).adv 8).adv 8).adv 8).adv 1) = V at hs
              have q3 : (rdP s).vs = V.1 ∧ (rdP s).s3 = V.2 := by unfold rdP; simp only; rw [hs1, hE1, ← g2, hV]; exact ⟨rfl, rfl⟩
              have hvb : V.2.b = x := by rw [← hV, votP_b, ← htb]; rfl
              have hW : ∀ (G : List Asr) h, sat h G → Bts h (bytesV x) V.2.b := by rw [hvb]; exact fun G => bE
              refine call_use (xrText hs.p1.set.p1 (hW _) bC) ?_
              rintro r h ⟨hr, hs⟩
              subst hr
              simp (disch := omega) only [go_sem, reduceCtorEq, ↓reduceIte, Nat.reduceEqDiff, Nat.reduceAdd, Nat.reduceSub, Nat.reduceMul, Nat.reduceLT, Nat.reduceLeDiff, Int.reduceEq, Int.reduceNe, Int.reduceLT, Int.reduceLE, Int.reduceBEq, Int.reduceBNe, Int.reduceToNat, he]
              refine strb_ro ?_
              simp (disch := omega) only [go_sem, reduceCtorEq, ↓reduceIte, Nat.reduceEqDiff, Nat.reduceAdd, Nat.reduceSub, Nat.reduceMul, Nat.reduceLT, Nat.reduceLeDiff, Int.reduceEq, Int.reduceNe, Int.reduceLT, Int.reduceLE, Int.reduceBEq, Int.reduceBNe, Int.reduceToNat, he, hs.p1.at, hva]
              have hs := hs.p1.set (o' := .row 15 [[.int .i64 (s.val 1), .int .i64 ((s.adv 1).val 8), .int .i64 (((s.adv 1).adv 8).val 8), .int .i64 ((((s.adv 1).adv 8).adv 8).val 8), .int .i64 (((((s.adv 1).adv 8).adv 8).adv 8).val 8),
                .int .i64 ((((((s.adv 1).adv 8).adv 8).adv 8).adv 8).val 8), v, .int .i64 (t.val 8), .int .i64 ((t.adv 8).val 8), .bool (((t.adv 8).adv 8).val 1 == 1), .int .i64 ((((t.adv 8).adv 8).adv 1).val 8),
                .int .i64 (((((t.adv 8).adv 8).adv 1).adv 8).val 8), .int .i64 ((((((t.adv 8).adv 8).adv 1).adv 8).adv 8).val 8), intsV V.1, .lst (V.2.tx.map eb)]] 1)
              have ⟨tg3, hs'⟩ := Xr.iff.1 hs.p1
              have hp := hs'.at
              rw [q3.2] at erk
              rcases tg3.2.2 with d1 | d1
              · have e1 := RS.e0 d1
                simp (disch := omega) only [go_sem, reduceCtorEq, ↓reduceIte, Nat.reduceEqDiff, Nat.reduceAdd, Nat.reduceSub, Nat.reduceMul, Nat.reduceLT, Nat.reduceLeDiff, Int.reduceEq, Int.reduceNe, Int.reduceLT, Int.reduceLE, Int.reduceBEq, Int.reduceBNe, Int.reduceToNat, he, hp, e1]
                rw [if_neg (by omega)] at erk
                refine cnd_dec (fun d2 => ?_) (fun d2 => ?_)
                · simp (disch := omega) only [go_sem, reduceCtorEq, ↓reduceIte, Nat.reduceEqDiff, Nat.reduceAdd, Nat.reduceSub, Nat.reduceMul, Nat.reduceLT, Nat.reduceLeDiff, Int.reduceEq, Int.reduceNe, Int.reduceLT, Int.reduceLE, Int.reduceBEq, Int.reduceBNe, Int.reduceToNat, he, hs.p3.at, zeroM]
                  rw [if_pos (by rw [hsb]; omega)] at erk
                  exact err 9 _ (by rw [hk, erk]) (by omega) ((hs.p3.set).drop.drop.drop.drop)
                · simp (disch := omega) only [go_sem, reduceCtorEq, ↓reduceIte, Nat.reduceEqDiff, Nat.reduceAdd, Nat.reduceSub, Nat.reduceMul, Nat.reduceLT, Nat.reduceLeDiff, Int.reduceEq, Int.reduceNe, Int.reduceLT, Int.reduceLE, Int.reduceBEq, Int.reduceBNe, Int.reduceToNat, he, hs.at, hs.p3.at, zeroM, hva]
                  rw [if_neg (by rw [hsb]; omega)] at erk
                  have hm : parM b = msP s := by unfold parM; rw [if_pos (by rw [hk, erk]), hin, hs0]
                  obtain ⟨h'', g, hs''⟩ := (hs.p3.set).drop.p2.view
                  refine ⟨_, h'', GV.tup [] [.int .i64 0] (GV.agg [.int .i64 (s.val 1), .int .i64 ((s.adv 1).val 8), .int .i64 (((s.adv 1).adv 8).val 8), .int .i64 ((((s.adv 1).adv 8).adv 8).val 8), .int .i64 (((((s.adv 1).adv 8).adv 8).adv 8).val 8),
                    .int .i64 ((((((s.adv 1).adv 8).adv 8).adv 8).adv 8).val 8)] [.int .i64 (t.val 8), .int .i64 ((t.adv 8).val 8), .bool (((t.adv 8).adv 8).val 1 == 1), .int .i64 ((((t.adv 8).adv 8).adv 1).val 8),
                    .int .i64 (((((t.adv 8).adv 8).adv 1).adv 8).val 8), .int .i64 ((((((t.adv 8).adv 8).adv 1).adv 8).adv 8).val 8), intsV V.1, .lst (V.2.tx.map eb)] g), ?_, hs''.drop.drop⟩
                  rw [hm, hk, erk]
                  simp only [Ms.cells, msP, q1, q2, q3.1, q3.2]
                  rfl
              · have e1 := RS.e8 d1
                simp (disch := omega) only [go_sem, reduceCtorEq, ↓reduceIte, Nat.reduceEqDiff, Nat.reduceAdd, Nat.reduceSub, Nat.reduceMul, Nat.reduceLT, Nat.reduceLeDiff, Int.reduceEq, Int.reduceNe, Int.reduceLT, Int.reduceLE, Int.reduceBEq, Int.reduceBNe, Int.reduceToNat, he, hp, e1, hs.p3.at, zeroM]
                rw [if_pos (by omega)] at erk
                exact err 8 _ (by rw [hk, erk]) (by omega) ((hs.p3.set).drop.drop.drop.drop)
  · have hne2 : ((unF b).2.2 != 0) = true := by simp [h0]
    have hk : parE b = (unF b).2.2 := by unfold parE; rw [if_pos h0]
    refine call_use (xUnframe hs (fun h hs => hE _ hs.drop) hc hb hat) ?_
    rintro r h ⟨hr, hs⟩
    subst hr
    simp (disch := omega) only [go_sem, reduceCtorEq, ↓reduceIte, Nat.reduceEqDiff, Nat.reduceAdd, Nat.reduceSub, Nat.reduceMul, Nat.reduceLT, Nat.reduceLeDiff, Int.reduceEq, Int.reduceNe, Int.reduceLT, Int.reduceLE, Int.reduceBEq, Int.reduceBNe, Int.reduceToNat, hne2, hl, hs.at]
    exact err _ _ hk h0 (hs.set).drop
end
end Go.Proofs.Ytfbflmiipepmiaa
