/- net: bytes are read as messages. -/
import Derived.Test.YtfbflmiipepmiaaR2NetE
set_option linter.unusedSimpArgs false
set_option linter.unusedVariables false
set_option maxRecDepth 10000
namespace Go.Proofs.Ytfbflmiipepmiaa
open Go.Hz

section
variable {h : Hp} {F : List Asr} {v : AV} {b : List UInt8}

theorem pParse (hs : sat h F) (hE : ∀ h, sat h F → Bts h v b) (hc : CapOK v) (hb : b.length ≤ 100000000000) :
    Triple Try.prog 17 [v] h (fun r h => r = .tup [.agg (parM b).cells, .int .i64 (parE b)] ∧ sat h F) := by
  have hl := Bts.len (hE _ hs)
  have err : ∀ (k : Int) (h : Hp), parE b = k → k ≠ 0 → sat h F → ∃ r' h'', GV (.tup [.agg zeroM, .int .i64 k]) h r' h'' ∧ (fun r h => r = .tup [.agg (parM b).cells, .int .i64 (parE b)] ∧ sat h F) r' h'' := by
    intro k h hk h0 hs
    have hm : parM b = Ms.zero := by unfold parM; rw [if_neg (by omega)]
    subst hk
    rw [hm]
    exact ⟨_, h, GV.zeroM h _, rfl, hs⟩
  have hul : (unF b).1.length ≤ b.length := by
    unfold unF
    repeat' split
    all_goals simp
    omega
  refine Triple.view ?_
  refine t17 (Nat.le_of_ble_eq_true rfl) ?_
  simp (disch := omega) only [F17, go_sem, reduceCtorEq, ↓reduceIte, Nat.reduceEqDiff, Nat.reduceAdd, Nat.reduceSub, Nat.reduceMul, Nat.reduceLT, Nat.reduceLeDiff, Int.reduceEq, Int.reduceNe, Int.reduceLT, Int.reduceLE, Int.reduceBEq, Int.reduceBNe, Int.reduceToNat]
  refine new_opq hs fun n h hs => ?_
  simp (disch := omega) only [go_sem, reduceCtorEq, ↓reduceIte, Nat.reduceEqDiff, Nat.reduceAdd, Nat.reduceSub, Nat.reduceMul, Nat.reduceLT, Nat.reduceLeDiff, Int.reduceEq, Int.reduceNe, Int.reduceLT, Int.reduceLE, Int.reduceBEq, Int.reduceBNe, Int.reduceToNat, hs.at]
  by_cases h0 : (unF b).2.2 = 0
  · by_cases hlt : (unF b).2.1 < b.length
    · have hk : parE b = 9 := by unfold parE; rw [if_neg (by omega), if_pos hlt]
      have hlt' : ((unF b).2.1 : Int) < b.length := by omega
      refine call_use (pUnframe hs (fun h hs => hE _ hs.drop) hc hb) ?_
      rintro r h ⟨hr, hs⟩
      subst hr
      simp (disch := omega) only [go_sem, reduceCtorEq, ↓reduceIte, Nat.reduceEqDiff, Nat.reduceAdd, Nat.reduceSub, Nat.reduceMul, Nat.reduceLT, Nat.reduceLeDiff, Int.reduceEq, Int.reduceNe, Int.reduceLT, Int.reduceLE, Int.reduceBEq, Int.reduceBNe, Int.reduceToNat, h0, hl, hlt', hs.at]
      exact err 9 _ hk (by omega) (hs.set).drop
    · have hlt' : ¬ ((unF b).2.1 : Int) < b.length := by omega
      have hk : parE b = erP ⟨(unF b).1, 0, 0⟩ := by unfold parE; rw [if_neg (by omega), if_neg hlt]
      refine call_use (pUnframe hs (fun h hs => hE _ hs.drop) hc hb) ?_
      rintro r h ⟨hr, hs⟩
      subst hr
      simp (disch := omega) only [go_sem, reduceCtorEq, ↓reduceIte, Nat.reduceEqDiff, Nat.reduceAdd, Nat.reduceSub, Nat.reduceMul, Nat.reduceLT, Nat.reduceLeDiff, Int.reduceEq, Int.reduceNe, Int.reduceLT, Int.reduceLE, Int.reduceBEq, Int.reduceBNe, Int.reduceToNat, h0, hl, hlt', hs.at]
      refine call_use (newReader hs (fun _ _ => Els.lst (eb_one _)) (by omega)) ?_
      rintro r h ⟨p, hr, hs⟩
      subst hr
      simp (disch := omega) only [go_sem, reduceCtorEq, ↓reduceIte, Nat.reduceEqDiff, Nat.reduceAdd, Nat.reduceSub, Nat.reduceMul, Nat.reduceLT, Nat.reduceLeDiff, Int.reduceEq, Int.reduceNe, Int.reduceLT, Int.reduceLE, Int.reduceBEq, Int.reduceBNe, Int.reduceToNat]
      refine call_use (pRead hs) ?_
      rintro r h ⟨cs, hr, ⟨hc1, hc2⟩, hx, hs⟩
      subst hr
      by_cases he : erP ⟨(unF b).1, 0, 0⟩ = 0
      · have hx := hx he
        subst hx
        simp (disch := omega) only [go_sem, reduceCtorEq, ↓reduceIte, Nat.reduceEqDiff, Nat.reduceAdd, Nat.reduceSub, Nat.reduceMul, Nat.reduceLT, Nat.reduceLeDiff, Int.reduceEq, Int.reduceNe, Int.reduceLT, Int.reduceLE, Int.reduceBEq, Int.reduceBNe, Int.reduceToNat, he]
        refine new_opq hs fun m h hs => ?_
        simp (disch := omega) only [go_sem, reduceCtorEq, ↓reduceIte, Nat.reduceEqDiff, Nat.reduceAdd, Nat.reduceSub, Nat.reduceMul, Nat.reduceLT, Nat.reduceLeDiff, Int.reduceEq, Int.reduceNe, Int.reduceLT, Int.reduceLE, Int.reduceBEq, Int.reduceBNe, Int.reduceToNat, hs.at, Ms.cells]
        simp (disch := omega) only [go_sem, reduceCtorEq, ↓reduceIte, Nat.reduceEqDiff, Nat.reduceAdd, Nat.reduceSub, Nat.reduceMul, Nat.reduceLT, Nat.reduceLeDiff, Int.reduceEq, Int.reduceNe, Int.reduceLT, Int.reduceLE, Int.reduceBEq, Int.reduceBNe, Int.reduceToNat, hs.set.p1.at, Ms.cells]
        have hm : parM b = msP ⟨(unF b).1, 0, 0⟩ := by unfold parM; rw [if_pos (by rw [hk, he])]
        refine ⟨_, _, GV.refl _ _, ?_, (hs.set.p1.set).drop.drop⟩
        rw [hm, hk, he]
      · have hne : (erP ⟨(unF b).1, 0, 0⟩ != 0) = true := by simp [he]
        simp (disch := omega) only [go_sem, reduceCtorEq, ↓reduceIte, Nat.reduceEqDiff, Nat.reduceAdd, Nat.reduceSub, Nat.reduceMul, Nat.reduceLT, Nat.reduceLeDiff, Int.reduceEq, Int.reduceNe, Int.reduceLT, Int.reduceLE, Int.reduceBEq, Int.reduceBNe, Int.reduceToNat, hne]
        refine new_opq hs fun m h hs => ?_
        simp (disch := omega) only [go_sem, reduceCtorEq, ↓reduceIte, Nat.reduceEqDiff, Nat.reduceAdd, Nat.reduceSub, Nat.reduceMul, Nat.reduceLT, Nat.reduceLeDiff, Int.reduceEq, Int.reduceNe, Int.reduceLT, Int.reduceLE, Int.reduceBEq, Int.reduceBNe, Int.reduceToNat, hs.at, hc1, hc2, hne]
        simp (disch := omega) only [go_sem, reduceCtorEq, ↓reduceIte, Nat.reduceEqDiff, Nat.reduceAdd, Nat.reduceSub, Nat.reduceMul, Nat.reduceLT, Nat.reduceLeDiff, Int.reduceEq, Int.reduceNe, Int.reduceLT, Int.reduceLE, Int.reduceBEq, Int.reduceBNe, Int.reduceToNat, hs.set.p1.at, hc1, hc2, hne]
        exact err _ _ hk he (hs.set.p1.set).drop.drop
  · have hne : ((unF b).2.2 == 0) = false := by simp [h0]
    have hne2 : ((unF b).2.2 != 0) = true := by simp [h0]
    have hk : parE b = (unF b).2.2 := by unfold parE; rw [if_pos h0]
    refine call_use (pUnframe hs (fun h hs => hE _ hs.drop) hc hb) ?_
    rintro r h ⟨hr, hs⟩
    subst hr
    simp (disch := omega) only [go_sem, reduceCtorEq, ↓reduceIte, Nat.reduceEqDiff, Nat.reduceAdd, Nat.reduceSub, Nat.reduceMul, Nat.reduceLT, Nat.reduceLeDiff, Int.reduceEq, Int.reduceNe, Int.reduceLT, Int.reduceLE, Int.reduceBEq, Int.reduceBNe, Int.reduceToNat, hne, hne2, hl, hs.at]
    exact err _ _ hk h0 (hs.set).drop
end
end Go.Proofs.Ytfbflmiipepmiaa
