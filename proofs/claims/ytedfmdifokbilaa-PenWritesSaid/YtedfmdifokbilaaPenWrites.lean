/- The law PenWrites, walked. -/
import Derived.Test.YtedfmdifokbilaaPenJoins
import Derived.Test.YtedfmdifokbilaaHzLaw
set_option linter.unusedSimpArgs false
set_option linter.unusedVariables false
set_option maxRecDepth 10000
namespace Go.Proofs.Ytedfmdifokbilaa
open Go.Hz

theorem pcsB_drop {l : List Pc} {i : Nat} (hi : i < l.length) : pcsB (l.drop i) = l[i].B ++ pcsB (l.drop (i + 1)) := by
  unfold pcsB
  rw [List.drop_eq_getElem_cons hi]
  rfl

theorem writes {l : List Pc} (hl : l.length ≤ 9223372036854775807) (hn : ∀ p ∈ l, -9223372036854775808 ≤ p.n ∧ p.n ≤ 9223372036854775807) :
    Triple Try.prog 6 [pieces l] Hp.emp (fun r _ => r = .bool true) := by
  have hs : sat Hp.emp [] := trivial
  refine t6 (Nat.le_of_ble_eq_true rfl) ?_
  simp (disch := omega) only [F6, go_sem, reduceCtorEq, ↓reduceIte, Nat.reduceEqDiff, Nat.reduceAdd, Nat.reduceSub, Nat.reduceMul, Nat.reduceLT, Nat.reduceLeDiff, Int.reduceEq, Int.reduceNe, Int.reduceLT, Int.reduceLE, Int.reduceBEq, Int.reduceBNe, Int.reduceToNat]
  refine call_use (known hs) ?_
  rintro r h ⟨hr, hs⟩
  subst hr
  simp (disch := omega) only [go_sem, reduceCtorEq, ↓reduceIte, Nat.reduceEqDiff, Nat.reduceAdd, Nat.reduceSub, Nat.reduceMul, Nat.reduceLT, Nat.reduceLeDiff, Int.reduceEq, Int.reduceNe, Int.reduceLT, Int.reduceLE, Int.reduceBEq, Int.reduceBNe, Int.reduceToNat]
  refine call_use (few hs hl) ?_
  rintro r h ⟨hr, hs⟩
  subst hr
  simp (disch := omega) only [go_sem, reduceCtorEq, ↓reduceIte, Nat.reduceEqDiff, Nat.reduceAdd, Nat.reduceSub, Nat.reduceMul, Nat.reduceLT, Nat.reduceLeDiff, Int.reduceEq, Int.reduceNe, Int.reduceLT, Int.reduceLE, Int.reduceBEq, Int.reduceBNe, Int.reduceToNat]
  refine cnd_bool (fun q => ?_) (fun q => ?_)
  · simp (disch := omega) only [go_sem, reduceCtorEq, ↓reduceIte, Nat.reduceEqDiff, Nat.reduceAdd, Nat.reduceSub, Nat.reduceMul, Nat.reduceLT, Nat.reduceLeDiff, Int.reduceEq, Int.reduceNe, Int.reduceLT, Int.reduceLE, Int.reduceBEq, Int.reduceBNe, Int.reduceToNat]
  have hf : fewB l = true := by simpa using q
  obtain ⟨hf1, hf2⟩ := fewB_iff hf
  have hlen := pcsB_len hf
  simp (disch := omega) only [go_sem, reduceCtorEq, ↓reduceIte, Nat.reduceEqDiff, Nat.reduceAdd, Nat.reduceSub, Nat.reduceMul, Nat.reduceLT, Nat.reduceLeDiff, Int.reduceEq, Int.reduceNe, Int.reduceLT, Int.reduceLE, Int.reduceBEq, Int.reduceBNe, Int.reduceToNat]
  refine call_use (newWriter hs) ?_
  rintro r h ⟨p, hr, hs⟩
  subst hr
  simp (disch := omega) only [go_sem, reduceCtorEq, ↓reduceIte, Nat.reduceEqDiff, Nat.reduceAdd, Nat.reduceSub, Nat.reduceMul, Nat.reduceLT, Nat.reduceLeDiff, Int.reduceEq, Int.reduceNe, Int.reduceLT, Int.reduceLE, Int.reduceBEq, Int.reduceBNe, Int.reduceToNat]
  refine run_up (N := l.length) (fun i e h => (e 0 = pieces l ∧ e 3 = .ptr p 1 0 0 ∧ e 5 = .int .i64 i) ∧ sat h [Wr p (pcsB (l.take i)) (504 * i), Ow 1 (e 4) ((pcsB (l.take i)).map eb)]) ⟨⟨rfl, rfl, rfl⟩, by simpa [Env.upd_apply, initE, pcsB] using (hs.add (ow_nil (s := 1))).p1⟩ ?_
  rintro i e h hi ⟨he, hs⟩
  simp (disch := omega) only [go_sem, reduceCtorEq, ↓reduceIte, Nat.reduceEqDiff, Nat.reduceAdd, Nat.reduceSub, Nat.reduceMul, Nat.reduceLT, Nat.reduceLeDiff, Int.reduceEq, Int.reduceNe, Int.reduceLT, Int.reduceLE, Int.reduceBEq, Int.reduceBNe, Int.reduceToNat, he, pc_len]
  refine cnd_dec (fun hc => ?_) (fun hc => ?_)
  · have hi' : i < l.length := by omega
    have hL := (Wr.iff.1 hs).1
    have fin : ∀ (h : Hp) (m : Nat) (v : AV), m ≤ 504 → sat h [Ow 1 v ((pcsB (l.take i) ++ l[i].B).map eb), Wr p (pcsB (l.take i) ++ l[i].B) (504 * i + m)] → sat h [Wr p (pcsB (l.take (i + 1))) (504 * (i + 1)), Ow 1 v ((pcsB (l.take (i + 1))).map eb)] := by
      intro h m v hm hs
      rw [pcsB_succ hi']
      obtain ⟨g1, g2⟩ := Wr.iff.1 hs.p1
      exact Wr.iff.2 ⟨by omega, g2⟩
    simp (disch := omega) only [go_sem, reduceCtorEq, ↓reduceIte, Nat.reduceEqDiff, Nat.reduceAdd, Nat.reduceSub, Nat.reduceMul, Nat.reduceLT, Nat.reduceLeDiff, Int.reduceEq, Int.reduceNe, Int.reduceLT, Int.reduceLE, Int.reduceBEq, Int.reduceBNe, Int.reduceToNat, he, pc_at hi', Pc.row]
    refine cnd_bool (fun q0 => ?_) (fun q0 => ?_)
    · simp (disch := omega) only [go_sem, reduceCtorEq, ↓reduceIte, Nat.reduceEqDiff, Nat.reduceAdd, Nat.reduceSub, Nat.reduceMul, Nat.reduceLT, Nat.reduceLeDiff, Int.reduceEq, Int.reduceNe, Int.reduceLT, Int.reduceLE, Int.reduceBEq, Int.reduceBNe, Int.reduceToNat, he, pc_at hi', Pc.row]
      refine call_use (wU8 hs l[i].n (by omega)) ?_
      rintro r h ⟨hr, hs⟩
      subst hr
      simp (disch := omega) only [go_sem, reduceCtorEq, ↓reduceIte, Nat.reduceEqDiff, Nat.reduceAdd, Nat.reduceSub, Nat.reduceMul, Nat.reduceLT, Nat.reduceLeDiff, Int.reduceEq, Int.reduceNe, Int.reduceLT, Int.reduceLE, Int.reduceBEq, Int.reduceBNe, Int.reduceToNat, he, pc_at hi', Pc.row]
      refine call_use (xU8 hs.p1 l[i].n (by omega)) ?_
      intro r h hs
      simp (disch := omega) only [go_sem, reduceCtorEq, ↓reduceIte, Nat.reduceEqDiff, Nat.reduceAdd, Nat.reduceSub, Nat.reduceMul, Nat.reduceLT, Nat.reduceLeDiff, Int.reduceEq, Int.reduceNe, Int.reduceLT, Int.reduceLE, Int.reduceBEq, Int.reduceBNe, Int.reduceToNat, he]
      exact ⟨by omega, rfl, fin h 1 _ (by omega) (by simpa [Pc.B, eq_of_beq q0] using hs)⟩
    simp (disch := omega) only [go_sem, reduceCtorEq, ↓reduceIte, Nat.reduceEqDiff, Nat.reduceAdd, Nat.reduceSub, Nat.reduceMul, Nat.reduceLT, Nat.reduceLeDiff, Int.reduceEq, Int.reduceNe, Int.reduceLT, Int.reduceLE, Int.reduceBEq, Int.reduceBNe, Int.reduceToNat, he]
    refine cnd_bool (fun q1 => ?_) (fun q1 => ?_)
    · simp (disch := omega) only [go_sem, reduceCtorEq, ↓reduceIte, Nat.reduceEqDiff, Nat.reduceAdd, Nat.reduceSub, Nat.reduceMul, Nat.reduceLT, Nat.reduceLeDiff, Int.reduceEq, Int.reduceNe, Int.reduceLT, Int.reduceLE, Int.reduceBEq, Int.reduceBNe, Int.reduceToNat, he, pc_at hi', Pc.row]
      refine call_use (wU32 hs l[i].n (by omega)) ?_
      rintro r h ⟨hr, hs⟩
      subst hr
      simp (disch := omega) only [go_sem, reduceCtorEq, ↓reduceIte, Nat.reduceEqDiff, Nat.reduceAdd, Nat.reduceSub, Nat.reduceMul, Nat.reduceLT, Nat.reduceLeDiff, Int.reduceEq, Int.reduceNe, Int.reduceLT, Int.reduceLE, Int.reduceBEq, Int.reduceBNe, Int.reduceToNat, he, pc_at hi', Pc.row]
      refine call_use (xU32 hs.p1 l[i].n (by omega)) ?_
      intro r h hs
      simp (disch := omega) only [go_sem, reduceCtorEq, ↓reduceIte, Nat.reduceEqDiff, Nat.reduceAdd, Nat.reduceSub, Nat.reduceMul, Nat.reduceLT, Nat.reduceLeDiff, Int.reduceEq, Int.reduceNe, Int.reduceLT, Int.reduceLE, Int.reduceBEq, Int.reduceBNe, Int.reduceToNat, he]
      exact ⟨by omega, rfl, fin h 4 _ (by omega) (by simpa [Pc.B, eq_of_beq q1] using hs)⟩
    simp (disch := omega) only [go_sem, reduceCtorEq, ↓reduceIte, Nat.reduceEqDiff, Nat.reduceAdd, Nat.reduceSub, Nat.reduceMul, Nat.reduceLT, Nat.reduceLeDiff, Int.reduceEq, Int.reduceNe, Int.reduceLT, Int.reduceLE, Int.reduceBEq, Int.reduceBNe, Int.reduceToNat, he]
    refine cnd_bool (fun q2 => ?_) (fun q2 => ?_)
    · simp (disch := omega) only [go_sem, reduceCtorEq, ↓reduceIte, Nat.reduceEqDiff, Nat.reduceAdd, Nat.reduceSub, Nat.reduceMul, Nat.reduceLT, Nat.reduceLeDiff, Int.reduceEq, Int.reduceNe, Int.reduceLT, Int.reduceLE, Int.reduceBEq, Int.reduceBNe, Int.reduceToNat, he, pc_at hi', Pc.row]
      refine call_use (wInt hs l[i].n (by omega)) ?_
      rintro r h ⟨hr, hs⟩
      subst hr
      simp (disch := omega) only [go_sem, reduceCtorEq, ↓reduceIte, Nat.reduceEqDiff, Nat.reduceAdd, Nat.reduceSub, Nat.reduceMul, Nat.reduceLT, Nat.reduceLeDiff, Int.reduceEq, Int.reduceNe, Int.reduceLT, Int.reduceLE, Int.reduceBEq, Int.reduceBNe, Int.reduceToNat, he, pc_at hi', Pc.row]
      refine call_use (xInt hs.p1 l[i].n (by omega)) ?_
      intro r h hs
      simp (disch := omega) only [go_sem, reduceCtorEq, ↓reduceIte, Nat.reduceEqDiff, Nat.reduceAdd, Nat.reduceSub, Nat.reduceMul, Nat.reduceLT, Nat.reduceLeDiff, Int.reduceEq, Int.reduceNe, Int.reduceLT, Int.reduceLE, Int.reduceBEq, Int.reduceBNe, Int.reduceToNat, he]
      exact ⟨by omega, rfl, fin h 8 _ (by omega) (by simpa [Pc.B, eq_of_beq q2] using hs)⟩
    · have hs5 := hf1 _ (List.getElem_mem hi')
      simp (disch := omega) only [go_sem, reduceCtorEq, ↓reduceIte, Nat.reduceEqDiff, Nat.reduceAdd, Nat.reduceSub, Nat.reduceMul, Nat.reduceLT, Nat.reduceLeDiff, Int.reduceEq, Int.reduceNe, Int.reduceLT, Int.reduceLE, Int.reduceBEq, Int.reduceBNe, Int.reduceToNat, he, pc_at hi', Pc.row]
      refine call_use (wText hs l[i].s (m := 500) hs5 (by omega)) ?_
      rintro r h ⟨hr, hs⟩
      subst hr
      simp (disch := omega) only [go_sem, reduceCtorEq, ↓reduceIte, Nat.reduceEqDiff, Nat.reduceAdd, Nat.reduceSub, Nat.reduceMul, Nat.reduceLT, Nat.reduceLeDiff, Int.reduceEq, Int.reduceNe, Int.reduceLT, Int.reduceLE, Int.reduceBEq, Int.reduceBNe, Int.reduceToNat, he, pc_at hi', Pc.row]
      refine call_use (xText hs.p1 l[i].s (by omega) (by omega)) ?_
      intro r h hs
      simp (disch := omega) only [go_sem, reduceCtorEq, ↓reduceIte, Nat.reduceEqDiff, Nat.reduceAdd, Nat.reduceSub, Nat.reduceMul, Nat.reduceLT, Nat.reduceLeDiff, Int.reduceEq, Int.reduceNe, Int.reduceLT, Int.reduceLE, Int.reduceBEq, Int.reduceBNe, Int.reduceToNat, he]
      exact ⟨by omega, rfl, fin h 504 _ (by omega) (by simpa [Pc.B, q0, q1, q2, beq_eq_false_iff_ne.1 q0, beq_eq_false_iff_ne.1 q1, beq_eq_false_iff_ne.1 q2] using hs)⟩
  · have : i = l.length := by omega
    subst this
    rw [List.take_length] at hs
    generalize hv : e 4 = v at hs
    simp (disch := omega) only [go_sem, reduceCtorEq, ↓reduceIte, Nat.reduceEqDiff, Nat.reduceAdd, Nat.reduceSub, Nat.reduceMul, Nat.reduceLT, Nat.reduceLeDiff, Int.reduceEq, Int.reduceNe, Int.reduceLT, Int.reduceLE, Int.reduceBEq, Int.reduceBNe, Int.reduceToNat, he, hv, hs.p1.bts.bstr]
    refine call_use' (wDone hs (by omega)) ?_
    rintro r h ⟨hr, hs⟩
    subst hr
    simp (disch := omega) only [go_sem, reduceCtorEq, ↓reduceIte, Nat.reduceEqDiff, Nat.reduceAdd, Nat.reduceSub, Nat.reduceMul, Nat.reduceLT, Nat.reduceLeDiff, Int.reduceEq, Int.reduceNe, Int.reduceLT, Int.reduceLE, Int.reduceBEq, Int.reduceBNe, Int.reduceToNat, he, hv, hs.p1.bts.bstr]
    refine call_use' (wDone hs (by omega)) ?_
    rintro r h ⟨hr, hs⟩
    subst hr
    simp (disch := omega) only [go_sem, reduceCtorEq, ↓reduceIte, Nat.reduceEqDiff, Nat.reduceAdd, Nat.reduceSub, Nat.reduceMul, Nat.reduceLT, Nat.reduceLeDiff, Int.reduceEq, Int.reduceNe, Int.reduceLT, Int.reduceLE, Int.reduceBEq, Int.reduceBNe, Int.reduceToNat, he, hv, hs.p1.bts.bstr]
    refine call_use (newReader hs.p1 (fun _ hs => hs.bts) (by omega)) ?_
    rintro r h ⟨x, hr, hs⟩
    subst hr
    simp (disch := omega) only [go_sem, reduceCtorEq, ↓reduceIte, Nat.reduceEqDiff, Nat.reduceAdd, Nat.reduceSub, Nat.reduceMul, Nat.reduceLT, Nat.reduceLeDiff, Int.reduceEq, Int.reduceNe, Int.reduceLT, Int.reduceLE, Int.reduceBEq, Int.reduceBNe, Int.reduceToNat]
    refine run_up (N := l.length) (fun i e h => ∃ a, (pcsB l).drop a = pcsB (l.drop i) ∧ (e 0 = pieces l ∧ e 4 = v ∧ e 6 = .ptr x 3 0 0 ∧ e 7 = .int .i64 i) ∧ sat h [Rd x ⟨pcsB l, a, 0⟩, Ow 1 v ((pcsB l).map eb)])
      ⟨0, rfl, ⟨by simp [Env.upd_apply, he], by simp [Env.upd_apply, hv], rfl, rfl⟩, hs.d2⟩ ?_
    rintro i e h hi ⟨a, ha, he, hs⟩
    simp (disch := omega) only [go_sem, reduceCtorEq, ↓reduceIte, Nat.reduceEqDiff, Nat.reduceAdd, Nat.reduceSub, Nat.reduceMul, Nat.reduceLT, Nat.reduceLeDiff, Int.reduceEq, Int.reduceNe, Int.reduceLT, Int.reduceLE, Int.reduceBEq, Int.reduceBNe, Int.reduceToNat, he, pc_len]
    refine cnd_dec (fun hc => ?_) (fun hc => ?_)
    · have hi' : i < l.length := by omega
      have hni := hn _ (List.getElem_mem hi')
      rw [pcsB_drop hi'] at ha
      simp (disch := omega) only [go_sem, reduceCtorEq, ↓reduceIte, Nat.reduceEqDiff, Nat.reduceAdd, Nat.reduceSub, Nat.reduceMul, Nat.reduceLT, Nat.reduceLeDiff, Int.reduceEq, Int.reduceNe, Int.reduceLT, Int.reduceLE, Int.reduceBEq, Int.reduceBNe, Int.reduceToNat, he, pc_at hi', Pc.row]
      refine cnd_bool (fun q0 => ?_) (fun q0 => ?_)
      · have e0 : l[i].B = beB 1 l[i].n := by simp [Pc.B, eq_of_beq q0]
        rw [e0] at ha
        obtain ⟨k1, k2, k3⟩ := RS.be1 (s := ⟨pcsB l, a, 0⟩) rfl ha
        simp (disch := omega) only [go_sem, reduceCtorEq, ↓reduceIte, Nat.reduceEqDiff, Nat.reduceAdd, Nat.reduceSub, Nat.reduceMul, Nat.reduceLT, Nat.reduceLeDiff, Int.reduceEq, Int.reduceNe, Int.reduceLT, Int.reduceLE, Int.reduceBEq, Int.reduceBNe, Int.reduceToNat, he, pc_at hi', Pc.row, and255]
        refine call_use' (rU8 hs) ?_
        rintro r h ⟨hr, hs⟩
        subst hr
        simp (disch := omega) only [go_sem, reduceCtorEq, ↓reduceIte, Nat.reduceEqDiff, Nat.reduceAdd, Nat.reduceSub, Nat.reduceMul, Nat.reduceLT, Nat.reduceLeDiff, Int.reduceEq, Int.reduceNe, Int.reduceLT, Int.reduceLE, Int.reduceBEq, Int.reduceBNe, Int.reduceToNat, he, pc_at hi', Pc.row, k1, k2]
        rw [k2] at hs
        exact ⟨by omega, _, k3, rfl, hs⟩
      simp (disch := omega) only [go_sem, reduceCtorEq, ↓reduceIte, Nat.reduceEqDiff, Nat.reduceAdd, Nat.reduceSub, Nat.reduceMul, Nat.reduceLT, Nat.reduceLeDiff, Int.reduceEq, Int.reduceNe, Int.reduceLT, Int.reduceLE, Int.reduceBEq, Int.reduceBNe, Int.reduceToNat, he]
      refine cnd_bool (fun q1 => ?_) (fun q1 => ?_)
      · have e0 : l[i].B = beB 4 l[i].n := by simp [Pc.B, eq_of_beq q1]
        rw [e0] at ha
        obtain ⟨k1, k2, k3⟩ := RS.be4 (s := ⟨pcsB l, a, 0⟩) rfl ha
        simp (disch := omega) only [go_sem, reduceCtorEq, ↓reduceIte, Nat.reduceEqDiff, Nat.reduceAdd, Nat.reduceSub, Nat.reduceMul, Nat.reduceLT, Nat.reduceLeDiff, Int.reduceEq, Int.reduceNe, Int.reduceLT, Int.reduceLE, Int.reduceBEq, Int.reduceBNe, Int.reduceToNat, he, pc_at hi', Pc.row, and32]
        refine call_use' (rU32 hs) ?_
        rintro r h ⟨hr, hs⟩
        subst hr
        simp (disch := omega) only [go_sem, reduceCtorEq, ↓reduceIte, Nat.reduceEqDiff, Nat.reduceAdd, Nat.reduceSub, Nat.reduceMul, Nat.reduceLT, Nat.reduceLeDiff, Int.reduceEq, Int.reduceNe, Int.reduceLT, Int.reduceLE, Int.reduceBEq, Int.reduceBNe, Int.reduceToNat, he, pc_at hi', Pc.row, k1, k2]
        rw [k2] at hs
        exact ⟨by omega, _, k3, rfl, hs⟩
      simp (disch := omega) only [go_sem, reduceCtorEq, ↓reduceIte, Nat.reduceEqDiff, Nat.reduceAdd, Nat.reduceSub, Nat.reduceMul, Nat.reduceLT, Nat.reduceLeDiff, Int.reduceEq, Int.reduceNe, Int.reduceLT, Int.reduceLE, Int.reduceBEq, Int.reduceBNe, Int.reduceToNat, he]
      refine cnd_bool (fun q2 => ?_) (fun q2 => ?_)
      · have e0 : l[i].B = beB 8 l[i].n := by simp [Pc.B, eq_of_beq q2]
        rw [e0] at ha
        obtain ⟨k1, k2, k3⟩ := RS.be8 (s := ⟨pcsB l, a, 0⟩) hni.1 hni.2 rfl ha
        simp (disch := omega) only [go_sem, reduceCtorEq, ↓reduceIte, Nat.reduceEqDiff, Nat.reduceAdd, Nat.reduceSub, Nat.reduceMul, Nat.reduceLT, Nat.reduceLeDiff, Int.reduceEq, Int.reduceNe, Int.reduceLT, Int.reduceLE, Int.reduceBEq, Int.reduceBNe, Int.reduceToNat, he, pc_at hi', Pc.row]
        refine call_use' (rInt hs) ?_
        rintro r h ⟨hr, hs⟩
        subst hr
        simp (disch := omega) only [go_sem, reduceCtorEq, ↓reduceIte, Nat.reduceEqDiff, Nat.reduceAdd, Nat.reduceSub, Nat.reduceMul, Nat.reduceLT, Nat.reduceLeDiff, Int.reduceEq, Int.reduceNe, Int.reduceLT, Int.reduceLE, Int.reduceBEq, Int.reduceBNe, Int.reduceToNat, he, pc_at hi', Pc.row, k1, k2]
        rw [k2] at hs
        exact ⟨by omega, _, k3, rfl, hs⟩
      · have e0 : l[i].B = txB l[i].s := by simp [Pc.B, q0, q1, q2, beq_eq_false_iff_ne.1 q0, beq_eq_false_iff_ne.1 q1, beq_eq_false_iff_ne.1 q2]
        have hs5 := hf1 _ (List.getElem_mem hi')
        rw [e0] at ha
        obtain ⟨k1, k2, k3⟩ := RS.beT (s := ⟨pcsB l, a, 0⟩) (by omega) rfl ha
        simp (disch := omega) only [go_sem, reduceCtorEq, ↓reduceIte, Nat.reduceEqDiff, Nat.reduceAdd, Nat.reduceSub, Nat.reduceMul, Nat.reduceLT, Nat.reduceLeDiff, Int.reduceEq, Int.reduceNe, Int.reduceLT, Int.reduceLE, Int.reduceBEq, Int.reduceBNe, Int.reduceToNat, he, pc_at hi', Pc.row]
        refine call_use' (rText hs) ?_
        rintro r h ⟨hr, hs⟩
        subst hr
        simp (disch := omega) only [go_sem, reduceCtorEq, ↓reduceIte, Nat.reduceEqDiff, Nat.reduceAdd, Nat.reduceSub, Nat.reduceMul, Nat.reduceLT, Nat.reduceLeDiff, Int.reduceEq, Int.reduceNe, Int.reduceLT, Int.reduceLE, Int.reduceBEq, Int.reduceBNe, Int.reduceToNat, he, pc_at hi', Pc.row, k1, k2]
        rw [k2] at hs
        exact ⟨by omega, _, k3, rfl, hs⟩
    · have : i = l.length := by omega
      subst this
      rw [List.drop_length] at ha
      have hg := (Rd.iff.1 hs).1.1
      have h1 : (pcsB l).length - a = 0 := by
        have := congrArg List.length ha
        simpa [pcsB] using this
      have h2 : a = (pcsB l).length := by
        simp only at hg
        omega
      have hbl := Bts.len hs.p1.bts
      simp (disch := omega) only [go_sem, reduceCtorEq, ↓reduceIte, Nat.reduceEqDiff, Nat.reduceAdd, Nat.reduceSub, Nat.reduceMul, Nat.reduceLT, Nat.reduceLeDiff, Int.reduceEq, Int.reduceNe, Int.reduceLT, Int.reduceLE, Int.reduceBEq, Int.reduceBNe, Int.reduceToNat, he]
      refine call_use (rErr hs) ?_
      rintro r h ⟨hr, hs⟩
      subst hr
      simp (disch := omega) only [go_sem, reduceCtorEq, ↓reduceIte, Nat.reduceEqDiff, Nat.reduceAdd, Nat.reduceSub, Nat.reduceMul, Nat.reduceLT, Nat.reduceLeDiff, Int.reduceEq, Int.reduceNe, Int.reduceLT, Int.reduceLE, Int.reduceBEq, Int.reduceBNe, Int.reduceToNat, he]
      refine call_use (rLeft hs) ?_
      rintro r h ⟨hr, hs⟩
      subst hr
      simp (disch := omega) only [go_sem, reduceCtorEq, ↓reduceIte, Nat.reduceEqDiff, Nat.reduceAdd, Nat.reduceSub, Nat.reduceMul, Nat.reduceLT, Nat.reduceLeDiff, Int.reduceEq, Int.reduceNe, Int.reduceLT, Int.reduceLE, Int.reduceBEq, Int.reduceBNe, Int.reduceToNat, he, h1]
      refine call_use (rAt hs) ?_
      rintro r h ⟨hr, hs⟩
      subst hr
      simp (disch := omega) only [go_sem, reduceCtorEq, ↓reduceIte, Nat.reduceEqDiff, Nat.reduceAdd, Nat.reduceSub, Nat.reduceMul, Nat.reduceLT, Nat.reduceLeDiff, Int.reduceEq, Int.reduceNe, Int.reduceLT, Int.reduceLE, Int.reduceBEq, Int.reduceBNe, Int.reduceToNat, he, h2, Bts.len hs.p1.bts]

theorem pieces_in {a : AV} (h : (Ty.sl (.st (.fcons (.int .i64) (.fcons (.int .i64) (.fcons .str .fnil))))).one a) : ∃ l, a = pieces l ∧ l.length ≤ 9223372036854775807 ∧ ∀ p ∈ l, -9223372036854775808 ≤ p.n ∧ p.n ≤ 9223372036854775807 := by
  obtain ⟨es, rfl', h2, h3⟩ := h
  cases rfl'
  have : ∃ l : List Pc, es = l.map Pc.row ∧ ∀ p ∈ l, -9223372036854775808 ≤ p.n ∧ p.n ≤ 9223372036854775807 := by
    clear h2
    induction es with
    | nil => exact ⟨[], rfl, by simp⟩
    | cons x es ih =>
      obtain ⟨l, rfl, hl⟩ := ih fun y hy => h3 y (List.mem_cons_of_mem _ hy)
      obtain ⟨x1, x2, rfl, ⟨k, rfl, _⟩, y1, y2, rfl, ⟨n, rfl, hn⟩, z1, z2, rfl, ⟨s, rfl, _⟩, rfl⟩ := h3 x (List.mem_cons_self ..)
      simp only [Lit.wf, Bool.and_eq_true, decide_eq_true_eq] at hn
      refine ⟨⟨k, n, s⟩ :: l, rfl, fun p hp => ?_⟩
      rcases List.mem_cons.1 hp with rfl | hp
      · exact hn
      · exact hl p hp
  obtain ⟨l, rfl, hl⟩ := this
  exact ⟨l, rfl, by have : (l.map Pc.row).length ≤ 9223372036854775807 := Nat.le_trans h2 (by decide); simpa using this, hl⟩

theorem writes_law : ∀ vs, Ty.ones [(.sl (.st (.fcons (.int .i64) (.fcons (.int .i64) (.fcons .str .fnil)))))] vs → Triple Try.prog 6 vs Hp.emp (fun r _ => r = .bool true)
  | [a], ⟨ha, _⟩ => by
    obtain ⟨l, rfl, h1, h2⟩ := pieces_in ha
    exact writes h1 h2
end Go.Proofs.Ytedfmdifokbilaa
