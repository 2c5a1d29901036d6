/- The law PenJoins, walked. -/
import Derived.Test.YtedfmdifokbilaaPenD
import Derived.Test.YtedfmdifokbilaaHzLaw
set_option linter.unusedSimpArgs false
set_option linter.unusedVariables false
set_option maxRecDepth 10000
namespace Go.Proofs.Ytedfmdifokbilaa
open Go.Hz

theorem pcsB_len {l : List Pc} (h : fewB l = true) : (pcsB l).length ≤ 20160 := by
  obtain ⟨h1, h2⟩ := fewB_iff h
  have : ∀ l : List Pc, (∀ p ∈ l, p.s.length ≤ 500) → (pcsB l).length ≤ 504 * l.length := by
    intro l
    induction l with
    | nil => simp [pcsB]
    | cons p l ih =>
      intro hh
      have := ih fun q hq => hh q (List.mem_cons_of_mem _ hq)
      have hp := hh p (List.mem_cons_self ..)
      have e : pcsB (p :: l) = p.B ++ pcsB l := by simp [pcsB]
      have hB : p.B.length ≤ 504 := by
        unfold Pc.B
        repeat' split
        all_goals first | (rw [beB_length]; omega) | (rw [txB_length]; omega)
      rw [e, List.length_append, List.length_cons]
      omega
  have := this l h1
  omega

theorem joins {a b : List Pc} (ha : a.length ≤ 9223372036854775807) (hb : b.length ≤ 9223372036854775807) :
    Triple Try.prog 3 [pieces a, pieces b] Hp.emp (fun r _ => r = .bool true) := by
  have hs : sat Hp.emp [] := trivial
  refine t3 (Nat.le_of_ble_eq_true rfl) ?_
  simp (disch := omega) only [F3, go_sem, reduceCtorEq, ↓reduceIte, Nat.reduceEqDiff, Nat.reduceAdd, Nat.reduceSub, Nat.reduceMul, Nat.reduceLT, Nat.reduceLeDiff, Int.reduceEq, Int.reduceNe, Int.reduceLT, Int.reduceLE, Int.reduceBEq, Int.reduceBNe, Int.reduceToNat]
  refine call_use (known hs) ?_
  rintro r h ⟨hr, hs⟩
  subst hr
  simp (disch := omega) only [go_sem, reduceCtorEq, ↓reduceIte, Nat.reduceEqDiff, Nat.reduceAdd, Nat.reduceSub, Nat.reduceMul, Nat.reduceLT, Nat.reduceLeDiff, Int.reduceEq, Int.reduceNe, Int.reduceLT, Int.reduceLE, Int.reduceBEq, Int.reduceBNe, Int.reduceToNat]
  refine call_use (few hs ha) ?_
  rintro r h ⟨hr, hs⟩
  subst hr
  simp (disch := omega) only [go_sem, reduceCtorEq, ↓reduceIte, Nat.reduceEqDiff, Nat.reduceAdd, Nat.reduceSub, Nat.reduceMul, Nat.reduceLT, Nat.reduceLeDiff, Int.reduceEq, Int.reduceNe, Int.reduceLT, Int.reduceLE, Int.reduceBEq, Int.reduceBNe, Int.reduceToNat]
  refine cnd_bool (fun q => ?_) (fun q => ?_)
  · have q : fewB a = false := by simpa using q
    simp (disch := omega) only [go_sem, reduceCtorEq, ↓reduceIte, Nat.reduceEqDiff, Nat.reduceAdd, Nat.reduceSub, Nat.reduceMul, Nat.reduceLT, Nat.reduceLeDiff, Int.reduceEq, Int.reduceNe, Int.reduceLT, Int.reduceLE, Int.reduceBEq, Int.reduceBNe, Int.reduceToNat, q]
  have hfa : fewB a = true := by simpa using q
  simp (disch := omega) only [go_sem, reduceCtorEq, ↓reduceIte, Nat.reduceEqDiff, Nat.reduceAdd, Nat.reduceSub, Nat.reduceMul, Nat.reduceLT, Nat.reduceLeDiff, Int.reduceEq, Int.reduceNe, Int.reduceLT, Int.reduceLE, Int.reduceBEq, Int.reduceBNe, Int.reduceToNat, hfa]
  refine call_use (few hs hb) ?_
  rintro r h ⟨hr, hs⟩
  subst hr
  simp (disch := omega) only [go_sem, reduceCtorEq, ↓reduceIte, Nat.reduceEqDiff, Nat.reduceAdd, Nat.reduceSub, Nat.reduceMul, Nat.reduceLT, Nat.reduceLeDiff, Int.reduceEq, Int.reduceNe, Int.reduceLT, Int.reduceLE, Int.reduceBEq, Int.reduceBNe, Int.reduceToNat]
  refine cnd_bool (fun q => ?_) (fun q => ?_)
  · simp (disch := omega) only [go_sem, reduceCtorEq, ↓reduceIte, Nat.reduceEqDiff, Nat.reduceAdd, Nat.reduceSub, Nat.reduceMul, Nat.reduceLT, Nat.reduceLeDiff, Int.reduceEq, Int.reduceNe, Int.reduceLT, Int.reduceLE, Int.reduceBEq, Int.reduceBNe, Int.reduceToNat]
  have hfb : fewB b = true := by simpa using q
  have la := (fewB_iff hfa).2
  have lb := (fewB_iff hfb).2
  have na := pcsB_len hfa
  have nb := pcsB_len hfb
  simp (disch := omega) only [go_sem, reduceCtorEq, ↓reduceIte, Nat.reduceEqDiff, Nat.reduceAdd, Nat.reduceSub, Nat.reduceMul, Nat.reduceLT, Nat.reduceLeDiff, Int.reduceEq, Int.reduceNe, Int.reduceLT, Int.reduceLE, Int.reduceBEq, Int.reduceBNe, Int.reduceToNat]
  refine call_use (newWriter hs) fun r h ⟨x, hr, hs⟩ => ?_
  subst hr
  simp (disch := omega) only [go_sem, reduceCtorEq, ↓reduceIte, Nat.reduceEqDiff, Nat.reduceAdd, Nat.reduceSub, Nat.reduceMul, Nat.reduceLT, Nat.reduceLeDiff, Int.reduceEq, Int.reduceNe, Int.reduceLT, Int.reduceLE, Int.reduceBEq, Int.reduceBNe, Int.reduceToNat]
  refine call_use (newWriter hs) fun r h ⟨y, hr, hs⟩ => ?_
  subst hr
  simp (disch := omega) only [go_sem, reduceCtorEq, ↓reduceIte, Nat.reduceEqDiff, Nat.reduceAdd, Nat.reduceSub, Nat.reduceMul, Nat.reduceLT, Nat.reduceLeDiff, Int.reduceEq, Int.reduceNe, Int.reduceLT, Int.reduceLE, Int.reduceBEq, Int.reduceBNe, Int.reduceToNat]
  refine call_use (newWriter hs) fun r h ⟨z, hr, hs⟩ => ?_
  subst hr
  simp (disch := omega) only [go_sem, reduceCtorEq, ↓reduceIte, Nat.reduceEqDiff, Nat.reduceAdd, Nat.reduceSub, Nat.reduceMul, Nat.reduceLT, Nat.reduceLeDiff, Int.reduceEq, Int.reduceNe, Int.reduceLT, Int.reduceLE, Int.reduceBEq, Int.reduceBNe, Int.reduceToNat]
  refine call_use (write hs.p2 hfa (by omega)) ?_
  rintro r h ⟨hr, hs⟩
  subst hr
  simp (disch := omega) only [go_sem, reduceCtorEq, ↓reduceIte, Nat.reduceEqDiff, Nat.reduceAdd, Nat.reduceSub, Nat.reduceMul, Nat.reduceLT, Nat.reduceLeDiff, Int.reduceEq, Int.reduceNe, Int.reduceLT, Int.reduceLE, Int.reduceBEq, Int.reduceBNe, Int.reduceToNat]
  refine call_use (write hs.p2 hfb (by omega)) ?_
  rintro r h ⟨hr, hs⟩
  subst hr
  simp (disch := omega) only [go_sem, reduceCtorEq, ↓reduceIte, Nat.reduceEqDiff, Nat.reduceAdd, Nat.reduceSub, Nat.reduceMul, Nat.reduceLT, Nat.reduceLeDiff, Int.reduceEq, Int.reduceNe, Int.reduceLT, Int.reduceLE, Int.reduceBEq, Int.reduceBNe, Int.reduceToNat]
  refine call_use (write hs.p2 hfa (by omega)) ?_
  rintro r h ⟨hr, hs⟩
  subst hr
  simp (disch := omega) only [go_sem, reduceCtorEq, ↓reduceIte, Nat.reduceEqDiff, Nat.reduceAdd, Nat.reduceSub, Nat.reduceMul, Nat.reduceLT, Nat.reduceLeDiff, Int.reduceEq, Int.reduceNe, Int.reduceLT, Int.reduceLE, Int.reduceBEq, Int.reduceBNe, Int.reduceToNat]
  refine call_use (write hs hfb (by omega)) ?_
  rintro r h ⟨hr, hs⟩
  subst hr
  simp (disch := omega) only [go_sem, reduceCtorEq, ↓reduceIte, Nat.reduceEqDiff, Nat.reduceAdd, Nat.reduceSub, Nat.reduceMul, Nat.reduceLT, Nat.reduceLeDiff, Int.reduceEq, Int.reduceNe, Int.reduceLT, Int.reduceLE, Int.reduceBEq, Int.reduceBNe, Int.reduceToNat]
  refine call_use (wDone hs.p2 (by omega)) ?_
  rintro r h ⟨hr, hs⟩
  subst hr
  simp (disch := omega) only [go_sem, reduceCtorEq, ↓reduceIte, Nat.reduceEqDiff, Nat.reduceAdd, Nat.reduceSub, Nat.reduceMul, Nat.reduceLT, Nat.reduceLeDiff, Int.reduceEq, Int.reduceNe, Int.reduceLT, Int.reduceLE, Int.reduceBEq, Int.reduceBNe, Int.reduceToNat]
  refine call_use' (wDone hs.p2 (by omega)) ?_
  rintro r h ⟨hr, hs⟩
  subst hr
  simp (disch := omega) only [go_sem, reduceCtorEq, ↓reduceIte, Nat.reduceEqDiff, Nat.reduceAdd, Nat.reduceSub, Nat.reduceMul, Nat.reduceLT, Nat.reduceLeDiff, Int.reduceEq, Int.reduceNe, Int.reduceLT, Int.reduceLE, Int.reduceBEq, Int.reduceBNe, Int.reduceToNat]
  refine call_use' (wDone hs.p2 (by omega)) ?_
  rintro r h ⟨hr, hs⟩
  subst hr
  simp (disch := omega) only [go_sem, reduceCtorEq, ↓reduceIte, Nat.reduceEqDiff, Nat.reduceAdd, Nat.reduceSub, Nat.reduceMul, Nat.reduceLT, Nat.reduceLeDiff, Int.reduceEq, Int.reduceNe, Int.reduceLT, Int.reduceLE, Int.reduceBEq, Int.reduceBNe, Int.reduceToNat]

theorem pieces_of {a : AV} (h : (Ty.sl (.st (.fcons (.int .i64) (.fcons (.int .i64) (.fcons .str .fnil))))).one a) : ∃ l, a = pieces l ∧ l.length ≤ 9223372036854775807 := by
  obtain ⟨es, rfl', h2, h3⟩ := h
  cases rfl'
  have : ∃ l : List Pc, es = l.map Pc.row := by
    clear h2
    induction es with
    | nil => exact ⟨[], rfl⟩
    | cons x es ih =>
      obtain ⟨l, rfl⟩ := ih fun y hy => h3 y (List.mem_cons_of_mem _ hy)
      obtain ⟨x1, x2, rfl, ⟨k, rfl, _⟩, y1, y2, rfl, ⟨n, rfl, _⟩, z1, z2, rfl, ⟨s, rfl, _⟩, rfl⟩ := h3 x (List.mem_cons_self ..)
      exact ⟨⟨k, n, s⟩ :: l, rfl⟩
  obtain ⟨l, rfl⟩ := this
  exact ⟨l, rfl, by have : (l.map Pc.row).length ≤ 9223372036854775807 := Nat.le_trans h2 (by decide); simpa using this⟩

theorem joins_law : ∀ vs, Ty.ones [(.sl (.st (.fcons (.int .i64) (.fcons (.int .i64) (.fcons .str .fnil))))), (.sl (.st (.fcons (.int .i64) (.fcons (.int .i64) (.fcons .str .fnil)))))] vs →
    Triple Try.prog 3 vs Hp.emp (fun r _ => r = .bool true)
  | [a, b], ⟨ha, hb, _⟩ => by
    obtain ⟨l, rfl, h1⟩ := pieces_of ha
    obtain ⟨m, rfl, h2⟩ := pieces_of hb
    exact joins h1 h2
end Go.Proofs.Ytedfmdifokbilaa
