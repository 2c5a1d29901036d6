/- The law PenTurns, walked. -/
import Derived.Test.YtedfmdifokbilaaPenFrames
set_option linter.unusedSimpArgs false
set_option linter.unusedVariables false
set_option maxRecDepth 10000
namespace Go.Proofs.Ytedfmdifokbilaa
open Go.Hz

theorem set_eb {b : List UInt8} {i : Nat} {x : UInt8} : (b.map eb).set i [.int .u8 x.toNat] = (b.set i x).map eb := by
  rw [List.map_set]; rfl
theorem u8_add (x y : UInt8) : IntKind.u8.wrap ((x.toNat : Int) + y.toNat) = ((x + y).toNat : Int) := by
  simp only [IntKind.wrap, IntKind.signed, IntKind.bits]
  rw [UInt8.toNat_add]
  simp

theorem turns {x : List UInt8} {ks : List Int} {m : List UInt8} (hx : x.length ≤ 9223372036854775807) (hk : ks.length ≤ 9223372036854775807) (hm : m.length ≤ 9223372036854775807) (hks : ∀ k ∈ ks, -9223372036854775808 ≤ k ∧ k ≤ 9223372036854775807) :
    Triple Try.prog 8 [.lst (x.map eb), nums ks, .lst (m.map eb)] Hp.emp (fun r _ => r = .bool true) := by
  have hs : sat Hp.emp [] := trivial
  refine t8 (Nat.le_of_ble_eq_true rfl) ?_
  simp (disch := omega) only [F8, go_sem, reduceCtorEq, ↓reduceIte, Nat.reduceEqDiff, Nat.reduceAdd, Nat.reduceSub, Nat.reduceMul, Nat.reduceLT, Nat.reduceLeDiff, Int.reduceEq, Int.reduceNe, Int.reduceLT, Int.reduceLE, Int.reduceBEq, Int.reduceBNe, Int.reduceToNat]
  refine call_use (known hs) ?_
  rintro r h ⟨hr, hs⟩
  subst hr
  simp (disch := omega) only [go_sem, reduceCtorEq, ↓reduceIte, Nat.reduceEqDiff, Nat.reduceAdd, Nat.reduceSub, Nat.reduceMul, Nat.reduceLT, Nat.reduceLeDiff, Int.reduceEq, Int.reduceNe, Int.reduceLT, Int.reduceLE, Int.reduceBEq, Int.reduceBNe, Int.reduceToNat]
  refine cnd_dec (fun hc => ?_) (fun hc => ?_)
  · simp (disch := omega) only [go_sem, reduceCtorEq, ↓reduceIte, Nat.reduceEqDiff, Nat.reduceAdd, Nat.reduceSub, Nat.reduceMul, Nat.reduceLT, Nat.reduceLeDiff, Int.reduceEq, Int.reduceNe, Int.reduceLT, Int.reduceLE, Int.reduceBEq, Int.reduceBNe, Int.reduceToNat]
  simp (disch := omega) only [go_sem, reduceCtorEq, ↓reduceIte, Nat.reduceEqDiff, Nat.reduceAdd, Nat.reduceSub, Nat.reduceMul, Nat.reduceLT, Nat.reduceLeDiff, Int.reduceEq, Int.reduceNe, Int.reduceLT, Int.reduceLE, Int.reduceBEq, Int.reduceBNe, Int.reduceToNat]
  refine call_use (xFrame hs (fun _ _ => Els.lst (eb_one _)) (by omega)) ?_
  intro r h hs
  simp (disch := omega) only [go_sem, reduceCtorEq, ↓reduceIte, Nat.reduceEqDiff, Nat.reduceAdd, Nat.reduceSub, Nat.reduceMul, Nat.reduceLT, Nat.reduceLeDiff, Int.reduceEq, Int.reduceNe, Int.reduceLT, Int.reduceLE, Int.reduceBEq, Int.reduceBNe, Int.reduceToNat]
  have hfl := frameB_length x
  refine run_up (N := ks.length) (fun i e h => ∃ b, b.length = (frameB x).length ∧ (e 1 = nums ks ∧ e 2 = .lst (m.map eb) ∧ e 8 = .int .i64 i) ∧ sat h [Ow 1 (e 7) (b.map eb)])
    ⟨frameB x, rfl, ⟨rfl, rfl, rfl⟩, by simpa [Env.upd_apply] using hs⟩ ?_
  rintro i e h hi ⟨b, hbl, he, hs⟩
  have hcase : (((i : Int) < ks.length) ∧ ((i : Int) < m.length) ∧ ((i : Int) < 4)) ∨ (¬ (i : Int) < ks.length) ∨ (((i : Int) < ks.length) ∧ ¬ (i : Int) < m.length) ∨ (((i : Int) < ks.length) ∧ ((i : Int) < m.length) ∧ ¬ (i : Int) < 4) := by omega
  rcases hcase with ⟨c1, c2, c3⟩ | c1 | ⟨c1, c2⟩ | ⟨c1, c2, c3⟩
  · have i1 : i < ks.length := by omega
    have i2 : i < m.length := by omega
    have hki := hks _ (List.getElem_mem i1)
    have hm1 : iaA 1 (.lst (m.map eb)) (.int .i64 (i : Int)) = some (.ro (eb m[i])) := ia_lst i2 fun _ => rfl
    rcases hs.cases with ⟨_, h0, _⟩ | ⟨bl, cap, hv, g, hcap⟩
    · have h0' : b = [] := by simpa using h0
      rw [h0', List.length_nil] at hbl
      omega
    have hbl2 : (b.map eb).length = (frameB x).length := by simpa using hbl
    rw [hbl2] at hv
    simp (disch := omega) only [go_sem, reduceCtorEq, ↓reduceIte, Nat.reduceEqDiff, Nat.reduceAdd, Nat.reduceSub, Nat.reduceMul, Nat.reduceLT, Nat.reduceLeDiff, Int.reduceEq, Int.reduceNe, Int.reduceLT, Int.reduceLE, Int.reduceBEq, Int.reduceBNe, Int.reduceToNat, he, num_len, hv, num_at i1, hm1, eb, c1, c2, c3]
    refine call_use' (within hs hki.1 hki.2 (n := (frameB x).length) (by omega) (by omega)) ?_
    rintro r h ⟨k, hr, hkl, hs⟩
    subst hr
    have g2 : sat h [pto bl (.row 1 (b.map eb) cap)] := by
      rcases hs.cases with ⟨_, h0, _⟩ | ⟨bl', cap', hv', g', _⟩
      · have h0' : b = [] := by simpa using h0
        rw [h0', List.length_nil] at hbl
        omega
      · rw [hv, hbl2] at hv'
        cases hv'
        exact g'
    have hb := g2.at
    have hk1 : (b.map eb)[k]? = some [.int .u8 b[k].toNat] := by simp [eb, hbl, hkl]
    simp (disch := omega) only [go_sem, reduceCtorEq, ↓reduceIte, Nat.reduceEqDiff, Nat.reduceAdd, Nat.reduceSub, Nat.reduceMul, Nat.reduceLT, Nat.reduceLeDiff, Int.reduceEq, Int.reduceNe, Int.reduceLT, Int.reduceLE, Int.reduceBEq, Int.reduceBNe, Int.reduceToNat, he, hv, num_at i1, hm1, eb, c1, c2, c3, hb, hk1, Int.toNat_natCast]
    refine ⟨by omega, by omega, by omega, b.set k (b[k] + m[i]), by simp [hbl], rfl, ?_⟩
    rw [u8_add, set_eb]
    have := (g2.set (o' := .row 1 ((b.set k (b[k] + m[i])).map eb) cap)).ow (by simp; simpa using hcap)
    simpa [hbl] using this
  all_goals
    generalize hv : e 7 = v at hs
    first
      | simp (disch := omega) only [go_sem, reduceCtorEq, ↓reduceIte, Nat.reduceEqDiff, Nat.reduceAdd, Nat.reduceSub, Nat.reduceMul, Nat.reduceLT, Nat.reduceLeDiff, Int.reduceEq, Int.reduceNe, Int.reduceLT, Int.reduceLE, Int.reduceBEq, Int.reduceBNe, Int.reduceToNat, he, hv, num_len, c1, c2, c3]
      | simp (disch := omega) only [go_sem, reduceCtorEq, ↓reduceIte, Nat.reduceEqDiff, Nat.reduceAdd, Nat.reduceSub, Nat.reduceMul, Nat.reduceLT, Nat.reduceLeDiff, Int.reduceEq, Int.reduceNe, Int.reduceLT, Int.reduceLE, Int.reduceBEq, Int.reduceBNe, Int.reduceToNat, he, hv, num_len, c1, c2]
      | simp (disch := omega) only [go_sem, reduceCtorEq, ↓reduceIte, Nat.reduceEqDiff, Nat.reduceAdd, Nat.reduceSub, Nat.reduceMul, Nat.reduceLT, Nat.reduceLeDiff, Int.reduceEq, Int.reduceNe, Int.reduceLT, Int.reduceLE, Int.reduceBEq, Int.reduceBNe, Int.reduceToNat, he, hv, num_len, c1]
    refine new_sat hs fun n hn hs => ?_
    simp (disch := omega) only [go_sem, reduceCtorEq, ↓reduceIte, Nat.reduceEqDiff, Nat.reduceAdd, Nat.reduceSub, Nat.reduceMul, Nat.reduceLT, Nat.reduceLeDiff, Int.reduceEq, Int.reduceNe, Int.reduceLT, Int.reduceLE, Int.reduceBEq, Int.reduceBNe, Int.reduceToNat, hv]
    refine app_sat (hs.ow (Nat.zero_le _)) hs.p1.els.1 (atoms_eb _) (by simp; omega) ?_
    intro v' h hs hc' ha'
    simp (disch := omega) only [go_sem, reduceCtorEq, ↓reduceIte, Nat.reduceEqDiff, Nat.reduceAdd, Nat.reduceSub, Nat.reduceMul, Nat.reduceLT, Nat.reduceLeDiff, Int.reduceEq, Int.reduceNe, Int.reduceLT, Int.reduceLE, Int.reduceBEq, Int.reduceBNe, Int.reduceToNat, hv]
    refine call_use (pUnframe hs (fun h hs => hs.bts) hs.cap (by omega)) ?_
    rintro r h ⟨hr, hs⟩
    subst hr
    simp (disch := omega) only [go_sem, reduceCtorEq, ↓reduceIte, Nat.reduceEqDiff, Nat.reduceAdd, Nat.reduceSub, Nat.reduceMul, Nat.reduceLT, Nat.reduceLeDiff, Int.reduceEq, Int.reduceNe, Int.reduceLT, Int.reduceLE, Int.reduceBEq, Int.reduceBNe, Int.reduceToNat, hv]
    refine call_use (xUnframe hs.p1 (fun h hs => hs.bts) hs.p1.cap (by omega) ⟨hs.p1.els.cells, hs.p1.els.atom⟩) ?_
    rintro r h ⟨hr, hs⟩
    subst hr
    simp (disch := omega) only [go_sem, reduceCtorEq, ↓reduceIte, Nat.reduceEqDiff, Nat.reduceAdd, Nat.reduceSub, Nat.reduceMul, Nat.reduceLT, Nat.reduceLeDiff, Int.reduceEq, Int.reduceNe, Int.reduceLT, Int.reduceLE, Int.reduceBEq, Int.reduceBNe, Int.reduceToNat]

theorem turns_law (vs : List AV) (h : Ty.ones [.sl (.int .u8), .sl (.int .i64), .sl (.int .u8)] vs) : Triple Try.prog 8 vs Hp.emp (fun r _ => r = .bool true) := by
  obtain ⟨a, _, rfl, ha, h⟩ := ones_cons h
  obtain ⟨b, _, rfl, hb, h⟩ := ones_cons h
  obtain ⟨c, _, rfl, hc, h⟩ := ones_cons h
  obtain rfl := ones_nil h
  obtain ⟨l, rfl, h1⟩ := bytes_of ha
  obtain ⟨k, rfl, h2, h4⟩ := nums_of hb
  obtain ⟨m, rfl, h3⟩ := bytes_of hc
  exact turns h1 h2 h3 h4
end Go.Proofs.Ytedfmdifokbilaa
