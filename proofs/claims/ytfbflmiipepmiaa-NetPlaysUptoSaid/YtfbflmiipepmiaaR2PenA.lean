/- pen's writer and reader: what each call does to bytes. -/
import Derived.Test.YtfbflmiipepmiaaR2Code
import Derived.Test.YtfbflmiipepmiaaHzPen
set_option linter.unusedSimpArgs false
set_option linter.unusedVariables false
set_option maxRecDepth 10000
namespace Go.Proofs.Ytfbflmiipepmiaa
open Go.Hz

/-- A writer at p that has written bs, no more than k bytes. -/
def Wr (p : Nat) (bs : List UInt8) (k : Nat) : Asr := fun h => bs.length ≤ k ∧ ∃ v, sat h [pto p (.row 1 [[v]] 1), Ow 1 v (bs.map eb)]
theorem Wr.iff {h : Hp} {p : Nat} {bs : List UInt8} {k : Nat} {F : List Asr} : sat h (Wr p bs k :: F) ↔ bs.length ≤ k ∧ ∃ v, sat h (pto p (.row 1 [[v]] 1) :: Ow 1 v (bs.map eb) :: F) := by
  unfold Wr
  rw [sat_and, sat_ex]
  simp only [sat_sl, List.cons_append, List.nil_append]

section
variable {h : Hp} {F : List Asr} {p k : Nat} {bs : List UInt8}

theorem number (hs : sat h (Wr p bs k :: F)) {size : Nat} (hsz : size ≤ 8) (n : Int) (hb : k ≤ 1000000000000) :
    Triple Try.prog 98 [.ptr p 1 0 0, .int .i64 size, .int .i64 n] h (fun r h => r = .tup [] ∧ sat h (Wr p (bs ++ beB size n) (k + size) :: F)) := by
  have hk0 := (Wr.iff.1 hs).1
  refine t98 (Nat.le_of_ble_eq_true rfl) ?_
  simp (disch := omega) only [F98, go_sem, reduceCtorEq, ↓reduceIte, Nat.reduceEqDiff, Nat.reduceAdd, Nat.reduceSub, Nat.reduceMul, Nat.reduceLT, Nat.reduceLeDiff, Int.reduceEq, Int.reduceNe, Int.reduceLT, Int.reduceLE, Int.reduceBEq, Int.reduceBNe, Int.reduceToNat]
  refine run_loop (fun e h => ∃ (j : Nat) (a : List UInt8), j ≤ size ∧ a.length = size - j ∧ a ++ beB j n = beB size n ∧ (e 0 = .ptr p 1 0 0 ∧ e 2 = .int .i64 n ∧ e 6 = .int .i64 (j - 1)) ∧ sat h (Wr p (bs ++ a) (k + size) :: F))
    (fun e _ => match e 6 with | .int _ j => (j + 1).toNat | _ => 0) ?_ ?_
  · refine ⟨size, [], Nat.le_refl _, by simp, rfl, ⟨rfl, rfl, rfl⟩, ?_⟩
    obtain ⟨g1, g2⟩ := Wr.iff.1 hs
    exact Wr.iff.2 ⟨by simp; omega, by simpa using g2⟩
  · rintro e h ⟨j, a, hj, hal, ha, he, hs⟩
    obtain ⟨hk, v, hs⟩ := Wr.iff.1 hs
    have hp := hs.at
    simp (disch := omega) only [go_sem, reduceCtorEq, ↓reduceIte, Nat.reduceEqDiff, Nat.reduceAdd, Nat.reduceSub, Nat.reduceMul, Nat.reduceLT, Nat.reduceLeDiff, Int.reduceEq, Int.reduceNe, Int.reduceLT, Int.reduceLE, Int.reduceBEq, Int.reduceBNe, Int.reduceToNat, he]
    refine cnd_dec (fun hc => ?_) (fun hc => ?_)
    · simp (disch := omega) only [go_sem, reduceCtorEq, ↓reduceIte, Nat.reduceEqDiff, Nat.reduceAdd, Nat.reduceSub, Nat.reduceMul, Nat.reduceLT, Nat.reduceLeDiff, Int.reduceEq, Int.reduceNe, Int.reduceLT, Int.reduceLE, Int.reduceBEq, Int.reduceBNe, Int.reduceToNat, he, hp]
      refine ⟨by omega, ?_⟩
      refine new_sat hs fun b hb hs => ?_
      simp (disch := omega) only [go_sem, reduceCtorEq, ↓reduceIte, Nat.reduceEqDiff, Nat.reduceAdd, Nat.reduceSub, Nat.reduceMul, Nat.reduceLT, Nat.reduceLeDiff, Int.reduceEq, Int.reduceNe, Int.reduceLT, Int.reduceLE, Int.reduceBEq, Int.reduceBNe, Int.reduceToNat, he]
      have hy := src_row1 hs.at 1
      rw [bz_cell n j (by omega) (by omega)] at hy
      rw [bz_cell n j (by omega) (by omega)] at hs
      rw [bz_cell n j (by omega) (by omega)]
      refine app_sat hs.p2 hy (atoms_eb _) (by simp at hk ⊢; omega) fun v' h hs hc' ha' => ?_
      have hp := hs.p2.at
      simp (disch := omega) only [go_sem, reduceCtorEq, ↓reduceIte, Nat.reduceEqDiff, Nat.reduceAdd, Nat.reduceSub, Nat.reduceMul, Nat.reduceLT, Nat.reduceLeDiff, Int.reduceEq, Int.reduceNe, Int.reduceLT, Int.reduceLE, Int.reduceBEq, Int.reduceBNe, Int.reduceToNat, he, hp, hc', ha']
      refine ⟨⟨j - 1, a ++ [bz n (j - 1)], by omega, by simp; omega, ?_, by congr 1; omega, Wr.iff.2 ⟨by simp at hk ⊢; omega, v', ?_⟩⟩, by omega⟩
      · rw [← ha]
        obtain ⟨i, rfl⟩ : ∃ i, j = i + 1 := ⟨j - 1, by omega⟩
        simp [beB]
      · have := hs.p2.set (o' := .row 1 [[v']] 1)
        simpa using this.d2
    · simp (disch := omega) only [go_sem, reduceCtorEq, ↓reduceIte, Nat.reduceEqDiff, Nat.reduceAdd, Nat.reduceSub, Nat.reduceMul, Nat.reduceLT, Nat.reduceLeDiff, Int.reduceEq, Int.reduceNe, Int.reduceLT, Int.reduceLE, Int.reduceBEq, Int.reduceBNe, Int.reduceToNat, he]
      have hj0 : j = 0 := by omega
      subst hj0
      exact Wr.iff.2 ⟨by simpa [← ha, beB] using hk, v, by simpa [← ha, beB] using hs⟩

theorem newWriter (hs : sat h F) : Triple Try.prog 61 [] h (fun r h => ∃ p, r = .ptr p 1 0 0 ∧ sat h (Wr p [] 0 :: F)) := by
  refine t61 (Nat.le_of_ble_eq_true rfl) ?_
  simp (disch := omega) only [F61, go_sem, reduceCtorEq, ↓reduceIte, Nat.reduceEqDiff, Nat.reduceAdd, Nat.reduceSub, Nat.reduceMul, Nat.reduceLT, Nat.reduceLeDiff, Int.reduceEq, Int.reduceNe, Int.reduceLT, Int.reduceLE, Int.reduceBEq, Int.reduceBNe, Int.reduceToNat]
  refine new_use fun n hn => ?_
  simp (disch := omega) only [go_sem, reduceCtorEq, ↓reduceIte, Nat.reduceEqDiff, Nat.reduceAdd, Nat.reduceSub, Nat.reduceMul, Nat.reduceLT, Nat.reduceLeDiff, Int.reduceEq, Int.reduceNe, Int.reduceLT, Int.reduceLE, Int.reduceBEq, Int.reduceBNe, Int.reduceToNat]
  exact ⟨n, rfl, Wr.iff.2 ⟨Nat.le_refl _, .nils, (hs.add ow_nil).new hn⟩⟩

theorem wU8 (hs : sat h (Wr p bs k :: F)) (n : Int) (hb : k ≤ 1000000000000) :
    Triple Try.prog 62 [.ptr p 1 0 0, .int .i64 n] h (fun r h => r = .tup [] ∧ sat h (Wr p (bs ++ beB 1 n) (k + 1) :: F)) := by
  refine t62 (Nat.le_of_ble_eq_true rfl) ?_
  simp (disch := omega) only [F62, go_sem, reduceCtorEq, ↓reduceIte, Nat.reduceEqDiff, Nat.reduceAdd, Nat.reduceSub, Nat.reduceMul, Nat.reduceLT, Nat.reduceLeDiff, Int.reduceEq, Int.reduceNe, Int.reduceLT, Int.reduceLE, Int.reduceBEq, Int.reduceBNe, Int.reduceToNat]
  refine call_use (number hs (size := 1) (by omega) n hb) ?_
  rintro r h ⟨hr, hs⟩
  subst hr
  simp (disch := omega) only [go_sem, reduceCtorEq, ↓reduceIte, Nat.reduceEqDiff, Nat.reduceAdd, Nat.reduceSub, Nat.reduceMul, Nat.reduceLT, Nat.reduceLeDiff, Int.reduceEq, Int.reduceNe, Int.reduceLT, Int.reduceLE, Int.reduceBEq, Int.reduceBNe, Int.reduceToNat]
  exact hs
theorem wU32 (hs : sat h (Wr p bs k :: F)) (n : Int) (hb : k ≤ 1000000000000) :
    Triple Try.prog 99 [.ptr p 1 0 0, .int .i64 n] h (fun r h => r = .tup [] ∧ sat h (Wr p (bs ++ beB 4 n) (k + 4) :: F)) := by
  refine t99 (Nat.le_of_ble_eq_true rfl) ?_
  simp (disch := omega) only [F99, go_sem, reduceCtorEq, ↓reduceIte, Nat.reduceEqDiff, Nat.reduceAdd, Nat.reduceSub, Nat.reduceMul, Nat.reduceLT, Nat.reduceLeDiff, Int.reduceEq, Int.reduceNe, Int.reduceLT, Int.reduceLE, Int.reduceBEq, Int.reduceBNe, Int.reduceToNat]
  refine call_use (number hs (size := 4) (by omega) n hb) ?_
  rintro r h ⟨hr, hs⟩
  subst hr
  simp (disch := omega) only [go_sem, reduceCtorEq, ↓reduceIte, Nat.reduceEqDiff, Nat.reduceAdd, Nat.reduceSub, Nat.reduceMul, Nat.reduceLT, Nat.reduceLeDiff, Int.reduceEq, Int.reduceNe, Int.reduceLT, Int.reduceLE, Int.reduceBEq, Int.reduceBNe, Int.reduceToNat]
  exact hs
theorem wInt (hs : sat h (Wr p bs k :: F)) (n : Int) (hb : k ≤ 1000000000000) :
    Triple Try.prog 63 [.ptr p 1 0 0, .int .i64 n] h (fun r h => r = .tup [] ∧ sat h (Wr p (bs ++ beB 8 n) (k + 8) :: F)) := by
  refine t63 (Nat.le_of_ble_eq_true rfl) ?_
  simp (disch := omega) only [F63, go_sem, reduceCtorEq, ↓reduceIte, Nat.reduceEqDiff, Nat.reduceAdd, Nat.reduceSub, Nat.reduceMul, Nat.reduceLT, Nat.reduceLeDiff, Int.reduceEq, Int.reduceNe, Int.reduceLT, Int.reduceLE, Int.reduceBEq, Int.reduceBNe, Int.reduceToNat]
  refine call_use (number hs (size := 8) (by omega) n hb) ?_
  rintro r h ⟨hr, hs⟩
  subst hr
  simp (disch := omega) only [go_sem, reduceCtorEq, ↓reduceIte, Nat.reduceEqDiff, Nat.reduceAdd, Nat.reduceSub, Nat.reduceMul, Nat.reduceLT, Nat.reduceLeDiff, Int.reduceEq, Int.reduceNe, Int.reduceLT, Int.reduceLE, Int.reduceBEq, Int.reduceBNe, Int.reduceToNat]
  exact hs
theorem wText (hs : sat h (Wr p bs k :: F)) (s : List UInt8) {m : Nat} (hm : s.length ≤ m) (hb : k + m ≤ 1000000000000) :
    Triple Try.prog 64 [.ptr p 1 0 0, .str s] h (fun r h => r = .tup [] ∧ sat h (Wr p (bs ++ txB s) (k + 4 + m) :: F)) := by
  refine t64 (Nat.le_of_ble_eq_true rfl) ?_
  simp (disch := omega) only [F64, go_sem, reduceCtorEq, ↓reduceIte, Nat.reduceEqDiff, Nat.reduceAdd, Nat.reduceSub, Nat.reduceMul, Nat.reduceLT, Nat.reduceLeDiff, Int.reduceEq, Int.reduceNe, Int.reduceLT, Int.reduceLE, Int.reduceBEq, Int.reduceBNe, Int.reduceToNat]
  refine call_use (wU32 hs s.length (by omega)) ?_
  rintro r h ⟨hr, hs⟩
  subst hr
  simp (disch := omega) only [go_sem, reduceCtorEq, ↓reduceIte, Nat.reduceEqDiff, Nat.reduceAdd, Nat.reduceSub, Nat.reduceMul, Nat.reduceLT, Nat.reduceLeDiff, Int.reduceEq, Int.reduceNe, Int.reduceLT, Int.reduceLE, Int.reduceBEq, Int.reduceBNe, Int.reduceToNat]
  obtain ⟨hk, v, hs⟩ := Wr.iff.1 hs
  have hp := hs.at
  simp (disch := omega) only [go_sem, reduceCtorEq, ↓reduceIte, Nat.reduceEqDiff, Nat.reduceAdd, Nat.reduceSub, Nat.reduceMul, Nat.reduceLT, Nat.reduceLeDiff, Int.reduceEq, Int.reduceNe, Int.reduceLT, Int.reduceLE, Int.reduceBEq, Int.reduceBNe, Int.reduceToNat, hp]
  refine app_sat hs.p1 eb_str (atoms_eb _) (by simp at hk ⊢; omega) fun v' h hs hc' ha' => ?_
  have hp := hs.p1.at
  simp (disch := omega) only [go_sem, reduceCtorEq, ↓reduceIte, Nat.reduceEqDiff, Nat.reduceAdd, Nat.reduceSub, Nat.reduceMul, Nat.reduceLT, Nat.reduceLeDiff, Int.reduceEq, Int.reduceNe, Int.reduceLT, Int.reduceLE, Int.reduceBEq, Int.reduceBNe, Int.reduceToNat, hp, hc', ha']
  refine Wr.iff.2 ⟨by simp [txB] at hk ⊢; omega, v', ?_⟩
  simpa [txB] using hs.p1.set (o' := .row 1 [[v']] 1)

/-- A slice of bytes apart. -/
theorem clone {v : AV} {b : List UInt8} (hs : sat h F) (hE : ∀ h, sat h F → Bts h v b) (hb : b.length ≤ 1000000000000) :
    Triple Try.prog 87 [v] h (fun r h => sat h (Ow 1 r (b.map eb) :: F)) := by
  have key : ∀ v : AV, v ≠ .lst [] → (∀ h, sat h F → Bts h v b) → Triple Try.prog 87 [v] h (fun r h => sat h (Ow 1 r (b.map eb) :: F)) := by
    intro v hn hE
    refine t87 (Nat.le_of_ble_eq_true rfl) ?_
    rcases Els.nil (hE _ hs) hn with ⟨rfl, he⟩ | ⟨_, hq⟩
    · simp (disch := omega) only [F87, go_sem, reduceCtorEq, ↓reduceIte, Nat.reduceEqDiff, Nat.reduceAdd, Nat.reduceSub, Nat.reduceMul, Nat.reduceLT, Nat.reduceLeDiff, Int.reduceEq, Int.reduceNe, Int.reduceLT, Int.reduceLE, Int.reduceBEq, Int.reduceBNe, Int.reduceToNat]
      have : b = [] := by simpa using he
      subst this
      exact hs.add ow_nil
    · simp (disch := omega) only [F87, go_sem, reduceCtorEq, ↓reduceIte, Nat.reduceEqDiff, Nat.reduceAdd, Nat.reduceSub, Nat.reduceMul, Nat.reduceLT, Nat.reduceLeDiff, Int.reduceEq, Int.reduceNe, Int.reduceLT, Int.reduceLE, Int.reduceBEq, Int.reduceBNe, Int.reduceToNat, hq]
      refine new_sat hs fun n hn hs => ?_
      simp (disch := omega) only [go_sem, reduceCtorEq, ↓reduceIte, Nat.reduceEqDiff, Nat.reduceAdd, Nat.reduceSub, Nat.reduceMul, Nat.reduceLT, Nat.reduceLeDiff, Int.reduceEq, Int.reduceNe, Int.reduceLT, Int.reduceLE, Int.reduceBEq, Int.reduceBNe, Int.reduceToNat]
      have hy := (hE _ hs.drop).1
      refine app_sat (hs.ow (Nat.zero_le _)) hy (atoms_eb _) (by simp; omega) fun v' h hs hc' ha' => ?_
      simp (disch := omega) only [go_sem, reduceCtorEq, ↓reduceIte, Nat.reduceEqDiff, Nat.reduceAdd, Nat.reduceSub, Nat.reduceMul, Nat.reduceLT, Nat.reduceLeDiff, Int.reduceEq, Int.reduceNe, Int.reduceLT, Int.reduceLE, Int.reduceBEq, Int.reduceBNe, Int.reduceToNat, hc']
      simpa using hs
  by_cases hn : v = .lst []
  · subst hn
    have h0 : b = [] := by
      have := (hE _ hs).1
      simpa [srcA] using this
    subst h0
    exact Triple.lst0 (pre := []) (suf := []) (key .nils (by simp) fun _ _ => ⟨rfl, by simp⟩) (key .emp (by simp) fun _ _ => ⟨rfl, by simp⟩)
  · exact key v hn hE

theorem wDone (hs : sat h (Wr p bs k :: F)) (hb : k ≤ 1000000000000) :
    Triple Try.prog 65 [.ptr p 1 0 0] h (fun r h => r = .lst (bs.map eb) ∧ sat h (Wr p bs k :: F)) := by
  obtain ⟨hk, v, hs⟩ := Wr.iff.1 hs
  have hp := hs.at
  refine Triple.lst 1 ?_
  refine t65 (Nat.le_of_ble_eq_true rfl) ?_
  simp (disch := omega) only [F65, hp, go_sem, reduceCtorEq, ↓reduceIte, Nat.reduceEqDiff, Nat.reduceAdd, Nat.reduceSub, Nat.reduceMul, Nat.reduceLT, Nat.reduceLeDiff, Int.reduceEq, Int.reduceNe, Int.reduceLT, Int.reduceLE, Int.reduceBEq, Int.reduceBNe, Int.reduceToNat]
  refine call_use (clone hs (fun h hs => hs.p1.bts) (by omega)) ?_
  intro r h hs
  simp (disch := omega) only [go_sem, reduceCtorEq, ↓reduceIte, Nat.reduceEqDiff, Nat.reduceAdd, Nat.reduceSub, Nat.reduceMul, Nat.reduceLT, Nat.reduceLeDiff, Int.reduceEq, Int.reduceNe, Int.reduceLT, Int.reduceLE, Int.reduceBEq, Int.reduceBNe, Int.reduceToNat]
  exact ⟨_, _, hs, fun h hs => ⟨rfl, Wr.iff.2 ⟨hk, v, hs⟩⟩⟩
end

/-! ### the reader -/

def Rd (p : Nat) (s : RS) : Asr := fun h => s.good ∧ ∃ v, sat h [pto p (.row 3 [[v, .int .i64 s.a, .int .i64 s.err]] 1), Ow 1 v (s.b.map eb)]
theorem Rd.iff {h : Hp} {p : Nat} {s : RS} {F : List Asr} : sat h (Rd p s :: F) ↔ s.good ∧ ∃ v, sat h (pto p (.row 3 [[v, .int .i64 s.a, .int .i64 s.err]] 1) :: Ow 1 v (s.b.map eb) :: F) := by
  unfold Rd
  rw [sat_and, sat_ex]
  simp only [sat_sl, List.cons_append, List.nil_append]

section
variable {h : Hp} {F : List Asr} {p : Nat} {s : RS}

theorem newReader {v : AV} {b : List UInt8} (hs : sat h F) (hE : ∀ h, sat h F → Bts h v b) (hb : b.length ≤ 1000000000000) :
    Triple Try.prog 51 [v] h (fun r h => ∃ p, r = .ptr p 3 0 0 ∧ sat h (Rd p ⟨b, 0, 0⟩ :: F)) := by
  refine t51 (Nat.le_of_ble_eq_true rfl) ?_
  simp (disch := omega) only [F51, go_sem, reduceCtorEq, ↓reduceIte, Nat.reduceEqDiff, Nat.reduceAdd, Nat.reduceSub, Nat.reduceMul, Nat.reduceLT, Nat.reduceLeDiff, Int.reduceEq, Int.reduceNe, Int.reduceLT, Int.reduceLE, Int.reduceBEq, Int.reduceBNe, Int.reduceToNat]
  refine call_use (clone hs hE hb) ?_
  intro r h hs
  simp (disch := omega) only [go_sem, reduceCtorEq, ↓reduceIte, Nat.reduceEqDiff, Nat.reduceAdd, Nat.reduceSub, Nat.reduceMul, Nat.reduceLT, Nat.reduceLeDiff, Int.reduceEq, Int.reduceNe, Int.reduceLT, Int.reduceLE, Int.reduceBEq, Int.reduceBNe, Int.reduceToNat]
  simp (disch := omega) only [go_sem, reduceCtorEq, ↓reduceIte, Nat.reduceEqDiff, Nat.reduceAdd, Nat.reduceSub, Nat.reduceMul, Nat.reduceLT, Nat.reduceLeDiff, Int.reduceEq, Int.reduceNe, Int.reduceLT, Int.reduceLE, Int.reduceBEq, Int.reduceBNe, Int.reduceToNat, hs.els.cells, hs.els.atom]
  refine new_use fun n hn => ?_
  simp (disch := omega) only [go_sem, reduceCtorEq, ↓reduceIte, Nat.reduceEqDiff, Nat.reduceAdd, Nat.reduceSub, Nat.reduceMul, Nat.reduceLT, Nat.reduceLeDiff, Int.reduceEq, Int.reduceNe, Int.reduceLT, Int.reduceLE, Int.reduceBEq, Int.reduceBNe, Int.reduceToNat]
  exact ⟨n, rfl, Rd.iff.2 ⟨⟨Nat.zero_le _, hb, .inl rfl⟩, r, hs.new hn⟩⟩

theorem rErr (hs : sat h (Rd p s :: F)) : Triple Try.prog 89 [.ptr p 3 0 0] h (fun r h => r = .int .i64 s.err ∧ sat h (Rd p s :: F)) := by
  have ⟨g, v, hs'⟩ := Rd.iff.1 hs
  refine t89 (Nat.le_of_ble_eq_true rfl) ?_
  simp (disch := omega) only [F89, hs'.at, go_sem, reduceCtorEq, ↓reduceIte, Nat.reduceEqDiff, Nat.reduceAdd, Nat.reduceSub, Nat.reduceMul, Nat.reduceLT, Nat.reduceLeDiff, Int.reduceEq, Int.reduceNe, Int.reduceLT, Int.reduceLE, Int.reduceBEq, Int.reduceBNe, Int.reduceToNat]
  exact hs
theorem rLeft (hs : sat h (Rd p s :: F)) : Triple Try.prog 93 [.ptr p 3 0 0] h (fun r h => r = .int .i64 ((s.b.length - s.a : Nat) : Int) ∧ sat h (Rd p s :: F)) := by
  have ⟨g, v, hs'⟩ := Rd.iff.1 hs
  have hl := hs'.p1.els.len
  rw [List.length_map] at hl
  have ⟨g1, g2, g3⟩ := g
  refine t93 (Nat.le_of_ble_eq_true rfl) ?_
  simp (disch := omega) only [F93, hs'.at, hl, go_sem, reduceCtorEq, ↓reduceIte, Nat.reduceEqDiff, Nat.reduceAdd, Nat.reduceSub, Nat.reduceMul, Nat.reduceLT, Nat.reduceLeDiff, Int.reduceEq, Int.reduceNe, Int.reduceLT, Int.reduceLE, Int.reduceBEq, Int.reduceBNe, Int.reduceToNat]
  exact ⟨by congr 1; omega, hs⟩

theorem take (hs : sat h (Rd p s :: F)) {n : Nat} (hn : n ≤ 1000000000000) :
    Triple Try.prog 107 [.ptr p 3 0 0, .int .i64 n] h (fun r h => ∃ x, r = .tup [x, .bool (s.ok n)] ∧ sat h (Rd p (s.adv n) :: F) ∧ ∃ l, (l = if s.ok n then (s.b.drop s.a).take n else []) ∧ Bts h x l ∧ bstrA h x = some (.str l) ∧ (s.ok n = false → x = .nils)) := by
  have ⟨g, v, hs'⟩ := Rd.iff.1 hs
  have hp := hs'.at
  have hl := hs'.p1.els.len
  rw [List.length_map] at hl
  have ⟨g1, g2, g3⟩ := g
  by_cases he : s.err = 0
  · have e1 : (s.err != 0) = false := by simp [he]
    have e2 : s.ok n = decide (n ≤ s.b.length - s.a) := by simp [RS.ok, he]
    refine t107 (Nat.le_of_ble_eq_true rfl) ?_
    simp (disch := omega) only [F107, hp, hl, e1, go_sem, reduceCtorEq, ↓reduceIte, Nat.reduceEqDiff, Nat.reduceAdd, Nat.reduceSub, Nat.reduceMul, Nat.reduceLT, Nat.reduceLeDiff, Int.reduceEq, Int.reduceNe, Int.reduceLT, Int.reduceLE, Int.reduceBEq, Int.reduceBNe, Int.reduceToNat]
    refine cnd_dec (fun hc => ?_) (fun hc => ?_)
    · have e3 : s.ok n = false := by rw [e2]; simp; omega
      simp (disch := omega) only [go_sem, reduceCtorEq, ↓reduceIte, Nat.reduceEqDiff, Nat.reduceAdd, Nat.reduceSub, Nat.reduceMul, Nat.reduceLT, Nat.reduceLeDiff, Int.reduceEq, Int.reduceNe, Int.reduceLT, Int.reduceLE, Int.reduceBEq, Int.reduceBNe, Int.reduceToNat, hp]
      refine ⟨.nils, by rw [e3], Rd.iff.2 ⟨g.adv n, v, ?_⟩, [], by rw [e3]; rfl, ⟨rfl, by simp⟩, rfl, fun _ => rfl⟩
      simp only [RS.adv, e3]
      exact hs'.set
    · have e3 : s.ok n = true := by rw [e2]; simp; omega
      have e4 : ((s.a : Int) + n) = ((s.a + n : Nat) : Int) := by omega
      obtain ⟨x, hx1, hx2, hx3⟩ := ow_slc (k := .i64) (k' := .i64) (lo := s.a) (hi := s.a + n) (by omega) (by simp; omega) hs'.p1
      simp (disch := omega) only [go_sem, reduceCtorEq, ↓reduceIte, Nat.reduceEqDiff, Nat.reduceAdd, Nat.reduceSub, Nat.reduceMul, Nat.reduceLT, Nat.reduceLeDiff, Int.reduceEq, Int.reduceNe, Int.reduceLT, Int.reduceLE, Int.reduceBEq, Int.reduceBNe, Int.reduceToNat, hp, e4, hx1]
      have hx4 := hx2 _ _ (hs'.set (o' := .row 3 [[v, AV.int .i64 ((s.a + n : Nat) : Int), AV.int .i64 s.err]] 1)).p1
      have h5 : s.a + n - s.a = n := by omega
      have h6 : List.take n (List.drop s.a (List.map eb s.b)) = ((s.b.drop s.a).take n).map eb := by simp
      rw [h5, h6] at hx4
      refine ⟨x, by rw [e3], Rd.iff.2 ⟨g.adv n, v, ?_⟩, _, by rw [e3]; rfl, hx4, Bts.bstr hx4, by rw [e3]; simp⟩
      simp only [RS.adv, e3]
      exact hs'.set
  · have e1 : (s.err != 0) = true := by simp [he]
    have e2 : s.ok n = false := by simp [RS.ok, he]
    refine t107 (Nat.le_of_ble_eq_true rfl) ?_
    simp (disch := omega) only [F107, hp, hl, e1, go_sem, reduceCtorEq, ↓reduceIte, Nat.reduceEqDiff, Nat.reduceAdd, Nat.reduceSub, Nat.reduceMul, Nat.reduceLT, Nat.reduceLeDiff, Int.reduceEq, Int.reduceNe, Int.reduceLT, Int.reduceLE, Int.reduceBEq, Int.reduceBNe, Int.reduceToNat]
    refine ⟨.nils, by rw [e2], Rd.iff.2 ⟨g.adv n, v, ?_⟩, [], by rw [e2]; rfl, ⟨rfl, by simp⟩, rfl, fun _ => rfl⟩
    simp only [RS.adv, e2]
    exact hs'.set

theorem rNumber (hs : sat h (Rd p s :: F)) {n : Nat} (hn : n ≤ 1000000000000) :
    Triple Try.prog 106 [.ptr p 3 0 0, .int .i64 n] h (fun r h => r = .int .i64 (s.val n) ∧ sat h (Rd p (s.adv n) :: F)) := by
  refine t106 (Nat.le_of_ble_eq_true rfl) ?_
  simp (disch := omega) only [F106, go_sem, reduceCtorEq, ↓reduceIte, Nat.reduceEqDiff, Nat.reduceAdd, Nat.reduceSub, Nat.reduceMul, Nat.reduceLT, Nat.reduceLeDiff, Int.reduceEq, Int.reduceNe, Int.reduceLT, Int.reduceLE, Int.reduceBEq, Int.reduceBNe, Int.reduceToNat]
  refine call_use (take hs hn) fun r h ⟨x, hr, hs, l, hl, hb, _, _⟩ => ?_
  subst hr
  have hlen := hb.len
  have hll : l.length ≤ n := by rw [hl]; split <;> simp; omega
  simp (disch := omega) only [go_sem, reduceCtorEq, ↓reduceIte, Nat.reduceEqDiff, Nat.reduceAdd, Nat.reduceSub, Nat.reduceMul, Nat.reduceLT, Nat.reduceLeDiff, Int.reduceEq, Int.reduceNe, Int.reduceLT, Int.reduceLE, Int.reduceBEq, Int.reduceBNe, Int.reduceToNat, hlen]
  refine run_loop (fun e h1 => ∃ i : Nat, i ≤ l.length ∧ h1 = h ∧ (e 16 = x ∧ e 17 = .int .i64 l.length ∧ e 18 = .int .i64 i ∧ e 7 = .int .u64 (rawN (l.take i))))
    (fun e _ => match e 18 with | .int _ j => (l.length - j).toNat | _ => 0) ?_ ?_
  · exact ⟨0, by omega, rfl, rfl, rfl, rfl, rfl⟩
  · rintro e h1 ⟨i, hi, rfl, he⟩
    simp (disch := omega) only [go_sem, reduceCtorEq, ↓reduceIte, Nat.reduceEqDiff, Nat.reduceAdd, Nat.reduceSub, Nat.reduceMul, Nat.reduceLT, Nat.reduceLeDiff, Int.reduceEq, Int.reduceNe, Int.reduceLT, Int.reduceLE, Int.reduceBEq, Int.reduceBNe, Int.reduceToNat, he]
    refine cnd_dec (fun hc => ?_) (fun hc => ?_)
    · obtain ⟨q, hq1, hq2⟩ := Bts.at hb (k := .i64) (i := i) (by omega)
      simp (disch := omega) only [go_sem, reduceCtorEq, ↓reduceIte, Nat.reduceEqDiff, Nat.reduceAdd, Nat.reduceSub, Nat.reduceMul, Nat.reduceLT, Nat.reduceLeDiff, Int.reduceEq, Int.reduceNe, Int.reduceLT, Int.reduceLE, Int.reduceBEq, Int.reduceBNe, Int.reduceToNat, he, hq1, hq2]
      exact ⟨⟨i + 1, by omega, by simp, by rw [rawN_succ _ _ (by omega)]; rfl⟩, by omega⟩
    · simp (disch := omega) only [go_sem, reduceCtorEq, ↓reduceIte, Nat.reduceEqDiff, Nat.reduceAdd, Nat.reduceSub, Nat.reduceMul, Nat.reduceLT, Nat.reduceLeDiff, Int.reduceEq, Int.reduceNe, Int.reduceLT, Int.reduceLE, Int.reduceBEq, Int.reduceBNe, Int.reduceToNat, he]
      have : i = l.length := by omega
      subst this
      rw [List.take_length, hl]
      refine ⟨?_, hs⟩
      unfold RS.val
      split <;> simp [rawN, *]; rfl

theorem rU8 (hs : sat h (Rd p s :: F)) : Triple Try.prog 88 [.ptr p 3 0 0] h (fun r h => r = .int .i64 (s.val 1) ∧ sat h (Rd p (s.adv 1) :: F)) := by
  refine t88 (Nat.le_of_ble_eq_true rfl) ?_
  simp (disch := omega) only [F88, go_sem, reduceCtorEq, ↓reduceIte, Nat.reduceEqDiff, Nat.reduceAdd, Nat.reduceSub, Nat.reduceMul, Nat.reduceLT, Nat.reduceLeDiff, Int.reduceEq, Int.reduceNe, Int.reduceLT, Int.reduceLE, Int.reduceBEq, Int.reduceBNe, Int.reduceToNat]
  refine call_use (rNumber hs (n := 1) (by omega)) ?_
  rintro r h ⟨hr, hs⟩
  subst hr
  simp (disch := omega) only [go_sem, reduceCtorEq, ↓reduceIte, Nat.reduceEqDiff, Nat.reduceAdd, Nat.reduceSub, Nat.reduceMul, Nat.reduceLT, Nat.reduceLeDiff, Int.reduceEq, Int.reduceNe, Int.reduceLT, Int.reduceLE, Int.reduceBEq, Int.reduceBNe, Int.reduceToNat]
  exact hs
theorem rU32 (hs : sat h (Rd p s :: F)) : Triple Try.prog 85 [.ptr p 3 0 0] h (fun r h => r = .int .i64 (s.val 4) ∧ sat h (Rd p (s.adv 4) :: F)) := by
  refine t85 (Nat.le_of_ble_eq_true rfl) ?_
  simp (disch := omega) only [F85, go_sem, reduceCtorEq, ↓reduceIte, Nat.reduceEqDiff, Nat.reduceAdd, Nat.reduceSub, Nat.reduceMul, Nat.reduceLT, Nat.reduceLeDiff, Int.reduceEq, Int.reduceNe, Int.reduceLT, Int.reduceLE, Int.reduceBEq, Int.reduceBNe, Int.reduceToNat]
  refine call_use (rNumber hs (n := 4) (by omega)) ?_
  rintro r h ⟨hr, hs⟩
  subst hr
  simp (disch := omega) only [go_sem, reduceCtorEq, ↓reduceIte, Nat.reduceEqDiff, Nat.reduceAdd, Nat.reduceSub, Nat.reduceMul, Nat.reduceLT, Nat.reduceLeDiff, Int.reduceEq, Int.reduceNe, Int.reduceLT, Int.reduceLE, Int.reduceBEq, Int.reduceBNe, Int.reduceToNat]
  exact hs
theorem rInt (hs : sat h (Rd p s :: F)) : Triple Try.prog 90 [.ptr p 3 0 0] h (fun r h => r = .int .i64 (s.val 8) ∧ sat h (Rd p (s.adv 8) :: F)) := by
  refine t90 (Nat.le_of_ble_eq_true rfl) ?_
  simp (disch := omega) only [F90, go_sem, reduceCtorEq, ↓reduceIte, Nat.reduceEqDiff, Nat.reduceAdd, Nat.reduceSub, Nat.reduceMul, Nat.reduceLT, Nat.reduceLeDiff, Int.reduceEq, Int.reduceNe, Int.reduceLT, Int.reduceLE, Int.reduceBEq, Int.reduceBNe, Int.reduceToNat]
  refine call_use (rNumber hs (n := 8) (by omega)) ?_
  rintro r h ⟨hr, hs⟩
  subst hr
  simp (disch := omega) only [go_sem, reduceCtorEq, ↓reduceIte, Nat.reduceEqDiff, Nat.reduceAdd, Nat.reduceSub, Nat.reduceMul, Nat.reduceLT, Nat.reduceLeDiff, Int.reduceEq, Int.reduceNe, Int.reduceLT, Int.reduceLE, Int.reduceBEq, Int.reduceBNe, Int.reduceToNat]
  exact hs
theorem rText (hs : sat h (Rd p s :: F)) : Triple Try.prog 92 [.ptr p 3 0 0] h (fun r h => r = .str s.tx ∧ sat h (Rd p s.atx :: F)) := by
  have ⟨g, v, hs'⟩ := Rd.iff.1 hs
  have ⟨g1, g2, g3⟩ := g
  have ⟨k1, k2⟩ := s.val_txk
  refine t92 (Nat.le_of_ble_eq_true rfl) ?_
  simp (disch := omega) only [F92, hs'.at, go_sem, reduceCtorEq, ↓reduceIte, Nat.reduceEqDiff, Nat.reduceAdd, Nat.reduceSub, Nat.reduceMul, Nat.reduceLT, Nat.reduceLeDiff, Int.reduceEq, Int.reduceNe, Int.reduceLT, Int.reduceLE, Int.reduceBEq, Int.reduceBNe, Int.reduceToNat]
  refine call_use (rU32 hs) ?_
  rintro r h ⟨hr, hs⟩
  subst hr
  simp (disch := omega) only [go_sem, reduceCtorEq, ↓reduceIte, Nat.reduceEqDiff, Nat.reduceAdd, Nat.reduceSub, Nat.reduceMul, Nat.reduceLT, Nat.reduceLeDiff, Int.reduceEq, Int.reduceNe, Int.reduceLT, Int.reduceLE, Int.reduceBEq, Int.reduceBNe, Int.reduceToNat, k1]
  refine call_use (take hs (n := s.txk) (by omega)) fun r h ⟨x, hr, hs, l, hl, hb, hx, hn⟩ => ?_
  subst hr
  cases hok : (s.adv 4).ok s.txk
  · have ⟨g', v', hs'⟩ := Rd.iff.1 hs
    have hn := hn hok
    subst hn
    simp (disch := omega) only [go_sem, reduceCtorEq, ↓reduceIte, Nat.reduceEqDiff, Nat.reduceAdd, Nat.reduceSub, Nat.reduceMul, Nat.reduceLT, Nat.reduceLeDiff, Int.reduceEq, Int.reduceNe, Int.reduceLT, Int.reduceLE, Int.reduceBEq, Int.reduceBNe, Int.reduceToNat, hs'.at]
    refine ⟨by simp [RS.tx, hok], Rd.iff.2 ⟨g.atx, v', ?_⟩⟩
    have h8 : ((s.adv 4).adv s.txk).err = 8 := by
      show (if (s.adv 4).ok s.txk then _ else (8 : Int)) = 8
      rw [hok]; rfl
    rw [h8]
    have e : s.atx = ⟨s.b, s.a, 8⟩ := by unfold RS.atx; rw [hok]; rfl
    rw [e]
    exact hs'.set
  · simp (disch := omega) only [go_sem, reduceCtorEq, ↓reduceIte, Nat.reduceEqDiff, Nat.reduceAdd, Nat.reduceSub, Nat.reduceMul, Nat.reduceLT, Nat.reduceLeDiff, Int.reduceEq, Int.reduceNe, Int.reduceLT, Int.reduceLE, Int.reduceBEq, Int.reduceBNe, Int.reduceToNat, hx]
    rw [hok] at hl
    refine ⟨by rw [hl]; simp [RS.tx, hok]; rfl, ?_⟩
    have e : s.atx = (s.adv 4).adv s.txk := by unfold RS.atx; rw [hok]; rfl
    rw [e]
    exact hs
end
end Go.Proofs.Ytfbflmiipepmiaa
