/- What the laws of chapter 1 share: the examples, pieces, and writing them. -/
import Derived.Test.YtedfmdifokbilaaPenC
set_option linter.unusedSimpArgs false
set_option linter.unusedVariables false
set_option maxRecDepth 10000
namespace Go.Proofs.Ytedfmdifokbilaa
open Go.Hz

theorem known {h : Hp} {F : List Asr} (hs : sat h F) : Triple Try.prog 9 [] h (fun r h => r = .bool true ∧ sat h F) := by
  refine t9 (Nat.le_of_ble_eq_true rfl) ?_
  simp (disch := omega) only [F9, go_sem, reduceCtorEq, ↓reduceIte, Nat.reduceEqDiff, Nat.reduceAdd, Nat.reduceSub, Nat.reduceMul, Nat.reduceLT, Nat.reduceLeDiff, Int.reduceEq, Int.reduceNe, Int.reduceLT, Int.reduceLE, Int.reduceBEq, Int.reduceBNe, Int.reduceToNat]
  refine call_use (newWriter hs) fun r h ⟨p, hr, hs⟩ => ?_
  subst hr
  simp (disch := omega) only [go_sem, reduceCtorEq, ↓reduceIte, Nat.reduceEqDiff, Nat.reduceAdd, Nat.reduceSub, Nat.reduceMul, Nat.reduceLT, Nat.reduceLeDiff, Int.reduceEq, Int.reduceNe, Int.reduceLT, Int.reduceLE, Int.reduceBEq, Int.reduceBNe, Int.reduceToNat]
  refine call_use (wText hs [97, 98] (m := 2) (by simp) (by simp)) ?_
  rintro r h ⟨hr, hs⟩
  subst hr
  simp (disch := omega) only [go_sem, reduceCtorEq, ↓reduceIte, Nat.reduceEqDiff, Nat.reduceAdd, Nat.reduceSub, Nat.reduceMul, Nat.reduceLT, Nat.reduceLeDiff, Int.reduceEq, Int.reduceNe, Int.reduceLT, Int.reduceLE, Int.reduceBEq, Int.reduceBNe, Int.reduceToNat]
  refine new_sat hs fun n hn hs => ?_
  simp (disch := omega) only [go_sem, reduceCtorEq, ↓reduceIte, Nat.reduceEqDiff, Nat.reduceAdd, Nat.reduceSub, Nat.reduceMul, Nat.reduceLT, Nat.reduceLeDiff, Int.reduceEq, Int.reduceNe, Int.reduceLT, Int.reduceLE, Int.reduceBEq, Int.reduceBNe, Int.reduceToNat, cvbE, effR]
  have hb : ∀ h, sat h (pto n (.row 1 [[.int .u8 49], [.int .u8 50], [.int .u8 51], [.int .u8 52], [.int .u8 53], [.int .u8 54], [.int .u8 55], [.int .u8 56], [.int .u8 57]] 9) :: Wr p (txB [97, 98]) 6 :: F) → Bts h (.arr n 1 0 9 9) B9 :=
    fun h hs => ⟨by simp [srcA, hs.at]; rfl, by simp⟩
  refine call_use (pFrame hs hb (by decide)) ?_
  intro r h hs
  simp (disch := omega) only [go_sem, reduceCtorEq, ↓reduceIte, Nat.reduceEqDiff, Nat.reduceAdd, Nat.reduceSub, Nat.reduceMul, Nat.reduceLT, Nat.reduceLeDiff, Int.reduceEq, Int.reduceNe, Int.reduceLT, Int.reduceLE, Int.reduceBEq, Int.reduceBNe, Int.reduceToNat]
  refine call_use (wDone hs.p2 (by omega)) ?_
  rintro r h ⟨hr, hs⟩
  subst hr
  simp (disch := omega) only [go_sem, reduceCtorEq, ↓reduceIte, Nat.reduceEqDiff, Nat.reduceAdd, Nat.reduceSub, Nat.reduceMul, Nat.reduceLT, Nat.reduceLeDiff, Int.reduceEq, Int.reduceNe, Int.reduceLT, Int.reduceLE, Int.reduceBEq, Int.reduceBNe, Int.reduceToNat]
  have hbf := hs.p1.bts
  obtain ⟨x, hx, hxE, _⟩ := slc_E (A := fun h => sat h (Ow 1 r ((frameB B9).map eb) :: F)) (hs.p1.tl fun _ h => h.drop.drop) (fun h hs => hs.els) hs.p1.cap .i64 .i64 (lo := 4) (hi := 8) (by omega) (by decide +kernel)
  have hbx : Bts h x (((frameB B9).drop 4).take (8 - 4)) := by simpa [Bts] using hxE _ (hs.p1.tl fun _ h => h.drop.drop)
  have hx1' : slcL 1 r (some (.int .i64 4)) (some (.int .i64 8)) = some x := hx
  simp (disch := omega) only [go_sem, reduceCtorEq, ↓reduceIte, Nat.reduceEqDiff, Nat.reduceAdd, Nat.reduceSub, Nat.reduceMul, Nat.reduceLT, Nat.reduceLeDiff, Int.reduceEq, Int.reduceNe, Int.reduceLT, Int.reduceLE, Int.reduceBEq, Int.reduceBNe, Int.reduceToNat, hbf.len, hx1', hbx.bstr, k1, k2, k3]
  exact hs.drop.drop.drop

/-- A piece that is written. -/
structure Pc where
  kind : Int
  n : Int
  s : List UInt8
def Pc.row (p : Pc) : List AV := [.int .i64 p.kind, .int .i64 p.n, .str p.s]
def pieces (l : List Pc) : AV := .lst (l.map Pc.row)
def Pc.B (p : Pc) : List UInt8 := if p.kind.tmod 4 = 0 then beB 1 p.n else if p.kind.tmod 4 = 1 then beB 4 p.n else if p.kind.tmod 4 = 2 then beB 8 p.n else txB p.s
def fewB (l : List Pc) : Bool := l.all (fun p => decide (p.s.length ≤ 500)) && decide (l.length ≤ 40)
theorem pc_at {l : List Pc} {i : Nat} (hi : i < l.length) : iaA 3 (pieces l) (.int .i64 (i : Int)) = some (.ro l[i].row) := ia_lst hi fun _ => rfl
theorem pc_len {l : List Pc} : lenL (pieces l) = some (.int .i64 l.length) := by simp [pieces, lenL]

theorem few {h : Hp} {F : List Asr} {l : List Pc} (hs : sat h F) (hl : l.length ≤ 9223372036854775807) :
    Triple Try.prog 10 [pieces l] h (fun r h => r = .bool (fewB l) ∧ sat h F) := by
  refine t10 (Nat.le_of_ble_eq_true rfl) ?_
  simp (disch := omega) only [F10, go_sem, reduceCtorEq, ↓reduceIte, Nat.reduceEqDiff, Nat.reduceAdd, Nat.reduceSub, Nat.reduceMul, Nat.reduceLT, Nat.reduceLeDiff, Int.reduceEq, Int.reduceNe, Int.reduceLT, Int.reduceLE, Int.reduceBEq, Int.reduceBNe, Int.reduceToNat]
  refine run_loop (fun e h2 => ∃ i : Nat, i ≤ l.length ∧ h2 = h ∧ (e 0 = pieces l ∧ e 3 = .int .i64 i) ∧ ∀ p ∈ l.take i, p.s.length ≤ 500)
    (fun e _ => match e 3 with | .int _ j => (l.length - j).toNat | _ => 0) ?_ ?_
  · exact ⟨0, by omega, rfl, ⟨rfl, rfl⟩, by simp⟩
  · rintro e h2 ⟨i, hi, rfl, he, hall⟩
    simp (disch := omega) only [go_sem, reduceCtorEq, ↓reduceIte, Nat.reduceEqDiff, Nat.reduceAdd, Nat.reduceSub, Nat.reduceMul, Nat.reduceLT, Nat.reduceLeDiff, Int.reduceEq, Int.reduceNe, Int.reduceLT, Int.reduceLE, Int.reduceBEq, Int.reduceBNe, Int.reduceToNat, he, pc_len]
    refine cnd_dec (fun hc => ?_) (fun hc => ?_)
    · have hi' : i < l.length := by omega
      simp (disch := omega) only [go_sem, reduceCtorEq, ↓reduceIte, Nat.reduceEqDiff, Nat.reduceAdd, Nat.reduceSub, Nat.reduceMul, Nat.reduceLT, Nat.reduceLeDiff, Int.reduceEq, Int.reduceNe, Int.reduceLT, Int.reduceLE, Int.reduceBEq, Int.reduceBNe, Int.reduceToNat, he, pc_at hi', Pc.row]
      refine cnd_dec (fun hc => ?_) (fun hc => ?_)
      · simp (disch := omega) only [go_sem, reduceCtorEq, ↓reduceIte, Nat.reduceEqDiff, Nat.reduceAdd, Nat.reduceSub, Nat.reduceMul, Nat.reduceLT, Nat.reduceLeDiff, Int.reduceEq, Int.reduceNe, Int.reduceLT, Int.reduceLE, Int.reduceBEq, Int.reduceBNe, Int.reduceToNat, he]
        refine ⟨?_, hs⟩
        have : ¬ l.all (fun p => decide (p.s.length ≤ 500)) = true := by
          intro hh
          have := of_decide_eq_true (List.all_eq_true.1 hh l[i] (List.getElem_mem hi'))
          omega
        unfold fewB
        rw [Bool.not_eq_true] at this
        rw [this]
        rfl
      · simp (disch := omega) only [go_sem, reduceCtorEq, ↓reduceIte, Nat.reduceEqDiff, Nat.reduceAdd, Nat.reduceSub, Nat.reduceMul, Nat.reduceLT, Nat.reduceLeDiff, Int.reduceEq, Int.reduceNe, Int.reduceLT, Int.reduceLE, Int.reduceBEq, Int.reduceBNe, Int.reduceToNat, he]
        refine ⟨⟨i + 1, by omega, by simp, fun p hp => ?_⟩, by omega⟩
        rw [List.take_succ_eq_append_getElem hi'] at hp
        rcases List.mem_append.1 hp with hp | hp
        · exact hall p hp
        · simp at hp
          subst hp
          omega
    · simp (disch := omega) only [go_sem, reduceCtorEq, ↓reduceIte, Nat.reduceEqDiff, Nat.reduceAdd, Nat.reduceSub, Nat.reduceMul, Nat.reduceLT, Nat.reduceLeDiff, Int.reduceEq, Int.reduceNe, Int.reduceLT, Int.reduceLE, Int.reduceBEq, Int.reduceBNe, Int.reduceToNat, he, pc_len]
      have : i = l.length := by omega
      subst this
      rw [List.take_length] at hall
      refine ⟨?_, hs⟩
      have h1 : l.all (fun p => decide (p.s.length ≤ 500)) = true := List.all_eq_true.2 fun p hp => decide_eq_true (hall p hp)
      unfold fewB
      rw [h1, Bool.true_and]
      congr 1
      apply decide_eq_decide.2
      omega

theorem fewB_iff {l : List Pc} (h : fewB l = true) : (∀ p ∈ l, p.s.length ≤ 500) ∧ l.length ≤ 40 := by
  unfold fewB at h
  simpa using h

def pcsB (l : List Pc) : List UInt8 := (l.map Pc.B).flatten
theorem pcsB_succ {l : List Pc} {i : Nat} (hi : i < l.length) : pcsB (l.take (i + 1)) = pcsB (l.take i) ++ l[i].B := by
  unfold pcsB
  rw [List.take_succ_eq_append_getElem hi]
  simp only [List.map_append, List.flatten_append, List.map_cons, List.map_nil, List.flatten_cons, List.flatten_nil, List.append_nil]

theorem write {h : Hp} {F : List Asr} {l : List Pc} {p k : Nat} {bs : List UInt8} (hs : sat h (Wr p bs k :: F)) (hf : fewB l = true) (hk : k ≤ 100000000000) :
    Triple Try.prog 12 [.ptr p 1 0 0, pieces l] h (fun r h => r = .tup [] ∧ sat h (Wr p (bs ++ pcsB l) (k + 504 * l.length) :: F)) := by
  obtain ⟨hf1, hf2⟩ := fewB_iff hf
  refine t12 (Nat.le_of_ble_eq_true rfl) ?_
  simp (disch := omega) only [F12, go_sem, reduceCtorEq, ↓reduceIte, Nat.reduceEqDiff, Nat.reduceAdd, Nat.reduceSub, Nat.reduceMul, Nat.reduceLT, Nat.reduceLeDiff, Int.reduceEq, Int.reduceNe, Int.reduceLT, Int.reduceLE, Int.reduceBEq, Int.reduceBNe, Int.reduceToNat]
  refine run_loop (fun e h => ∃ i : Nat, i ≤ l.length ∧ sat h (Wr p (bs ++ pcsB (l.take i)) (k + 504 * i) :: F) ∧ (e 0 = .ptr p 1 0 0 ∧ e 1 = pieces l ∧ e 4 = .int .i64 i))
    (fun e _ => match e 4 with | .int _ j => (l.length - j).toNat | _ => 0) ?_ ?_
  · exact ⟨0, by omega, by simpa [pcsB] using hs, rfl, rfl, rfl⟩
  · rintro e h ⟨i, hi, hs, he⟩
    simp (disch := omega) only [go_sem, reduceCtorEq, ↓reduceIte, Nat.reduceEqDiff, Nat.reduceAdd, Nat.reduceSub, Nat.reduceMul, Nat.reduceLT, Nat.reduceLeDiff, Int.reduceEq, Int.reduceNe, Int.reduceLT, Int.reduceLE, Int.reduceBEq, Int.reduceBNe, Int.reduceToNat, he, pc_len]
    refine cnd_dec (fun hc => ?_) (fun hc => ?_)
    · have hi' : i < l.length := by omega
      have fin : ∀ (h : Hp) (m : Nat), m ≤ 504 → sat h (Wr p (bs ++ pcsB (l.take i) ++ l[i].B) (k + 504 * i + m) :: F) → sat h (Wr p (bs ++ pcsB (l.take (i + 1))) (k + 504 * (i + 1)) :: F) := by
        intro h m hm hs
        obtain ⟨g1, g2⟩ := Wr.iff.1 hs
        rw [pcsB_succ hi', ← List.append_assoc]
        exact Wr.iff.2 ⟨by omega, g2⟩
      simp (disch := omega) only [go_sem, reduceCtorEq, ↓reduceIte, Nat.reduceEqDiff, Nat.reduceAdd, Nat.reduceSub, Nat.reduceMul, Nat.reduceLT, Nat.reduceLeDiff, Int.reduceEq, Int.reduceNe, Int.reduceLT, Int.reduceLE, Int.reduceBEq, Int.reduceBNe, Int.reduceToNat, he, pc_at hi', Pc.row]
      refine cnd_bool (fun q0 => ?_) (fun q0 => ?_)
      · simp (disch := omega) only [go_sem, reduceCtorEq, ↓reduceIte, Nat.reduceEqDiff, Nat.reduceAdd, Nat.reduceSub, Nat.reduceMul, Nat.reduceLT, Nat.reduceLeDiff, Int.reduceEq, Int.reduceNe, Int.reduceLT, Int.reduceLE, Int.reduceBEq, Int.reduceBNe, Int.reduceToNat, he, pc_at hi', Pc.row]
        refine call_use (wU8 hs l[i].n (by omega)) ?_
        rintro r h ⟨hr, hs⟩
        subst hr
        simp (disch := omega) only [go_sem, reduceCtorEq, ↓reduceIte, Nat.reduceEqDiff, Nat.reduceAdd, Nat.reduceSub, Nat.reduceMul, Nat.reduceLT, Nat.reduceLeDiff, Int.reduceEq, Int.reduceNe, Int.reduceLT, Int.reduceLE, Int.reduceBEq, Int.reduceBNe, Int.reduceToNat, he]
        exact ⟨⟨i + 1, by omega, fin h 1 (by omega) (by simpa [Pc.B, eq_of_beq q0] using hs), by congr 1⟩, by omega⟩
      · simp (disch := omega) only [go_sem, reduceCtorEq, ↓reduceIte, Nat.reduceEqDiff, Nat.reduceAdd, Nat.reduceSub, Nat.reduceMul, Nat.reduceLT, Nat.reduceLeDiff, Int.reduceEq, Int.reduceNe, Int.reduceLT, Int.reduceLE, Int.reduceBEq, Int.reduceBNe, Int.reduceToNat, he]
        refine cnd_bool (fun q1 => ?_) (fun q1 => ?_)
        · simp (disch := omega) only [go_sem, reduceCtorEq, ↓reduceIte, Nat.reduceEqDiff, Nat.reduceAdd, Nat.reduceSub, Nat.reduceMul, Nat.reduceLT, Nat.reduceLeDiff, Int.reduceEq, Int.reduceNe, Int.reduceLT, Int.reduceLE, Int.reduceBEq, Int.reduceBNe, Int.reduceToNat, he, pc_at hi', Pc.row]
          refine call_use (wU32 hs l[i].n (by omega)) ?_
          rintro r h ⟨hr, hs⟩
          subst hr
          simp (disch := omega) only [go_sem, reduceCtorEq, ↓reduceIte, Nat.reduceEqDiff, Nat.reduceAdd, Nat.reduceSub, Nat.reduceMul, Nat.reduceLT, Nat.reduceLeDiff, Int.reduceEq, Int.reduceNe, Int.reduceLT, Int.reduceLE, Int.reduceBEq, Int.reduceBNe, Int.reduceToNat, he]
          exact ⟨⟨i + 1, by omega, fin h 4 (by omega) (by simpa [Pc.B, eq_of_beq q1] using hs), by congr 1⟩, by omega⟩
        · simp (disch := omega) only [go_sem, reduceCtorEq, ↓reduceIte, Nat.reduceEqDiff, Nat.reduceAdd, Nat.reduceSub, Nat.reduceMul, Nat.reduceLT, Nat.reduceLeDiff, Int.reduceEq, Int.reduceNe, Int.reduceLT, Int.reduceLE, Int.reduceBEq, Int.reduceBNe, Int.reduceToNat, he]
          refine cnd_bool (fun q2 => ?_) (fun q2 => ?_)
          · simp (disch := omega) only [go_sem, reduceCtorEq, ↓reduceIte, Nat.reduceEqDiff, Nat.reduceAdd, Nat.reduceSub, Nat.reduceMul, Nat.reduceLT, Nat.reduceLeDiff, Int.reduceEq, Int.reduceNe, Int.reduceLT, Int.reduceLE, Int.reduceBEq, Int.reduceBNe, Int.reduceToNat, he, pc_at hi', Pc.row]
            refine call_use (wInt hs l[i].n (by omega)) ?_
            rintro r h ⟨hr, hs⟩
            subst hr
            simp (disch := omega) only [go_sem, reduceCtorEq, ↓reduceIte, Nat.reduceEqDiff, Nat.reduceAdd, Nat.reduceSub, Nat.reduceMul, Nat.reduceLT, Nat.reduceLeDiff, Int.reduceEq, Int.reduceNe, Int.reduceLT, Int.reduceLE, Int.reduceBEq, Int.reduceBNe, Int.reduceToNat, he]
            exact ⟨⟨i + 1, by omega, fin h 8 (by omega) (by simpa [Pc.B, eq_of_beq q2] using hs), by congr 1⟩, by omega⟩
          · simp (disch := omega) only [go_sem, reduceCtorEq, ↓reduceIte, Nat.reduceEqDiff, Nat.reduceAdd, Nat.reduceSub, Nat.reduceMul, Nat.reduceLT, Nat.reduceLeDiff, Int.reduceEq, Int.reduceNe, Int.reduceLT, Int.reduceLE, Int.reduceBEq, Int.reduceBNe, Int.reduceToNat, he, pc_at hi', Pc.row]
            refine call_use (wText hs l[i].s (m := 500) (hf1 _ (List.getElem_mem hi')) (by omega)) ?_
            rintro r h ⟨hr, hs⟩
            subst hr
            simp (disch := omega) only [go_sem, reduceCtorEq, ↓reduceIte, Nat.reduceEqDiff, Nat.reduceAdd, Nat.reduceSub, Nat.reduceMul, Nat.reduceLT, Nat.reduceLeDiff, Int.reduceEq, Int.reduceNe, Int.reduceLT, Int.reduceLE, Int.reduceBEq, Int.reduceBNe, Int.reduceToNat, he]
            exact ⟨⟨i + 1, by omega, fin h 504 (by omega) (by simpa [Pc.B, q0, q1, q2, beq_eq_false_iff_ne.1 q0, beq_eq_false_iff_ne.1 q1, beq_eq_false_iff_ne.1 q2] using hs), by congr 1⟩, by omega⟩
    · simp (disch := omega) only [go_sem, reduceCtorEq, ↓reduceIte, Nat.reduceEqDiff, Nat.reduceAdd, Nat.reduceSub, Nat.reduceMul, Nat.reduceLT, Nat.reduceLeDiff, Int.reduceEq, Int.reduceNe, Int.reduceLT, Int.reduceLE, Int.reduceBEq, Int.reduceBNe, Int.reduceToNat, he]
      have : i = l.length := by omega
      subst this
      rwa [List.take_length] at hs

end Go.Proofs.Ytedfmdifokbilaa
