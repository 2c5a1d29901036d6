/- The law PenFrames, walked. -/
import Derived.Test.YtedfmdifokbilaaPenD
import Derived.Test.YtedfmdifokbilaaHzLaw
set_option linter.unusedSimpArgs false
set_option linter.unusedVariables false
set_option maxRecDepth 10000
namespace Go.Proofs.Ytedfmdifokbilaa
open Go.Hz

/-- A number from 0 to n - 1. -/
theorem within {h : Hp} {F : List Asr} (hs : sat h F) {a : Int} {n : Nat} (h1 : -9223372036854775808 ≤ a) (h2 : a ≤ 9223372036854775807) (hn : 0 < n) (hn2 : n ≤ 4611686018427387904) :
    Triple Try.prog 37 [.int .i64 a, .int .i64 n] h (fun r h => ∃ k : Nat, r = .int .i64 k ∧ k < n ∧ sat h F) := by
  have m1 := Int.tmod_lt_of_pos a (b := n) (by omega)
  have m2 : -(n : Int) < a.tmod n := by
    have := Int.tmod_lt_of_pos (-a) (b := n) (by omega)
    rw [Int.neg_tmod] at this
    omega
  have hn0 : ¬ (n : Int) = 0 := by omega
  refine t37 (Nat.le_of_ble_eq_true rfl) ?_
  simp (disch := omega) only [F37, hn0, go_sem, reduceCtorEq, ↓reduceIte, Nat.reduceEqDiff, Nat.reduceAdd, Nat.reduceSub, Nat.reduceMul, Nat.reduceLT, Nat.reduceLeDiff, Int.reduceEq, Int.reduceNe, Int.reduceLT, Int.reduceLE, Int.reduceBEq, Int.reduceBNe, Int.reduceToNat]
  refine cnd_dec (fun hc => ?_) (fun hc => ?_)
  · simp (disch := omega) only [go_sem, reduceCtorEq, ↓reduceIte, Nat.reduceEqDiff, Nat.reduceAdd, Nat.reduceSub, Nat.reduceMul, Nat.reduceLT, Nat.reduceLeDiff, Int.reduceEq, Int.reduceNe, Int.reduceLT, Int.reduceLE, Int.reduceBEq, Int.reduceBNe, Int.reduceToNat]
    exact ⟨(a.tmod n + n).toNat, by congr 1; omega, by omega, hs⟩
  · simp (disch := omega) only [go_sem, reduceCtorEq, ↓reduceIte, Nat.reduceEqDiff, Nat.reduceAdd, Nat.reduceSub, Nat.reduceMul, Nat.reduceLT, Nat.reduceLeDiff, Int.reduceEq, Int.reduceNe, Int.reduceLT, Int.reduceLE, Int.reduceBEq, Int.reduceBNe, Int.reduceToNat]
    exact ⟨(a.tmod n).toNat, by congr 1; omega, by omega, hs⟩

def bss (l : List (List UInt8)) : AV := .lst (l.map fun b => [AV.lst (b.map eb)])
theorem bss_at {l : List (List UInt8)} {i : Nat} (hi : i < l.length) : iaA 1 (bss l) (.int .i64 (i : Int)) = some (.ro [.lst (l[i].map eb)]) := ia_lst (f := fun b : List UInt8 => [AV.lst (b.map eb)]) hi fun _ => rfl
theorem bss_len {l : List (List UInt8)} : lenL (bss l) = some (.int .i64 l.length) := by simp [bss, lenL]
def framesB (l : List (List UInt8)) : List UInt8 := (l.map frameB).flatten
theorem framesB_succ {l : List (List UInt8)} {i : Nat} (hi : i < l.length) : framesB (l.take (i + 1)) = framesB (l.take i) ++ frameB l[i] := by
  unfold framesB
  rw [List.take_succ_eq_append_getElem hi]
  simp only [List.map_append, List.flatten_append, List.map_cons, List.map_nil, List.flatten_cons, List.flatten_nil, List.append_nil]
theorem framesB_drop {l : List (List UInt8)} {i : Nat} (hi : i < l.length) : framesB (l.drop i) = frameB l[i] ++ framesB (l.drop (i + 1)) := by
  unfold framesB
  rw [List.drop_eq_getElem_cons hi]
  rfl

theorem frames {l : List (List UInt8)} {m : List UInt8} {cut : Int} (hl : l.length ≤ 9223372036854775807) (hm : m.length ≤ 9223372036854775807) (h1 : -9223372036854775808 ≤ cut) (h2 : cut ≤ 9223372036854775807) :
    Triple Try.prog 7 [bss l, .lst (m.map eb), .int .i64 cut] Hp.emp (fun r _ => r = .bool true) := by
  have hs : sat Hp.emp [] := trivial
  refine t7 (Nat.le_of_ble_eq_true rfl) ?_
  simp (disch := omega) only [F7, go_sem, reduceCtorEq, ↓reduceIte, Nat.reduceEqDiff, Nat.reduceAdd, Nat.reduceSub, Nat.reduceMul, Nat.reduceLT, Nat.reduceLeDiff, Int.reduceEq, Int.reduceNe, Int.reduceLT, Int.reduceLE, Int.reduceBEq, Int.reduceBNe, Int.reduceToNat]
  refine call_use (known hs) ?_
  rintro r h ⟨hr, hs⟩
  subst hr
  simp (disch := omega) only [go_sem, reduceCtorEq, ↓reduceIte, Nat.reduceEqDiff, Nat.reduceAdd, Nat.reduceSub, Nat.reduceMul, Nat.reduceLT, Nat.reduceLeDiff, Int.reduceEq, Int.reduceNe, Int.reduceLT, Int.reduceLE, Int.reduceBEq, Int.reduceBNe, Int.reduceToNat, bss_len]
  refine cnd_dec (fun hc => ?_) (fun hc => ?_)
  · simp (disch := omega) only [go_sem, reduceCtorEq, ↓reduceIte, Nat.reduceEqDiff, Nat.reduceAdd, Nat.reduceSub, Nat.reduceMul, Nat.reduceLT, Nat.reduceLeDiff, Int.reduceEq, Int.reduceNe, Int.reduceLT, Int.reduceLE, Int.reduceBEq, Int.reduceBNe, Int.reduceToNat, hc]
  simp (disch := omega) only [go_sem, reduceCtorEq, ↓reduceIte, Nat.reduceEqDiff, Nat.reduceAdd, Nat.reduceSub, Nat.reduceMul, Nat.reduceLT, Nat.reduceLeDiff, Int.reduceEq, Int.reduceNe, Int.reduceLT, Int.reduceLE, Int.reduceBEq, Int.reduceBNe, Int.reduceToNat, hc]
  refine cnd_dec (fun hc2 => ?_) (fun hc2 => ?_)
  · simp (disch := omega) only [go_sem, reduceCtorEq, ↓reduceIte, Nat.reduceEqDiff, Nat.reduceAdd, Nat.reduceSub, Nat.reduceMul, Nat.reduceLT, Nat.reduceLeDiff, Int.reduceEq, Int.reduceNe, Int.reduceLT, Int.reduceLE, Int.reduceBEq, Int.reduceBNe, Int.reduceToNat]
  simp (disch := omega) only [go_sem, reduceCtorEq, ↓reduceIte, Nat.reduceEqDiff, Nat.reduceAdd, Nat.reduceSub, Nat.reduceMul, Nat.reduceLT, Nat.reduceLeDiff, Int.reduceEq, Int.reduceNe, Int.reduceLT, Int.reduceLE, Int.reduceBEq, Int.reduceBNe, Int.reduceToNat]
  refine run_up (N := l.length) (fun i e h => (∀ x ∈ l.take i, x.length ≤ 500) ∧ (framesB (l.take i)).length ≤ 508 * i ∧ (e 0 = bss l ∧ e 1 = .lst (m.map eb) ∧ e 2 = .int .i64 cut ∧ e 8 = .int .i64 i) ∧ sat h [Ow 1 (e 7) ((framesB (l.take i)).map eb)])
    ⟨by simp, by simp [framesB], ⟨rfl, rfl, rfl, rfl⟩, by simpa [Env.upd_apply, initE, framesB] using hs.add (ow_nil (s := 1))⟩ ?_
  rintro i e h hi ⟨hall, hln, he, hs⟩
  simp (disch := omega) only [go_sem, reduceCtorEq, ↓reduceIte, Nat.reduceEqDiff, Nat.reduceAdd, Nat.reduceSub, Nat.reduceMul, Nat.reduceLT, Nat.reduceLeDiff, Int.reduceEq, Int.reduceNe, Int.reduceLT, Int.reduceLE, Int.reduceBEq, Int.reduceBNe, Int.reduceToNat, he, bss_len]
  refine cnd_dec (fun hc => ?_) (fun hc => ?_)
  · have hi' : i < l.length := by omega
    simp (disch := omega) only [go_sem, reduceCtorEq, ↓reduceIte, Nat.reduceEqDiff, Nat.reduceAdd, Nat.reduceSub, Nat.reduceMul, Nat.reduceLT, Nat.reduceLeDiff, Int.reduceEq, Int.reduceNe, Int.reduceLT, Int.reduceLE, Int.reduceBEq, Int.reduceBNe, Int.reduceToNat, he, bss_at hi']
    refine cnd_dec (fun hc3 => ?_) (fun hc3 => ?_)
    · simp (disch := omega) only [go_sem, reduceCtorEq, ↓reduceIte, Nat.reduceEqDiff, Nat.reduceAdd, Nat.reduceSub, Nat.reduceMul, Nat.reduceLT, Nat.reduceLeDiff, Int.reduceEq, Int.reduceNe, Int.reduceLT, Int.reduceLE, Int.reduceBEq, Int.reduceBNe, Int.reduceToNat, he]
    · have hx : l[i].length ≤ 500 := by omega
      have hfl := frameB_length l[i]
      simp (disch := omega) only [go_sem, reduceCtorEq, ↓reduceIte, Nat.reduceEqDiff, Nat.reduceAdd, Nat.reduceSub, Nat.reduceMul, Nat.reduceLT, Nat.reduceLeDiff, Int.reduceEq, Int.reduceNe, Int.reduceLT, Int.reduceLE, Int.reduceBEq, Int.reduceBNe, Int.reduceToNat, he, bss_at hi']
      refine call_use (pFrame hs (fun _ _ => Els.lst (eb_one _)) (by omega)) ?_
      intro r h hs
      simp (disch := omega) only [go_sem, reduceCtorEq, ↓reduceIte, Nat.reduceEqDiff, Nat.reduceAdd, Nat.reduceSub, Nat.reduceMul, Nat.reduceLT, Nat.reduceLeDiff, Int.reduceEq, Int.reduceNe, Int.reduceLT, Int.reduceLE, Int.reduceBEq, Int.reduceBNe, Int.reduceToNat, he, bss_at hi', hs.bts.bstr]
      refine call_use' (xFrame hs (fun _ _ => Els.lst (eb_one _)) (by omega)) ?_
      intro r' h hs
      simp (disch := omega) only [go_sem, reduceCtorEq, ↓reduceIte, Nat.reduceEqDiff, Nat.reduceAdd, Nat.reduceSub, Nat.reduceMul, Nat.reduceLT, Nat.reduceLeDiff, Int.reduceEq, Int.reduceNe, Int.reduceLT, Int.reduceLE, Int.reduceBEq, Int.reduceBNe, Int.reduceToNat, he, hs.bts.bstr, hs.p1.bts.bstr, Bts.len hs.p1.bts]
      refine call_use (within hs.drop h1 h2 (n := (frameB l[i]).length) (by omega) (by omega)) ?_
      rintro r2 h ⟨c, hr, hcl, hs⟩
      subst hr
      obtain ⟨x, hx1, hxE, hxc⟩ := slc_E (A := fun h => sat h [Ow 1 r ((frameB l[i]).map eb), Ow 1 (e 7) ((framesB (l.take i)).map eb)]) hs (fun h hs => hs.els) hs.cap .i64 .i64 (lo := 0) (hi := c) (by omega) (by simp; omega)
      have e3 : List.take (c - 0) (List.drop 0 (List.map eb (frameB l[i]))) = ((frameB l[i]).take c).map eb := by simp
      rw [e3] at hxE
      have hx1' : slcL 1 r none (some (.int .i64 c)) = some x := by rw [slc_lo]; exact hx1
      simp (disch := omega) only [go_sem, reduceCtorEq, ↓reduceIte, Nat.reduceEqDiff, Nat.reduceAdd, Nat.reduceSub, Nat.reduceMul, Nat.reduceLT, Nat.reduceLeDiff, Int.reduceEq, Int.reduceNe, Int.reduceLT, Int.reduceLE, Int.reduceBEq, Int.reduceBNe, Int.reduceToNat, he, hx1']
      refine call_use (pUnframe hs hxE hxc (by simp; omega)) ?_
      rintro r h ⟨hr, hs⟩
      subst hr
      simp (disch := omega) only [go_sem, reduceCtorEq, ↓reduceIte, Nat.reduceEqDiff, Nat.reduceAdd, Nat.reduceSub, Nat.reduceMul, Nat.reduceLT, Nat.reduceLeDiff, Int.reduceEq, Int.reduceNe, Int.reduceLT, Int.reduceLE, Int.reduceBEq, Int.reduceBNe, Int.reduceToNat, he, unF_cut l[i] c (by omega) (by omega)]
      refine app_sat hs.p1 hs.els.1 (atoms_eb _) (by simp; omega) fun v' h hs hc' ha' => ?_
      simp (disch := omega) only [go_sem, reduceCtorEq, ↓reduceIte, Nat.reduceEqDiff, Nat.reduceAdd, Nat.reduceSub, Nat.reduceMul, Nat.reduceLT, Nat.reduceLeDiff, Int.reduceEq, Int.reduceNe, Int.reduceLT, Int.reduceLE, Int.reduceBEq, Int.reduceBNe, Int.reduceToNat, he]
      refine ⟨by omega, ?_, ?_, rfl, ?_⟩
      · intro y hy
        rw [List.take_succ_eq_append_getElem hi'] at hy
        rcases List.mem_append.1 hy with hy | hy
        · exact hall y hy
        · simp at hy; subst hy; exact hx
      · rw [framesB_succ hi', List.length_append]; omega
      · rw [framesB_succ hi']
        simpa using hs.d1
  · have : i = l.length := by omega
    subst this
    rw [List.take_length] at hs hall hln
    generalize hv : e 7 = v at hs
    simp (disch := omega) only [go_sem, reduceCtorEq, ↓reduceIte, Nat.reduceEqDiff, Nat.reduceAdd, Nat.reduceSub, Nat.reduceMul, Nat.reduceLT, Nat.reduceLeDiff, Int.reduceEq, Int.reduceNe, Int.reduceLT, Int.reduceLE, Int.reduceBEq, Int.reduceBNe, Int.reduceToNat, he, hv]
    have hat := (hs.els.cells)
    refine app_sat hs (Els.lst (eb_one m)).1 (atoms_eb _) (by simp; omega) fun v' h hs hc' ha' => ?_
    rw [← List.map_append] at hs
    simp (disch := omega) only [go_sem, reduceCtorEq, ↓reduceIte, Nat.reduceEqDiff, Nat.reduceAdd, Nat.reduceSub, Nat.reduceMul, Nat.reduceLT, Nat.reduceLeDiff, Int.reduceEq, Int.reduceNe, Int.reduceLT, Int.reduceLE, Int.reduceBEq, Int.reduceBNe, Int.reduceToNat, he]
    refine run_up (N := l.length + 1) (fun i e h => ∃ v b, (∀ h, sat h [Ow 1 v' ((framesB l ++ m).map eb)] → Bts h v b) ∧ CapOK v ∧ b.length ≤ 10000 ∧ (i ≤ l.length → b = framesB (l.drop i) ++ m) ∧
      (e 0 = bss l ∧ e 7 = v ∧ e 14 = .int .i64 i) ∧ sat h [Ow 1 v' ((framesB l ++ m).map eb)])
      ⟨v', framesB l ++ m, fun h hs => hs.bts, hs.cap, by simp; omega, by simp, ⟨by simp [Env.upd_apply, he], by simp [Env.upd_apply], rfl⟩, hs⟩ ?_
    rintro i e h hi ⟨v, b, hE, hcap, hbl, hb, he, hs⟩
    simp (disch := omega) only [go_sem, reduceCtorEq, ↓reduceIte, Nat.reduceEqDiff, Nat.reduceAdd, Nat.reduceSub, Nat.reduceMul, Nat.reduceLT, Nat.reduceLeDiff, Int.reduceEq, Int.reduceNe, Int.reduceLT, Int.reduceLE, Int.reduceBEq, Int.reduceBNe, Int.reduceToNat, he, bss_len]
    refine cnd_dec (fun hc => ?_) (fun hc => ?_)
    · have hi' : i ≤ l.length := by omega
      have hb := hb hi'
      have hv := hE _ hs
      obtain ⟨x, n, k, hu, hn, hk⟩ : ∃ x n k, unF b = (x, n, k) ∧ (k = 0 → n ≤ b.length) ∧ ∀ hlt : i < l.length, x = l[i] ∧ k = 0 ∧ b.drop n = framesB (l.drop (i + 1)) ++ m := by
        refine ⟨(unF b).1, (unF b).2.1, (unF b).2.2, rfl, unF_le b, fun hlt => ?_⟩
        have hx := hall _ (List.getElem_mem hlt)
        have e : unF b = (l[i], 8 + l[i].length, 0) := by
          rw [hb, framesB_drop hlt, List.append_assoc]
          exact unF_frame _ _ (by omega)
        rw [e]
        refine ⟨rfl, rfl, ?_⟩
        rw [hb, framesB_drop hlt, List.append_assoc]
        exact List.drop_left' (frameB_length _)
      have slc : k = 0 → ∃ y, slcL 1 v (some (.int .i64 n)) none = some y ∧ (∀ h, sat h [Ow 1 v' ((framesB l ++ m).map eb)] → Bts h y (b.drop n)) ∧ CapOK y := by
        intro h0
        obtain ⟨y, y1, y2, y3⟩ := slc_E (A := fun h => sat h [Ow 1 v' ((framesB l ++ m).map eb)]) hs hE hcap .i64 .i64 (lo := n) (hi := b.length) (hn h0) (by simp)
        refine ⟨y, by rw [slc_hi (Bts.len hv)]; exact y1, fun h hs => ?_, y3⟩
        have := y2 h hs
        have e : ((b.map eb).drop n).take (b.length - n) = (b.drop n).map eb := by
          rw [List.take_of_length_le (by simp), List.map_drop]
        rw [e] at this
        exact this
      simp (disch := omega) only [go_sem, reduceCtorEq, ↓reduceIte, Nat.reduceEqDiff, Nat.reduceAdd, Nat.reduceSub, Nat.reduceMul, Nat.reduceLT, Nat.reduceLeDiff, Int.reduceEq, Int.reduceNe, Int.reduceLT, Int.reduceLE, Int.reduceBEq, Int.reduceBNe, Int.reduceToNat, he]
      refine call_use (pUnframe hs hE hcap (by omega)) ?_
      rintro r h ⟨hr, hs⟩
      subst hr
      simp (disch := omega) only [go_sem, reduceCtorEq, ↓reduceIte, Nat.reduceEqDiff, Nat.reduceAdd, Nat.reduceSub, Nat.reduceMul, Nat.reduceLT, Nat.reduceLeDiff, Int.reduceEq, Int.reduceNe, Int.reduceLT, Int.reduceLE, Int.reduceBEq, Int.reduceBNe, Int.reduceToNat, he, hu]
      refine call_use (xUnframe hs hE hcap (by omega) ⟨(hE _ hs).cells, (hE _ hs).atom⟩) ?_
      rintro r h ⟨hr, hs⟩
      subst hr
      simp (disch := omega) only [go_sem, reduceCtorEq, ↓reduceIte, Nat.reduceEqDiff, Nat.reduceAdd, Nat.reduceSub, Nat.reduceMul, Nat.reduceLT, Nat.reduceLeDiff, Int.reduceEq, Int.reduceNe, Int.reduceLT, Int.reduceLE, Int.reduceBEq, Int.reduceBNe, Int.reduceToNat, he, bss_len, hu]
      refine cnd_dec (fun hlt => ?_) (fun hlt => ?_)
      · have hlt' : i < l.length := by omega
        obtain ⟨k1, k2, k3⟩ := hk hlt'
        subst k1
        subst k2
        obtain ⟨y, y1, y2, y3⟩ := slc rfl
        simp (disch := omega) only [go_sem, reduceCtorEq, ↓reduceIte, Nat.reduceEqDiff, Nat.reduceAdd, Nat.reduceSub, Nat.reduceMul, Nat.reduceLT, Nat.reduceLeDiff, Int.reduceEq, Int.reduceNe, Int.reduceLT, Int.reduceLE, Int.reduceBEq, Int.reduceBNe, Int.reduceToNat, he, bss_at hlt', hlt, y1]
        exact ⟨y, _, y2, y3, by simp; omega, fun _ => k3, ⟨rfl, rfl⟩, hs⟩
      · simp (disch := omega) only [go_sem, reduceCtorEq, ↓reduceIte, Nat.reduceEqDiff, Nat.reduceAdd, Nat.reduceSub, Nat.reduceMul, Nat.reduceLT, Nat.reduceLeDiff, Int.reduceEq, Int.reduceNe, Int.reduceLT, Int.reduceLE, Int.reduceBEq, Int.reduceBNe, Int.reduceToNat, he, hlt]
        refine cnd_bool (fun q => ?_) (fun q => ?_)
        · simp (disch := omega) only [go_sem, reduceCtorEq, ↓reduceIte, Nat.reduceEqDiff, Nat.reduceAdd, Nat.reduceSub, Nat.reduceMul, Nat.reduceLT, Nat.reduceLeDiff, Int.reduceEq, Int.reduceNe, Int.reduceLT, Int.reduceLE, Int.reduceBEq, Int.reduceBNe, Int.reduceToNat, he]
        · have h0 : k = 0 := by simpa using q
          obtain ⟨y, y1, y2, y3⟩ := slc h0
          simp (disch := omega) only [go_sem, reduceCtorEq, ↓reduceIte, Nat.reduceEqDiff, Nat.reduceAdd, Nat.reduceSub, Nat.reduceMul, Nat.reduceLT, Nat.reduceLeDiff, Int.reduceEq, Int.reduceNe, Int.reduceLT, Int.reduceLE, Int.reduceBEq, Int.reduceBNe, Int.reduceToNat, he, y1]
          exact ⟨by omega, y, _, y2, y3, by simp; omega, fun _ => by omega, ⟨rfl, rfl⟩, hs⟩
    · simp (disch := omega) only [go_sem, reduceCtorEq, ↓reduceIte, Nat.reduceEqDiff, Nat.reduceAdd, Nat.reduceSub, Nat.reduceMul, Nat.reduceLT, Nat.reduceLeDiff, Int.reduceEq, Int.reduceNe, Int.reduceLT, Int.reduceLE, Int.reduceBEq, Int.reduceBNe, Int.reduceToNat, he]

theorem bss_of {a : AV} (h : (Ty.sl (.sl (.int .u8))).one a) : ∃ l, a = bss l ∧ l.length ≤ 9223372036854775807 := by
  obtain ⟨es, rfl', h2, h3⟩ := h
  cases rfl'
  have : ∃ l : List (List UInt8), es = l.map fun b => [AV.lst (b.map eb)] := by
    clear h2
    induction es with
    | nil => exact ⟨[], rfl⟩
    | cons x es ih =>
      obtain ⟨l, rfl⟩ := ih fun y hy => h3 y (List.mem_cons_of_mem _ hy)
      have hx := h3 x (List.mem_cons_self ..)
      have hx0 := hx
      obtain ⟨ys, rfl, _, _⟩ := hx0
      obtain ⟨b, hb, _⟩ := bytes_of (a := .lst ys) hx
      cases hb
      exact ⟨b :: l, rfl⟩
  obtain ⟨l, rfl⟩ := this
  exact ⟨l, rfl, by have : (l.map fun b => [AV.lst (b.map eb)]).length ≤ 9223372036854775807 := Nat.le_trans h2 (by decide); simpa using this⟩

theorem frames_law (vs : List AV) (h : Ty.ones [.sl (.sl (.int .u8)), .sl (.int .u8), .int .i64] vs) : Triple Try.prog 7 vs Hp.emp (fun r _ => r = .bool true) := by
  obtain ⟨a, _, rfl, ha, h⟩ := ones_cons h
  obtain ⟨b, _, rfl, hb, h⟩ := ones_cons h
  obtain ⟨c, _, rfl, hc, h⟩ := ones_cons h
  obtain rfl := ones_nil h
  obtain ⟨l, rfl, h1⟩ := bss_of ha
  obtain ⟨m, rfl, h2⟩ := bytes_of hb
  obtain ⟨n, rfl, h3, h4⟩ := int_of hc
  exact frames h1 h2 h3 h4
end Go.Proofs.Ytedfmdifokbilaa
