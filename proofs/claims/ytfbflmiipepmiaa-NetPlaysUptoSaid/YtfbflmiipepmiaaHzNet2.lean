/- Messages: what was written is read, what was read was written. -/
import Derived.Test.YtfbflmiipepmiaaHzNet
import Derived.Test.YtfbflmiipepmiaaHzRd
set_option linter.unusedSimpArgs false
set_option linter.unusedVariables false
set_option maxRecDepth 10000
namespace Go.Hz

def inI (n : Int) : Prop := -9223372036854775808 ≤ n ∧ n ≤ 9223372036854775807
def En.fine (e : En) : Prop := inI e.idx ∧ inI e.term ∧ inI e.kind ∧ e.data.length < 4294967296
def Ms.fine (m : Ms) : Prop := (inI m.kind ∧ inI m.frm ∧ inI m.to ∧ inI m.term ∧ inI m.index ∧ inI m.lterm ∧ inI m.commit ∧ inI m.seq ∧ inI m.mtch ∧ inI m.mi ∧ inI m.mt) ∧ (∀ e ∈ m.es, e.fine) ∧ (∀ v ∈ m.vs, inI v) ∧ m.data.length < 4294967296

theorem bad_iff {e : En} : e.bad = false ↔ 0 ≤ e.kind ∧ e.kind ≤ 255 := by
  simp [En.bad]
theorem entP_B : ∀ (l : List En) (s : RS) (t : List UInt8), (∀ e ∈ l, e.fine ∧ e.bad = false) → s.At (l.flatMap En.B ++ t) → (entP l.length s).1 = l ∧ (entP l.length s).2.At t
  | [], s, t, _, h => ⟨rfl, h⟩
  | e :: l, s, t, hf, h => by
    obtain ⟨⟨f1, f2, f3, f4⟩, fb⟩ := hf e (List.mem_cons_self ..)
    have fk := bad_iff.1 fb
    have e0 : s.At (beB 8 e.idx ++ (beB 8 e.term ++ (beB 1 e.kind ++ (txB e.data ++ (l.flatMap En.B ++ t))))) := by
      simpa [En.B, List.flatMap_cons] using h
    obtain ⟨a1, b1⟩ := e0.i8 f1.1 f1.2
    obtain ⟨a2, b2⟩ := b1.i8 f2.1 f2.2
    obtain ⟨a3, b3⟩ := b2.i1 fk.1 (by omega)
    obtain ⟨a4, b4⟩ := b3.t f4
    obtain ⟨c1, c2⟩ := entP_B l _ t (fun x hx => hf x (List.mem_cons_of_mem _ hx)) b4
    rw [List.length_cons, entP, if_pos e0.1]
    simp only [a1, a2, a3, a4]
    exact ⟨by rw [c1], c2⟩
theorem votP_B : ∀ (l : List Int) (s : RS) (t : List UInt8), (∀ v ∈ l, inI v) → s.At (l.flatMap (beB 8) ++ t) → (votP l.length s).1 = l ∧ (votP l.length s).2.At t
  | [], s, t, _, h => ⟨rfl, h⟩
  | v :: l, s, t, hf, h => by
    have f := hf v (List.mem_cons_self ..)
    have e0 : s.At (beB 8 v ++ (l.flatMap (beB 8) ++ t)) := by simpa [List.flatMap_cons] using h
    obtain ⟨a1, b1⟩ := e0.i8 f.1 f.2
    obtain ⟨c1, c2⟩ := votP_B l _ t (fun x hx => hf x (List.mem_cons_of_mem _ hx)) b1
    rw [List.length_cons, votP, if_pos e0.1]
    simp only [a1]
    exact ⟨by rw [c1], c2⟩

theorem flag_of (b : Bool) : (flagN b == 1) = b := by cases b <;> rfl
theorem flag_in (b : Bool) : 0 ≤ flagN b ∧ flagN b ≤ 1 := by cases b <;> simp [flagN]

/-- A message that was written is read. -/
theorem read_B {m : Ms} (hm : m.fine) (he : m.e = 0) : erP ⟨m.B, 0, 0⟩ = 0 ∧ msP ⟨m.B, 0, 0⟩ = m := by
  obtain ⟨⟨f1, f2, f3, f4, f5, f6, f7, f8, f9, f10, f11⟩, fe, fv, fd⟩ := hm
  unfold Ms.e at he
  split at he
  · omega
  rename_i k1
  split at he
  · omega
  rename_i k2
  split at he
  · omega
  rename_i k3
  have kb : ∀ e ∈ m.es, e.bad = false := fun e hx => by
    cases hb : e.bad
    · rfl
    · exact absurd (List.any_eq_true.2 ⟨e, hx, hb⟩) k3
  have s0 : (RS.mk m.B 0 0).At (beB 1 m.kind ++ (beB 8 m.frm ++ (beB 8 m.to ++ (beB 8 m.term ++ (beB 8 m.index ++ (beB 8 m.lterm ++ (beB 1 m.es.length ++ (m.es.flatMap En.B ++ (beB 8 m.commit ++ (beB 8 m.seq ++ (beB 1 (flagN m.ok) ++ (beB 8 m.mtch ++
      (beB 8 m.mi ++ (beB 8 m.mt ++ (beB 1 m.vs.length ++ (m.vs.flatMap (beB 8) ++ (txB m.data ++ []))))))))))))))))) := by
    have e : (beB 1 m.kind ++ (beB 8 m.frm ++ (beB 8 m.to ++ (beB 8 m.term ++ (beB 8 m.index ++ (beB 8 m.lterm ++ (beB 1 m.es.length ++ (m.es.flatMap En.B ++ (beB 8 m.commit ++ (beB 8 m.seq ++ (beB 1 (flagN m.ok) ++ (beB 8 m.mtch ++
      (beB 8 m.mi ++ (beB 8 m.mt ++ (beB 1 m.vs.length ++ (m.vs.flatMap (beB 8) ++ (txB m.data ++ []))))))))))))))))) = m.B := by
      unfold Ms.B Ms.five
      simp only [List.flatMap_cons, List.flatMap_nil, List.append_assoc, List.nil_append, List.append_nil]
    rw [e]
    exact RS.At.start m.B
  generalize hs : RS.mk m.B 0 0 = s at *
  have hsb : s.b = m.B := by rw [← hs]
  obtain ⟨a0, b0⟩ := s0.i1 (by omega) (by omega)
  obtain ⟨a1, b1⟩ := b0.i8 f2.1 f2.2
  obtain ⟨a2, b2⟩ := b1.i8 f3.1 f3.2
  obtain ⟨a3, b3⟩ := b2.i8 f4.1 f4.2
  obtain ⟨a4, b4⟩ := b3.i8 f5.1 f5.2
  obtain ⟨a5, b5⟩ := b4.i8 f6.1 f6.2
  obtain ⟨a6, b6⟩ := b5.i1 (by omega) (by omega)
  have hk : ((((((s.adv 1).adv 8).adv 8).adv 8).adv 8).adv 8).v 1 = m.es.length := by unfold RS.v; rw [a6]; simp
  obtain ⟨c1, c2⟩ := entP_B m.es _ _ (fun e hx => ⟨fe e hx, kb e hx⟩) b6
  rw [← hk] at c1 c2
  generalize hE : entP ((((((s.adv 1).adv 8).adv 8).adv 8).adv 8).adv 8 |>.v 1) ((((((s.adv 1).adv 8).adv 8).adv 8).adv 8).adv 8 |>.adv 1) = E at c1 c2
  obtain ⟨a7, b7⟩ := c2.i8 f7.1 f7.2
  obtain ⟨a8, b8⟩ := b7.i8 f8.1 f8.2
  have hfl := flag_in m.ok
  obtain ⟨a9, b9⟩ := b8.i1 hfl.1 (by omega)
  obtain ⟨a10, b10⟩ := b9.i8 f9.1 f9.2
  obtain ⟨a11, b11⟩ := b10.i8 f10.1 f10.2
  obtain ⟨a12, b12⟩ := b11.i8 f11.1 f11.2
  obtain ⟨a13, b13⟩ := b12.i1 (by omega) (by omega)
  have hk2 : ((((((E.2.adv 8).adv 8).adv 1).adv 8).adv 8).adv 8).v 1 = m.vs.length := by unfold RS.v; rw [a13]; simp
  obtain ⟨d1, d2⟩ := votP_B m.vs _ _ fv b13
  rw [← hk2] at d1 d2
  generalize hV : votP ((((((E.2.adv 8).adv 8).adv 1).adv 8).adv 8).adv 8 |>.v 1) ((((((E.2.adv 8).adv 8).adv 1).adv 8).adv 8).adv 8 |>.adv 1) = V at d1 d2
  obtain ⟨a14, b14⟩ := d2.t fd
  have hr : rdP s = ⟨((((((s.adv 1).adv 8).adv 8).adv 8).adv 8).adv 8), E.1, E.2, V.1, V.2⟩ := by
    unfold rdP
    simp only
    rw [hE, hV]
  constructor
  · unfold erP
    rw [hr]
    simp only
    rw [a0, a9, if_neg (by omega), if_neg (by omega), if_neg (by rw [b14.1]; simp), if_neg ?_]
    have hb : V.2.atx.b = s.b := by
      rw [RS.atx_b, ← hV, votP_b]
      show E.2.b = s.b
      rw [← hE, entP_b]
      rfl
    have := b14.fin
    rw [hb] at this
    omega
  · unfold msP
    rw [hr]
    simp only [a0, a1, a2, a3, a4, a5, a7, a8, a9, a10, a11, a12, c1, d1, a14, flag_of]

theorem par_B {m : Ms} (hm : m.fine) (he : m.e = 0) : parE (frameB m.B) = 0 ∧ parM (frameB m.B) = m := by
  obtain ⟨h1, h2⟩ := read_B hm he
  have hl : m.B.length ≤ 16777216 := by
    unfold Ms.e at he
    split at he
    · omega
    split at he
    · omega
    split at he
    · omega
    split at he
    · omega
    omega
  have hu := unF_frame m.B [] hl
  rw [List.append_nil] at hu
  have hp : parE (frameB m.B) = 0 := by
    unfold parE
    rw [hu]
    simp only
    rw [if_neg (by simp), if_neg (by rw [frameB_length]; omega)]
    exact h1
  refine ⟨hp, ?_⟩
  unfold parM
  rw [if_pos hp, hu]
  exact h2

/-! ### back -/

theorem entP_well (n : Nat) : ∀ s : RS, s.well → (entP n s).2.well := by
  induction n with
  | zero => exact fun s h => h
  | succ n ih =>
    intro s h
    unfold entP
    split
    · exact ih _ (((h.adv 8).adv 8).adv 1).atx
    · exact h
theorem votP_well (n : Nat) : ∀ s : RS, s.well → (votP n s).2.well := by
  induction n with
  | zero => exact fun s h => h
  | succ n ih =>
    intro s h
    unfold votP
    split
    · exact ih _ (h.adv 8)
    · exact h
theorem val_in (s : RS) (n : Nat) : inI (s.val n) := by
  unfold RS.val inI
  split
  · simp only [IntKind.wrap, IntKind.signed, IntKind.bits]
    simp
    omega
  · omega
theorem v_in (s : RS) : 0 ≤ s.val 1 ∧ s.val 1 < 256 := by
  obtain ⟨a, b⟩ := s.v_val
  omega
theorem entP_back : ∀ (n : Nat) (s : RS), s.well → (entP n s).2.err = 0 → s.err = 0 ∧ (entP n s).1.length = n ∧ s.rest = (entP n s).1.flatMap En.B ++ (entP n s).2.rest ∧ ∀ e ∈ (entP n s).1, e.fine ∧ e.bad = false
  | 0, s, _, h => ⟨h, rfl, rfl, by simp [entP]⟩
  | n + 1, s, hw, h => by
    by_cases h0 : s.err = 0
    · rw [entP, if_pos h0] at h ⊢
      have w1 := hw.adv 8
      have w2 := w1.adv 8
      have w3 := w2.adv 1
      obtain ⟨a, b, c, d⟩ := entP_back n _ w3.atx h
      obtain ⟨a4, b4, l4⟩ := RS.backT w3 a
      obtain ⟨a3, b3⟩ := RS.backN (by omega) w2 a4
      obtain ⟨a2, b2⟩ := RS.backN (by omega) w1 a3
      obtain ⟨a1, b1⟩ := RS.backN (by omega) hw a2
      refine ⟨h0, by simp only [List.length_cons, b], ?_, fun e he => ?_⟩
      · rw [b1, b2, b3, b4, c]
        simp [List.flatMap_cons, En.B]
      · rcases List.mem_cons.1 he with rfl | he
        · refine ⟨⟨val_in _ _, val_in _ _, val_in _ _, l4⟩, bad_iff.2 ?_⟩
          have := v_in ((s.adv 8).adv 8)
          simp only
          omega
        · exact d e he
    · rw [entP, if_neg h0] at h
      exact absurd h h0
theorem votP_back : ∀ (n : Nat) (s : RS), s.well → (votP n s).2.err = 0 → s.err = 0 ∧ (votP n s).1.length = n ∧ s.rest = (votP n s).1.flatMap (beB 8) ++ (votP n s).2.rest
  | 0, s, _, h => ⟨h, rfl, rfl⟩
  | n + 1, s, hw, h => by
    by_cases h0 : s.err = 0
    · rw [votP, if_pos h0] at h ⊢
      obtain ⟨a, b, c⟩ := votP_back n _ (hw.adv 8) h
      obtain ⟨a1, b1⟩ := RS.backN (by omega) hw a
      refine ⟨h0, by simp only [List.length_cons, b], ?_⟩
      rw [b1, c]
      simp [List.flatMap_cons]
    · rw [votP, if_neg h0] at h
      exact absurd h h0

theorem flag_back (n : Int) (h0 : 0 ≤ n) (h1 : n ≤ 1) : flagN (n == 1) = n := by
  have : n = 0 ∨ n = 1 := by omega
  rcases this with rfl | rfl <;> rfl

/-- What was read was written. -/
theorem read_back {x : List UInt8} (he : erP ⟨x, 0, 0⟩ = 0) (hl : x.length ≤ 16777216) : (msP ⟨x, 0, 0⟩).B = x ∧ (msP ⟨x, 0, 0⟩).e = 0 := by
  have w0 : (RS.mk x 0 0).well := Nat.zero_le _
  have r0 : (RS.mk x 0 0).rest = x := rfl
  have hsb : (RS.mk x 0 0).b = x := rfl
  generalize RS.mk x 0 0 = s at *
  unfold erP at he
  simp only at he
  split at he
  · omega
  rename_i k1
  split at he
  · omega
  rename_i k2
  split at he
  · omega
  rename_i k3
  split at he
  · omega
  rename_i k4
  have k3 : (rdP s).s3.atx.err = 0 := by
    by_cases q : (rdP s).s3.atx.err = 0
    · exact q
    · exact absurd q k3
  have w6 := (((((w0.adv 1).adv 8).adv 8).adv 8).adv 8).adv 8
  generalize hs1 : ((((((s.adv 1).adv 8).adv 8).adv 8).adv 8).adv 8) = s1 at *
  generalize hE : entP (s1.v 1) (s1.adv 1) = E
  have wE : E.2.well := by rw [← hE]; exact entP_well _ _ (w6.adv 1)
  have w12 := (((((wE.adv 8).adv 8).adv 1).adv 8).adv 8).adv 8
  generalize hs2 : ((((((E.2.adv 8).adv 8).adv 1).adv 8).adv 8).adv 8) = s2 at *
  generalize hV : votP (s2.v 1) (s2.adv 1) = V
  have wV : V.2.well := by rw [← hV]; exact votP_well _ _ (w12.adv 1)
  have hr : rdP s = ⟨s1, E.1, E.2, V.1, V.2⟩ := by
    unfold rdP
    simp only
    rw [hs1, hE, hs2, hV]
  rw [hr] at k2 k3 k4
  simp only at k2 k3 k4
  obtain ⟨a14, b14, l14⟩ := RS.backT wV k3
  have hV1 := votP_back (s2.v 1) (s2.adv 1) (w12.adv 1) (by rw [hV]; exact a14)
  rw [hV] at hV1
  obtain ⟨a13, c13, b13⟩ := hV1
  obtain ⟨a12, b12⟩ := RS.backN (by omega) w12 a13
  rw [← hs2] at a12
  have x1 := wE.adv 8
  have x2 := x1.adv 8
  have x3 := x2.adv 1
  have x4 := x3.adv 8
  have x5 := x4.adv 8
  obtain ⟨a11, b11⟩ := RS.backN (by omega) x5 a12
  obtain ⟨a10, b10⟩ := RS.backN (by omega) x4 a11
  obtain ⟨a9, b9⟩ := RS.backN (by omega) x3 a10
  obtain ⟨a8, b8⟩ := RS.backN (by omega) x2 a9
  obtain ⟨a7, b7⟩ := RS.backN (by omega) x1 a8
  obtain ⟨a6, b6⟩ := RS.backN (by omega) wE a7
  have hE1 := entP_back (s1.v 1) (s1.adv 1) (w6.adv 1) (by rw [hE]; exact a6)
  rw [hE] at hE1
  obtain ⟨a5, c5, b5, d5⟩ := hE1
  obtain ⟨a4, b4⟩ := RS.backN (by omega) w6 a5
  rw [← hs1] at a4
  have y1 := w0.adv 1
  have y2 := y1.adv 8
  have y3 := y2.adv 8
  have y4 := y3.adv 8
  have y5 := y4.adv 8
  obtain ⟨a3, b3⟩ := RS.backN (by omega) y5 a4
  obtain ⟨a2, b2⟩ := RS.backN (by omega) y4 a3
  obtain ⟨a1, b1⟩ := RS.backN (by omega) y3 a2
  obtain ⟨a0, b0⟩ := RS.backN (by omega) y2 a1
  obtain ⟨z1, zb1⟩ := RS.backN (by omega) y1 a0
  obtain ⟨z0, zb0⟩ := RS.backN (by omega) w0 z1
  rw [hs1] at b3
  rw [hs2] at b11
  have kk : ¬ (s.val 1 < 1 ∨ 5 < s.val 1) := fun q => k1 ⟨z1, q⟩
  have kf : ¬ 1 < ((E.2.adv 8).adv 8).val 1 := fun q => k2 ⟨a9, q⟩
  have hfl := v_in ((E.2.adv 8).adv 8)
  have hend : V.2.atx.rest = [] := by
    have hb : V.2.atx.b = s.b := by
      rw [RS.atx_b, ← hV, votP_b]
      show s2.b = s.b
      rw [← hs2]
      show E.2.b = s.b
      rw [← hE, entP_b]
      show s1.b = s.b
      rw [← hs1]
      rfl
    unfold RS.rest
    apply List.drop_of_length_le
    rw [hb]
    omega
  have v1 := s1.v_val
  have v2 := s2.v_val
  have hB : (msP s).B = x := by
    unfold msP
    rw [hr]
    unfold Ms.B Ms.five
    simp only [List.flatMap_cons, List.flatMap_nil, List.append_assoc, List.nil_append, List.append_nil]
    rw [flag_back _ hfl.1 (by omega), c5, c13, ← v1.1, ← v2.1, ← r0, zb0, zb1, b0, b1, b2, b3, b4, b5, b6, b7, b8, b9, b10, b11, b12, b13, b14, hend, List.append_nil]
  refine ⟨hB, ?_⟩
  have m1 : (msP s).kind = s.val 1 := rfl
  have m2 : (msP s).es = E.1 := by unfold msP; rw [hr]
  have m3 : (msP s).vs = V.1 := by unfold msP; rw [hr]
  unfold Ms.e
  rw [hB, m1, m2, m3, if_neg kk, if_neg (by omega), if_neg ?_, if_neg (by omega)]
  intro q
  obtain ⟨e, h1, h2⟩ := List.any_eq_true.1 q
  rw [(d5 e h1).2] at h2
  cases h2
end Go.Hz
