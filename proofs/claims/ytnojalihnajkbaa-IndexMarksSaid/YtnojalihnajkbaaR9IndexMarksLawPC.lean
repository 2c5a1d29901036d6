/- Messages: what was written is read, what was read was written. -/
import Derived.Test.YtnojalihnajkbaaR9IndexMarksLawPB
set_option linter.unusedSimpArgs false
set_option linter.unusedVariables false
set_option maxRecDepth 10000
namespace Go.Hz

def inI (n : Int) : Prop := -9223372036854775808 ≤ n ∧ n ≤ 9223372036854775807
def En.fine (e : En) : Prop := inI e.idx ∧ inI e.term ∧ inI e.kind ∧ e.data.length < 4294967296
def Ms.fine (m : Ms) : Prop := (inI m.kind ∧ inI m.frm ∧ inI m.to ∧ inI m.term ∧ inI m.index ∧ inI m.lterm ∧ inI m.commit ∧ inI m.seq ∧ inI m.mtch ∧ inI m.mi ∧ inI m.mt) ∧ (∀ e ∈ m.es, e.fine) ∧ (∀ v ∈ m.vs, inI v) ∧ m.data.length < 4294967296

theorem bad_iff {e : En} : e.bad = false ↔ 0 ≤ e.kind ∧ e.kind ≤ 255 := by
  simp [En.bad]
theorem entP_B : ∀ (l : List En) (s : RS) (t : List UInt8), (∀ e ∈ l, e.fine ∧ e.bad = false) → s.At (l.flatMap En.B ++ t) → (entP l.length s).1 = l ∧ (entP l.length s).2.At t
  | [], s, t, _, h => ⟨rfl, h⟩
  | e :: l, s, t, hf, h => by
    obtain ⟨⟨f1, f2, f3, f4⟩, fb⟩ := hf e (List.mem_cons_self ..)
    have fk := bad_iff.1 fb
    have e0 : s.At (beB 8 e.idx ++ (beB 8 e.term ++ (beB 1 e.kind ++ (txB e.data ++ (l.flatMap En.B ++ t))))) := by
      simpa [En.B, List.flatMap_cons] using h
    obtain ⟨a1, b1⟩ := e0.i8 f1.1 f1.2
    obtain ⟨a2, b2⟩ := b1.i8 f2.1 f2.2
    obtain ⟨a3, b3⟩ := b2.i1 fk.1 (by omega)
    obtain ⟨a4, b4⟩ := b3.t f4
    obtain ⟨c1, c2⟩ := entP_B l _ t (fun x hx => hf x (List.mem_cons_of_mem _ hx)) b4
    rw [List.length_cons, entP, if_pos e0.1]
    simp only [a1, a2, a3, a4]
    exact ⟨by rw [c1], c2⟩
theorem votP_B : ∀ (l : List Int) (s : RS) (t : List UInt8), (∀ v ∈ l, inI v) → s.At (l.flatMap (beB 8) ++ t) → (votP l.length s).1 = l ∧ (votP l.length s).2.At t
  | [], s, t, _, h => ⟨rfl, h⟩
  | v :: l, s, t, hf, h => by
    have f := hf v (List.mem_cons_self ..)
    have e0 : s.At (beB 8 v ++ (l.flatMap (beB 8) ++ t)) := by simpa [List.flatMap_cons] using h
    obtain ⟨a1, b1⟩ := e0.i8 f.1 f.2
    obtain ⟨c1, c2⟩ := votP_B l _ t (fun x hx => hf x (List.mem_cons_of_mem _ hx)) b1
    rw [List.length_cons, votP, if_pos e0.1]
    simp only [a1]
    exact ⟨by rw [c1], c2⟩

theorem flag_of (b : Bool) : (flagN b == 1) = b := by cases b <;> rfl
theorem flag_in (b : Bool) : 0 ≤ flagN b ∧ flagN b ≤ 1 := by cases b <;> simp [flagN]

/-- A message that was written is read. -/
theorem read_B {m : Ms} (hm : m.fine) (he : m.e = 0) : erP ⟨m.B, 0, 0⟩ = 0 ∧ msP ⟨m.B, 0, 0⟩ = m := by
  obtain ⟨⟨f1, f2, f3, f4, f5, f6, f7, f8, f9, f10, f11⟩, fe, fv, fd⟩ := hm
  unfold Ms.e at he
  split at he
  · omega
  rename_i k1
  split at he
  · omega
  rename_i k2
  split at he
  · omega
  rename_i k3
  have kb : ∀ e ∈ m.es, e.bad = false := fun e hx => by
    cases hb : e.bad
    · rfl
    · exact absurd (List.any_eq_true.2 ⟨e, hx, hb⟩) k3
  have s0 : (RS.mk m.B 0 0).At (beB 1 m.kind ++ (beB 8 m.frm ++ (beB 8 m.to ++ (beB 8 m.term ++ (beB 8 m.index ++ (beB 8 m.lterm ++ (beB 1 m.es.length ++ (m.es.flatMap En.B ++ (beB 8 m.commit ++ (beB 8 m.seq ++ (beB 1 (flagN m.ok) ++ (beB 8 m.mtch ++
      (beB 8 m.mi ++ (beB 8 m.mt ++ (beB 1 m.vs.length ++ (m.vs.flatMap (beB 8) ++ (txB m.data ++ []))))))))))))))))) := by
    have e : (beB 1 m.kind ++ (beB 8 m.frm ++ (beB 8 m.to ++ (beB 8 m.term ++ (beB 8 m.index ++ (beB 8 m.lterm ++ (beB 1 m.es.length ++ (m.es.flatMap En.B ++ (beB 8 m.commit ++ (beB 8 m.seq ++ (beB 1 (flagN m.ok) ++ (beB 8 m.mtch ++
      (beB 8 m.mi ++ (beB 8 m.mt ++ (beB 1 m.vs.length ++ (m.vs.flatMap (beB 8) ++ (txB m.data ++ []))))))))))))))))) = m.B := by
      unfold Ms.B Ms.five
      simp only [List.flatMap_cons, List.flatMap_nil, List.append_assoc, List.nil_append, List.append_nil]
    rw [e]
    exact RS.At.start m.B
  generalize hs : RS.mk m.B 0 0 = s at *
  have hsb : s.b = m.B := by rw [← hs]
  obtain ⟨a0, b0⟩ := s0.i1 (by omega) (by omega)
  obtain ⟨a1, b1⟩ := b0.i8 f2.1 f2.2
  obtain ⟨a2, b2⟩ := b1.i8 f3.1 f3.2
  obtain ⟨a3, b3⟩ := b2.i8 f4.1 f4.2
  obtain ⟨a4, b4⟩ := b3.i8 f5.1 f5.2
  obtain ⟨a5, b5⟩ := b4.i8 f6.1 f6.2
  obtain ⟨a6, b6⟩ := b5.i1 (by omega) (by omega)
  have hk : ((((((s.adv 1).adv 8).adv 8).adv 8).adv 8).adv 8).v 1 = m.es.length := by unfold RS.v; rw [a6]; simp
  obtain ⟨c1, c2⟩ := entP_B m.es _ _ (fun e hx => ⟨fe e hx, kb e hx⟩) b6
  rw [← hk] at c1 c2
  generalize hE : entP ((((((s.adv 1).adv 8).adv 8).adv 8).adv 8).adv 8 |>.v 1) ((((((s.adv 1).adv 8).adv 8).adv 8).adv 8).adv 8 |>.adv 1) = E at c1 c2
  obtain ⟨a7, b7⟩ := c2.i8 f7.1 f7.2
  obtain ⟨a8, b8⟩ := b7.i8 f8.1 f8.2
  have hfl := flag_in m.ok
  obtain ⟨a9, b9⟩ := b8.i1 hfl.1 (by omega)
  obtain ⟨a10, b10⟩ := b9.i8 f9.1 f9.2
  obtain ⟨a11, b11⟩ := b10.i8 f10.1 f10.2
  obtain ⟨a12, b12⟩ := b11.i8 f11.1 f11.2
  obtain ⟨a13, b13⟩ := b12.i1 (by omega) (by omega)
  have hk2 : ((((((E.2.adv 8).adv 8).adv 1).adv 8).adv 8).adv 8).v 1 = m.vs.length := by unfold RS.v; rw [a13]; simp
  obtain ⟨d1, d2⟩ := votP_B m.vs _ _ fv b13
  rw [← hk2] at d1 d2
  generalize hV : votP ((((((E.2.adv 8).adv 8).adv 1).adv 8).adv 8).adv 8 |>.v 1) ((((((E.2.adv 8).adv 8).adv 1).adv 8).adv 8).adv 8 |>.adv 1) = V at d1 d2
  obtain ⟨a14, b14⟩ := d2.t fd
  have hr : rdP s = ⟨((((((s.adv 1).adv 8).adv 8).adv 8).adv 8).adv 8), E.1, E.2, V.1, V.2⟩ := by
    unfold rdP
    simp only
    rw [hE, hV]
  constructor
  · unfold erP
    rw [hr]
    simp only
    rw [a0, a9, if_neg (by omega), if_neg (by omega), if_neg (by rw [b14.1]; simp), if_neg ?_]
    have hb : V.2.atx.b = s.b := by
      rw [RS.atx_b, ← hV, votP_b]
      show E.2.b = s.b
      rw [← hE, entP_b]
      rfl
    have := b14.fin
    rw [hb] at this
    omega
  · unfold msP
    rw [hr]
    simp only [a0, a1, a2, a3, a4, a5, a7, a8, a9, a10, a11, a12, c1, d1, a14, flag_of]

theorem par_B {m : Ms} (hm : m.fine) (he : m.e = 0) : parE (frameB m.B) = 0 ∧ parM (frameB m.B) = m := by
  obtain ⟨h1, h2⟩ := read_B hm he
  have hl : m.B.length ≤ 16777216 := by
    unfold Ms.e at he
    split at he
    · omega
    split at he
    · omega
    split at he
    · omega
    split at he
    · omega
    omega
  have hu := unF_frame m.B [] hl
  rw [List.append_nil] at hu
  have hp : parE (frameB m.B) = 0 := by
    unfold parE
    rw [hu]
    simp only
    rw [if_neg (by simp), if_neg (by rw [frameB_length]; omega)]
    exact h1
  refine ⟨hp, ?_⟩
  unfold parM
  rw [if_pos hp, hu]
  exact h2

/-! ### back -/

theorem entP_well (n : Nat) : ∀ s : RS, s.well → (entP n s).2.well := by
  induction n with
  | zero => exact fun s h => h
  | succ n ih =>
    intro s h
    unfold entP
    split
    · exact ih _ (((h.adv 8).adv 8).adv 1).atx
    · exact h
theorem votP_well (n : Nat) : ∀ s : RS, s.well → (votP n s).2.well := by
  induction n with
  | zero => exact fun s h => h
  | succ n ih =>
    intro s h
    unfold votP
    split
    · exact ih _ (h.adv 8)
    · exact h
theorem val_in (s : RS) (n : Nat) : inI (s.val n) := by
  unfold RS.val inI
  split
  · simp only [IntKind.wrap, IntKind.signed, IntKind.bits]
    simp
    omega
  · omega
theorem v_in (s : RS) : 0 ≤ s.val 1 ∧ s.val 1 < 256 := by
  obtain ⟨a, b⟩ := s.v_val
  omega
theorem entP_back : ∀ (n : Nat) (s : RS), s.well → (entP n s).2.err = 0 → s.err = 0 ∧ (entP n s).1.length = n ∧ s.rest = (entP n s).1.flatMap En.B ++ (entP n s).2.rest ∧ ∀ e ∈ (entP n s).1, e.fine ∧ e.bad = false
  | 0, s, _, h => ⟨h, rfl, rfl, by simp [entP]⟩
  | n + 1, s, hw, h => by
    by_cases h0 : s.err = 0
    · rw [entP, if_pos h0] at h ⊢
      have w1 := hw.adv 8
      have w2 := w1.adv 8
      have w3 := w2.adv 1
      obtain ⟨a, b, c, d⟩ := entP_back n _ w3.atx h
      obtain ⟨a4, b4, l4⟩ := RS.backT w3 a
      obtain ⟨a3, b3⟩ := RS.backN (by omega) w2 a4
      obtain ⟨a2, b2⟩ := RS.backN (by omega) w1 a3
      obtain ⟨a1, b1⟩ := RS.backN (by omega) hw a2
      refine ⟨h0, by simp only [List.length_cons, b], ?_, fun e he => ?_⟩
      · rw [b1, b2, b3, b4, c]
        simp [List.flatMap_cons, En.B]
      · rcases List.mem_cons.1 he with rfl | he
        · refine ⟨⟨val_in _ _, val_in _ _, val_in _ _, l4⟩, bad_iff.2 ?_⟩
          have := v_in ((s.adv 8).adv 8)
          simp only
          omega
        · exact d e he
    · rw [entP, if_neg h0] at h
      exact absurd h h0
theorem votP_back : ∀ (n : Nat) (s : RS), s.well → (votP n s).2.err = 0 → s.err = 0 ∧ (votP n s).1.length = n ∧ s.rest = (votP n s).1.flatMap (beB 8) ++ (votP n s).2.rest
  | 0, s, _, h => ⟨h, rfl, rfl⟩
  | n + 1, s, hw, h => by
    by_cases h0 : s.err = 0
    · rw [votP, if_pos h0] at h ⊢
      obtain ⟨a, b, c⟩ := votP_back n _ (hw.adv 8) h
      obtain ⟨a1, b1⟩ := RS.backN (by omega) hw a
      refine ⟨h0, by simp only [List.length_cons, b], ?_⟩
      rw [b1, c]
      simp [List.flatMap_cons]
    · rw [votP, if_neg h0] at h
      exact absurd h h0

theorem flag_back (n : Int) (h0 : 0 ≤ n) (h1 : n ≤ 1) : flagN (n == 1) = n := by
  have : n = 0 ∨ n = 1 := by omega
  rcases this with rfl | rfl <;> rfl

/-- What was read was written. -/
theorem read_back {x : List UInt8} (he : erP ⟨x, 0, 0⟩ = 0) (hl : x.length ≤ 16777216) : (msP ⟨x, 0, 0⟩).B = x ∧ (msP ⟨x, 0, 0⟩).e = 0 := by
  have w0 : (RS.mk x 0 0).well := Nat.zero_le _
  have r0 : (RS.mk x 0 0).rest = x := rfl
  have hsb : (RS.mk x 0 0).b = x := rfl
  generalize RS.mk x 0 0 = s at *
  unfold erP at he
  simp only at he
  split at he
  · omega
  rename_i k1
  split at he
  · omega
  rename_i k2
  split at he
  · omega
  rename_i k3
  split at he
  · omega
  rename_i k4
  have k3 : (rdP s).s3.atx.err = 0 := by
    by_cases q : (rdP s).s3.atx.err = 0
    · exact q
    · exact absurd q k3
  have w6 := (((((w0.adv 1).adv 8).adv 8).adv 8).adv 8).adv 8
  generalize hs1 : ((((((s.adv 1).adv 8).adv 8).adv 8).adv 8).adv 8) = s1 at *
  generalize hE : entP (s1.v 1) (s1.adv 1) = E
  have wE : E.2.well := by rw [← hE]; exact entP_well _ _ (w6.adv 1)
  have w12 := (((((wE.adv 8).adv 8).adv 1).adv 8).adv 8).adv 8
  generalize hs2 : ((((((E.2.adv 8).adv 8).adv 1).adv 8).adv 8).adv 8) = s2 at *
  generalize hV : votP (s2.v 1) (s2.adv 1) = V
  have wV : V.2.well := by rw [← hV]; exact votP_well _ _ (w12.adv 1)
  have hr : rdP s = ⟨s1, E.1, E.2, V.1, V.2⟩ := by
    unfold rdP
    simp only
    rw [hs1, hE, hs2, hV]
  rw [hr] at k2 k3 k4
  simp only at k2 k3 k4
  obtain ⟨a14, b14, l14⟩ := RS.backT wV k3
  have hV1 := votP_back (s2.v 1) (s2.adv 1) (w12.adv 1) (by rw [hV]; exact a14)
  rw [hV] at hV1
  obtain ⟨a13, c13, b13⟩ := hV1
  obtain ⟨a12, b12⟩ := RS.backN (by omega) w12 a13
  rw [← hs2] at a12
  have x1 := wE.adv 8
  have x2 := x1.adv 8
  have x3 := x2.adv 1
  have x4 := x3.adv 8
  have x5 := x4.adv 8
  obtain ⟨a11, b11⟩ := RS.backN (by omega) x5 a12
  obtain ⟨a10, b10⟩ := RS.backN (by omega) x4 a11
  obtain ⟨a9, b9⟩ := RS.backN (by omega) x3 a10
  obtain ⟨a8, b8⟩ := RS.backN (by omega) x2 a9
  obtain ⟨a7, b7⟩ := RS.backN (by omega) x1 a8
  obtain ⟨a6, b6⟩ := RS.backN (by omega) wE a7
  have hE1 := entP_back (s1.v 1) (s1.adv 1) (w6.adv 1) (by rw [hE]; exact a6)
  rw [hE] at hE1
  obtain ⟨a5, c5, b5, d5⟩ := hE1
  obtain ⟨a4, b4⟩ := RS.backN (by omega) w6 a5
  rw [← hs1] at a4
  have y1 := w0.adv 1
  have y2 := y1.adv 8
  have y3 := y2.adv 8
  have y4 := y3.adv 8
  have y5 := y4.adv 8
  obtain ⟨a3, b3⟩ := RS.backN (by omega) y5 a4
  obtain ⟨a2, b2⟩ := RS.backN (by omega) y4 a3
  obtain ⟨a1, b1⟩ := RS.backN (by omega) y3 a2
  obtain ⟨a0, b0⟩ := RS.backN (by omega) y2 a1
  obtain ⟨z1, zb1⟩ := RS.backN (by omega) y1 a0
  obtain ⟨z0, zb0⟩ := RS.backN (by omega) w0 z1
  rw [hs1] at b3
  rw [hs2] at b11
  have kk : ¬ (s.val 1 < 1 ∨ 5 < s.val 1) := fun q => k1 ⟨z1, q⟩
  have kf : ¬ 1 < ((E.2.adv 8).adv 8).val 1 := fun q => k2 ⟨a9, q⟩
  have hfl := v_in ((E.2.adv 8).adv 8)
  have hend : V.2.atx.rest = [] := by
    have hb : V.2.atx.b = s.b := by
      rw [RS.atx_b, ← hV, votP_b]
      show s2.b = s.b
      rw [← hs2]
      show E.2.b = s.b
      rw [← hE, entP_b]
      show s1.b = s.b
      rw [← hs1]
      rfl
    unfold RS.rest
    apply List.drop_of_length_le
    rw [hb]
    omega
  have v1 := s1.v_val
  have v2 := s2.v_val
  have hB : (msP s).B = x := by
    unfold msP
    rw [hr]
    unfold Ms.B Ms.five
    simp only [List.flatMap_cons, List.flatMap_nil, List.append_assoc, List.nil_append, List.append_nil]
    rw [flag_back _ hfl.1 (by omega), c5, c13, ← v1.1, ← v2.1, ← r0, zb0, zb1, b0, b1, b2, b3, b4, b5, b6, b7, b8, b9, b10, b11, b12, b13, b14, hend, List.append_nil]
  refine ⟨hB, ?_⟩
  have m1 : (msP s).kind = s.val 1 := rfl
  have m2 : (msP s).es = E.1 := by unfold msP; rw [hr]
  have m3 : (msP s).vs = V.1 := by unfold msP; rw [hr]
  unfold Ms.e
  rw [hB, m1, m2, m3, if_neg kk, if_neg (by omega), if_neg ?_, if_neg (by omega)]
  intro q
  obtain ⟨e, h1, h2⟩ := List.any_eq_true.1 q
  rw [(d5 e h1).2] at h2
  cases h2
end Go.Hz
/- An index as it lies; what it says, as a list. -/
set_option linter.unusedVariables false
set_option linter.unusedSimpArgs false
namespace Go.Hz
abbrev Mk := Int × Bool
def mkE (m : Mk) : List AV := [.int .i64 m.1, .bool m.2]
theorem mkE_len (m : Mk) : (mkE m).length = 2 := rfl
theorem atoms_mkE (l : List Mk) : AtomsL (l.map mkE) := by
  intro e he v hv
  obtain ⟨k, _, rfl⟩ := List.mem_map.1 he
  simp only [mkE, List.mem_cons, List.not_mem_nil, or_false] at hv
  rcases hv with rfl | rfl <;> rfl
/-- An item: where it lies, its key, its marks. -/
structure Ixt where
  a : Nat
  key : Key
  mv : AV
  ms : List Mk
def Ixt.kp (x : Ixt) : Kp := (x.a, x.key)
def Ixt.k (x : Ixt) : Asr := pto x.a (.row 2 [[.str x.key, x.mv]] 1)
def Ixt.m (x : Ixt) : Asr := Ow 2 x.mv (x.ms.map mkE)
def Ixt.p (x : Ixt) : Asr := fun h => sat h [x.k, x.m]
theorem sat_it {x : Ixt} {h : Hp} {F : List Asr} : sat h (x.p :: F) ↔ sat h (x.k :: x.m :: F) := sat_sl (l1 := [x.k, x.m])

def insIt (x : Ixt) (l : List Ixt) : List Ixt := l.takeWhile (fun y => ltK y.key x.key) ++ x :: l.dropWhile (fun y => ltK y.key x.key)
theorem insIt_kp (x : Ixt) (l : List Ixt) : (insIt x l).map Ixt.kp = insK x.kp (l.map Ixt.kp) := by
  unfold insIt insK
  rw [List.map_append, List.map_cons]
  congr 1
  · induction l with
    | nil => rfl
    | cons y l ih => simp only [List.takeWhile_cons, List.map_cons, Ixt.kp]; split <;> simp_all [Ixt.kp]
  · congr 1
    induction l with
    | nil => rfl
    | cons y l ih => simp only [List.dropWhile_cons, List.map_cons, Ixt.kp]; split <;> simp_all [Ixt.kp]
theorem insIt_perm (x : Ixt) (l : List Ixt) : (insIt x l).Perm (x :: l) := by
  unfold insIt
  refine List.perm_middle.trans ?_
  rw [List.takeWhile_append_dropWhile]
theorem insIt_len (x : Ixt) (l : List Ixt) : (insIt x l).length = l.length + 1 := by rw [(insIt_perm x l).length_eq]; rfl
theorem sat.permMap {α : Type} {f : α → Asr} {l l' : List α} {F : List Asr} {h : Hp} (p : l.Perm l') (hs : sat h (l.map f ++ F)) : sat h (l'.map f ++ F) := hs.perm ((p.map f).append_right F)

/-- The root of an index: none, or a tree. -/
def rootV : Option (Nat × Tr) → AV
  | none => .nilp
  | some (_, t) => .ptr t.root 2 0 0
def rootA : Option (Nat × Tr) → Asr
  | none => fun _ => True
  | some (_, t) => t.asr
def rootOK (l : List Kp) : Option (Nat × Tr) → Prop
  | none => l = []
  | some (d, t) => OKd d t ∧ t.flat = l
/-- An index at a block, and its items. -/
def IxQ (b : Nat) (its : List Ixt) : Asr := fun h => ∃ r, rootOK (its.map Ixt.kp) r ∧ sat h (pto b (.row 2 [[rootV r, .int .i64 its.length]] 1) :: rootA r :: its.map Ixt.p)
def SrtI (its : List Ixt) : Prop := Srt (its.map Ixt.kp)
theorem sat_ixq {b : Nat} {its : List Ixt} {h : Hp} {F : List Asr} : sat h (IxQ b its :: F) ↔ ∃ r, rootOK (its.map Ixt.kp) r ∧ sat h (pto b (.row 2 [[rootV r, .int .i64 its.length]] 1) :: rootA r :: (its.map Ixt.p ++ F)) := by
  unfold IxQ
  rw [sat_ex]
  constructor
  · rintro ⟨r, hs⟩
    obtain ⟨h1, hs⟩ := sat_and.1 hs
    exact ⟨r, h1, sat_sl.1 hs⟩
  · rintro ⟨r, h1, hs⟩
    exact ⟨r, sat_and.2 ⟨h1, sat_sl.2 hs⟩⟩
theorem ItP.k {x : Ixt} {h : Hp} {F : List Asr} (hs : sat h (x.p :: F)) : h x.a = some (.row 2 [[.str x.key, x.mv]] 1) := (sat_it.1 hs).at
theorem IR.of {its : List Ixt} {h : Hp} {F : List Asr} (hs : sat h (its.map Ixt.p ++ F)) : IR (its.map Ixt.kp) h := by
  intro y hy
  obtain ⟨x, hx, rfl⟩ := List.mem_map.1 hy
  obtain ⟨l1, l2, rfl⟩ := List.append_of_mem hx
  rw [List.map_append, List.map_cons, List.append_assoc] at hs
  exact ⟨x.mv, ItP.k hs.mid⟩

/-- What an index says: keys and their marks, in the order of the keys. -/
abbrev IL := List (Key × List Mk)
def Ixt.kv (x : Ixt) : Key × List Mk := (x.key, x.ms)
def getL (L : IL) (k : Key) : List Mk := match L.find? (fun x => x.1 == k) with
  | some x => x.2
  | none => []
def lastM (l : List Mk) : Mk := l.getLast?.getD (0, true)
def putE (L : IL) (key : Key) (m : Mk) : Int :=
  if key = [] ∨ 100 < key.length ∨ m.1 < 1 then 1 else if m.1 ≤ (lastM (getL L key)).1 then 15 else if m.2 = true ∧ (lastM (getL L key)).2 = true then 2 else 0
def layL (L : IL) (key : Key) (l : List Mk) : IL := L.takeWhile (fun y => ltK y.1 key) ++ (key, l) :: (L.dropWhile (fun y => ltK y.1 key)).dropWhile (fun y => y.1 == key)
def putL (L : IL) (key : Key) (m : Mk) : IL := if putE L key m = 0 then layL L key (getL L key ++ [m]) else L
def SrtL (L : IL) : Prop := L.Pairwise fun x y => ltK x.1 y.1 = true
theorem SrtI.kv {its : List Ixt} : SrtI its ↔ SrtL (its.map Ixt.kv) := by
  unfold SrtI SrtL Srt
  rw [List.pairwise_map, List.pairwise_map]
  exact Iff.rfl
theorem getL_mid {l1 l2 : IL} {k : Key} {l : List Mk} (hs : SrtL (l1 ++ (k, l) :: l2)) : getL (l1 ++ (k, l) :: l2) k = l := by
  have h1 : l1.find? (fun x => x.1 == k) = none := List.find?_eq_none.2 fun x hx => by
    have := (List.pairwise_append.1 hs).2.2 x hx (k, l) (by simp)
    simp only [beq_iff_eq]
    intro h; rw [h, ltK_irrefl] at this; cases this
  unfold getL
  rw [List.find?_append, h1]
  simp
theorem getL_none {L : IL} {k : Key} (h : ∀ x ∈ L, x.1 ≠ k) : getL L k = [] := by
  unfold getL
  rw [List.find?_eq_none.2 fun x hx => by simpa using h x hx]
theorem layL_mid {l1 l2 : IL} {k : Key} {l l' : List Mk} (hs : SrtL (l1 ++ (k, l) :: l2)) : layL (l1 ++ (k, l) :: l2) k l' = l1 ++ (k, l') :: l2 := by
  have h1 := List.pairwise_append.1 hs
  have h2 := List.pairwise_cons.1 h1.2.1
  unfold layL
  have a1 : ∀ x ∈ l1, ltK x.1 k = true := fun x hx => h1.2.2 x hx (k, l) (by simp)
  rw [takeWhile_all (p := fun y : Key × List Mk => ltK y.1 k) a1, dropWhile_all (p := fun y : Key × List Mk => ltK y.1 k) a1]
  have b1 : ((k, l) :: l2).takeWhile (fun y => ltK y.1 k) = [] := by rw [List.takeWhile_cons, ltK_irrefl]; rfl
  have b2 : ((k, l) :: l2).dropWhile (fun y => ltK y.1 k) = (k, l) :: l2 := by rw [List.dropWhile_cons, ltK_irrefl]; rfl
  have b3 : ((k, l) :: l2).dropWhile (fun y => y.1 == k) = l2 := by
    rw [List.dropWhile_cons]
    simp only [beq_self_eq_true, if_true]
    cases l2 with
    | nil => rfl
    | cons y l2 =>
      have := h2.1 y (by simp)
      have hne : (y.1 == k) = false := by
        rw [beq_eq_false_iff_ne]; intro h; dsimp only at this; rw [h, ltK_irrefl] at this; cases this
      rw [List.dropWhile_cons, hne]; rfl
  rw [b1, b2, b3, List.append_nil]
theorem layL_new {its : List Ixt} {x : Ixt} (hs : SrtI its) (hx : ∀ y ∈ its, y.key ≠ x.key) : layL (its.map Ixt.kv) x.key x.ms = (insIt x its).map Ixt.kv := by
  unfold layL insIt
  rw [List.map_append, List.map_cons]
  have e1 : (its.map Ixt.kv).takeWhile (fun y => ltK y.1 x.key) = (its.takeWhile fun y => ltK y.key x.key).map Ixt.kv := by rw [List.takeWhile_map]; rfl
  have e2 : (its.map Ixt.kv).dropWhile (fun y => ltK y.1 x.key) = (its.dropWhile fun y => ltK y.key x.key).map Ixt.kv := by rw [List.dropWhile_map]; rfl
  rw [e1, e2]
  congr 2
  have hd : ∀ y ∈ its.dropWhile (fun y => ltK y.key x.key), y.key ≠ x.key := fun y hy => hx y ((List.dropWhile_sublist _).subset hy)
  generalize its.dropWhile (fun y => ltK y.key x.key) = l at hd
  cases l with
  | nil => rfl
  | cons y l =>
    have hne : ((Ixt.kv y).1 == x.key) = false := by
      rw [beq_eq_false_iff_ne]; exact hd y (by simp)
    rw [List.map_cons, List.dropWhile_cons, hne]; rfl
/-- An item of an index by itself, and what is left. -/
theorem ixq_open {b : Nat} {l1 l2 : List Ixt} {x : Ixt} {h : Hp} {F : List Asr} (hs : sat h (IxQ b (l1 ++ x :: l2) :: F)) :
    ∃ R : Asr, sat h (x.p :: R :: F) ∧ ∀ x' h' F', x'.a = x.a → x'.key = x.key → sat h' (x'.p :: R :: F') → sat h' (IxQ b (l1 ++ x' :: l2) :: F') := by
  obtain ⟨r, hok, g⟩ := sat_ixq.1 hs
  rw [List.map_append, List.map_cons, List.append_assoc] at g
  have g1 := sat.mid (l1 := [pto b (.row 2 [[rootV r, .int .i64 (l1 ++ x :: l2).length]] 1), rootA r] ++ l1.map Ixt.p) g
  refine ⟨fun h => sat h ([pto b (.row 2 [[rootV r, .int .i64 (l1 ++ x :: l2).length]] 1), rootA r] ++ l1.map Ixt.p ++ l2.map Ixt.p), g1.tl fun h g => sat_sl.2 (by rw [List.append_assoc]; exact g), fun x' h' F' ha hk g' => ?_⟩
  have e : x'.kp = x.kp := by unfold Ixt.kp; rw [ha, hk]
  refine sat_ixq.2 ⟨r, by rw [List.map_append, List.map_cons, e] at *; simpa using hok, ?_⟩
  have g2 := g'.tl fun h g => sat_sl.1 g
  rw [List.append_assoc] at g2
  have := g2.unmid
  rw [List.map_append, List.map_cons, List.append_assoc]
  have el : (l1 ++ x' :: l2).length = (l1 ++ x :: l2).length := by simp
  rw [el]
  exact this
theorem insIt_srt {x : Ixt} {its : List Ixt} (hs : SrtI its) (hx : ∀ y ∈ its, y.key ≠ x.key) : SrtI (insIt x its) := by
  unfold SrtI
  rw [insIt_kp]
  refine Srt.ins hs fun y hy => ?_
  obtain ⟨z, hz, rfl⟩ := List.mem_map.1 hy
  exact hx z hz

def IxP (b : Nat) (L : IL) : Asr := fun h => ∃ its, its.map Ixt.kv = L ∧ IxQ b its h
theorem sat_ixp {b : Nat} {L : IL} {h : Hp} {F : List Asr} : sat h (IxP b L :: F) ↔ ∃ its, its.map Ixt.kv = L ∧ sat h (IxQ b its :: F) := by
  unfold IxP
  rw [sat_ex]
  exact ⟨fun ⟨r, hs⟩ => ⟨r, (sat_and.1 hs).1, (sat_and.1 hs).2⟩, fun ⟨r, h1, hs⟩ => ⟨r, sat_and.2 ⟨h1, hs⟩⟩⟩
/-- An index's list as it should be: rising keys, each with marks. -/
def RisM (l : List Mk) : Prop := l.Pairwise fun x y => x.1 < y.1
def WfL (L : IL) : Prop := SrtL L ∧ ∀ x ∈ L, x.2 ≠ [] ∧ RisM x.2
theorem layL_srt {L : IL} {k : Key} {l : List Mk} (hs : SrtL L) : SrtL (layL L k l) ∧ ∀ x ∈ layL L k l, x = (k, l) ∨ x ∈ L := by
  unfold layL
  have h0 : L.takeWhile (fun y => ltK y.1 k) ++ L.dropWhile (fun y => ltK y.1 k) = L := List.takeWhile_append_dropWhile
  have hA : ∀ x ∈ L.takeWhile (fun y => ltK y.1 k), ltK x.1 k = true := fun x hx => List.all_eq_true.1 (List.all_takeWhile (p := fun y : Key × List Mk => ltK y.1 k) (l := L)) x hx
  rw [← h0] at hs
  have h1 := List.pairwise_append.1 hs
  generalize hL1 : L.takeWhile (fun y => ltK y.1 k) = A at *
  have hB : ∀ x ∈ L.dropWhile (fun y => ltK y.1 k), ltK x.1 k = false := by
    generalize hL2 : L.dropWhile (fun y => ltK y.1 k) = B at *
    cases B with
    | nil => intro x hx; cases hx
    | cons c B =>
      have hc : ltK c.1 k = false := by
        have := List.head?_dropWhile_not (fun y : Key × List Mk => ltK y.1 k) L
        rw [hL2] at this
        simpa using this
      intro x hx
      rcases List.mem_cons.1 hx with rfl | hx
      · exact hc
      · have := (List.pairwise_cons.1 h1.2.1).1 x hx
        cases hxk : ltK x.1 k with
        | false => rfl
        | true => rw [ltK_trans this hxk] at hc; cases hc
  generalize hL2 : L.dropWhile (fun y => ltK y.1 k) = B at *
  have hC : ∀ x ∈ B.dropWhile (fun y => y.1 == k), ltK k x.1 = true ∧ x ∈ B := by
    intro x hx
    have hxB : x ∈ B := (List.dropWhile_sublist _).subset hx
    refine ⟨?_, hxB⟩
    cases B with
    | nil => cases hxB
    | cons c B =>
      have hcB := List.pairwise_cons.1 h1.2.1
      rw [List.dropWhile_cons] at hx
      by_cases hck : c.1 = k
      · simp only [hck, beq_self_eq_true, if_true] at hx
        have hx2 := (List.dropWhile_sublist _).subset hx
        have := hcB.1 x hx2
        rw [hck] at this; exact this
      · have hne : (c.1 == k) = false := by rw [beq_eq_false_iff_ne]; exact hck
        rw [hne] at hx
        simp only [Bool.false_eq_true, if_false] at hx
        have hkc : ltK k c.1 = true := by
          cases hh : ltK k c.1 with
          | true => rfl
          | false => exact absurd (ltK_total (hB c (by simp)) hh) hck
        rcases List.mem_cons.1 hx with rfl | hx
        · exact hkc
        · exact ltK_trans hkc (hcB.1 x hx)
  refine ⟨List.pairwise_append.2 ⟨h1.1, List.pairwise_cons.2 ⟨fun y hy => (hC y hy).1, h1.2.1.sublist (List.dropWhile_sublist _)⟩, fun x hx y hy => ?_⟩, fun x hx => ?_⟩
  · rcases List.mem_cons.1 hy with rfl | hy
    · exact hA x hx
    · exact h1.2.2 x hx y (hC y hy).2
  · rw [← h0]
    rcases List.mem_append.1 hx with hx | hx
    · exact .inr (List.mem_append_left _ hx)
    · rcases List.mem_cons.1 hx with rfl | hx
      · exact .inl rfl
      · exact .inr (List.mem_append_right _ (hC x hx).2)
theorem getL_mem {L : IL} {k : Key} : (k, getL L k) ∈ L ∨ getL L k = [] := by
  unfold getL
  split
  · rename_i x hx
    have h1 := List.find?_some hx
    have h2 := List.mem_of_find?_eq_some hx
    have : x.1 = k := by simpa using h1
    left; rw [← this]; exact h2
  · exact .inr rfl
theorem RisM.snoc {l : List Mk} {m : Mk} (h : RisM l) (h2 : (lastM l).1 < m.1) : RisM (l ++ [m]) := by
  refine List.pairwise_append.2 ⟨h, by simp, fun x hx y hy => ?_⟩
  simp at hy; subst hy
  have hne : l ≠ [] := fun e => by subst e; cases hx
  have e : lastM l = l.getLast hne := by rw [lastM, List.getLast?_eq_some_getLast hne]; rfl
  rw [e] at h2
  have e2 := List.dropLast_concat_getLast hne
  rw [← e2] at hx h
  rcases List.mem_append.1 hx with hx | hx
  · have := (List.pairwise_append.1 h).2.2 x hx (l.getLast hne) (by simp)
    omega
  · simp at hx; subst hx; exact h2
theorem putL_wf {L : IL} {k : Key} {m : Mk} (hw : WfL L) : WfL (putL L k m) := by
  unfold putL
  split
  · rename_i h0
    have := layL_srt (k := k) (l := getL L k ++ [m]) hw.1
    refine ⟨this.1, fun x hx => (this.2 x hx).elim (fun e => ?_) (hw.2 x)⟩
    subst e
    refine ⟨by simp, RisM.snoc ?_ ?_⟩
    · rcases getL_mem (L := L) (k := k) with h | h
      · exact (hw.2 _ h).2
      · rw [h]; exact List.Pairwise.nil
    · unfold putE at h0
      split at h0
      · cases h0
      · split at h0
        · cases h0
        · omega
  · exact hw
theorem kv_cut {its : List Ixt} (key : Key) : (∃ l1 x l2, its = l1 ++ x :: l2 ∧ x.key = key) ∨ ∀ y ∈ its, y.key ≠ key := by
  by_cases h : ∃ x ∈ its, x.key = key
  · obtain ⟨x, hx, hk⟩ := h
    obtain ⟨l1, l2, rfl⟩ := List.append_of_mem hx
    exact .inl ⟨l1, x, l2, rfl, hk⟩
  · exact .inr fun y hy hk => h ⟨y, hy, hk⟩
theorem Els.lenN {h : Hp} {s : Nat} {v : AV} {es : List (List AV)} (e : Els h s v es) : lenN v = some es.length := by
  rcases e.cases with ⟨rfl, rfl⟩ | ⟨rfl, rfl⟩ | ⟨rfl, _⟩ | ⟨b, off, cap, es0, rc, rfl, _, _, _⟩ <;> rfl

/-! ### what Trim leaves, what Keys tells -/
def cntM (l : List Mk) (rev : Int) : Nat := (l.takeWhile fun m => decide (m.1 ≤ rev)).length
def trimM (l : List Mk) (rev : Int) : List Mk :=
  if cntM l rev = 0 then l else l.drop (if (l.getD (cntM l rev - 1) (0, false)).2 = true then cntM l rev else cntM l rev - 1)
def trimL (L : IL) (rev : Int) : IL := (L.map fun x => (x.1, trimM x.2 rev)).filter fun x => !x.2.isEmpty
def inR (lo hi k : Key) : Bool := !(ltK k lo) && (hi == [] || ltK k hi)
def keysL (L : IL) (lo hi : Key) : List Key := (L.map fun x => x.1).filter (inR lo hi)
theorem RisM.mono {l : List Mk} (h : RisM l) {i j : Nat} {a b : Mk} (hij : i < j) (hi : l[i]? = some a) (hj : l[j]? = some b) : a.1 < b.1 := by
  obtain ⟨h1, rfl⟩ := List.getElem?_eq_some_iff.1 hi
  obtain ⟨h2, rfl⟩ := List.getElem?_eq_some_iff.1 hj
  exact List.pairwise_iff_getElem.1 h i j h1 h2 hij
theorem cntM_eq {l : List Mk} {rev : Int} {k : Nat} (hk : k ≤ l.length) (h1 : ∀ i m, l[i]? = some m → i < k → m.1 ≤ rev) (h2 : ∀ i m, l[i]? = some m → k ≤ i → rev < m.1) : cntM l rev = k := by
  induction l generalizing k with
  | nil => simp at hk; subst hk; rfl
  | cons m l ih =>
    unfold cntM at *
    cases k with
    | zero =>
      have := h2 0 m rfl (Nat.le_refl _)
      rw [List.takeWhile_cons, decide_eq_false (by omega)]; rfl
    | succ k =>
      have := h1 0 m rfl (Nat.succ_pos _)
      rw [List.takeWhile_cons, decide_eq_true this]
      simp only [if_true, List.length_cons]
      rw [ih (by simpa using hk) (fun i x hi hik => h1 (i + 1) x hi (by omega)) (fun i x hi hik => h2 (i + 1) x hi (by omega))]
theorem trimM_suffix (l : List Mk) (rev : Int) : trimM l rev <:+ l := by
  unfold trimM
  split
  · exact List.suffix_refl _
  · exact List.drop_suffix _ _
theorem trimL_wf {L : IL} {rev : Int} (hw : WfL L) : WfL (trimL L rev) := by
  refine ⟨?_, fun x hx => ?_⟩
  · refine List.Pairwise.filter _ ?_
    rw [List.pairwise_map]
    exact hw.1
  · obtain ⟨h1, h2⟩ := List.mem_filter.1 hx
    obtain ⟨y, hy, rfl⟩ := List.mem_map.1 h1
    exact ⟨by simpa using h2, (hw.2 y hy).2.sublist (trimM_suffix _ _).sublist⟩

theorem sat_km : ∀ (its : List Ixt) {h : Hp} {F : List Asr}, sat h (its.map Ixt.p ++ F) ↔ sat h (its.map Ixt.k ++ (its.map Ixt.m ++ F))
  | [], h, F => Iff.rfl
  | x :: its, h, F => by
    simp only [List.map_cons, List.cons_append]
    rw [sat_it]
    constructor
    · intro hs
      refine hs.tl fun h g => ?_
      exact (g.tl fun h g => (sat_km its).1 g).unmid
    · intro hs
      refine hs.tl fun h g => ?_
      exact g.mid.tl fun h g => (sat_km its).2 g
theorem insIt_last {x : Ixt} {its : List Ixt} (h : ∀ y ∈ its, ltK y.key x.key = true) : insIt x its = its ++ [x] := by
  unfold insIt
  have h1 := takeWhile_all (p := fun y : Ixt => ltK y.key x.key) (A := its) (l := []) h
  have h2 := dropWhile_all (p := fun y : Ixt => ltK y.key x.key) (A := its) (l := []) h
  rw [List.append_nil] at h1 h2
  rw [h1, h2]; simp
theorem trimL_snoc (L : IL) (k : Key) (l : List Mk) (rev : Int) : trimL (L ++ [(k, l)]) rev = trimL L rev ++ (if (trimM l rev).isEmpty then [] else [(k, trimM l rev)]) := by
  unfold trimL
  rw [List.map_append, List.filter_append]
  simp only [List.map_cons, List.map_nil, List.filter_cons, List.filter_nil]
  cases (trimM l rev).isEmpty <;> simp
theorem SrtI.take {its : List Ixt} (h : SrtI its) (i : Nat) : SrtI (its.take i) := by
  unfold SrtI at *
  rw [List.map_take]
  exact h.sublist (List.take_sublist _ _)

theorem okd_size : ∀ (d : Nat) (t : Tr), OKd d t → t.flat ≠ [] → 2 ^ (d + 1) ≤ t.flat.length + 1
  | 0, t, _, hne => by
    have := List.length_pos_iff.2 hne
    simp; omega
  | d + 1, .nd p iv kv is ks, ⟨o0, o1, o2, o3⟩, _ => by
    rw [Tr.flat_nd, weave_len _ _ (by simpa using o2)]
    match ks, o2, o3 with
    | [], o2, _ => simp at o2
    | [k], o2, _ => simp only [List.length_cons, List.length_nil] at o2; omega
    | k1 :: k2 :: ks, o2, o3 =>
      have h1 := o3 k1 (by simp)
      have h2 := o3 k2 (by simp)
      have g1 := okd_size d k1 h1.1 h1.2
      have g2 := okd_size d k2 h2.1 h2.2
      simp only [List.map_cons, List.sum_cons]
      rw [Nat.pow_succ]
      omega

theorem cntM_lt {l : List Mk} {rev : Int} (hr : RisM l) {i : Nat} {m : Mk} (hi : l[i]? = some m) : i < cntM l rev ↔ m.1 ≤ rev := by
  induction l generalizing i with
  | nil => simp at hi
  | cons x l ih =>
    have h1 := List.pairwise_cons.1 hr
    unfold cntM at *
    rw [List.takeWhile_cons]
    cases i with
    | zero =>
      simp at hi; subst hi
      by_cases hx : x.1 ≤ rev
      · simp [hx]
      · simp [hx]
    | succ i =>
      have hi' : l[i]? = some m := by simpa using hi
      by_cases hx : x.1 ≤ rev
      · simp only [hx, decide_true, if_true, List.length_cons]
        rw [← ih h1.2 hi']
        omega
      · simp only [hx, decide_false, Bool.false_eq_true, if_false, List.length_nil]
        have := h1.1 m (List.mem_of_getElem? hi')
        constructor
        · intro h; omega
        · intro h; omega
theorem cntM_le {l : List Mk} {rev : Int} : cntM l rev ≤ l.length := (List.takeWhile_sublist _).length_le
theorem keysL_snoc (L : IL) (k : Key) (l : List Mk) (lo hi : Key) : keysL (L ++ [(k, l)]) lo hi = keysL L lo hi ++ (if inR lo hi k then [k] else []) := by
  unfold keysL
  rw [List.map_append, List.filter_append]
  simp only [List.map_cons, List.map_nil, List.filter_cons, List.filter_nil]

/-! ### what is told behind a Put, a Trim -/
theorem WfL.nil : WfL [] := ⟨List.Pairwise.nil, fun x hx => by cases hx⟩
theorem getL_of_mem {L : IL} {k : Key} {l : List Mk} (hs : SrtL L) (h : (k, l) ∈ L) : getL L k = l := by
  obtain ⟨l1, l2, rfl⟩ := List.append_of_mem h
  exact getL_mid hs
theorem getL_layL {L : IL} {k k' : Key} {l : List Mk} (hs : SrtL L) : getL (layL L k l) k' = if k' = k then l else getL L k' := by
  have h1 := layL_srt (k := k) (l := l) hs
  split
  · rename_i hk
    subst hk
    exact getL_of_mem h1.1 (by unfold layL; simp)
  · rename_i hk
    rcases getL_mem (L := layL L k l) (k := k') with h | h
    · rcases h1.2 _ h with h2 | h2
      · exact absurd (congrArg Prod.fst h2) hk
      · exact (getL_of_mem hs h2).symm
    · rw [h]
      rcases getL_mem (L := L) (k := k') with h3 | h3
      · have h4 : (k', getL L k') ∈ layL L k l := by
          have h0 : L.takeWhile (fun y => ltK y.1 k) ++ L.dropWhile (fun y => ltK y.1 k) = L := List.takeWhile_append_dropWhile
          rw [← h0] at h3
          unfold layL
          rcases List.mem_append.1 h3 with h3 | h3
          · rw [h0] at h3; exact List.mem_append_left _ h3
          · refine List.mem_append_right _ (List.mem_cons_of_mem _ ?_)
            rw [h0] at h3
            generalize L.dropWhile (fun y => ltK y.1 k) = B at h3
            have hB : ∀ (B : IL), (k', getL L k') ∈ B → (k', getL L k') ∈ B.dropWhile (fun y => y.1 == k) := by
              intro B hB
              induction B with
              | nil => cases hB
              | cons b B ih =>
                rw [List.dropWhile_cons]
                by_cases hb : b.1 = k
                · simp only [hb, beq_self_eq_true, if_true]
                  rcases List.mem_cons.1 hB with e | e
                  · rw [← e] at hb; exact absurd hb hk
                  · exact ih e
                · have : (b.1 == k) = false := by rw [beq_eq_false_iff_ne]; exact hb
                  rw [this]; exact hB
            exact hB B h3
        have h5 := getL_of_mem h1.1 h4
        rw [← h5, h]
      · exact h3.symm
theorem getL_put {L : IL} {k k' : Key} {m : Mk} (hs : SrtL L) (he : putE L k m = 0) : getL (putL L k m) k' = if k' = k then getL L k ++ [m] else getL L k' := by
  rw [putL, if_pos he, getL_layL hs]
theorem trimM_nil (rev : Int) : trimM [] rev = [] := rfl
theorem getL_trim {L : IL} {k : Key} {rev : Int} (hw : WfL L) : getL (trimL L rev) k = trimM (getL L k) rev := by
  have hw2 := trimL_wf (rev := rev) hw
  rcases getL_mem (L := L) (k := k) with h | h
  · by_cases he : trimM (getL L k) rev = []
    · rw [he]
      refine getL_none fun x hx hk => ?_
      obtain ⟨h1, h2⟩ := List.mem_filter.1 hx
      obtain ⟨y, hy, rfl⟩ := List.mem_map.1 h1
      have hy2 : (k, y.2) ∈ L := by rw [← hk]; exact hy
      have := getL_of_mem hw.1 hy2
      simp only [← this, he] at h2
      cases h2
    · refine getL_of_mem hw2.1 (List.mem_filter.2 ⟨List.mem_map.2 ⟨_, h, rfl⟩, by simpa using he⟩)
  · rw [h, trimM_nil]
    refine getL_none fun x hx hk => ?_
    obtain ⟨h1, h2⟩ := List.mem_filter.1 hx
    obtain ⟨y, hy, rfl⟩ := List.mem_map.1 h1
    have hy2 : (k, y.2) ∈ L := by rw [← hk]; exact hy
    have := getL_of_mem hw.1 hy2
    rw [h] at this
    exact (hw.2 y hy).1 this.symm
theorem putE_of {L : IL} {k : Key} {m : Mk} (h1 : k ≠ []) (h2 : k.length ≤ 100) : putE L k m = if m.1 < 1 then 1 else if m.1 ≤ (lastM (getL L k)).1 then 15 else if m.2 = true ∧ (lastM (getL L k)).2 = true then 2 else 0 := by
  unfold putE
  by_cases h3 : m.1 < 1
  · rw [if_pos (.inr (.inr h3)), if_pos h3]
  · rw [if_neg (by rintro (h | h | h) <;> first | exact h1 h | omega), if_neg h3]
theorem lastM_snoc (l : List Mk) (m : Mk) : lastM (l ++ [m]) = m := by simp [lastM]
theorem layL_len {L : IL} {k : Key} {l : List Mk} (hs : SrtL L) : (layL L k l).length = if getL L k = [] ∧ (∀ x ∈ L, x.1 ≠ k) then L.length + 1 else L.length := by
  by_cases h : ∀ x ∈ L, x.1 ≠ k
  · rw [if_pos ⟨getL_none h, h⟩]
    have h0 : L.takeWhile (fun y => ltK y.1 k) ++ L.dropWhile (fun y => ltK y.1 k) = L := List.takeWhile_append_dropWhile
    have hB : (L.dropWhile (fun y => ltK y.1 k)).dropWhile (fun y => y.1 == k) = L.dropWhile (fun y => ltK y.1 k) := by
      have hd : ∀ y ∈ L.dropWhile (fun y => ltK y.1 k), y.1 ≠ k := fun y hy => h y ((List.dropWhile_sublist _).subset hy)
      generalize L.dropWhile (fun y => ltK y.1 k) = B at hd
      cases B with
      | nil => rfl
      | cons b B =>
        have : (b.1 == k) = false := by rw [beq_eq_false_iff_ne]; exact hd b (by simp)
        rw [List.dropWhile_cons, this]; rfl
    unfold layL
    rw [hB]
    have := congrArg List.length h0
    simp only [List.length_append, List.length_cons] at this ⊢
    omega
  · rw [if_neg (fun hh => h hh.2)]
    have h' : ∃ x, x ∈ L ∧ x.1 = k := Classical.byContradiction fun hn => h fun x hx hk => hn ⟨x, hx, hk⟩
    obtain ⟨x, hx, hk⟩ := h'
    obtain ⟨l1, l2, rfl⟩ := List.append_of_mem hx
    obtain ⟨xk, xl⟩ := x
    subst hk
    rw [layL_mid hs]; simp
theorem putL_len {L : IL} {k : Key} {m : Mk} (hw : WfL L) : (putL L k m).length ≤ L.length + 1 := by
  unfold putL
  split
  · rw [layL_len hw.1]; split <;> omega
  · omega
theorem putL_new {L : IL} {k : Key} {m : Mk} (hw : WfL L) (he : putE L k m = 0) (hg : getL L k = []) : (putL L k m).length = L.length + 1 := by
  have key : ∀ x ∈ L, x.1 ≠ k := fun x hx hk => by
    have h1 : (k, x.2) ∈ L := by rw [← hk]; exact hx
    have h2 := getL_of_mem hw.1 h1
    rw [hg] at h2
    exact (hw.2 x hx).1 h2.symm
  rw [putL, if_pos he, layL_len hw.1, if_pos ⟨hg, key⟩]
/-- How many marks there are at most. -/
def MaxM (L : IL) (n : Nat) : Prop := ∀ x ∈ L, x.2.length ≤ n
theorem MaxM.put {L : IL} {k : Key} {m : Mk} {n : Nat} (hw : WfL L) (h : MaxM L n) : MaxM (putL L k m) (n + 1) := by
  unfold putL
  split
  · intro x hx
    rcases (layL_srt (k := k) (l := getL L k ++ [m]) hw.1).2 x hx with rfl | h2
    · rcases getL_mem (L := L) (k := k) with h3 | h3
      · have := h _ h3; simp; omega
      · simp [h3]
    · have := h x h2; omega
  · intro x hx; have := h x hx; omega
theorem MaxM.trim {L : IL} {rev : Int} {n : Nat} (h : MaxM L n) : MaxM (trimL L rev) n := by
  intro x hx
  obtain ⟨h1, _⟩ := List.mem_filter.1 hx
  obtain ⟨y, hy, rfl⟩ := List.mem_map.1 h1
  exact Nat.le_trans (trimM_suffix _ _).length_le (h y hy)
theorem MaxM.le {L : IL} {n k : Nat} (h : MaxM L n) (hk : n ≤ k) : ∀ x ∈ L, x.2.length ≤ k := fun x hx => Nat.le_trans (h x hx) hk
theorem trimL_len {L : IL} {rev : Int} : (trimL L rev).length ≤ L.length := by
  unfold trimL
  refine Nat.le_trans (List.length_filter_le _ _) ?_
  simp

/-! ### how a key looks at a revision -/
def lookM (l : List Mk) (at_ : Int) : Int := match (l.takeWhile fun m => decide (m.1 ≤ at_)).getLast? with
  | none => 0
  | some m => if m.2 = true then 0 else m.1
theorem takeWhile_drop {α : Type} {p : α → Bool} : ∀ {l : List α} {a : Nat}, a ≤ (l.takeWhile p).length → (l.drop a).takeWhile p = (l.takeWhile p).drop a
  | [], a, _ => by simp
  | x :: l, 0, _ => rfl
  | x :: l, a + 1, h => by
    rw [List.takeWhile_cons] at h ⊢
    cases hx : p x with
    | false => rw [hx] at h; simp at h
    | true =>
      rw [hx] at h
      simp only [if_true, List.length_cons] at h ⊢
      rw [List.drop_succ_cons, List.drop_succ_cons]
      exact takeWhile_drop (by omega)
theorem cntM_mono {l : List Mk} {r1 r2 : Int} (h : r1 ≤ r2) : cntM l r1 ≤ cntM l r2 := by
  unfold cntM
  induction l with
  | nil => simp
  | cons m l ih =>
    rw [List.takeWhile_cons, List.takeWhile_cons]
    by_cases h1 : m.1 ≤ r1
    · rw [decide_eq_true h1, decide_eq_true (by omega)]; simp only [if_true, List.length_cons]; omega
    · rw [decide_eq_false h1]; simp
theorem getLast_drop {α : Type} {l : List α} {a : Nat} (h : a < l.length) : (l.drop a).getLast? = l.getLast? := by
  rw [List.getLast?_drop, if_neg (by omega)]
theorem look_trim {l : List Mk} {rev at_ : Int} (h : rev ≤ at_) : lookM (trimM l rev) at_ = lookM l at_ := by
  have hc := cntM_mono (l := l) h
  unfold trimM
  split
  · rfl
  · rename_i hc0
    have key : ∀ a, a ≤ cntM l rev → (a < cntM l at_ ∨ (a = cntM l at_ ∧ ∃ m, l[cntM l rev - 1]? = some m ∧ m.2 = true ∧ cntM l at_ = cntM l rev)) → lookM (l.drop a) at_ = lookM l at_ := by
      intro a ha hcase
      have hT : (l.drop a).takeWhile (fun m => decide (m.1 ≤ at_)) = (l.takeWhile fun m => decide (m.1 ≤ at_)).drop a := takeWhile_drop (Nat.le_trans ha hc)
      unfold lookM
      rw [hT]
      rcases hcase with h1 | ⟨h1, m, h2, h3, h4⟩
      · rw [getLast_drop h1]
      · have hd : (l.takeWhile fun m => decide (m.1 ≤ at_)).drop a = [] := List.drop_eq_nil_of_le (by unfold cntM at h1; omega)
        rw [hd]
        have hp := List.prefix_iff_eq_take.1 (List.takeWhile_prefix (l := l) fun m => decide (m.1 ≤ at_))
        have hlast : (l.takeWhile fun m => decide (m.1 ≤ at_)).getLast? = some m := by
          rw [List.getLast?_eq_getElem?]
          have e1 : (l.takeWhile fun m => decide (m.1 ≤ at_)).length - 1 = cntM l rev - 1 := by
            have : (l.takeWhile fun m => decide (m.1 ≤ at_)).length = cntM l at_ := rfl
            omega
          rw [e1, hp, List.getElem?_take, if_pos (by have : (l.takeWhile fun m => decide (m.1 ≤ at_)).length = cntM l at_ := rfl; omega)]
          exact h2
        rw [hlast]
        simp [h3]
    have hle := cntM_le (l := l) (rev := rev)
    have hx : l[cntM l rev - 1]? = some (l[cntM l rev - 1]'(by omega)) := List.getElem?_eq_getElem (by omega)
    rw [List.getD_eq_getElem?_getD, hx, Option.getD_some]
    split
    · rename_i hd
      refine key _ (Nat.le_refl _) ?_
      by_cases he : cntM l rev < cntM l at_
      · exact .inl he
      · exact .inr ⟨by omega, _, hx, hd, by omega⟩
    · exact key _ (by omega) (.inl (by omega))
end Go.Hz
/- Frames of messages: back to bytes; a byte that is turned. -/
set_option linter.unusedSimpArgs false
set_option linter.unusedVariables false
set_option maxRecDepth 10000
namespace Go.Hz

theorem un_back {b : List UInt8} (h0 : (unF b).2.2 = 0) : (unF b).1 = (b.drop 8).take (hdN b) ∧ (unF b).2.1 = 8 + hdN b ∧ 8 + hdN b ≤ b.length ∧ hdN b ≤ 16777216 ∧ (sumX (unF b).1).toNat = hdS b := by
  unfold unF at h0 ⊢
  split at h0
  · simp at h0
  rename_i k1
  split at h0
  · simp at h0
  rename_i k2
  split at h0
  · simp at h0
  rename_i k3
  split at h0
  · simp at h0
  rename_i k4
  rw [if_neg k1, if_neg k2, if_neg k3, if_neg k4]
  exact ⟨rfl, rfl, by omega, by omega, by simpa using k4⟩
theorem hd_back {b : List UInt8} (h : 8 ≤ b.length) : b.take 4 = beB 4 (hdN b) ∧ (b.drop 4).take 4 = beB 4 (hdS b) := by
  have l1 : (b.take 4).length = 4 := by simp; omega
  have l2 : ((b.drop 4).take 4).length = 4 := by simp; omega
  have r1 := be_raw (b.take 4) (by omega)
  have r2 := be_raw ((b.drop 4).take 4) (by omega)
  rw [l1, (raw4 _ (by omega)).1] at r1
  rw [l2, (raw4 _ (by omega)).1] at r2
  exact ⟨r1.symm, r2.symm⟩
/-- What is read as a message is that message's bytes. -/
theorem par_back {b : List UInt8} (h : parE b = 0) : (parM b).e = 0 ∧ frameB (parM b).B = b := by
  have hm : parM b = msP ⟨(unF b).1, 0, 0⟩ := by unfold parM; rw [if_pos h]
  unfold parE at h
  split at h
  · rename_i q; exact absurd h q
  rename_i k1
  split at h
  · omega
  rename_i k2
  have h0 : (unF b).2.2 = 0 := by
    by_cases q : (unF b).2.2 = 0
    · exact q
    · exact absurd q k1
  obtain ⟨u1, u2, u3, u4, u5⟩ := un_back h0
  have hl : (unF b).1.length = hdN b := by rw [u1]; simp; omega
  obtain ⟨r1, r2⟩ := read_back h (by omega)
  rw [hm]
  refine ⟨r2, ?_⟩
  rw [r1]
  obtain ⟨q1, q2⟩ := hd_back (b := b) (by omega)
  unfold frameB
  rw [hl, u5, ← q1, ← q2, u1, List.append_assoc]
  have e1 : (b.drop 8).take (hdN b) = b.drop 8 := List.take_of_length_le (by simp; omega)
  rw [e1]
  have e2 : (b.drop 4).take 4 ++ b.drop 8 = b.drop 4 := by
    have := List.take_append_drop 4 (b.drop 4)
    rwa [List.drop_drop] at this
  rw [e2, List.take_append_drop]

/-! ### a byte that is turned -/

theorem bitX_inj {c d : UInt32} (h : bitX c = bitX d) : c = d := by
  have hb : (bitX c).toBitVec = (bitX d).toBitVec := by rw [h]
  rw [bitX_bv, bitX_bv] at hb
  apply UInt32.toBitVec_inj.1
  generalize c.toBitVec = x at *
  generalize d.toBitVec = y at *
  have h0 : x.getLsbD 0 = y.getLsbD 0 := by
    cases hx : x.getLsbD 0 <;> cases hy : y.getLsbD 0 <;> first | rfl | (exfalso; rw [hx, hy] at hb; have h31 := congrArg (fun z : BitVec 32 => z.getLsbD 31) hb; simp at h31)
  rw [h0] at hb
  have hs : x >>> 1 = y >>> 1 := by
    have := congrArg (fun z => z ^^^ (if y.getLsbD 0 = true then (3988292384#32) else 0#32)) hb
    simpa [BitVec.xor_assoc] using this
  apply BitVec.eq_of_getLsbD_eq
  intro i hi
  cases i with
  | zero => exact h0
  | succ i =>
    have := congrArg (fun z : BitVec 32 => z.getLsbD i) hs
    simp at this
    rw [Nat.add_comm]
    exact this
theorem bitsX_inj {c d : UInt32} : ∀ k, bitsX k c = bitsX k d → c = d
  | 0, h => h
  | k + 1, h => bitsX_inj k (bitX_inj h)
theorem xor_inj {a b c : UInt32} (h : a ^^^ c = b ^^^ c) : a = b := by
  have := congrArg (· ^^^ c) h
  simpa [UInt32.xor_assoc] using this
theorem stepX_inj {c d : UInt32} {x : UInt8} (h : stepX c x = stepX d x) : c = d := xor_inj (bitsX_inj 8 h)
theorem stepX_inj' {c : UInt32} {x y : UInt8} (h : stepX c x = stepX c y) : x = y := by
  have h1 : c ^^^ x.toUInt32 = c ^^^ y.toUInt32 := bitsX_inj 8 h
  have h2 : x.toUInt32 = y.toUInt32 := by
    apply xor_inj (c := c)
    rw [UInt32.xor_comm, h1, UInt32.xor_comm]
  apply UInt8.toNat_inj.1
  have := congrArg UInt32.toNat h2
  simpa using this
theorem fold_inj : ∀ (l : List UInt8) {c d : UInt32}, l.foldl stepX c = l.foldl stepX d → c = d
  | [], _, _, h => h
  | x :: l, _, _, h => stepX_inj (fold_inj l h)
theorem sum_turn (l : List UInt8) (i : Nat) (hi : i < l.length) (y : UInt8) (hy : l[i] ≠ y) : sumX (l.set i y) ≠ sumX l := by
  intro h
  unfold sumX at h
  have h1 : (l.set i y).foldl stepX 4294967295 = l.foldl stepX 4294967295 := by
    have := congrArg (fun z => ~~~ z) h
    simpa using this
  have e1 : l = l.take i ++ l[i] :: l.drop (i + 1) := by
    rw [List.getElem_cons_drop, List.take_append_drop]
  have e2 : l.set i y = l.take i ++ y :: l.drop (i + 1) := by
    rw [List.set_eq_take_append_cons_drop, if_pos hi]
  rw [e2] at h1
  conv at h1 => rhs; rw [e1]
  rw [List.foldl_append, List.foldl_append, List.foldl_cons, List.foldl_cons] at h1
  exact hy (stepX_inj' (fold_inj _ h1)).symm
/-- One byte turned in what is summed is told. -/
theorem par_turn (x : List UInt8) (hx : x.length ≤ 16777216) (i : Nat) (hi : i < x.length) (y : UInt8) (hy : x[i] ≠ y) : parE ((frameB x).set (8 + i) y) = 12 := by
  have e : (frameB x).set (8 + i) y = beB 4 x.length ++ beB 4 (sumX x).toNat ++ x.set i y := by
    unfold frameB
    have l8 : (beB 4 (x.length : Int) ++ beB 4 ((sumX x).toNat : Int)).length = 8 := by simp [beB_length]
    rw [List.set_append, if_neg (by omega), l8]
    congr 2
    omega
  have hlen : (beB 4 (x.length : Int) ++ beB 4 ((sumX x).toNat : Int) ++ x.set i y).length = 8 + x.length := by simp [beB_length]; omega
  have h4 := (sumX x).toNat_lt
  have hN : hdN (beB 4 x.length ++ beB 4 (sumX x).toNat ++ x.set i y) = x.length := by
    unfold hdN
    rw [List.append_assoc, List.take_left' (beB_length 4 _)]
    exact raw_be 4 (by omega) _ (by omega)
  have hS : hdS (beB 4 x.length ++ beB 4 (sumX x).toNat ++ x.set i y) = (sumX x).toNat := by
    unfold hdS
    rw [List.append_assoc, List.drop_left' (beB_length 4 _), List.take_left' (beB_length 4 _)]
    exact raw_be 4 (by omega) _ (by omega)
  have h3 : (((beB 4 x.length ++ beB 4 (sumX x).toNat ++ x.set i y).drop 8).take x.length) = x.set i y := by
    have l8 : (beB 4 (x.length : Int) ++ beB 4 ((sumX x).toNat : Int)).length = 8 := by simp [beB_length]
    rw [List.drop_left' l8, List.take_of_length_le (by simp)]
  have hu : unF (beB 4 x.length ++ beB 4 (sumX x).toNat ++ x.set i y) = ([], 0, 12) := by
    unfold unF
    rw [hN, hS, h3, if_neg (by omega), if_neg (by omega), if_neg (by omega), if_pos]
    intro q
    exact sum_turn x i hi y hy (UInt32.toNat_inj.1 q)
  rw [e]
  unfold parE
  rw [hu, if_pos (by simp)]
theorem par_cut (x : List UInt8) (hx : x.length ≤ 16777216) (c : Nat) (hc : c < 8 + x.length) : parE ((frameB x).take c) = 8 := by
  unfold parE
  rw [unF_cut x c hx hc, if_pos (by simp)]
end Go.Hz
/- Messages that come in. -/
set_option linter.unusedSimpArgs false
set_option linter.unusedVariables false
set_option maxRecDepth 10000
namespace Go.Hz

def tyE : Ty := .fcons (.int .i64) (.fcons (.int .i64) (.fcons (.int .i64) (.fcons (.sl (.int .u8)) .fnil)))
def tyM : Ty := .fcons (.int .i64) (.fcons (.int .i64) (.fcons (.int .i64) (.fcons (.int .i64) (.fcons (.int .i64) (.fcons (.int .i64) (.fcons (.sl (.st tyE)) (.fcons (.int .i64) (.fcons (.int .i64) (.fcons .bool (.fcons (.int .i64)
  (.fcons (.st (.fcons (.int .i64) (.fcons (.int .i64) (.fcons (.sl (.int .i64)) .fnil)))) (.fcons (.sl (.int .u8)) .fnil))))))))))))

theorem int_in {n : Int} (h : (Lit.int .i64 n).wf = true) : inI n := by
  simp only [Lit.wf, Bool.and_eq_true, decide_eq_true_eq] at h
  exact h
theorem sum_one {α : Type} (l : List α) (f : α → Nat) (hf : ∀ x ∈ l, f x = 1) : (l.map f).sum = l.length := by
  induction l with
  | nil => rfl
  | cons x l ih => rw [List.map_cons, List.sum_cons, ih (fun y hy => hf y (List.mem_cons_of_mem _ hy)), hf x (List.mem_cons_self ..), List.length_cons]; omega
theorem bulk_bytes (b : List UInt8) : (Ty.sl (.int .u8)).bulk [bytesV b] = b.length + 1 := by
  simp only [Ty.bulk, bytesV]
  rw [sum_one _ _ (fun x _ => rfl), List.length_map]
theorem bulk_ints (b : List Int) : (Ty.sl (.int .i64)).bulk [intsV b] = b.length + 1 := by
  simp only [Ty.bulk, intsV]
  rw [sum_one _ _ (fun x _ => rfl), List.length_map]

def EnIn (e : En) : Prop := inI e.idx ∧ inI e.term ∧ inI e.kind
theorem en_of {cs : List AV} (h : tyE.shape cs) : ∃ e : En, cs = e.row ∧ EnIn e := by
  obtain ⟨x1, x2, rfl, ⟨a, rfl, ha⟩, y1, y2, rfl, ⟨b, rfl, hb⟩, z1, z2, rfl, ⟨c, rfl, hc⟩, w1, w2, rfl, hd, rfl⟩ := h
  have hd0 := hd
  obtain ⟨es, rfl, _⟩ := hd0
  obtain ⟨d, hd2, _⟩ := bytes_of (a := .lst es) hd
  cases hd2
  exact ⟨⟨a, b, c, d⟩, rfl, int_in ha, int_in hb, int_in hc⟩
theorem ens_of {es : List (List AV)} (h : ∀ x ∈ es, (Ty.st tyE).shape x) : ∃ l : List En, es = l.map En.row ∧ ∀ e ∈ l, EnIn e := by
  induction es with
  | nil => exact ⟨[], rfl, by simp⟩
  | cons x es ih =>
    obtain ⟨l, rfl, hl⟩ := ih fun y hy => h y (List.mem_cons_of_mem _ hy)
    obtain ⟨e, rfl, he⟩ := en_of (h x (List.mem_cons_self ..))
    refine ⟨e :: l, rfl, fun y hy => ?_⟩
    rcases List.mem_cons.1 hy with rfl | hy
    · exact he
    · exact hl y hy
theorem bulk_en (e : En) : (Ty.st tyE).bulk e.row = e.data.length + 5 := by
  have : (Ty.st tyE).bulk e.row = 1 + (1 + (1 + ((Ty.sl (.int .u8)).bulk [bytesV e.data] + 0))) + 1 := rfl
  rw [this, bulk_bytes]
  omega
def sumD (l : List En) : Nat := (l.map fun e => e.data.length).sum
theorem sumD_succ {l : List En} {i : Nat} (hi : i < l.length) : sumD (l.take (i + 1)) = sumD (l.take i) + l[i].data.length := by
  unfold sumD
  rw [List.take_succ_eq_append_getElem hi, List.map_append, List.sum_append]
  simp
theorem sumD_le {l : List En} (i : Nat) : sumD (l.take i) ≤ sumD l := by
  have : sumD l = sumD (l.take i) + sumD (l.drop i) := by
    unfold sumD
    rw [← List.sum_append, ← List.map_append, List.take_append_drop]
  omega
theorem bulk_ens (l : List En) : (Ty.sl (.st tyE)).bulk [ensV l] = sumD l + 5 * l.length + 1 := by
  have : (Ty.sl (.st tyE)).bulk [ensV l] = ((l.map En.row).map (Ty.st tyE).bulk).sum + 1 := rfl
  rw [this, List.map_map]
  clear this
  congr 1
  unfold sumD
  induction l with
  | nil => rfl
  | cons e l ih =>
    rw [List.map_cons, List.sum_cons, List.map_cons, List.sum_cons, List.length_cons, ih]
    show (Ty.st tyE).bulk e.row + _ = _
    rw [bulk_en]
    omega

theorem data_le {l : List En} {e : En} (h : e ∈ l) : e.data.length ≤ sumD l := by
  unfold sumD
  induction l with
  | nil => cases h
  | cons x l ih =>
    rw [List.map_cons, List.sum_cons]
    rcases List.mem_cons.1 h with rfl | h
    · omega
    · have := ih h; omega
/-- A message that comes in. -/
theorem msg_of {cs : List AV} (h : tyM.shape cs) : ∃ m : Ms, cs = m.cells ∧ tyM.bulk cs = 16 + (sumD m.es + 5 * m.es.length) + m.vs.length + m.data.length ∧ (tyM.bulk cs ≤ 1048576 → m.fine) := by
  obtain ⟨x1, _, rfl, ⟨a1, rfl, h1⟩, x2, _, rfl, ⟨a2, rfl, h2⟩, x3, _, rfl, ⟨a3, rfl, h3⟩, x4, _, rfl, ⟨a4, rfl, h4⟩, x5, _, rfl, ⟨a5, rfl, h5⟩, x6, _, rfl, ⟨a6, rfl, h6⟩, x7, _, rfl, ⟨es, rfl, _, hes⟩,
    x8, _, rfl, ⟨a8, rfl, h8⟩, x9, _, rfl, ⟨a9, rfl, h9⟩, x10, _, rfl, ⟨ok, rfl⟩, x11, _, rfl, ⟨a11, rfl, h11⟩, x12, _, rfl, hmeta, x13, _, rfl, hd, rfl⟩ := h
  obtain ⟨m1, _, rfl, ⟨i, rfl, hi⟩, m2, _, rfl, ⟨t, rfl, ht⟩, m3, _, rfl, hv, rfl⟩ := hmeta
  obtain ⟨l, rfl, hl⟩ := ens_of hes
  have hv0 := hv
  obtain ⟨vs0, rfl, _⟩ := hv0
  obtain ⟨vs, hv2, _, hvi⟩ := nums_of (a := .lst vs0) hv
  cases hv2
  have hd0 := hd
  obtain ⟨ds, rfl, _⟩ := hd0
  obtain ⟨d, hd2, _⟩ := bytes_of (a := .lst ds) hd
  cases hd2
  have hb : tyM.bulk (Ms.cells ⟨a1, a2, a3, a4, a5, a6, l, a8, a9, ok, a11, i, t, vs, d⟩) = 16 + (sumD l + 5 * l.length) + vs.length + d.length := by
    have e : tyM.bulk (Ms.cells ⟨a1, a2, a3, a4, a5, a6, l, a8, a9, ok, a11, i, t, vs, d⟩) = 1 + (1 + (1 + (1 + (1 + (1 + ((Ty.sl (.st tyE)).bulk [ensV l] + (1 + (1 + (1 + (1 + ((1 + (1 + ((Ty.sl (.int .i64)).bulk [intsV vs] + 0)) + 1) + ((Ty.sl (.int .u8)).bulk [bytesV d] + 0)))))))))))) := rfl
    rw [e, bulk_ens, bulk_ints, bulk_bytes]
    omega
  refine ⟨⟨a1, a2, a3, a4, a5, a6, l, a8, a9, ok, a11, i, t, vs, d⟩, rfl, hb, fun hle => ?_⟩
  have hle' : 16 + (sumD l + 5 * l.length) + vs.length + d.length ≤ 1048576 := by rw [← hb]; exact hle
  refine ⟨⟨int_in h1, int_in h2, int_in h3, int_in h4, int_in h5, int_in h6, int_in h8, int_in h9, int_in h11, int_in hi, int_in ht⟩, fun e he => ⟨(hl e he).1, (hl e he).2.1, (hl e he).2.2, ?_⟩, hvi, ?_⟩
  · have := data_le (l := l) he
    show e.data.length < 4294967296
    omega
  · show d.length < 4294967296
    omega
/-- A message among the arguments. -/
theorem msg_one {a : AV} (h : (Ty.st tyM).one a) : ∃ m : Ms, a = .agg m.cells ∧ (Ty.st tyM).bulk1 a = 17 + (sumD m.es + 5 * m.es.length) + m.vs.length + m.data.length ∧
    ((Ty.st tyM).bulk1 a ≤ 1048576 → m.fine ∧ (m.es.length ≤ 1048576 ∧ m.vs.length ≤ 1048576 ∧ m.data.length + sumD m.es ≤ 1048576)) := by
  obtain ⟨cs, rfl, h⟩ := h
  obtain ⟨m, rfl, hb, hf⟩ := msg_of h
  have e : (Ty.st tyM).bulk1 (.agg m.cells) = tyM.bulk m.cells + 1 := rfl
  rw [e]
  exact ⟨m, rfl, by omega, fun hle => ⟨hf (by omega), by omega, by omega, by omega⟩⟩
theorem bulk1_le {τ : Ty} {τs : List Ty} {a : AV} {as2 : List AV} {N : Nat} (h : Ty.bulks (τ :: τs) (a :: as2) ≤ N) : τ.bulk1 a ≤ N ∧ Ty.bulks τs as2 ≤ N := by
  have e : Ty.bulks (τ :: τs) (a :: as2) = τ.bulk1 a + Ty.bulks τs as2 := rfl
  omega
theorem byte_of {a : AV} (h : (Ty.int .u8).one a) : ∃ b : UInt8, a = .int .u8 b.toNat := by
  obtain ⟨n, hn, hw⟩ := h
  cases hn
  simp only [Lit.wf, Bool.and_eq_true, decide_eq_true_eq] at hw
  refine ⟨UInt8.ofNat n.toNat, ?_⟩
  obtain ⟨h1, h2⟩ := hw
  have h1' : 0 ≤ n := h1
  have h2' : n ≤ 255 := h2
  congr 1
  rw [UInt8.toNat_ofNat']
  omega
theorem set_eb {b : List UInt8} {i : Nat} {x : UInt8} : (b.map eb).set i [.int .u8 x.toNat] = (b.set i x).map eb := by
  rw [List.map_set]; rfl
theorem u8_add (x y : UInt8) : IntKind.u8.wrap ((x.toNat : Int) + y.toNat) = ((x + y).toNat : Int) := by
  simp only [IntKind.wrap, IntKind.signed, IntKind.bits]
  rw [UInt8.toNat_add]
  simp
/-- append to the first part of a slice of one's own. -/
theorem app_cut {P : Program} {st : List Fr} {e : Env} {k : Kt} {d : Option Nat} {r : List (AItem × List AItem)} {s bytes b j cap : Nat} {y : AV} {es ys : List (List AV)} {h : Hp} {F : List Asr}
    (hs : sat h (pto b (.row s es cap) :: F)) (hj : j ≤ es.length) (hy : srcA s h y = some ys) (ha : AtomsL ys)
    (hb : (j + ys.length) * bytes ≤ 70368744177664) (hk : ∀ v' h', sat h' (Ow s v' (es.take j ++ ys) :: F) → v'.cells = [v'] → v'.isAtom = true → runS P r st (e.put d v') h' k) :
    effR P (appE s bytes (.arr b s 0 j cap) y h) [] d r st e k := by
  have fin : ∀ v' h', sat h' (Ow s v' (es.take j ++ ys) :: F) → obls P [] (e.put d v') h' ∧ runS P r st (e.put d v') h' k := fun v' h' g =>
    ⟨fun _ hm => by simp at hm, hk v' h' g g.els.cells g.els.atom⟩
  refine ⟨ys, hy, ha, ?_⟩
  have hbb := hs.at
  simp only [hbb]
  refine ⟨trivial, trivial, trivial, hj, trivial, hb, fun n c hn hc _ => fin _ _ ?_⟩
  have hl : (es.take j ++ ys).length = j + ys.length := by simp; omega
  have := ((hs.del).new (o := .row s (es.take j ++ ys) c) hn).ow (by rw [hl]; exact hc)
  rw [hl] at this
  exact this
/-- The first letters of what is only read. -/
theorem slc_pre {l : List UInt8} {k : IntKind} {n : Nat} (hn : n ≤ l.length) : slcL 1 (bytesV l) none (some (.int k (n : Int))) = some (bytesV (l.take n)) := by
  simp only [slcL, bytesV, boundA]
  simp [hn, List.map_take]
  intro a _; rfl
theorem u8_self {x y : UInt8} (h : x = x + y) : y = 0 := by
  have h1 := congrArg UInt8.toNat h
  rw [UInt8.toNat_add] at h1
  have := x.toNat_lt
  have := y.toNat_lt
  apply UInt8.toNat_inj.1
  show y.toNat = 0
  omega
theorem frame_at {x : List UInt8} {j : Nat} (hj : j < x.length) (h : 8 + j < (frameB x).length) : (frameB x)[8 + j] = x[j] := by
  simp only [frameB, List.getElem_append, List.length_append, beB_length]
  rw [dif_neg (by omega)]
  congr 1
  omega
theorem slc_arr {s b len cap n : Nat} {k : IntKind} (h1 : n ≤ cap) (h2 : len ≤ cap) : slcL s (.arr b s 0 len cap) none (some (.int k (n : Int))) = some (.arr b s 0 n cap) := by
  simp only [slcL, boundA]
  simp [h1, h2]
end Go.Hz
