/- A reader stands ahead of bytes: what was written is read, and what was read was written. -/
import Derived.Test.YtfbflmiipepmiaaHzPen
set_option linter.unusedSimpArgs false
set_option linter.unusedVariables false
namespace Go.Hz

/-- A reader that lacks nothing stands ahead of these bytes. -/
def RS.At (s : RS) (r : List UInt8) : Prop := s.err = 0 ∧ s.b.drop s.a = r ∧ s.a ≤ s.b.length

theorem RS.At.i8 {s : RS} {n : Int} {t : List UInt8} (h : s.At (beB 8 n ++ t)) (h1 : -9223372036854775808 ≤ n) (h2 : n ≤ 9223372036854775807) : s.val 8 = n ∧ (s.adv 8).At t := by
  obtain ⟨a, b, c⟩ := RS.be8 h1 h2 h.1 h.2.1
  have hl := congrArg List.length h.2.1
  simp [beB_length] at hl
  exact ⟨a, by rw [b]; exact ⟨rfl, c, by simp only; omega⟩⟩
theorem RS.At.i1 {s : RS} {n : Int} {t : List UInt8} (h : s.At (beB 1 n ++ t)) (h1 : 0 ≤ n) (h2 : n < 256) : s.val 1 = n ∧ (s.adv 1).At t := by
  obtain ⟨a, b, c⟩ := RS.be1 h.1 h.2.1
  have hl := congrArg List.length h.2.1
  simp [beB_length] at hl
  exact ⟨by rw [a]; omega, by rw [b]; exact ⟨rfl, c, by simp only; omega⟩⟩
theorem RS.At.t {s : RS} {x t : List UInt8} (h : s.At (txB x ++ t)) (hx : x.length < 4294967296) : s.tx = x ∧ s.atx.At t := by
  obtain ⟨a, b, c⟩ := RS.beT hx h.1 h.2.1
  have hl := congrArg List.length h.2.1
  simp [txB_length] at hl
  exact ⟨a, by rw [b]; exact ⟨rfl, c, by simp only; omega⟩⟩
theorem RS.At.fin {s : RS} (h : s.At []) : s.a = s.b.length := by
  have := congrArg List.length h.2.1
  simp at this
  have := h.2.2
  omega
theorem RS.At.start (b : List UInt8) : (RS.mk b 0 0).At b := ⟨rfl, rfl, Nat.zero_le _⟩

/-! ### back -/

theorem valN_inj : ∀ {l l' : List UInt8}, l.length = l'.length → valN l = valN l' → l = l'
  | [], [], _, _ => rfl
  | [], _ :: _, h, _ => by simp at h
  | _ :: _, [], h, _ => by simp at h
  | x :: l, y :: l', h, hv => by
    have hl : l.length = l'.length := by simpa using h
    rw [valN_cons, valN_cons, hl] at hv
    have h1 := valN_lt l
    have h2 := valN_lt l'
    rw [hl] at h1
    have hp : 0 < 256 ^ l'.length := Nat.pow_pos (by omega)
    have hx : x.toNat = y.toNat := by
      have e1 : (x.toNat * 256 ^ l'.length + valN l) / 256 ^ l'.length = x.toNat := by
        rw [Nat.mul_comm, Nat.mul_add_div hp, Nat.div_eq_of_lt h1, Nat.add_zero]
      have e2 : (y.toNat * 256 ^ l'.length + valN l') / 256 ^ l'.length = y.toNat := by
        rw [Nat.mul_comm, Nat.mul_add_div hp, Nat.div_eq_of_lt h2, Nat.add_zero]
      rw [← e1, ← e2, hv]
    rw [hx] at hv
    have := valN_inj hl (by omega)
    rw [this, UInt8.toNat_inj.1 hx]
theorem be_raw (l : List UInt8) (hl : l.length ≤ 8) : beB l.length (IntKind.i64.wrap (rawN l)) = l := by
  apply valN_inj (by rw [beB_length])
  have h1 := valN_lt l
  have h8 : 256 ^ l.length ≤ 256 ^ 8 := Nat.pow_le_pow_right (by omega) hl
  rw [rawN_val l hl]
  have hm : IntKind.u64.wrap (IntKind.i64.wrap (valN l : Int)) = (valN l : Int) := by
    simp only [IntKind.wrap, IntKind.signed, IntKind.bits]
    simp
    omega
  rw [valN_be _ (valN l) hm, Nat.mod_eq_of_lt h1]
theorem RS.back {s : RS} {n : Nat} (hn : n ≤ 8) (hg : s.a ≤ s.b.length) (h : (s.adv n).err = 0) : s.err = 0 ∧ s.b.drop s.a = beB n (s.val n) ++ (s.adv n).b.drop (s.adv n).a ∧ (s.adv n).a ≤ (s.adv n).b.length := by
  have hok : s.ok n = true := by
    cases hk : s.ok n
    · have : (s.adv n).err = 8 := by
        show (if s.ok n then s.err else (8 : Int)) = 8
        rw [hk]; rfl
      omega
    · rfl
  obtain ⟨h0, hle⟩ := RS.ok_le hok
  have hlen : ((s.b.drop s.a).take n).length = n := by simp; omega
  have hv : beB n (s.val n) = (s.b.drop s.a).take n := by
    have := be_raw ((s.b.drop s.a).take n) (by omega)
    rw [hlen] at this
    unfold RS.val
    rw [if_pos hok, this]
  have ha : (s.adv n).a = s.a + n := by
    show (if s.ok n then s.a + n else s.a) = _
    rw [hok]; rfl
  refine ⟨h0, ?_, ?_⟩
  · rw [hv, ha, RS.adv_b, ← List.drop_drop, List.take_append_drop]
  · rw [ha, RS.adv_b]; omega
/-- A reader that stood well. -/
def RS.well (s : RS) : Prop := s.a ≤ s.b.length
theorem RS.well.adv {s : RS} (h : s.well) (n : Nat) : (s.adv n).well := by
  unfold RS.well at *
  show (if s.ok n then s.a + n else s.a) ≤ s.b.length
  cases hk : s.ok n
  · exact h
  · have := (RS.ok_le hk).2
    simp only [if_true]
    omega
theorem RS.well.atx {s : RS} (h : s.well) : s.atx.well := by
  unfold RS.atx
  split
  · exact (h.adv 4).adv _
  · exact h
/-- What is left. -/
def RS.rest (s : RS) : List UInt8 := s.b.drop s.a
theorem RS.backN {s : RS} {n : Nat} (hn : n ≤ 8) (hg : s.well) (h : (s.adv n).err = 0) : s.err = 0 ∧ s.rest = beB n (s.val n) ++ (s.adv n).rest := by
  obtain ⟨a, b, c⟩ := RS.back hn hg h
  exact ⟨a, b⟩
theorem RS.backT {s : RS} (hg : s.well) (h : s.atx.err = 0) : s.err = 0 ∧ s.rest = txB s.tx ++ s.atx.rest ∧ s.tx.length < 4294967296 := by
  have hok : (s.adv 4).ok s.txk = true := by
    cases hk : (s.adv 4).ok s.txk
    · have : s.atx.err = 8 := by unfold RS.atx; rw [hk]; rfl
      omega
    · rfl
  have e : s.atx = (s.adv 4).adv s.txk := by unfold RS.atx; rw [hok]; rfl
  have et : s.tx = ((s.b.drop (s.adv 4).a).take s.txk) := by unfold RS.tx; rw [hok]; rfl
  obtain ⟨h4, hle⟩ := RS.ok_le hok
  obtain ⟨a, b⟩ := RS.backN (n := 4) (by omega) hg h4
  obtain ⟨k1, k2⟩ := s.val_txk
  have hle' : s.txk ≤ s.b.length - (s.adv 4).a := hle
  have hl : s.tx.length = s.txk := by rw [et]; simp; omega
  refine ⟨a, ?_, by omega⟩
  rw [b, k1]
  unfold txB
  rw [hl, List.append_assoc]
  congr 1
  have ha : s.atx.a = (s.adv 4).a + s.txk := by
    rw [e]
    show (if (s.adv 4).ok s.txk then _ else _) = _
    rw [hok]; rfl
  unfold RS.rest
  rw [ha, RS.atx_b, RS.adv_b, et, ← List.drop_drop, List.take_append_drop]
end Go.Hz
