/- The sums of frames: four bits at a time, and bit by bit. -/
import Derived.Test.YtfbflmiipepmiaaHzPen
set_option linter.unusedSimpArgs false
set_option linter.unusedVariables false
set_option maxRecDepth 10000
namespace Go.Hz

theorem u32_lt (c : UInt32) : (c.toNat : Int) < 4294967296 := by have := c.toNat_lt; omega
theorem u32_wrap (n : Nat) (h : n < 4294967296) : IntKind.u32.wrap (n : Int) = n := by
  simp only [IntKind.wrap, IntKind.signed, IntKind.bits]
  simp
  omega
theorem ofInt32 (k : Nat) : BitVec.ofInt 32 (k : Int) = BitVec.ofNat 32 k := by
  apply BitVec.eq_of_toNat_eq
  simp
theorem u32_bv (c : UInt32) : BitVec.ofInt 32 (c.toNat : Int) = c.toBitVec := by
  rw [ofInt32]
  exact BitVec.eq_of_toNat_eq (by simp)
theorem u32_xor (c d : UInt32) : bitsA .xor .u32 (c.toNat : Int) (d.toNat : Int) = ((c ^^^ d).toNat : Int) := by
  change IntKind.u32.wrap (((BitVec.ofInt 32 (c.toNat : Int) ^^^ BitVec.ofInt 32 (d.toNat : Int)).toNat : Nat) : Int) = _
  rw [u32_bv, u32_bv, u32_wrap _ (BitVec.isLt _)]
  rfl
theorem u32_and (c d : UInt32) : bitsA .and .u32 (c.toNat : Int) (d.toNat : Int) = ((c &&& d).toNat : Int) := by
  change IntKind.u32.wrap (((BitVec.ofInt 32 (c.toNat : Int) &&& BitVec.ofInt 32 (d.toNat : Int)).toNat : Nat) : Int) = _
  rw [u32_bv, u32_bv, u32_wrap _ (BitVec.isLt _)]
  rfl
theorem u32_shr (c : UInt32) (k : Nat) (hk : k < 32) : (c.toNat : Int).fdiv (2 ^ k) = ((c >>> UInt32.ofNat k).toNat : Int) := by
  rw [UInt32.toNat_shiftRight, UInt32.toNat_ofNat', Nat.mod_eq_of_lt (show k < 2 ^ 32 by omega), Nat.mod_eq_of_lt hk, Nat.shiftRight_eq_div_pow]
  rw [Int.fdiv_eq_ediv_of_nonneg _ (Int.pow_nonneg (by omega))]
  simp
theorem u32_of_u8 (x : UInt8) : IntKind.u32.wrap (x.toNat : Int) = (x.toUInt32.toNat : Int) := by
  have := x.toNat_lt
  rw [u32_wrap _ (by omega)]
  simp

def tabP : List UInt32 := [0, 498536548, 997073096, 651767980, 1994146192, 1802195444, 1303535960, 1342533948, 3988292384, 4027552580, 3604390888, 3412177804, 2607071920, 2262029012, 2685067896, 3183342108]
def nibP (c : UInt32) : UInt32 := (c >>> 4) ^^^ tabP.getD (c &&& 15).toNat 0
def stepP (c : UInt32) (x : UInt8) : UInt32 := nibP (nibP (c ^^^ x.toUInt32))
def sumP (b : List UInt8) : UInt32 := ~~~ (b.foldl stepP 4294967295)

theorem and15 (c : UInt32) : (c &&& 15).toNat < 16 := by
  rw [UInt32.toNat_and]
  exact Nat.lt_of_le_of_lt Nat.and_le_right (by decide)

theorem u32_and15 (c : UInt32) : bitsA .and .u32 (c.toNat : Int) 15 = ((c &&& 15).toNat : Int) := u32_and c 15
theorem u32_shr4 (c : UInt32) : (c.toNat : Int).fdiv (2 ^ min 4 32) = ((c >>> 4).toNat : Int) := u32_shr c 4 (by omega)
theorem u32_not (c : UInt32) : bitsA .xor .u32 (if IntKind.u32.signed = true then -1 else IntKind.u32.max) (c.toNat : Int) = ((~~~ c).toNat : Int) := by
  change bitsA .xor .u32 IntKind.u32.max (c.toNat : Int) = _
  have e : IntKind.u32.max = (((4294967295 : UInt32)).toNat : Int) := by decide
  rw [e, u32_xor]
  congr 2
def cellsP : List AV := tabP.map fun c => .int .u32 c.toNat
theorem cellsP_at (k : Nat) (hk : k < 16) : (List.drop k cellsP)[0]? = some (.int .u32 (tabP.getD k 0).toNat) := by
  have hl : tabP.length = 16 := rfl
  rw [List.getElem?_drop]
  simp [cellsP, List.getD_eq_getElem?_getD]
  rw [List.getElem?_eq_getElem (by omega)]
  simp

/-- One bit of the document's sum. -/
def bitX (c : UInt32) : UInt32 := if c &&& 1 = 1 then (c >>> 1) ^^^ 3988292384 else c >>> 1
def bitsX : Nat → UInt32 → UInt32
  | 0, c => c
  | k + 1, c => bitX (bitsX k c)
def stepX (c : UInt32) (x : UInt8) : UInt32 := bitsX 8 (c ^^^ x.toUInt32)
def sumX (b : List UInt8) : UInt32 := ~~~ (b.foldl stepX 4294967295)
theorem u32_and1 (c : UInt32) : bitsA .and .u32 (c.toNat : Int) 1 = ((c &&& 1).toNat : Int) := u32_and c 1
theorem u32_shr1 (c : UInt32) : (c.toNat : Int).fdiv (2 ^ min 1 32) = ((c >>> 1).toNat : Int) := u32_shr c 1 (by omega)
theorem u32_xorP (c : UInt32) : bitsA .xor .u32 (c.toNat : Int) 3988292384 = ((c ^^^ 3988292384).toNat : Int) := u32_xor c 3988292384

theorem bitX_bv (c : UInt32) : (bitX c).toBitVec = (c.toBitVec >>> 1) ^^^ (if c.toBitVec.getLsbD 0 then 3988292384#32 else 0#32) := by
  have h := BitVec.and_one_eq_setWidth_ofBool_getLsbD (x := c.toBitVec)
  unfold bitX
  cases hb : c.toBitVec.getLsbD 0
  · have hc : ¬ (c &&& 1 = 1) := by
      intro hh
      have h2 := congrArg UInt32.toBitVec hh
      rw [hb] at h
      rw [UInt32.toBitVec_and] at h2
      have h3 : c.toBitVec &&& 1#32 = 1#32 := h2
      rw [h3] at h
      exact absurd h (by decide)
    rw [if_neg hc]
    simp
  · have hc : c &&& 1 = 1 := by
      apply UInt32.toBitVec_inj.1
      rw [hb] at h
      rw [UInt32.toBitVec_and]
      exact h
    rw [if_pos hc]
    rfl

theorem nib (c : UInt32) : bitsX 4 c = nibP c := by
  apply UInt32.toBitVec_inj.1
  have e : (bitsX 4 c).toBitVec = (bitX (bitX (bitX (bitX c)))).toBitVec := rfl
  rw [e, bitX_bv, bitX_bv, bitX_bv, bitX_bv]
  unfold nibP
  rw [UInt32.toBitVec_xor]
  have e4 : (c >>> 4).toBitVec = c.toBitVec >>> 4 := rfl
  have e15 : (c &&& 15).toNat = c.toBitVec.toNat % 16 := by
    rw [UInt32.toNat_and]
    exact Nat.and_two_pow_sub_one_eq_mod _ 4
  rw [e4, e15]
  generalize c.toBitVec = x
  have t : ∀ i, x.getLsbD i = x.toNat.testBit i := fun i => rfl
  cases h0 : x.getLsbD 0 <;> cases h1 : x.getLsbD 1 <;> cases h2 : x.getLsbD 2 <;> cases h3 : x.getLsbD 3
  all_goals
    have g0 := h0
    have g1 := h1
    have g2 := h2
    have g3 := h3
    rw [t, Nat.testBit_eq_decide_div_mod_eq] at g0 g1 g2 g3
    simp at g0 g1 g2 g3
    have gm : x.toNat % 16 = (x.toNat % 2) + 2 * (x.toNat / 2 % 2) + 4 * (x.toNat / 4 % 2) + 8 * (x.toNat / 8 % 2) := by omega
    rw [g0, g1, g2, g3] at gm
    rw [gm]
    clear g0 g1 g2 g3 gm t
    simp at h0 h1 h2 h3
    simp [h0, h1, h2, h3, tabP, BitVec.ushiftRight_xor_distrib, ← BitVec.shiftRight_add, BitVec.xor_assoc]

theorem step_eq (c : UInt32) (x : UInt8) : stepP c x = stepX c x := by
  have e : stepX c x = bitsX 4 (bitsX 4 (c ^^^ x.toUInt32)) := rfl
  rw [e, nib, nib]
  rfl
theorem sum_eq (b : List UInt8) : sumP b = sumX b := by
  have : stepP = stepX := funext fun c => funext fun x => step_eq c x
  unfold sumP sumX
  rw [this]

/-- A frame. -/
def frameB (b : List UInt8) : List UInt8 := beB 4 b.length ++ beB 4 (sumX b).toNat ++ b

theorem i64_u32 (c : UInt32) : IntKind.i64.wrap (c.toNat : Int) = c.toNat := wrap_i64_go (by omega) (by have := u32_lt c; omega)

def B9 : List UInt8 := [49, 50, 51, 52, 53, 54, 55, 56, 57]
theorem k1 : (txB [97, 98] == [0, 0, 0, 2, 97, 98]) = true := by decide +kernel
theorem k2 : (((frameB B9).length : Int) == 17) = true := by decide +kernel
theorem k3 : (((frameB B9).drop 4).take 4 == [203, 244, 57, 38]) = true := by decide +kernel


/-- The numbers of a frame's head. -/
def hdN (b : List UInt8) : Nat := (rawN (b.take 4)).toNat
def hdS (b : List UInt8) : Nat := (rawN ((b.drop 4).take 4)).toNat
/-- What a frame's bytes are read as. -/
def unF (b : List UInt8) : List UInt8 × Nat × Int :=
  if b.length < 8 then ([], 0, 8)
  else if 16777216 < hdN b then ([], 0, 5)
  else if b.length < 8 + hdN b then ([], 0, 8)
  else if (sumX ((b.drop 8).take (hdN b))).toNat ≠ hdS b then ([], 0, 12)
  else ((b.drop 8).take (hdN b), 8 + hdN b, 0)

theorem raw4 (l : List UInt8) (hl : l.length ≤ 4) : IntKind.i64.wrap (rawN l) = ((rawN l).toNat : Int) ∧ (rawN l).toNat < 4294967296 := by
  obtain ⟨a, h1, h2⟩ := rawN_lt l (by omega)
  have h3 : 2 ^ (8 * l.length) ≤ 2 ^ 32 := Nat.pow_le_pow_right (by omega) (by omega)
  rw [h1, wrap_i64_go (by omega) (by omega)]
  exact ⟨by simp, by simp; omega⟩
theorem hdN_val (b c : List UInt8) (hb : 4 ≤ c.length) (hc : c.take 4 = b.take 4) : (RS.mk c 0 0).val 4 = (hdN b : Int) ∧ hdN b < 4294967296 := by
  have hok : (RS.mk c 0 0).ok 4 = true := by simp [RS.ok]; omega
  unfold RS.val
  rw [hok]
  simp only [if_true, List.drop_zero]
  rw [hc]
  exact raw4 _ (by simp; omega)
theorem hdS_val (b c : List UInt8) (hb : 8 ≤ c.length) (hc : (c.drop 4).take 4 = (b.drop 4).take 4) : ((RS.mk c 0 0).adv 4).val 4 = (hdS b : Int) ∧ hdS b < 4294967296 := by
  have hok : (RS.mk c 0 0).ok 4 = true := by simp [RS.ok]; omega
  have e : (RS.mk c 0 0).adv 4 = ⟨c, 4, 0⟩ := by
    unfold RS.adv
    rw [hok]
    rfl
  rw [e]
  have hok : (RS.mk c 4 0).ok 4 = true := by simp [RS.ok]; omega
  unfold RS.val
  rw [hok]
  simp only [if_true]
  rw [hc]
  exact raw4 _ (by simp; omega)

theorem raw_be (k : Nat) (hk : k ≤ 8) (n : Nat) (hn : n < 256 ^ k) : (rawN (beB k n)).toNat = n := by
  have h8 : 256 ^ k ≤ 256 ^ 8 := Nat.pow_le_pow_right (by omega) hk
  have hm : IntKind.u64.wrap (n : Int) = n := by
    simp only [IntKind.wrap, IntKind.signed, IntKind.bits]
    simp
    omega
  rw [rawN_val _ (by rw [beB_length]; exact hk), valN_be n n hm k, Nat.mod_eq_of_lt hn]
  simp
theorem frameB_length (x : List UInt8) : (frameB x).length = 8 + x.length := by simp [frameB, beB_length]; omega
theorem hd_frame (x t : List UInt8) (hx : x.length < 4294967296) : hdN (frameB x ++ t) = x.length ∧ hdS (frameB x ++ t) = (sumX x).toNat := by
  constructor
  · unfold hdN frameB
    rw [List.append_assoc, List.append_assoc, List.take_left' (beB_length 4 _)]
    exact raw_be 4 (by omega) _ (by omega)
  · unfold hdS frameB
    rw [List.append_assoc, List.append_assoc, List.drop_left' (beB_length 4 _), List.take_left' (beB_length 4 _)]
    exact raw_be 4 (by omega) _ (by have := (sumX x).toNat_lt; omega)
/-- A frame, with more behind it. -/
theorem unF_frame (x t : List UInt8) (hx : x.length ≤ 16777216) : unF (frameB x ++ t) = (x, 8 + x.length, 0) := by
  obtain ⟨h1, h2⟩ := hd_frame x t (by omega)
  have h3 : (((frameB x ++ t).drop 8).take x.length) = x := by
    unfold frameB
    have h8 : (beB 4 (x.length : Int) ++ beB 4 ((sumX x).toNat : Int)).length = 8 := by simp [beB_length]
    rw [List.append_assoc, List.drop_left' h8, List.take_left]
  have hl : (frameB x ++ t).length = 8 + x.length + t.length := by simp [frameB_length]
  unfold unF
  rw [h1, h2, h3, if_neg (by omega), if_neg (by omega), if_neg (by omega), if_neg (by simp)]
theorem unF_le (b : List UInt8) : (unF b).2.2 = 0 → (unF b).2.1 ≤ b.length := by
  intro h0
  unfold unF at h0 ⊢
  split at h0
  · simp at h0
  split at h0
  · simp at h0
  split at h0
  · simp at h0
  split at h0
  · simp at h0
  rw [if_neg ‹_›, if_neg ‹_›, if_neg ‹_›, if_neg ‹_›]
  simp only
  omega
/-- A frame whose end lacks. -/
theorem unF_cut (x : List UInt8) (c : Nat) (hx : x.length ≤ 16777216) (hc : c < 8 + x.length) : unF ((frameB x).take c) = ([], 0, 8) := by
  have hl : ((frameB x).take c).length = c := by rw [List.length_take, frameB_length]; omega
  unfold unF
  by_cases h8 : c < 8
  · rw [if_pos (by omega)]
  · have h1 : hdN ((frameB x).take c) = x.length := by
      have := (hd_frame x [] (by omega)).1
      rw [List.append_nil] at this
      unfold hdN at this ⊢
      rw [List.take_take, Nat.min_eq_left (by omega)]
      exact this
    rw [h1, if_neg (by omega), if_neg (by omega), if_pos (by omega)]
end Go.Hz
