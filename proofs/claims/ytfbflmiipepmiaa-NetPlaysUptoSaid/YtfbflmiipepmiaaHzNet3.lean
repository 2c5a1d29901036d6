/- Frames of messages: back to bytes; a byte that is turned. -/
import Derived.Test.YtfbflmiipepmiaaHzNet2
set_option linter.unusedSimpArgs false
set_option linter.unusedVariables false
set_option maxRecDepth 10000
namespace Go.Hz

theorem un_back {b : List UInt8} (h0 : (unF b).2.2 = 0) : (unF b).1 = (b.drop 8).take (hdN b) ∧ (unF b).2.1 = 8 + hdN b ∧ 8 + hdN b ≤ b.length ∧ hdN b ≤ 16777216 ∧ (sumX (unF b).1).toNat = hdS b := by
  unfold unF at h0 ⊢
  split at h0
  · simp at h0
  rename_i k1
  split at h0
  · simp at h0
  rename_i k2
  split at h0
  · simp at h0
  rename_i k3
  split at h0
  · simp at h0
  rename_i k4
  rw [if_neg k1, if_neg k2, if_neg k3, if_neg k4]
  exact ⟨rfl, rfl, by omega, by omega, by simpa using k4⟩
theorem hd_back {b : List UInt8} (h : 8 ≤ b.length) : b.take 4 = beB 4 (hdN b) ∧ (b.drop 4).take 4 = beB 4 (hdS b) := by
  have l1 : (b.take 4).length = 4 := by simp; omega
  have l2 : ((b.drop 4).take 4).length = 4 := by simp; omega
  have r1 := be_raw (b.take 4) (by omega)
  have r2 := be_raw ((b.drop 4).take 4) (by omega)
  rw [l1, (raw4 _ (by omega)).1] at r1
  rw [l2, (raw4 _ (by omega)).1] at r2
  exact ⟨r1.symm, r2.symm⟩
/-- What is read as a message is that message's bytes. -/
theorem par_back {b : List UInt8} (h : parE b = 0) : (parM b).e = 0 ∧ frameB (parM b).B = b := by
  have hm : parM b = msP ⟨(unF b).1, 0, 0⟩ := by unfold parM; rw [if_pos h]
  unfold parE at h
  split at h
  · rename_i q; exact absurd h q
  rename_i k1
  split at h
  · omega
  rename_i k2
  have h0 : (unF b).2.2 = 0 := by
    by_cases q : (unF b).2.2 = 0
    · exact q
    · exact absurd q k1
  obtain ⟨u1, u2, u3, u4, u5⟩ := un_back h0
  have hl : (unF b).1.length = hdN b := by rw [u1]; simp; omega
  obtain ⟨r1, r2⟩ := read_back h (by omega)
  rw [hm]
  refine ⟨r2, ?_⟩
  rw [r1]
  obtain ⟨q1, q2⟩ := hd_back (b := b) (by omega)
  unfold frameB
  rw [hl, u5, ← q1, ← q2, u1, List.append_assoc]
  have e1 : (b.drop 8).take (hdN b) = b.drop 8 := List.take_of_length_le (by simp; omega)
  rw [e1]
  have e2 : (b.drop 4).take 4 ++ b.drop 8 = b.drop 4 := by
    have := List.take_append_drop 4 (b.drop 4)
    rwa [List.drop_drop] at this
  rw [e2, List.take_append_drop]

/-! ### a byte that is turned -/

theorem bitX_inj {c d : UInt32} (h : bitX c = bitX d) : c = d := by
  have hb : (bitX c).toBitVec = (bitX d).toBitVec := by rw [h]
  rw [bitX_bv, bitX_bv] at hb
  apply UInt32.toBitVec_inj.1
  generalize c.toBitVec = x at *
  generalize d.toBitVec = y at *
  have h0 : x.getLsbD 0 = y.getLsbD 0 := by
    cases hx : x.getLsbD 0 <;> cases hy : y.getLsbD 0 <;> first | rfl | (exfalso; rw [hx, hy] at hb; have h31 := congrArg (fun z : BitVec 32 => z.getLsbD 31) hb; simp at h31)
  rw [h0] at hb
  have hs : x >>> 1 = y >>> 1 := by
    have := congrArg (fun z => z ^^^ (if y.getLsbD 0 = true then (3988292384#32) else 0#32)) hb
    simpa [BitVec.xor_assoc] using this
  apply BitVec.eq_of_getLsbD_eq
  intro i hi
  cases i with
  | zero => exact h0
  | succ i =>
    have := congrArg (fun z : BitVec 32 => z.getLsbD i) hs
    simp at this
    rw [Nat.add_comm]
    exact this
theorem bitsX_inj {c d : UInt32} : ∀ k, bitsX k c = bitsX k d → c = d
  | 0, h => h
  | k + 1, h => bitsX_inj k (bitX_inj h)
theorem xor_inj {a b c : UInt32} (h : a ^^^ c = b ^^^ c) : a = b := by
  have := congrArg (· ^^^ c) h
  simpa [UInt32.xor_assoc] using this
theorem stepX_inj {c d : UInt32} {x : UInt8} (h : stepX c x = stepX d x) : c = d := xor_inj (bitsX_inj 8 h)
theorem stepX_inj' {c : UInt32} {x y : UInt8} (h : stepX c x = stepX c y) : x = y := by
  have h1 : c ^^^ x.toUInt32 = c ^^^ y.toUInt32 := bitsX_inj 8 h
  have h2 : x.toUInt32 = y.toUInt32 := by
    apply xor_inj (c := c)
    rw [UInt32.xor_comm, h1, UInt32.xor_comm]
  apply UInt8.toNat_inj.1
  have := congrArg UInt32.toNat h2
  simpa using this
theorem fold_inj : ∀ (l : List UInt8) {c d : UInt32}, l.foldl stepX c = l.foldl stepX d → c = d
  | [], _, _, h => h
  | x :: l, _, _, h => stepX_inj (fold_inj l h)
theorem sum_turn (l : List UInt8) (i : Nat) (hi : i < l.length) (y : UInt8) (hy : l[i] ≠ y) : sumX (l.set i y) ≠ sumX l := by
  intro h
  unfold sumX at h
  have h1 : (l.set i y).foldl stepX 4294967295 = l.foldl stepX 4294967295 := by
    have := congrArg (fun z => ~~~ z) h
    simpa using this
  have e1 : l = l.take i ++ l[i] :: l.drop (i + 1) := by
    rw [List.getElem_cons_drop, List.take_append_drop]
  have e2 : l.set i y = l.take i ++ y :: l.drop (i + 1) := by
    rw [List.set_eq_take_append_cons_drop, if_pos hi]
  rw [e2] at h1
  conv at h1 => rhs; rw [e1]
  rw [List.foldl_append, List.foldl_append, List.foldl_cons, List.foldl_cons] at h1
  exact hy (stepX_inj' (fold_inj _ h1)).symm
/-- One byte turned in what is summed is told. -/
theorem par_turn (x : List UInt8) (hx : x.length ≤ 16777216) (i : Nat) (hi : i < x.length) (y : UInt8) (hy : x[i] ≠ y) : parE ((frameB x).set (8 + i) y) = 12 := by
  have e : (frameB x).set (8 + i) y = beB 4 x.length ++ beB 4 (sumX x).toNat ++ x.set i y := by
    unfold frameB
    have l8 : (beB 4 (x.length : Int) ++ beB 4 ((sumX x).toNat : Int)).length = 8 := by simp [beB_length]
    rw [List.set_append, if_neg (by omega), l8]
    congr 2
    omega
  have hlen : (beB 4 (x.length : Int) ++ beB 4 ((sumX x).toNat : Int) ++ x.set i y).length = 8 + x.length := by simp [beB_length]; omega
  have h4 := (sumX x).toNat_lt
  have hN : hdN (beB 4 x.length ++ beB 4 (sumX x).toNat ++ x.set i y) = x.length := by
    unfold hdN
    rw [List.append_assoc, List.take_left' (beB_length 4 _)]
    exact raw_be 4 (by omega) _ (by omega)
  have hS : hdS (beB 4 x.length ++ beB 4 (sumX x).toNat ++ x.set i y) = (sumX x).toNat := by
    unfold hdS
    rw [List.append_assoc, List.drop_left' (beB_length 4 _), List.take_left' (beB_length 4 _)]
    exact raw_be 4 (by omega) _ (by omega)
  have h3 : (((beB 4 x.length ++ beB 4 (sumX x).toNat ++ x.set i y).drop 8).take x.length) = x.set i y := by
    have l8 : (beB 4 (x.length : Int) ++ beB 4 ((sumX x).toNat : Int)).length = 8 := by simp [beB_length]
    rw [List.drop_left' l8, List.take_of_length_le (by simp)]
  have hu : unF (beB 4 x.length ++ beB 4 (sumX x).toNat ++ x.set i y) = ([], 0, 12) := by
    unfold unF
    rw [hN, hS, h3, if_neg (by omega), if_neg (by omega), if_neg (by omega), if_pos]
    intro q
    exact sum_turn x i hi y hy (UInt32.toNat_inj.1 q)
  rw [e]
  unfold parE
  rw [hu, if_pos (by simp)]
theorem par_cut (x : List UInt8) (hx : x.length ≤ 16777216) (c : Nat) (hc : c < 8 + x.length) : parE ((frameB x).take c) = 8 := by
  unfold parE
  rw [unF_cut x c hx hc, if_pos (by simp)]
end Go.Hz
