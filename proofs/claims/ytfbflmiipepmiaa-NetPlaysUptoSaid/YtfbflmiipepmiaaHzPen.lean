/- Bytes of numbers and texts, a reader over bytes, the sums of frames: as plain data. -/
import Derived.Test.YtfbflmiipepmiaaHzGo
set_option linter.unusedSimpArgs false
set_option linter.unusedVariables false
namespace Go.Hz

/-- One byte of a number, the k-th from the end. -/
def bz (n : Int) (k : Nat) : UInt8 := UInt8.ofNat (IntKind.u8.wrap ((IntKind.u64.wrap n).fdiv (2 ^ (8 * k)))).toNat
/-- So many bytes of a number, the highest first. -/
def beB : Nat → Int → List UInt8
  | 0, _ => []
  | k + 1, n => bz n k :: beB k n
/-- A text as it is written. -/
def txB (s : List UInt8) : List UInt8 := beB 4 s.length ++ s

theorem beB_length (k : Nat) (n : Int) : (beB k n).length = k := by induction k with
  | zero => rfl
  | succ k ih => simp [beB, ih]
theorem txB_length (s : List UInt8) : (txB s).length = 4 + s.length := by simp [txB, beB_length]

theorem eb_wrap (x : Int) : [AV.int .u8 (IntKind.u8.wrap x)] = eb (UInt8.ofNat (IntKind.u8.wrap x).toNat) := by
  have h1 : 0 ≤ IntKind.u8.wrap x ∧ IntKind.u8.wrap x < 256 := by
    simp only [IntKind.wrap, IntKind.signed, IntKind.bits]
    constructor <;> simp <;> omega
  have h2 : ((UInt8.ofNat (IntKind.u8.wrap x).toNat).toNat : Int) = IntKind.u8.wrap x := by
    rw [UInt8.toNat_ofNat']
    omega
  simp only [eb]
  rw [h2]
theorem bz_cell (n : Int) (j : Nat) (h0 : 1 ≤ j) (h8 : j ≤ 8) : [[AV.int .u8 (IntKind.u8.wrap ((IntKind.u64.wrap n).fdiv (2 ^ min (8 * ((j : Int) - 1)).toNat 64)))]] = [bz n (j - 1)].map eb := by
  have e1 : (8 * ((j : Int) - 1)).toNat = 8 * (j - 1) := by omega
  have e2 : min (8 * (j - 1)) 64 = 8 * (j - 1) := by omega
  rw [eb_wrap, e1, e2]
  rfl
theorem beB1 (n : Int) : [[AV.int .u8 (IntKind.u8.wrap n)]] = (beB 1 n).map eb := by
  have e1 : IntKind.u8.wrap ((IntKind.u64.wrap n).fdiv (2 ^ (8 * 0))) = IntKind.u8.wrap n := by
    simp only [IntKind.wrap, IntKind.signed, IntKind.bits]
    simp
  rw [eb_wrap, ← e1]
  rfl
theorem src_row1 {h : Hp} {b n : Nat} {x : AV} (hn : h b = some (.row 1 [[x]] n)) (c : Nat) : srcA 1 h (.arr b 1 0 1 c) = some [[x]] := by simp [srcA, hn]
theorem eb_str {h : Hp} {s : List UInt8} : srcA 1 h (.str s) = some (s.map eb) := by simp [srcA, eb]

/-! ### a reader -/

/-- One byte more of a number. -/
def nstep (n : Int) (x : UInt8) : Int := bitsA .or .u64 (IntKind.u64.wrap (n * 2 ^ 8)) (IntKind.u64.wrap x.toNat)
def rawN (l : List UInt8) : Int := l.foldl nstep 0
theorem rawN_succ (l : List UInt8) (i : Nat) (hi : i < l.length) : rawN (l.take (i + 1)) = nstep (rawN (l.take i)) l[i] := by
  unfold rawN
  rw [List.take_succ_eq_append_getElem hi, List.foldl_append]
  rfl

structure RS where
  b : List UInt8
  a : Nat
  err : Int

/-- There are so many bytes. -/
def RS.ok (s : RS) (n : Nat) : Bool := decide (s.err = 0) && decide (n ≤ s.b.length - s.a)
/-- Behind so many bytes, if there are. -/
def RS.adv (s : RS) (n : Nat) : RS := ⟨s.b, if s.ok n then s.a + n else s.a, if s.ok n then s.err else 8⟩
/-- A number of so many bytes. -/
def RS.val (s : RS) (n : Nat) : Int := if s.ok n then IntKind.i64.wrap (rawN ((s.b.drop s.a).take n)) else 0
/-- A text, and where the reader then stands. -/
def RS.txk (s : RS) : Nat := (s.val 4).toNat
def RS.tx (s : RS) : List UInt8 := if (s.adv 4).ok s.txk then ((s.b.drop (s.adv 4).a).take s.txk) else []
def RS.atx (s : RS) : RS := if (s.adv 4).ok s.txk then (s.adv 4).adv s.txk else ⟨s.b, s.a, 8⟩
def RS.good (s : RS) : Prop := s.a ≤ s.b.length ∧ s.b.length ≤ 1000000000000 ∧ (s.err = 0 ∨ s.err = 8)

theorem RS.e0 {s : RS} (h : s.err = 0) : (s.err != 0) = false := by simp [h]
theorem RS.e8 {s : RS} (h : s.err = 8) : (s.err != 0) = true := by simp [h]
theorem RS.adv_b (s : RS) (n : Nat) : (s.adv n).b = s.b := rfl
theorem RS.atx_b (s : RS) : s.atx.b = s.b := by unfold RS.atx; split <;> rfl
theorem RS.ok_le {s : RS} {n : Nat} (h : s.ok n = true) : s.err = 0 ∧ n ≤ s.b.length - s.a := by simpa [RS.ok] using h
theorem RS.good.adv {s : RS} (g : s.good) (n : Nat) : (s.adv n).good := by
  obtain ⟨g1, g2, g3⟩ := g
  unfold RS.adv
  cases hk : s.ok n
  · exact ⟨g1, g2, .inr rfl⟩
  · have := RS.ok_le hk
    exact ⟨by simp; omega, g2, by simpa using g3⟩
theorem RS.good.atx {s : RS} (g : s.good) : s.atx.good := by
  unfold RS.atx
  split
  · exact (g.adv 4).adv _
  · exact ⟨g.1, g.2.1, .inr rfl⟩

/-- Where bytes lacked nothing is read. -/
theorem RS.dead {s : RS} (h : s.err = 8) : (∀ n, s.val n = 0) ∧ (∀ n, s.adv n = s) ∧ s.tx = [] ∧ s.atx = s := by
  obtain ⟨b, a, err⟩ := s
  simp only at h
  subst h
  have h0 : ∀ n, (RS.mk b a 8).ok n = false := fun n => by simp [RS.ok]
  have h1 : ∀ n, (RS.mk b a 8).adv n = RS.mk b a 8 := fun n => by unfold RS.adv; rw [h0]; rfl
  refine ⟨fun n => by unfold RS.val; rw [h0]; rfl, h1, ?_, ?_⟩
  · unfold RS.tx; rw [h1, h0]; rfl
  · unfold RS.atx; rw [h1, h0]; rfl
theorem natB (a : Nat) : (BitVec.ofInt 64 (a : Int)).toNat = a % 2 ^ 64 := by simp
theorem nstep_lt (n : Int) (x : UInt8) (k : Nat) (hk : k ≤ 7) (h : ∃ a : Nat, n = a ∧ a < 2 ^ (8 * k)) : ∃ a : Nat, nstep n x = a ∧ a < 2 ^ (8 * (k + 1)) := by
  obtain ⟨a, rfl, ha⟩ := h
  have hx := x.toNat_lt
  have hp : 2 ^ (8 * (k + 1)) = 256 * 2 ^ (8 * k) := by rw [Nat.mul_add, Nat.pow_add]; omega
  have hp2 : 2 ^ (8 * (k + 1)) ≤ 2 ^ 64 := Nat.pow_le_pow_right (by omega) (by omega)
  have h1 : IntKind.u64.wrap ((a : Int) * 2 ^ 8) = ((a * 256 : Nat) : Int) := by
    simp only [IntKind.wrap, IntKind.signed, IntKind.bits]
    simp
    omega
  have h2 : IntKind.u64.wrap (x.toNat : Int) = (x.toNat : Int) := by
    simp only [IntKind.wrap, IntKind.signed, IntKind.bits]
    simp
    omega
  have h3 : nstep (a : Int) x = IntKind.u64.wrap (((a * 256 ||| x.toNat : Nat)) : Int) := by
    unfold nstep
    rw [h1, h2]
    change IntKind.u64.wrap (((BitVec.ofInt 64 ((a * 256 : Nat) : Int) ||| BitVec.ofInt 64 (x.toNat : Int)).toNat : Nat) : Int) = _
    rw [BitVec.toNat_or, natB, natB, Nat.mod_eq_of_lt (by omega), Nat.mod_eq_of_lt (by omega)]
  have h4 : (a * 256 ||| x.toNat) < 2 ^ (8 * (k + 1)) := Nat.or_lt_two_pow (by omega) (by rw [hp]; have := Nat.one_le_two_pow (n := 8 * k); omega)
  refine ⟨_, ?_, h4⟩
  rw [h3]
  simp only [IntKind.wrap, IntKind.signed, IntKind.bits]
  simp
  omega
theorem rawN_lt (l : List UInt8) (hl : l.length ≤ 8) : ∃ a : Nat, rawN l = a ∧ a < 2 ^ (8 * l.length) := by
  have key : ∀ i, i ≤ l.length → ∃ a : Nat, rawN (l.take i) = a ∧ a < 2 ^ (8 * i) := by
    intro i
    induction i with
    | zero => intro _; exact ⟨0, rfl, by simp⟩
    | succ i ih =>
      intro hi
      rw [rawN_succ l i (by omega)]
      exact nstep_lt _ _ i (by omega) (ih (by omega))
  have := key l.length (Nat.le_refl _)
  rwa [List.take_length] at this
theorem RS.val_lt (s : RS) (n : Nat) (hn : n ≤ 7) : ∃ k : Nat, s.val n = k ∧ k < 2 ^ (8 * n) := by
  unfold RS.val
  split
  · have hl : ((s.b.drop s.a).take n).length ≤ n := List.length_take_le _ _
    obtain ⟨k, h1, h2⟩ := rawN_lt ((s.b.drop s.a).take n) (by omega)
    have h3 : k < 2 ^ (8 * n) := Nat.lt_of_lt_of_le h2 (Nat.pow_le_pow_right (by omega) (by omega))
    have h4 : 2 ^ (8 * n) ≤ 2 ^ 56 := Nat.pow_le_pow_right (by omega) (by omega)
    exact ⟨k, by rw [h1]; exact wrap_i64_go (by omega) (by omega), h3⟩
  · exact ⟨0, rfl, Nat.two_pow_pos _⟩
theorem RS.val_txk (s : RS) : s.val 4 = (s.txk : Int) ∧ s.txk < 4294967296 := by
  obtain ⟨k, h1, h2⟩ := s.val_lt 4 (by omega)
  unfold RS.txk
  rw [h1]
  exact ⟨by simp, by simpa using h2⟩
def valN (l : List UInt8) : Nat := l.foldl (fun n x => n * 256 + x.toNat) 0
theorem valN_snoc (l : List UInt8) (x : UInt8) : valN (l ++ [x]) = valN l * 256 + x.toNat := by simp [valN]
theorem list_snoc_ind {α : Type} {p : List α → Prop} (h0 : p []) (h1 : ∀ l x, p l → p (l ++ [x])) (l : List α) : p l := by
  have : ∀ m : List α, p m.reverse := by
    intro m
    induction m with
    | nil => exact h0
    | cons x m ih => rw [List.reverse_cons]; exact h1 _ _ ih
  have := this l.reverse
  rwa [List.reverse_reverse] at this
theorem valN_lt (l : List UInt8) : valN l < 256 ^ l.length := by
  refine list_snoc_ind (p := fun l => valN l < 256 ^ l.length) (by decide) (fun l x ih => ?_) l
  rw [valN_snoc, List.length_append, List.length_singleton, Nat.pow_succ]
  have := x.toNat_lt
  omega
theorem nstep_val (m : Nat) (x : UInt8) (hm : m < 72057594037927936) : nstep m x = ((m * 256 + x.toNat : Nat) : Int) := by
  have hx := x.toNat_lt
  have e1 : IntKind.u64.wrap ((m : Int) * 2 ^ 8) = ((m * 256 : Nat) : Int) := by
    simp only [IntKind.wrap, IntKind.signed, IntKind.bits]
    simp
    omega
  have e2 : IntKind.u64.wrap (x.toNat : Int) = (x.toNat : Int) := by
    simp only [IntKind.wrap, IntKind.signed, IntKind.bits]
    simp
    omega
  unfold nstep
  rw [e1, e2]
  change IntKind.u64.wrap (((BitVec.ofInt 64 ((m * 256 : Nat) : Int) ||| BitVec.ofInt 64 (x.toNat : Int)).toNat : Nat) : Int) = _
  have e3 : ∀ k : Nat, BitVec.ofInt 64 (k : Int) = BitVec.ofNat 64 k := fun k => by
    apply BitVec.eq_of_toNat_eq
    simp
  rw [e3, e3, BitVec.toNat_or, BitVec.toNat_ofNat, BitVec.toNat_ofNat, Nat.mod_eq_of_lt (by omega), Nat.mod_eq_of_lt (by omega)]
  have e4 : m * 256 ||| x.toNat = m * 256 + x.toNat := by
    rw [show m * 256 = m <<< 8 from by rw [Nat.shiftLeft_eq]]
    exact (Nat.shiftLeft_add_eq_or_of_lt (by omega) m).symm
  rw [e4]
  simp only [IntKind.wrap, IntKind.signed, IntKind.bits]
  simp
  omega
theorem rawN_val (l : List UInt8) (hl : l.length ≤ 8) : rawN l = valN l := by
  have : ∀ l : List UInt8, l.length ≤ 8 → rawN l = valN l := by
    intro l
    refine list_snoc_ind (p := fun l => l.length ≤ 8 → rawN l = valN l) (fun _ => rfl) (fun l x ih hl => ?_) l
    rw [List.length_append, List.length_singleton] at hl
    rw [valN_snoc]
    have e : rawN (l ++ [x]) = nstep (rawN l) x := by simp [rawN]
    rw [e, ih (by omega), nstep_val _ _ ?_]
    have h1 := valN_lt l
    have h2 : 256 ^ l.length ≤ 256 ^ 7 := Nat.pow_le_pow_right (by omega) (by omega)
    exact Nat.lt_of_lt_of_le h1 h2
  exact this l hl


/-! ### what was written is read -/

theorem valN_cons (x : UInt8) (l : List UInt8) : valN (x :: l) = x.toNat * 256 ^ l.length + valN l := by
  have key : ∀ (l : List UInt8) (a : Nat), l.foldl (fun n x => n * 256 + x.toNat) a = a * 256 ^ l.length + valN l := by
    intro l
    induction l with
    | nil => intro a; simp [valN]
    | cons y l ih =>
      intro a
      have h1 := ih (a * 256 + y.toNat)
      have h2 := ih y.toNat
      simp only [List.foldl_cons, List.length_cons, valN] at h1 h2 ⊢
      rw [h1]
      simp only [Nat.zero_mul, Nat.zero_add]
      rw [h2, Nat.pow_succ, Nat.add_mul]
      rw [show a * 256 * 256 ^ l.length = a * (256 ^ l.length * 256) from by rw [Nat.mul_assoc, Nat.mul_comm 256]]
      omega
  have := key l x.toNat
  simpa [valN] using this
theorem bz_val (n : Int) (m k : Nat) (hm : IntKind.u64.wrap n = m) : (bz n k).toNat = m / 256 ^ k % 256 := by
  unfold bz
  rw [hm]
  have e : (2 : Int) ^ (8 * k) = ((256 ^ k : Nat) : Int) := by
    rw [Int.pow_mul]
    simp
  rw [e, Int.fdiv_eq_ediv_of_nonneg _ (Int.natCast_nonneg _)]
  have e2 : (m : Int) / ((256 ^ k : Nat) : Int) = ((m / 256 ^ k : Nat) : Int) := by simp
  rw [e2]
  generalize m / 256 ^ k = q
  simp only [IntKind.wrap, IntKind.signed, IntKind.bits]
  rw [UInt8.toNat_ofNat']
  simp
  omega
theorem valN_be (n : Int) (m : Nat) (hm : IntKind.u64.wrap n = m) : ∀ k, valN (beB k n) = m % 256 ^ k
  | 0 => by simp [beB, valN, Nat.mod_one]
  | k + 1 => by
    rw [beB, valN_cons, bz_val n m k hm, beB_length, valN_be n m hm k, Nat.mod_pow_succ, Nat.mul_comm, Nat.add_comm]
theorem u64_nat (n : Int) : ∃ m : Nat, IntKind.u64.wrap n = m ∧ (m : Int) = n % 18446744073709551616 := by
  refine ⟨(n % 18446744073709551616).toNat, ?_, ?_⟩
  · simp only [IntKind.wrap, IntKind.signed, IntKind.bits]
    simp
    omega
  · omega

theorem ofInt_nat (n : Int) : (BitVec.ofInt 64 n).toNat = (n % 18446744073709551616).toNat := by
  rw [BitVec.toNat_ofInt]
  rfl
theorem and_mask (n : Int) (k : Nat) (hk : k ≤ 62) : bitsA .and .i64 n ((2 ^ k - 1 : Nat) : Int) = n % ((2 ^ k : Nat) : Int) := by
  change IntKind.i64.wrap (((BitVec.ofInt 64 n &&& BitVec.ofInt 64 ((2 ^ k - 1 : Nat) : Int)).toNat : Nat) : Int) = _
  have hp : 2 ^ k ≤ 2 ^ 62 := Nat.pow_le_pow_right (by omega) hk
  have hp0 := Nat.two_pow_pos k
  rw [BitVec.toNat_and, natB, ofInt_nat, Nat.mod_eq_of_lt (a := 2 ^ k - 1) (by omega), Nat.and_two_pow_sub_one_eq_mod]
  have h1 : (n % 18446744073709551616).toNat % 2 ^ k < 2 ^ k := Nat.mod_lt _ hp0
  rw [wrap_i64_go (by omega) (by omega)]
  have h2 : ((2 ^ k : Nat) : Int) ∣ 18446744073709551616 := by
    have : 2 ^ k ∣ 2 ^ 64 := Nat.pow_dvd_pow 2 (by omega)
    exact Int.natCast_dvd_natCast.2 this
  rw [← Int.emod_emod_of_dvd n h2, Int.natCast_emod, Int.toNat_of_nonneg (Int.emod_nonneg n (by omega))]
theorem and255 (n : Int) : bitsA .and .i64 n 255 = n % 256 := and_mask n 8 (by omega)
theorem and32 (n : Int) : bitsA .and .i64 n 4294967295 = n % 4294967296 := and_mask n 32 (by omega)

/-- A number that was written. -/
theorem RS.be {s : RS} {k : Nat} {n : Int} {t : List UInt8} (hk : k ≤ 8) (he : s.err = 0) (hd : s.b.drop s.a = beB k n ++ t) :
    s.val k = IntKind.i64.wrap (n % 18446744073709551616 % 256 ^ k) ∧ s.adv k = ⟨s.b, s.a + k, 0⟩ ∧ s.b.drop (s.a + k) = t := by
  have hlen : s.b.length - s.a = k + t.length := by
    have := congrArg List.length hd
    simpa [beB_length] using this
  have hok : s.ok k = true := by simp [RS.ok, he]; omega
  refine ⟨?_, ?_, ?_⟩
  · unfold RS.val
    rw [if_pos hok, hd, List.take_left' (beB_length k n), rawN_val _ (by rw [beB_length]; exact hk)]
    obtain ⟨m, h1, h2⟩ := u64_nat n
    rw [valN_be n m h1 k, ← h2]
    congr 1
  · unfold RS.adv
    rw [hok]
    simp [he]
  · rw [← List.drop_drop, hd, List.drop_left' (beB_length k n)]
theorem RS.be8 {s : RS} {n : Int} {t : List UInt8} (h1 : -9223372036854775808 ≤ n) (h2 : n ≤ 9223372036854775807) (he : s.err = 0) (hd : s.b.drop s.a = beB 8 n ++ t) :
    s.val 8 = n ∧ s.adv 8 = ⟨s.b, s.a + 8, 0⟩ ∧ s.b.drop (s.a + 8) = t := by
  obtain ⟨a, b, c⟩ := RS.be (by omega) he hd
  refine ⟨?_, b, c⟩
  rw [a]
  simp only [IntKind.wrap, IntKind.signed, IntKind.bits]
  simp
  omega
theorem RS.be4 {s : RS} {n : Int} {t : List UInt8} (he : s.err = 0) (hd : s.b.drop s.a = beB 4 n ++ t) :
    s.val 4 = n % 4294967296 ∧ s.adv 4 = ⟨s.b, s.a + 4, 0⟩ ∧ s.b.drop (s.a + 4) = t := by
  obtain ⟨a, b, c⟩ := RS.be (by omega) he hd
  refine ⟨?_, b, c⟩
  rw [a, wrap_i64_go (by omega) (by omega)]
  omega
theorem RS.be1 {s : RS} {n : Int} {t : List UInt8} (he : s.err = 0) (hd : s.b.drop s.a = beB 1 n ++ t) :
    s.val 1 = n % 256 ∧ s.adv 1 = ⟨s.b, s.a + 1, 0⟩ ∧ s.b.drop (s.a + 1) = t := by
  obtain ⟨a, b, c⟩ := RS.be (by omega) he hd
  refine ⟨?_, b, c⟩
  rw [a, wrap_i64_go (by omega) (by omega)]
  omega
theorem RS.beT {s : RS} {x t : List UInt8} (hx : x.length < 4294967296) (he : s.err = 0) (hd : s.b.drop s.a = txB x ++ t) :
    s.tx = x ∧ s.atx = ⟨s.b, s.a + (4 + x.length), 0⟩ ∧ s.b.drop (s.a + (4 + x.length)) = t := by
  unfold txB at hd
  rw [List.append_assoc] at hd
  obtain ⟨a, b, c⟩ := RS.be4 he hd
  have hk : s.txk = x.length := by
    unfold RS.txk
    rw [a]
    omega
  have hlen : s.b.length - (s.a + 4) = x.length + t.length := by
    have := congrArg List.length c
    simpa using this
  have hok : (s.adv 4).ok s.txk = true := by
    rw [hk, b]
    simp [RS.ok]
    omega
  refine ⟨?_, ?_, ?_⟩
  · unfold RS.tx
    rw [if_pos hok, hk, b, c, List.take_left]
  · unfold RS.atx
    rw [if_pos hok]
    rw [b] at hok ⊢
    unfold RS.adv
    rw [hok]
    simp [hk]
    omega
  · rw [show s.a + (4 + x.length) = s.a + 4 + x.length from by omega, ← List.drop_drop, c, List.drop_left]
end Go.Hz
