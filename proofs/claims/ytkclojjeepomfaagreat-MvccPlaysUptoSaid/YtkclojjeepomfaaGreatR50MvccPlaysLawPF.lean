/- pen's writer and reader: what each call does to bytes. -/
import Derived.Test.YtkclojjeepomfaaGreatR50MvccPlaysLawPE
set_option linter.unusedSimpArgs false
set_option linter.unusedVariables false
set_option maxRecDepth 10000
namespace Go.Proofs.YtkclojjeepomfaaGreat
open Go.Hz

/-- A writer at p that has written bs, no more than k bytes. -/
def Pwr (p : Nat) (bs : List UInt8) (k : Nat) : Asr := fun h => bs.length ≤ k ∧ ∃ v, sat h [pto p (.row 1 [[v]] 1), Ow 1 v (bs.map eb)]
theorem Pwr.iff {h : Hp} {p : Nat} {bs : List UInt8} {k : Nat} {F : List Asr} : sat h (Pwr p bs k :: F) ↔ bs.length ≤ k ∧ ∃ v, sat h (pto p (.row 1 [[v]] 1) :: Ow 1 v (bs.map eb) :: F) := by
  unfold Pwr
  rw [sat_and, sat_ex]
  simp only [sat_sl, List.cons_append, List.nil_append]

section
variable {h : Hp} {F : List Asr} {p k : Nat} {bs : List UInt8}

theorem number (hs : sat h (Pwr p bs k :: F)) {size : Nat} (hsz : size ≤ 8) (n : Int) (hb : k ≤ 1000000000000) :
    Triple Tryz.prog 88 [.ptr p 1 0 0, .int .i64 size, .int .i64 n] h (fun r h => r = .tup [] ∧ sat h (Pwr p (bs ++ beB size n) (k + size) :: F)) := by
  have hk0 := (Pwr.iff.1 hs).1
  refine t88 (Nat.le_of_ble_eq_true rfl) ?_
  simp (disch := omega) only [F88, go_sem, simprocAttr]
  refine run_loop (fun e h => ∃ (j : Nat) (a : List UInt8), j ≤ size ∧ a.length = size - j ∧ a ++ beB j n = beB size n ∧ (e 0 = .ptr p 1 0 0 ∧ e 2 = .int .i64 n ∧ e 6 = .int .i64 (j - 1)) ∧ sat h (Pwr p (bs ++ a) (k + size) :: F))
    (fun e _ => match e 6 with | .int _ j => (j + 1).toNat | _ => 0) ?_ ?_
  · refine ⟨size, [], Nat.le_refl _, by simp, rfl, ⟨rfl, rfl, rfl⟩, ?_⟩
    obtain ⟨g1, g2⟩ := Pwr.iff.1 hs
    exact Pwr.iff.2 ⟨by simp; omega, by simpa using g2⟩
  · rintro e h ⟨j, a, hj, hal, ha, he, hs⟩
    obtain ⟨hk, v, hs⟩ := Pwr.iff.1 hs
    have hp := hs.at
    simp (disch := omega) only [go_sem, simprocAttr, he]
    refine cnd_dec (fun hc => ?_) (fun hc => ?_)
    · simp (disch := omega) only [go_sem, simprocAttr, he, hp]
      refine ⟨by omega, ?_⟩
      refine new_sat hs fun b hb hs => ?_
      simp (disch := omega) only [go_sem, simprocAttr, he]
      have hy := src_row1 hs.at 1
      rw [bz_cell n j (by omega) (by omega)] at hy
      rw [bz_cell n j (by omega) (by omega)] at hs
      rw [bz_cell n j (by omega) (by omega)]
      refine app_sat hs.p2 hy (atoms_eb _) (by simp at hk ⊢; omega) fun v' h hs hc' ha' => ?_
      have hp := hs.p2.at
      simp (disch := omega) only [go_sem, simprocAttr, he, hp, hc', ha']
      refine ⟨⟨j - 1, a ++ [bz n (j - 1)], by omega, by simp; omega, ?_, by congr 1; omega, Pwr.iff.2 ⟨by simp at hk ⊢; omega, v', ?_⟩⟩, by omega⟩
      · rw [← ha]
        obtain ⟨i, rfl⟩ : ∃ i, j = i + 1 := ⟨j - 1, by omega⟩
        simp [beB]
      · have := hs.p2.set (o' := .row 1 [[v']] 1)
        simpa using this.d2
    · simp (disch := omega) only [go_sem, simprocAttr, he]
      have hj0 : j = 0 := by omega
      subst hj0
      exact Pwr.iff.2 ⟨by simpa [← ha, beB] using hk, v, by simpa [← ha, beB] using hs⟩

theorem newWriter (hs : sat h F) : Triple Tryz.prog 60 [] h (fun r h => ∃ p, r = .ptr p 1 0 0 ∧ sat h (Pwr p [] 0 :: F)) := by
  refine t60 (Nat.le_of_ble_eq_true rfl) ?_
  simp (disch := omega) only [F60, go_sem, simprocAttr]
  refine new_use fun n hn => ?_
  simp (disch := omega) only [go_sem, simprocAttr]
  exact ⟨n, rfl, Pwr.iff.2 ⟨Nat.le_refl _, .nils, (hs.add ow_nil).new hn⟩⟩

theorem wU8 (hs : sat h (Pwr p bs k :: F)) (n : Int) (hb : k ≤ 1000000000000) :
    Triple Tryz.prog 65 [.ptr p 1 0 0, .int .i64 n] h (fun r h => r = .tup [] ∧ sat h (Pwr p (bs ++ beB 1 n) (k + 1) :: F)) := by
  refine t65 (Nat.le_of_ble_eq_true rfl) ?_
  simp (disch := omega) only [F65, go_sem, simprocAttr]
  refine call_use (number hs (size := 1) (by omega) n hb) ?_
  rintro r h ⟨hr, hs⟩
  subst hr
  simp (disch := omega) only [go_sem, simprocAttr]
  exact hs
theorem wU32 (hs : sat h (Pwr p bs k :: F)) (n : Int) (hb : k ≤ 1000000000000) :
    Triple Tryz.prog 87 [.ptr p 1 0 0, .int .i64 n] h (fun r h => r = .tup [] ∧ sat h (Pwr p (bs ++ beB 4 n) (k + 4) :: F)) := by
  refine t87 (Nat.le_of_ble_eq_true rfl) ?_
  simp (disch := omega) only [F87, go_sem, simprocAttr]
  refine call_use (number hs (size := 4) (by omega) n hb) ?_
  rintro r h ⟨hr, hs⟩
  subst hr
  simp (disch := omega) only [go_sem, simprocAttr]
  exact hs
theorem wInt (hs : sat h (Pwr p bs k :: F)) (n : Int) (hb : k ≤ 1000000000000) :
    Triple Tryz.prog 62 [.ptr p 1 0 0, .int .i64 n] h (fun r h => r = .tup [] ∧ sat h (Pwr p (bs ++ beB 8 n) (k + 8) :: F)) := by
  refine t62 (Nat.le_of_ble_eq_true rfl) ?_
  simp (disch := omega) only [F62, go_sem, simprocAttr]
  refine call_use (number hs (size := 8) (by omega) n hb) ?_
  rintro r h ⟨hr, hs⟩
  subst hr
  simp (disch := omega) only [go_sem, simprocAttr]
  exact hs
theorem wText (hs : sat h (Pwr p bs k :: F)) (s : List UInt8) {m : Nat} (hm : s.length ≤ m) (hb : k + m ≤ 1000000000000) :
    Triple Tryz.prog 61 [.ptr p 1 0 0, .str s] h (fun r h => r = .tup [] ∧ sat h (Pwr p (bs ++ txB s) (k + 4 + m) :: F)) := by
  refine t61 (Nat.le_of_ble_eq_true rfl) ?_
  simp (disch := omega) only [F61, go_sem, simprocAttr]
  refine call_use (wU32 hs s.length (by omega)) ?_
  rintro r h ⟨hr, hs⟩
  subst hr
  simp (disch := omega) only [go_sem, simprocAttr]
  obtain ⟨hk, v, hs⟩ := Pwr.iff.1 hs
  have hp := hs.at
  simp (disch := omega) only [go_sem, simprocAttr, hp]
  refine app_sat hs.p1 eb_str (atoms_eb _) (by simp at hk ⊢; omega) fun v' h hs hc' ha' => ?_
  have hp := hs.p1.at
  simp (disch := omega) only [go_sem, simprocAttr, hp, hc', ha']
  refine Pwr.iff.2 ⟨by simp [txB] at hk ⊢; omega, v', ?_⟩
  simpa [txB] using hs.p1.set (o' := .row 1 [[v']] 1)

/-- A slice of bytes apart. -/
theorem clone {v : AV} {b : List UInt8} (hs : sat h F) (hE : ∀ h, sat h F → Bts h v b) (hb : b.length ≤ 1000000000000) :
    Triple Tryz.prog 82 [v] h (fun r h => sat h (Ow 1 r (b.map eb) :: F)) := by
  have key : ∀ v : AV, v ≠ .lst [] → (∀ h, sat h F → Bts h v b) → Triple Tryz.prog 82 [v] h (fun r h => sat h (Ow 1 r (b.map eb) :: F)) := by
    intro v hn hE
    refine t82 (Nat.le_of_ble_eq_true rfl) ?_
    rcases Els.nil (hE _ hs) hn with ⟨rfl, he⟩ | ⟨_, hq⟩
    · simp (disch := omega) only [F82, go_sem, simprocAttr]
      have : b = [] := by simpa using he
      subst this
      exact hs.add ow_nil
    · simp (disch := omega) only [F82, go_sem, simprocAttr, hq]
      refine new_sat hs fun n hn hs => ?_
      simp (disch := omega) only [go_sem, simprocAttr]
      have hy := (hE _ hs.drop).1
      refine app_sat (hs.ow (Nat.zero_le _)) hy (atoms_eb _) (by simp; omega) fun v' h hs hc' ha' => ?_
      simp (disch := omega) only [go_sem, simprocAttr, hc']
      simpa using hs
  by_cases hn : v = .lst []
  · subst hn
    have h0 : b = [] := by
      have := (hE _ hs).1
      simpa [srcA] using this
    subst h0
    exact Triple.lst0 (pre := []) (suf := []) (key .nils (by simp) fun _ _ => ⟨rfl, by simp⟩) (key .emp (by simp) fun _ _ => ⟨rfl, by simp⟩)
  · exact key v hn hE

theorem wDoneO (hs : sat h (Pwr p bs k :: F)) (hb : k ≤ 1000000000000) :
    Triple Tryz.prog 66 [.ptr p 1 0 0] h (fun r h => sat h (Ow 1 r (bs.map eb) :: Pwr p bs k :: F)) := by
  obtain ⟨hk, v, hs⟩ := Pwr.iff.1 hs
  have hp := hs.at
  refine t66 (Nat.le_of_ble_eq_true rfl) ?_
  simp (disch := omega) only [F66, hp, go_sem, simprocAttr]
  refine call_use (clone hs (fun h hs => hs.p1.bts) (by omega)) ?_
  intro r h hs
  simp (disch := omega) only [go_sem, simprocAttr]
  exact hs.tl fun h hs => Pwr.iff.2 ⟨hk, v, hs⟩
end

/-! ### the reader -/

def Rd (p : Nat) (s : RS) : Asr := fun h => s.good ∧ ∃ v, sat h [pto p (.row 3 [[v, .int .i64 s.a, .int .i64 s.err]] 1), Ow 1 v (s.b.map eb)]
theorem Rd.iff {h : Hp} {p : Nat} {s : RS} {F : List Asr} : sat h (Rd p s :: F) ↔ s.good ∧ ∃ v, sat h (pto p (.row 3 [[v, .int .i64 s.a, .int .i64 s.err]] 1) :: Ow 1 v (s.b.map eb) :: F) := by
  unfold Rd
  rw [sat_and, sat_ex]
  simp only [sat_sl, List.cons_append, List.nil_append]

section
variable {h : Hp} {F : List Asr} {p : Nat} {s : RS}

theorem newReader {v : AV} {b : List UInt8} (hs : sat h F) (hE : ∀ h, sat h F → Bts h v b) (hb : b.length ≤ 1000000000000) :
    Triple Tryz.prog 52 [v] h (fun r h => ∃ p, r = .ptr p 3 0 0 ∧ sat h (Rd p ⟨b, 0, 0⟩ :: F)) := by
  refine t52 (Nat.le_of_ble_eq_true rfl) ?_
  simp (disch := omega) only [F52, go_sem, simprocAttr]
  refine call_use (clone hs hE hb) ?_
  intro r h hs
  simp (disch := omega) only [go_sem, simprocAttr]
  simp (disch := omega) only [go_sem, simprocAttr, hs.els.cells, hs.els.atom]
  refine new_use fun n hn => ?_
  simp (disch := omega) only [go_sem, simprocAttr]
  exact ⟨n, rfl, Rd.iff.2 ⟨⟨Nat.zero_le _, hb, .inl rfl⟩, r, hs.new hn⟩⟩

theorem rErr (hs : sat h (Rd p s :: F)) : Triple Tryz.prog 55 [.ptr p 3 0 0] h (fun r h => r = .int .i64 s.err ∧ sat h (Rd p s :: F)) := by
  have ⟨g, v, hs'⟩ := Rd.iff.1 hs
  refine t55 (Nat.le_of_ble_eq_true rfl) ?_
  simp (disch := omega) only [F55, hs'.at, go_sem, simprocAttr]
  exact hs
theorem take (hs : sat h (Rd p s :: F)) {n : Nat} (hn : n ≤ 1000000000000) :
    Triple Tryz.prog 84 [.ptr p 3 0 0, .int .i64 n] h (fun r h => ∃ x, r = .tup [x, .bool (s.ok n)] ∧ sat h (Rd p (s.adv n) :: F) ∧ ∃ l, (l = if s.ok n then (s.b.drop s.a).take n else []) ∧ Bts h x l ∧ bstrA h x = some (.str l) ∧ (s.ok n = false → x = .nils)) := by
  have ⟨g, v, hs'⟩ := Rd.iff.1 hs
  have hp := hs'.at
  have hl := hs'.p1.els.len
  rw [List.length_map] at hl
  have ⟨g1, g2, g3⟩ := g
  by_cases he : s.err = 0
  · have e1 : (s.err != 0) = false := by simp [he]
    have e2 : s.ok n = decide (n ≤ s.b.length - s.a) := by simp [RS.ok, he]
    refine t84 (Nat.le_of_ble_eq_true rfl) ?_
    simp (disch := omega) only [F84, hp, hl, e1, go_sem, simprocAttr]
    refine cnd_dec (fun hc => ?_) (fun hc => ?_)
    · have e3 : s.ok n = false := by rw [e2]; simp; omega
      simp (disch := omega) only [go_sem, simprocAttr, hp]
      refine ⟨.nils, by rw [e3], Rd.iff.2 ⟨g.adv n, v, ?_⟩, [], by rw [e3]; rfl, ⟨rfl, by simp⟩, rfl, fun _ => rfl⟩
      simp only [RS.adv, e3]
      exact hs'.set
    · have e3 : s.ok n = true := by rw [e2]; simp; omega
      have e4 : ((s.a : Int) + n) = ((s.a + n : Nat) : Int) := by omega
      obtain ⟨x, hx1, hx2, hx3⟩ := ow_slc (k := .i64) (k' := .i64) (lo := s.a) (hi := s.a + n) (by omega) (by simp; omega) hs'.p1
      simp (disch := omega) only [go_sem, simprocAttr, hp, e4, hx1]
      have hx4 := hx2 _ _ (hs'.set (o' := .row 3 [[v, AV.int .i64 ((s.a + n : Nat) : Int), AV.int .i64 s.err]] 1)).p1
      have h5 : s.a + n - s.a = n := by omega
      have h6 : List.take n (List.drop s.a (List.map eb s.b)) = ((s.b.drop s.a).take n).map eb := by simp
      rw [h5, h6] at hx4
      refine ⟨x, by rw [e3], Rd.iff.2 ⟨g.adv n, v, ?_⟩, _, by rw [e3]; rfl, hx4, Bts.bstr hx4, by rw [e3]; simp⟩
      simp only [RS.adv, e3]
      exact hs'.set
  · have e1 : (s.err != 0) = true := by simp [he]
    have e2 : s.ok n = false := by simp [RS.ok, he]
    refine t84 (Nat.le_of_ble_eq_true rfl) ?_
    simp (disch := omega) only [F84, hp, hl, e1, go_sem, simprocAttr]
    refine ⟨.nils, by rw [e2], Rd.iff.2 ⟨g.adv n, v, ?_⟩, [], by rw [e2]; rfl, ⟨rfl, by simp⟩, rfl, fun _ => rfl⟩
    simp only [RS.adv, e2]
    exact hs'.set

theorem rNumber (hs : sat h (Rd p s :: F)) {n : Nat} (hn : n ≤ 1000000000000) :
    Triple Tryz.prog 85 [.ptr p 3 0 0, .int .i64 n] h (fun r h => r = .int .i64 (s.val n) ∧ sat h (Rd p (s.adv n) :: F)) := by
  refine t85 (Nat.le_of_ble_eq_true rfl) ?_
  simp (disch := omega) only [F85, go_sem, simprocAttr]
  refine call_use (take hs hn) fun r h ⟨x, hr, hs, l, hl, hb, _, _⟩ => ?_
  subst hr
  have hlen := hb.len
  have hll : l.length ≤ n := by rw [hl]; split <;> simp; omega
  simp (disch := omega) only [go_sem, simprocAttr, hlen]
  refine run_loop (fun e h1 => ∃ i : Nat, i ≤ l.length ∧ h1 = h ∧ (e 16 = x ∧ e 17 = .int .i64 l.length ∧ e 18 = .int .i64 i ∧ e 7 = .int .u64 (rawN (l.take i))))
    (fun e _ => match e 18 with | .int _ j => (l.length - j).toNat | _ => 0) ?_ ?_
  · exact ⟨0, by omega, rfl, rfl, rfl, rfl, rfl⟩
  · rintro e h1 ⟨i, hi, rfl, he⟩
    simp (disch := omega) only [go_sem, simprocAttr, he]
    refine cnd_dec (fun hc => ?_) (fun hc => ?_)
    · obtain ⟨q, hq1, hq2⟩ := Bts.at hb (k := .i64) (i := i) (by omega)
      simp (disch := omega) only [go_sem, simprocAttr, he, hq1, hq2]
      exact ⟨⟨i + 1, by omega, by simp, by rw [rawN_succ _ _ (by omega)]; rfl⟩, by omega⟩
    · simp (disch := omega) only [go_sem, simprocAttr, he]
      have : i = l.length := by omega
      subst this
      rw [List.take_length, hl]
      refine ⟨?_, hs⟩
      unfold RS.val
      split <;> simp [rawN, *]; rfl

theorem rU8 (hs : sat h (Rd p s :: F)) : Triple Tryz.prog 58 [.ptr p 3 0 0] h (fun r h => r = .int .i64 (s.val 1) ∧ sat h (Rd p (s.adv 1) :: F)) := by
  refine t58 (Nat.le_of_ble_eq_true rfl) ?_
  simp (disch := omega) only [F58, go_sem, simprocAttr]
  refine call_use (rNumber hs (n := 1) (by omega)) ?_
  rintro r h ⟨hr, hs⟩
  subst hr
  simp (disch := omega) only [go_sem, simprocAttr]
  exact hs
theorem rU32 (hs : sat h (Rd p s :: F)) : Triple Tryz.prog 83 [.ptr p 3 0 0] h (fun r h => r = .int .i64 (s.val 4) ∧ sat h (Rd p (s.adv 4) :: F)) := by
  refine t83 (Nat.le_of_ble_eq_true rfl) ?_
  simp (disch := omega) only [F83, go_sem, simprocAttr]
  refine call_use (rNumber hs (n := 4) (by omega)) ?_
  rintro r h ⟨hr, hs⟩
  subst hr
  simp (disch := omega) only [go_sem, simprocAttr]
  exact hs
theorem rInt (hs : sat h (Rd p s :: F)) : Triple Tryz.prog 54 [.ptr p 3 0 0] h (fun r h => r = .int .i64 (s.val 8) ∧ sat h (Rd p (s.adv 8) :: F)) := by
  refine t54 (Nat.le_of_ble_eq_true rfl) ?_
  simp (disch := omega) only [F54, go_sem, simprocAttr]
  refine call_use (rNumber hs (n := 8) (by omega)) ?_
  rintro r h ⟨hr, hs⟩
  subst hr
  simp (disch := omega) only [go_sem, simprocAttr]
  exact hs
theorem rText (hs : sat h (Rd p s :: F)) : Triple Tryz.prog 53 [.ptr p 3 0 0] h (fun r h => r = .str s.tx ∧ sat h (Rd p s.atx :: F)) := by
  have ⟨g, v, hs'⟩ := Rd.iff.1 hs
  have ⟨g1, g2, g3⟩ := g
  have ⟨k1, k2⟩ := s.val_txk
  refine t53 (Nat.le_of_ble_eq_true rfl) ?_
  simp (disch := omega) only [F53, hs'.at, go_sem, simprocAttr]
  refine call_use (rU32 hs) ?_
  rintro r h ⟨hr, hs⟩
  subst hr
  simp (disch := omega) only [go_sem, simprocAttr, k1]
  refine call_use (take hs (n := s.txk) (by omega)) fun r h ⟨x, hr, hs, l, hl, hb, hx, hn⟩ => ?_
  subst hr
  cases hok : (s.adv 4).ok s.txk
  · have ⟨g', v', hs'⟩ := Rd.iff.1 hs
    have hn := hn hok
    subst hn
    simp (disch := omega) only [go_sem, simprocAttr, hs'.at]
    refine ⟨by simp [RS.tx, hok], Rd.iff.2 ⟨g.atx, v', ?_⟩⟩
    have h8 : ((s.adv 4).adv s.txk).err = 8 := by
      show (if (s.adv 4).ok s.txk then _ else (8 : Int)) = 8
      rw [hok]; rfl
    rw [h8]
    have e : s.atx = ⟨s.b, s.a, 8⟩ := by unfold RS.atx; rw [hok]; rfl
    rw [e]
    exact hs'.set
  · simp (disch := omega) only [go_sem, simprocAttr, hx]
    rw [hok] at hl
    refine ⟨by rw [hl]; simp [RS.tx, hok]; rfl, ?_⟩
    have e : s.atx = (s.adv 4).adv s.txk := by unfold RS.atx; rw [hok]; rfl
    rw [e]
    exact hs
end
end Go.Proofs.YtkclojjeepomfaaGreat
/- The document's own writer and reader. -/
set_option linter.unusedSimpArgs false
set_option linter.unusedVariables false
set_option maxRecDepth 10000
namespace Go.Proofs.YtkclojjeepomfaaGreat
open Go.Hz

section
variable {h : Hp} {F : List Asr} {v : AV} {bs : List UInt8}

end

/-- The document's reader at p, over a slice that it only reads. -/
def Xr (p : Nat) (v : AV) (s : RS) : Asr := fun h => s.good ∧ h p = some (.row 3 [[v, .int .i64 s.a, .bool (s.err != 0)]] 1)
theorem Xr.iff {h : Hp} {p : Nat} {v : AV} {s : RS} {F : List Asr} : sat h (Xr p v s :: F) ↔ s.good ∧ sat h (pto p (.row 3 [[v, .int .i64 s.a, .bool (s.err != 0)]] 1) :: F) := by
  unfold Xr
  rw [sat_and]
  rfl

section
variable {h : Hp} {F : List Asr} {p : Nat} {s : RS} {v : AV}

end
end Go.Proofs.YtkclojjeepomfaaGreat
/- Sums, frames, and what the laws of chapter 1 share. -/
set_option linter.unusedSimpArgs false
set_option linter.unusedVariables false
set_option maxRecDepth 10000
namespace Go.Proofs.YtkclojjeepomfaaGreat
open Go.Hz

section
variable {h : Hp} {F : List Asr} {v : AV} {b : List UInt8}

theorem psum (hs : sat h F) (hE : ∀ h, sat h F → Bts h v b) (hb : b.length ≤ 1000000000000) :
    Triple Tryz.prog 96 [v] h (fun r h => r = .int .u32 (sumX b).toNat ∧ sat h F) := by
  refine t96 (Nat.le_of_ble_eq_true rfl) ?_
  simp (disch := omega) only [F96, go_sem, simprocAttr]
  refine new_sat hs fun n hn hs => ?_
  simp (disch := omega) only [go_sem, simprocAttr]
  have hs := hs.set (o' := .row 16 [cellsP] 1)
  rw [Hp.set_set] at hs
  have hl := Bts.len (hE _ hs.drop)
  generalize hH : (h.set n _ : Hp) = H
  have hs : sat H (pto n (.row 16 [cellsP] 1) :: F) := by rw [← hH]; exact hs
  clear hH
  simp (disch := omega) only [go_sem, simprocAttr, hl]
  refine run_loop (fun e h2 => ∃ i : Nat, i ≤ b.length ∧ sat h2 (pto n (.row 16 [cellsP] 1) :: F) ∧ (e 3 = .ptr n 16 0 0 ∧ e 8 = v ∧ e 9 = .int .i64 b.length ∧ e 10 = .int .i64 i ∧ e 4 = .int .u32 ((b.take i).foldl stepP 4294967295).toNat))
    (fun e _ => match e 10 with | .int _ j => (b.length - j).toNat | _ => 0) ?_ ?_
  · exact ⟨0, by omega, hs, rfl, rfl, rfl, rfl, rfl⟩
  · rintro e h2 ⟨i, hi, hs, he⟩
    have hn' := hs.at
    simp (disch := omega) only [go_sem, simprocAttr, he]
    refine cnd_dec (fun hc => ?_) (fun hc => ?_)
    · obtain ⟨q, hq1, hq2⟩ := Bts.at (hE _ hs.drop) (k := .i64) (i := i) (by omega)
      generalize hC : (b.take i).foldl stepP 4294967295 = C at *
      have k1 := and15 (C ^^^ b[i].toUInt32)
      have k2 := and15 (nibP (C ^^^ b[i].toUInt32))
      have f1 := cellsP_at _ k1
      have f2 := cellsP_at _ k2
      unfold nibP at f2 k2
      simp (disch := omega) only [go_sem, simprocAttr, he, hq1, hq2, Go.Hz.u32_of_u8, Go.Hz.u32_xor, Go.Hz.u32_and15, Go.Hz.u32_shr4, hn', Int.toNat_natCast, Nat.mul_one, f1, f2]
      refine ⟨by omega, by omega, ⟨i + 1, by omega, hs, by simp, ?_⟩, by omega⟩
      rw [List.take_succ_eq_append_getElem (by omega), List.foldl_append, hC]
      rfl
    · simp (disch := omega) only [go_sem, simprocAttr, he, Go.Hz.u32_not]
      have : i = b.length := by omega
      subst this
      rw [List.take_length, ← sum_eq]
      exact ⟨rfl, hs.drop⟩

theorem pFrame (hs : sat h F) (hE : ∀ h, sat h F → Bts h v b) (hb : b.length ≤ 100000000000) :
    Triple Tryz.prog 81 [v] h (fun r h => sat h (Ow 1 r ((frameB b).map eb) :: F)) := by
  have hl := Bts.len (hE _ hs)
  refine t81 (Nat.le_of_ble_eq_true rfl) ?_
  simp (disch := omega) only [F81, go_sem, simprocAttr]
  refine call_use (newWriter hs) fun r h ⟨p, hr, hs⟩ => ?_
  subst hr
  simp (disch := omega) only [go_sem, simprocAttr, hl]
  refine call_use (wU32 hs b.length (by omega)) ?_
  rintro r h ⟨hr, hs⟩
  subst hr
  simp (disch := omega) only [go_sem, simprocAttr]
  refine call_use (psum hs (fun h hs => hE _ hs.drop) (by omega)) ?_
  rintro r h ⟨hr, hs⟩
  subst hr
  simp (disch := omega) only [go_sem, simprocAttr, Go.Hz.i64_u32]
  refine call_use (wU32 hs (sumX b).toNat (by omega)) ?_
  rintro r h ⟨hr, hs⟩
  subst hr
  simp (disch := omega) only [go_sem, simprocAttr]
  obtain ⟨hk, v', hs⟩ := Pwr.iff.1 hs
  simp (disch := omega) only [go_sem, simprocAttr, hs.at]
  refine app_sat hs.p1 (hE _ hs.drop.drop).1 (atoms_eb _) (by simp at hk ⊢; omega) fun v' h hs hc' ha' => ?_
  simp (disch := omega) only [go_sem, simprocAttr]
  simpa [frameB] using hs.d1

end
end Go.Proofs.YtkclojjeepomfaaGreat
/- A store is saved: sums, keys. -/
set_option linter.unusedSimpArgs false
set_option linter.unusedVariables false
set_option maxRecDepth 10000
namespace Go.Proofs.YtkclojjeepomfaaGreat
open Go.Hz

section
variable {h : Hp} {F : List Asr} {p k s : Nat} {bs : List UInt8} {A : Sto} {o : AV}
theorem bytesEq2 {u v : AV} {a b : List UInt8} (hs : sat h F) (h1 : Bts h u a) (h2 : Bts h v b) : Triple Tryz.prog 50 [u, v] h (fun r h => r = .bool (a == b) ∧ sat h F) := by
  have e1 := h1.bstr
  have e2 := h2.bstr
  refine t50 (Nat.le_of_ble_eq_true rfl) ?_
  simp (disch := omega) only [F50, e1, e2, go_sem, simprocAttr]
  exact hs
theorem Pwr.wk2 {k' : Nat} (hs : sat h (Pwr p bs k :: F)) (hk : bs.length ≤ k') : sat h (Pwr p bs k' :: F) :=
  Pwr.iff.2 ⟨hk, (Pwr.iff.1 hs).2⟩
/-- The sums of bytes, in a part of a slice of one's own. -/
theorem svSums {v : AV} {b : List UInt8} (hs : sat h F) (hE : ∀ h, sat h F → Bts h v b) (hc : CapOK v) (hb : b.length ≤ 1000000000) :
    Triple Tryz.prog 51 [v] h (fun r h => ∃ y es, sat h (Ow 1 y es :: F) ∧ (∀ h (G : List Asr), sat h (Ow 1 y es :: G) → Els h 1 r ((sumsF b).map eb)) ∧ r.cells = [r]) := by
  have four : ∀ {q : List UInt8}, ((frameB q).map eb).drop 4 = ((frameB q).drop 4).map eb := fun {q} => by rw [List.map_drop]
  have four2 : ∀ {q : List UInt8}, ((((frameB q).map eb).drop 4).take (8 - 4)) = (sum4 q).map eb := fun {q} => by
    unfold sum4
    rw [List.map_take, List.map_drop]
  refine t51 (Nat.le_of_ble_eq_true rfl) ?_
  simp (disch := omega) only [F51, go_sem, simprocAttr]
  refine new_opq hs fun n h hs => ?_
  have hs := hs.ow (Nat.zero_le _)
  simp (disch := omega) only [go_sem, simprocAttr]
  refine blk_join (Q := fun e h => ∃ v cur y all, (∀ h, sat h F → Bts h v cur) ∧ CapOK v ∧ cur.length ≤ 1048576 ∧ all ++ sumsL cur = sumsL b ∧ all.length ≤ 1000000000 ∧ sat h (Ow 1 y (all.map eb) :: F) ∧ (e 0 = v ∧ e 3 = y)) ?_ ?_
  · refine run_loopN (fun n e h => ∃ v cur y all, n = cur.length ∧ (∀ h, sat h F → Bts h v cur) ∧ CapOK v ∧ all.length + cur.length ≤ 1000000000 ∧ all ++ sumsL cur = sumsL b ∧ sat h (Ow 1 y (all.map eb) :: F) ∧ (e 0 = v ∧ e 3 = y)) b.length ⟨v, b, _, [], rfl, hE, hc, by simpa using hb, rfl, by simpa using hs, by simp [Env.upd_apply, initE]⟩ ?_
    clear hs
    rintro n e h ⟨v, cur, y, all, rfl, hE, hc, hl, hsum, hs, he⟩
    have hlen := Bts.len (hE _ hs.drop)
    simp (disch := omega) only [go_sem, simprocAttr, he, hlen]
    refine cnd_dec (fun g1 => ?_) (fun g1 => ?_)
    · have g2 : 1048576 < cur.length := by omega
      obtain ⟨x, hx, hxE, hxc⟩ := slc_E (A := fun h => sat h F) hs.drop hE hc .i64 .i64 (lo := 0) (hi := 1048576) (by omega) (by simp; omega)
      obtain ⟨z, hz, hzE, hzc⟩ := slc_E (A := fun h => sat h F) hs.drop hE hc .i64 .i64 (lo := 1048576) (hi := cur.length) (by omega) (by simp)
      have hx' : slcL 1 v none (some (.int .i64 1048576)) = some x := by rw [slc_lo]; exact hx
      have hz' : slcL 1 v (some (.int .i64 1048576)) none = some z := by rw [slc_hi hlen]; exact hz
      have hxB : ∀ h, sat h F → Bts h x (cur.take 1048576) := fun h hs => by
        have := hxE h hs
        rw [List.drop_zero, ← List.map_take] at this
        exact this
      have hzB : ∀ h, sat h F → Bts h z (cur.drop 1048576) := fun h hs => by
        have := hzE h hs
        rw [← List.map_drop, List.take_of_length_le (by simp)] at this
        exact this
      simp (disch := omega) only [go_sem, simprocAttr, he, hx']
      refine call_use (pFrame (b := cur.take 1048576) hs (fun h hs => hxB h hs.drop) (by rw [List.length_take]; omega)) ?_
      intro r h hs
      obtain ⟨w, hw, hwE, hwc⟩ := ow_slc (k := .i64) (k' := .i64) (lo := 4) (hi := 8) (by omega) (by rw [List.length_map, frameB_length]; omega) hs
      have hsrc := (hwE _ _ hs).1
      rw [four2] at hsrc
      have hw : slcL 1 r (some (.int .i64 4)) (some (.int .i64 8)) = some w := hw
      simp (disch := omega) only [go_sem, simprocAttr, hw]
      refine app_sat (bytes := 1) hs.p1 hsrc (atoms_eb _) (by simp [sum4_len]; omega) fun y' h hs ca aa => ?_
      simp (disch := omega) only [go_sem, simprocAttr, he, ca, aa, hz']
      refine ⟨_, ?_, z, cur.drop 1048576, y', all ++ sum4 (cur.take 1048576), rfl, hzB, hzc, ?_, ?_, ?_, rfl, rfl⟩
      · rw [List.length_drop]; omega
      · rw [List.length_append, sum4_len, List.length_drop]; omega
      · rw [← hsum, sumsL_big g2, List.append_assoc]
      · rw [List.map_append]; exact hs.d1
    · simp (disch := omega) only [go_sem, simprocAttr, he]
      exact ⟨v, cur, y, all, hE, hc, by omega, hsum, by omega, hs, rfl, rfl⟩
  clear hs
  rintro e h ⟨v, cur, y, all, hE, hc, hcl, hsum, hal, hs, he⟩
  simp (disch := omega) only [go_sem, simprocAttr, he]
  refine call_use (pFrame (b := cur) hs (fun h hs => hE h hs.drop) (by omega)) ?_
  intro r h hs
  obtain ⟨w, hw, hwE, hwc⟩ := ow_slc (k := .i64) (k' := .i64) (lo := 4) (hi := 8) (by omega) (by rw [List.length_map, frameB_length]; omega) hs
  have hsrc := (hwE _ _ hs).1
  rw [four2] at hsrc
  have hw : slcL 1 r (some (.int .i64 4)) (some (.int .i64 8)) = some w := hw
  simp (disch := omega) only [go_sem, simprocAttr, hw]
  refine app_sat (bytes := 1) hs.p1 hsrc (atoms_eb _) (by simp [sum4_len]; omega) fun y' h hs ca aa => ?_
  have hfin : all.map eb ++ (sum4 cur).map eb = (sumsL b).map eb := by
    rw [← hsum, sumsL_small (b := cur) (by omega), List.map_append]
  have hsl : (sumsL b).length ≤ 1000000004 := by rw [← hsum, sumsL_small (b := cur) (by omega), List.length_append, sum4_len]; omega
  rw [hfin] at hs
  simp (disch := omega) only [go_sem, simprocAttr, ca, aa]
  refine call_use (pFrame (b := sumsL b) hs (fun h hs => hs.bts) (by omega)) ?_
  intro r h hs
  obtain ⟨w, hw, hwE, hwc⟩ := ow_slc (k := .i64) (k' := .i64) (lo := 4) (hi := 8) (by omega) (by rw [List.length_map, frameB_length]; omega) hs
  have hw : slcL 1 r (some (.int .i64 4)) (some (.int .i64 8)) = some w := hw
  simp (disch := omega) only [go_sem, simprocAttr, hw]
  refine ⟨r, _, hs.d1.d1, fun h G hs => ?_, hwc⟩
  have := hwE _ _ hs
  rw [four2] at this
  exact this
theorem svKvW {x : Kv} (hs : sat h (Pwr p bs k :: F)) (h1 : x.key.length ≤ 100) (h2 : x.val.length ≤ 4096) (hb : k ≤ 900000000000) :
    Triple Tryz.prog 64 [.ptr p 1 0 0, .agg (kvC x)] h (fun r h => sat h (Pwr p (bs ++ svKv x) (k + 4236) :: F)) := by
  refine t64 (Nat.le_of_ble_eq_true rfl) ?_
  simp (disch := omega) only [F64, kvC, go_sem, simprocAttr]
  refine new_opq hs fun a h hs => ?_
  have ha := hs.at
  simp (disch := omega) only [go_sem, simprocAttr, ha]
  refine call_use (wText hs.p1 x.key h1 (by omega)) ?_
  rintro r h ⟨hr, hs⟩
  subst hr
  have ha := hs.p1.at
  simp (disch := omega) only [go_sem, simprocAttr, ha]
  refine call_use (wText hs x.val h2 (by omega)) ?_
  rintro r h ⟨hr, hs⟩
  subst hr
  have ha := hs.p1.at
  simp (disch := omega) only [go_sem, simprocAttr, ha]
  refine call_use (wInt hs x.create (by omega)) ?_
  rintro r h ⟨hr, hs⟩
  subst hr
  have ha := hs.p1.at
  simp (disch := omega) only [go_sem, simprocAttr, ha]
  refine call_use (wInt hs x.mod (by omega)) ?_
  rintro r h ⟨hr, hs⟩
  subst hr
  have ha := hs.p1.at
  simp (disch := omega) only [go_sem, simprocAttr, ha]
  refine call_use (wInt hs x.ver (by omega)) ?_
  rintro r h ⟨hr, hs⟩
  subst hr
  have ha := hs.p1.at
  simp (disch := omega) only [go_sem, simprocAttr, ha]
  refine call_use (wInt hs x.lease (by omega)) ?_
  rintro r h ⟨hr, hs⟩
  subst hr
  simp (disch := omega) only [go_sem, simprocAttr]
  have hs := hs.d1
  have e : bs ++ txB x.key ++ txB x.val ++ beB 8 x.create ++ beB 8 x.mod ++ beB 8 x.ver ++ beB 8 x.lease = bs ++ svKv x := by simp [svKv, List.append_assoc]
  rw [e] at hs
  exact Pwr.wk2 hs (by have := (Pwr.iff.1 hs).1; omega)
theorem evKv_eq (v : Ver) : evC v = .int .i64 v.rev :: .bool v.c.kv.isNone :: kvC (evKv v) := rfl
/-- The keys as they were, out of the index. -/
theorem old_keys {L : IL} (ok : StoOK A) (hL : IxOK A L) : (keysL L [] []).filterMap (fun k => vAt (A.vers k) A.past) = A.old := by
  have e0 : A.at A.past = A.old := by
    have : A.chs.takeWhile (fun v => decide (v.rev ≤ A.past)) = [] := by
      cases hch : A.chs with
      | nil => rfl
      | cons v l =>
        have := (ok.chr v (by rw [hch]; simp)).1
        rw [List.takeWhile_cons_of_neg]
        simp; omega
    rw [Sto.at, this]; rfl
  have e1 : (fun k => vAt (A.vers k) A.past) = kvget A.old := by
    funext k
    rw [vAt_at ok (Int.le_refl _), e0]
  rw [e1]
  have hin : ∀ k : Key, inR [] [] k = true := by
    intro k
    unfold inR
    have : ltK k [] = false := by cases k <;> rfl
    rw [this]; rfl
  have h2 : A.old.filter (fun x => inK [0] (topK 101) x.key) = A.old := by
    rw [List.filter_eq_self]
    intro x hx
    exact inK_all (ok.key.1 x hx).1 (ok.key.1 x hx).2
  have h4 := pick_keys (l := A.old) (ks := keysL L [] []) (lo := [0]) (hi := topK 101) ok.old (keysL_srt hL.1.1)
  rw [h2] at h4
  refine h4 ?_ ?_
  · intro k hk
    have h3 := ((keysL_mem hL).1 hk).1
    have := vers_key h3
    rcases List.mem_append.1 this with h | h
    · obtain ⟨x, hx, rfl⟩ := List.mem_map.1 h
      exact inK_all (ok.key.1 x hx).1 (ok.key.1 x hx).2
    · obtain ⟨v, hv, rfl⟩ := List.mem_map.1 h
      exact inK_all (ok.key.2 v hv).1 (ok.key.2 v hv).2
  · intro x hx _
    refine (keysL_mem hL).2 ⟨?_, hin _⟩
    rw [← e0] at hx
    exact at_vers ok (Int.le_refl _) hx
theorem svKv_len {x : Kv} (h1 : x.key.length ≤ 100) (h2 : x.val.length ≤ 4096) : (svKv x).length ≤ 4236 := by
  simp [svKv, txB_length, beB_length]; omega
theorem evKv_sz (ok : StoOK A) {v : Ver} (hv : v ∈ A.chs) : (evKv v).key.length ≤ 100 ∧ (evKv v).val.length ≤ 4096 := by
  have h1 := (ok.key.2 v hv).2
  have h2 := ok.num.2 v hv
  unfold evKv
  cases hc : v.c with
  | put x =>
    rw [hc] at h1
    exact ⟨h1, (h2 x hc).2.2.2.2.2.2.2⟩
  | del k =>
    rw [hc] at h1
    exact ⟨h1, by simp [Ch.kv]⟩
theorem svSaveO (hs : sat h (StP s A o :: F)) (hz : A.old.length + A.chs.length ≤ 200000) : Triple Tryz.prog 27 [.ptr s 7 0 0] h (fun r h => sat h (Ow 1 r ((svA A).map eb) :: StP s A o :: F)) := by
  obtain ⟨ix, vm, cv, L, X, hok, hs2⟩ := mvP.1 hs
  have mk : ∀ {h : Hp} {G : List Asr}, sat h (MvL tp td s ix vm cv o A L X ++ G) → sat h (StP s A o :: G) := fun hs => mvP.2 ⟨ix, vm, cv, L, X, hok, hs⟩
  have ok := hok.1
  have hLn := ix_num hok.2.1
  have hp := hs2.at
  refine t27 (Nat.le_of_ble_eq_true rfl) ?_
  simp (disch := omega) only [F27, go_sem, simprocAttr]
  refine call_use (newWriter hs2) ?_
  rintro r h ⟨w, hr, hs⟩
  subst hr
  simp (disch := omega) only [go_sem, simprocAttr]
  refine call_use (wText hs wordB (m := 16) (by decide) (by omega)) ?_
  rintro r h ⟨hr, hs⟩
  subst hr
  have hp := hs.p1.at
  simp (disch := omega) only [go_sem, simprocAttr, hp]
  refine call_use (wInt hs A.rev (by omega)) ?_
  rintro r h ⟨hr, hs⟩
  subst hr
  have hp := hs.p1.at
  simp (disch := omega) only [go_sem, simprocAttr, hp]
  refine call_use (wInt hs A.past (by omega)) ?_
  rintro r h ⟨hr, hs⟩
  subst hr
  have hp := hs.p1.at
  simp (disch := omega) only [go_sem, simprocAttr, hp]
  have hs3 : sat h (IxP ix L :: Pwr w _ _ :: pto s (.row 7 [[.int .i64 A.rev, .int .i64 A.past, .int .i64 A.now.length, .ptr ix 2 0 0, .map vm, cv, o]] 1) :: Ow 2 cv (A.chs.map (verC tp td)) :: MpA (fun k : Key => AV.str k) Vn.key Vn.v vm X :: (X.map (VnP tp td) ++ F)) := hs.p2
  refine call_use (ixKeys (lo := []) (hi := []) hs3 hok.2.1.1 (by omega)) ?_
  rintro r h ⟨hr, hs⟩
  subst hr
  have hkl : (keysL L [] []).length ≤ L.length := by unfold keysL; exact Nat.le_trans (List.length_filter_le _ _) (by simp)
  have hold := old_keys ok hok.2.1
  generalize keysL L [] [] = ks at hkl hold ⊢
  have lenk : lenL (strsV ks) = some (.int .i64 ks.length) := by simp [strsV, lenL]
  have hs4 : sat h (StP s A o :: Pwr w _ _ :: F) := (hs.p4.p4.p2.p4.p4.tl fun h hs => mk hs).p1
  have hpa := ok.past
  have hz2 : A.chs.length ≤ 100000000 := by omega
  have e1 : txB wordB ++ beB 8 A.rev ++ beB 8 A.past = ([] ++ txB wordB) ++ beB 8 A.rev ++ beB 8 A.past := rfl
  rw [← e1] at hs4
  simp (disch := omega) only [go_sem, simprocAttr, lenk]
  refine blk_join (Q := fun e h => ∃ v, sat h (StP s A o :: Pwr w (txB wordB ++ beB 8 A.rev ++ beB 8 A.past) 100 :: Ow 6 v (A.old.map kvC) :: F) ∧ (e 0 = .ptr s 7 0 0 ∧ e 3 = .ptr w 1 0 0 ∧ e 4 = v)) ?_ ?_
  · refine run_up (N := ks.length) (fun i e h => ∃ v, sat h (Ow 6 v (((ks.take i).filterMap fun k => vAt (A.vers k) A.past).map kvC) :: StP s A o :: Pwr w (txB wordB ++ beB 8 A.rev ++ beB 8 A.past) 100 :: F) ∧ (e 0 = .ptr s 7 0 0 ∧ e 3 = .ptr w 1 0 0 ∧ e 4 = v ∧ e 34 = strsV ks ∧ e 35 = .int .i64 ks.length ∧ e 36 = .int .i64 i)) ⟨.nils, ?_, by simp [Env.upd_apply, initE]⟩ ?_
    · have h5 : sat h (Pwr w (txB wordB ++ beB 8 A.rev ++ beB 8 A.past) 100 :: StP s A o :: F) := Pwr.wk2 hs4.p1 (by simp [txB_length, beB_length, wordB])
      exact h5.p1.add ow_nil
    clear hs hs4 hs3 hp
    rintro i e h hi ⟨v, hs, he⟩
    have m1 : (i : Int) + 1 = ((i + 1 : Nat) : Int) := by omega
    simp (disch := omega) only [go_sem, simprocAttr, he, m1]
    refine cnd_dec (fun g1 => ?_) (fun g1 => ?_)
    · have hi : i < ks.length := by omega
      have hik : iaA 1 (strsV ks) (.int .i64 (i : Int)) = some (.ro [.str ks[i]]) := ia_lst (f := fun k => [AV.str k]) hi fun _ => rfl
      have hfl : ((ks.take i).filterMap fun k => vAt (A.vers k) A.past).length ≤ 200001 := by
        have := List.length_filterMap_le (fun k => vAt (A.vers k) A.past) (ks.take i)
        rw [List.length_take] at this
        omega
      have hst : (ks.take (i + 1)).filterMap (fun k => vAt (A.vers k) A.past) = (ks.take i).filterMap (fun k => vAt (A.vers k) A.past) ++ (vAt (A.vers ks[i]) A.past).toList := by
        rw [List.take_succ_eq_append_getElem hi, List.filterMap_append]
        cases h : vAt (A.vers ks[i]) A.past <;> simp [h]
      rw [hst]
      generalize ks[i] = key at hik hst ⊢
      obtain ⟨ix2, vm2, cv2, L2, X2, hok2, hs2⟩ := mvP.1 hs.p1
      have hp := hs2.at
      simp (disch := omega) only [go_sem, simprocAttr, he, hik, hp]
      refine call_use (mvAt (key := key) (rev := A.past) hs.p1 hz2) ?_
      rintro r h ⟨hr, hs⟩
      subst hr
      simp (disch := omega) only [go_sem, simprocAttr, he]
      refine new_opq hs fun a h hs => ?_
      have ha := hs.at
      cases hpk : vAt (A.vers key) A.past with
      | none =>
        rw [Option.toList_none, List.append_nil]
        have hs := hs.set (o' := .row 6 [kvC kv0] 1)
        simp only [kvC, kv0] at hs
        simp (disch := omega) only [go_sem, simprocAttr, ha, hpk, Option.getD_none, Option.isSome_none, kvC, kv0, he, m1]
        exact ⟨hi, v, hs.drop.p2.p1.p2, rfl⟩
      | some kv =>
        rw [Option.toList_some]
        have hs2 := hs.set (o' := .row 6 [kvC kv] 1)
        have ha2 := hs2.at
        simp only [kvC] at hs2 ha2
        simp (disch := omega) only [go_sem, simprocAttr, ha, hpk, Option.getD_some, Option.isSome_some, kvC, he, ha2]
        generalize Hp.set h a _ = h3 at hs2 ha2 ⊢
        refine new_opq hs2 fun b h hs => ?_
        simp (disch := omega) only [go_sem, simprocAttr]
        refine app_sat hs.p3 (src_one hs.at) (atoms_one (by simp [AV.isAtom])) (by simp; omega) fun v' h hs ca aa => ?_
        simp (disch := omega) only [go_sem, simprocAttr, he, ca, aa, m1]
        have := hs.p1.drop.p1.drop.p2.p2.p2
        exact ⟨hi, v', by simpa [kvC] using this, rfl⟩
    · have hi : i = ks.length := by omega
      subst hi
      rw [List.take_length, hold] at hs
      simp (disch := omega) only [go_sem, simprocAttr, he]
      exact ⟨v, hs.p2.p2, rfl⟩
  clear hs hs4 hs3 hp
  rintro e h ⟨v, hs, he⟩
  have hvl := hs.p2.els.len
  rw [List.length_map] at hvl
  simp (disch := omega) only [go_sem, simprocAttr, he, hvl]
  refine call_use (wInt hs.p1 (A.old.length : Int) (by omega)) ?_
  rintro r h ⟨hr, hs⟩
  subst hr
  have hvl := hs.p2.els.len
  rw [List.length_map] at hvl
  simp (disch := omega) only [go_sem, simprocAttr, he, hvl]
  obtain ⟨B1, hB1⟩ : ∃ B1, B1 = txB wordB ++ beB 8 A.rev ++ beB 8 A.past ++ beB 8 (A.old.length : Int) := ⟨_, rfl⟩
  have hB1l : B1.length = 44 := by rw [hB1]; simp [txB_length, beB_length, wordB]
  rw [← hB1] at hs
  refine blk_join (Q := fun e h => sat h (Pwr w (B1 ++ A.old.flatMap svKv) (200 + 4236 * A.old.length) :: StP s A o :: F) ∧ (e 0 = .ptr s 7 0 0 ∧ e 3 = .ptr w 1 0 0)) ?_ ?_
  · refine run_up (N := A.old.length) (fun i e h => sat h (Pwr w (B1 ++ (A.old.take i).flatMap svKv) (200 + 4236 * i) :: StP s A o :: Ow 6 v (A.old.map kvC) :: F) ∧ (e 0 = .ptr s 7 0 0 ∧ e 3 = .ptr w 1 0 0 ∧ e 60 = v ∧ e 61 = .int .i64 A.old.length ∧ e 62 = .int .i64 i)) ⟨?_, by simp [Env.upd_apply, he]⟩ ?_
    · rw [List.take_zero, List.flatMap_nil, List.append_nil]
      exact Pwr.wk2 hs (by omega)
    clear hs he
    rintro i e h hi ⟨hs, he⟩
    have m1 : (i : Int) + 1 = ((i + 1 : Nat) : Int) := by omega
    simp (disch := omega) only [go_sem, simprocAttr, he, m1]
    refine cnd_dec (fun g1 => ?_) (fun g1 => ?_)
    · have hi : i < A.old.length := by omega
      obtain ⟨b, cap, hv, hb, _⟩ := hs.p2.owr.row (i := i) (x := kvC A.old[i]) (by simp [hi])
      subst hv
      have hrow : (A.old.map kvC)[i]? = some (kvC A.old[i]) := by simp [hi]
      have hll : (A.old.map kvC).length = A.old.length := by simp
      have hk1 := (ok.key.1 _ (List.getElem_mem hi)).2
      have hk2 := (ok.num.1 _ (List.getElem_mem hi)).2.2.2.2.2.2
      have hst : (A.old.take (i + 1)).flatMap svKv = (A.old.take i).flatMap svKv ++ svKv A.old[i] := by
        rw [List.take_succ_eq_append_getElem hi, List.flatMap_append]; simp
      rw [hst, ← List.append_assoc]
      rw [hll] at hs
      generalize A.old[i] = x at hrow hk1 hk2 ⊢
      simp only [kvC] at hrow
      simp (disch := omega) only [go_sem, simprocAttr, he, hb, hrow, hll, Int.toNat_natCast]
      refine new_opq hs fun a h hs => ?_
      have ha := hs.at
      have hs2 := hs.set (o' := .row 6 [[.str x.key, .str x.val, .int .i64 x.create, .int .i64 x.mod, .int .i64 x.ver, .int .i64 x.lease]] 1)
      have ha2 := hs2.at
      simp (disch := omega) only [go_sem, simprocAttr, he, ha, ha2]
      generalize Hp.set h a _ = h3 at hs2 ha2 ⊢
      refine call_use (svKvW (x := x) hs2.p1 hk1 hk2 (by omega)) ?_
      intro r h hs
      simp (disch := omega) only [go_sem, simprocAttr, he, m1]
      refine ⟨hi, Pwr.wk2 hs.d1 ?_⟩
      have := (Pwr.iff.1 hs).1
      omega
    · have hi : i = A.old.length := by omega
      subst hi
      rw [List.take_length] at hs
      simp (disch := omega) only [go_sem, simprocAttr, he]
      have := (Pwr.iff.1 hs).1
      exact Pwr.wk2 (hs.p2.drop.p1.p1) (by omega)
  clear hs he
  rintro e h ⟨hs, he⟩
  obtain ⟨ix, vm, cv, L, X, hok, hs⟩ := mvP.1 hs.p1
  have mk : ∀ {h : Hp} {G : List Asr}, sat h (MvL tp td s ix vm cv o A L X ++ G) → sat h (StP s A o :: G) := fun hs => mvP.2 ⟨ix, vm, cv, L, X, hok, hs⟩
  have hs := hs.mid
  have hp := hs.p1.at
  have hcl := hs.p3.els.len
  rw [List.length_map] at hcl
  simp (disch := omega) only [go_sem, simprocAttr, he, hp, hcl]
  refine call_use (wInt hs (A.chs.length : Int) (by omega)) ?_
  rintro r h ⟨hr, hs⟩
  subst hr
  have hp := hs.p1.at
  have hcl := hs.p3.els.len
  rw [List.length_map] at hcl
  simp (disch := omega) only [go_sem, simprocAttr, he, hp, hcl]
  obtain ⟨B2, hB2⟩ : ∃ B2, B2 = B1 ++ A.old.flatMap svKv ++ beB 8 (A.chs.length : Int) := ⟨_, rfl⟩
  rw [← hB2] at hs
  have hB2l := (Pwr.iff.1 hs).1
  refine blk_join (Q := fun e h => sat h (Pwr w (B2 ++ A.chs.flatMap svVer) (300 + 4236 * A.old.length + 4245 * A.chs.length) :: StP s A o :: F) ∧ (e 0 = .ptr s 7 0 0 ∧ e 3 = .ptr w 1 0 0)) ?_ ?_
  · refine run_up (N := A.chs.length) (fun i e h => sat h (Pwr w (B2 ++ (A.chs.take i).flatMap svVer) (300 + 4236 * A.old.length + 4245 * i) :: (MvL tp td s ix vm cv o A L X ++ F)) ∧ (e 0 = .ptr s 7 0 0 ∧ e 3 = .ptr w 1 0 0 ∧ e 80 = cv ∧ e 81 = .int .i64 A.chs.length ∧ e 82 = .int .i64 i)) ⟨?_, by simp [Env.upd_apply, he]⟩ ?_
    · rw [List.take_zero, List.flatMap_nil, List.append_nil]
      exact Pwr.wk2 hs (by omega)
    clear hs he hp
    rintro i e h hi ⟨hs, he⟩
    have m1 : (i : Int) + 1 = ((i + 1 : Nat) : Int) := by omega
    simp (disch := omega) only [go_sem, simprocAttr, he, m1]
    refine cnd_dec (fun g1 => ?_) (fun g1 => ?_)
    · have hi : i < A.chs.length := by omega
      obtain ⟨b, cap, hv, hb, _⟩ := hs.p3.owr.row (i := i) (x := verC tp td A.chs[i]) (by simp [hi])
      subst hv
      have hrow : (A.chs.map (verC tp td))[i]? = some (verC tp td A.chs[i]) := by simp [hi]
      have hll : (A.chs.map (verC tp td)).length = A.chs.length := by simp
      rw [hll] at hs
      obtain ⟨hk1, hk2⟩ := evKv_sz ok (List.getElem_mem hi)
      have hst : (A.chs.take (i + 1)).flatMap svVer = (A.chs.take i).flatMap svVer ++ svVer A.chs[i] := by
        rw [List.take_succ_eq_append_getElem hi, List.flatMap_append]; simp
      rw [hst, ← List.append_assoc]
      generalize A.chs[i] = x at hrow hk1 hk2 ⊢
      have ca := chV_atom (tp := tp) (td := td) x.c
      have cc := chV_cells (tp := tp) (td := td) x.c
      simp only [verC] at hrow
      simp (disch := omega) only [go_sem, simprocAttr, he, hb, hrow, hll, Int.toNat_natCast, ca, cc]
      refine new_opq hs fun a h hs => ?_
      have ha := hs.at
      have hs2 := hs.set (o' := .row 2 [[.int .i64 x.rev, chV tp td x.c]] 1)
      have ha2 := hs2.at
      simp (disch := omega) only [go_sem, simprocAttr, he, ha, ha2, ca, cc]
      generalize Hp.set h a _ = h3 at hs2 ha2 ⊢
      refine call_use (mvEvent (v := x) hs2) ?_
      rintro r h ⟨hr, hs⟩
      subst hr
      rw [evKv_eq, kvC]
      simp (disch := omega) only [go_sem, simprocAttr]
      refine new_opq hs fun b2 h hs => ?_
      have hb2 := hs.at
      have hs3 := hs.set (o' := .row 8 [[.int .i64 x.rev, .bool x.c.kv.isNone, .str (evKv x).key, .str (evKv x).val, .int .i64 (evKv x).create, .int .i64 (evKv x).mod, .int .i64 (evKv x).ver, .int .i64 (evKv x).lease]] 1)
      have hb3 := hs3.at
      simp (disch := omega) only [go_sem, simprocAttr, he, hb2, hb3]
      generalize Hp.set h b2 _ = h4 at hs3 hb3 ⊢
      refine call_use (wInt hs3.p2 x.rev (by omega)) ?_
      rintro r h ⟨hr, hs⟩
      subst hr
      have hb2 := hs.p1.at
      cases hn : x.c.kv.isNone
      case' false =>
        simp (disch := omega) only [go_sem, simprocAttr, he, hb2, hn]
        refine call_use (wU8 hs 0 (by omega)) ?_
      case' true =>
        simp (disch := omega) only [go_sem, simprocAttr, he, hb2, hn]
        refine call_use (wU8 hs 1 (by omega)) ?_
      all_goals
        rintro r h ⟨hr, hs⟩
        subst hr
        have hb2 := hs.p1.at
        simp (disch := omega) only [go_sem, simprocAttr, he, hb2]
        refine call_use (svKvW (x := evKv x) hs hk1 hk2 (by omega)) ?_
        intro r h hs
        simp (disch := omega) only [go_sem, simprocAttr, he, m1]
        have hs := hs.p1.drop.p1.drop.p3.p3.p3.p3
        have hsz := (Pwr.iff.1 hs).1
        unfold svVer
        rw [hn]
        have h9 := Pwr.wk2 (k' := 300 + 4236 * A.old.length + 4245 * (i + 1)) hs (by omega)
        have e9 : ∀ z : List UInt8, B2 ++ (A.chs.take i).flatMap svVer ++ beB 8 x.rev ++ z ++ svKv (evKv x) = B2 ++ (A.chs.take i).flatMap svVer ++ (beB 8 x.rev ++ (z ++ svKv (evKv x))) := fun z => by simp [List.append_assoc]
        rw [e9] at h9
        exact ⟨hi, h9⟩
    · have hi : i = A.chs.length := by omega
      subst hi
      rw [List.take_length] at hs
      simp (disch := omega) only [go_sem, simprocAttr, he]
      exact (Pwr.wk2 hs (by have := (Pwr.iff.1 hs).1; omega)).tl fun h hs => mk hs
  clear hs he hp
  rintro e h ⟨hs, he⟩
  have eb2 : B2 ++ A.chs.flatMap svVer = svB A := by rw [hB2, hB1]; simp [svB, List.append_assoc]
  rw [eb2] at hs
  have hbl := (Pwr.iff.1 hs).1
  simp (disch := omega) only [go_sem, simprocAttr, he]
  refine call_use (wDoneO hs (by omega)) ?_
  intro r h hs
  simp (disch := omega) only [go_sem, simprocAttr]
  refine call_use (svSums hs (fun h hs => hs.bts) hs.cap (by omega)) ?_
  rintro q h ⟨y, es, hs, hq, hqc⟩
  simp (disch := omega) only [go_sem, simprocAttr]
  have hsrc := (hq _ _ hs).1
  refine app_sat (bytes := 1) hs.p1 hsrc (atoms_eb _) (by simp [sumsF_len]; omega) fun v' h hs ca aa => ?_
  simp (disch := omega) only [go_sem, simprocAttr]
  have h9 := hs.p1.drop.p1.drop.p1.p1
  simpa [svA] using h9
theorem svSave (hs : sat h (StP s A o :: F)) (hz : A.old.length + A.chs.length ≤ 200000) : Triple Tryz.prog 27 [.ptr s 7 0 0] h (fun r h => r = bytesV (svA A) ∧ sat h (StP s A o :: F)) :=
  Triple.lst 1 ((svSaveO hs hz).mono fun r h hs => ⟨_, _, hs, fun h hs => ⟨rfl, hs⟩⟩)
end
end Go.Proofs.YtkclojjeepomfaaGreat
/- A store is loaded: a key's numbers, a key that is read, an elder key. -/
set_option linter.unusedSimpArgs false
set_option linter.unusedVariables false
set_option maxRecDepth 10000
namespace Go.Proofs.YtkclojjeepomfaaGreat
open Go.Hz

section
variable {h : Hp} {F : List Asr} {p s : Nat} {A : Sto} {o : AV}
theorem svMay {x : Kv} {r : Int} (hs : sat h F) (hr : r ≤ 1000000000000000000) : Triple Tryz.prog 86 [.agg (kvC x), .int .i64 r] h (fun q h => q = .bool (decide (mayP x r)) ∧ sat h F) := by
  refine t86 (Nat.le_of_ble_eq_true rfl) ?_
  simp (disch := omega) only [F86, kvC, go_sem, simprocAttr]
  refine new_opq hs fun a h hs => ?_
  have ha := hs.at
  have no : ¬ mayP x r → decide (mayP x r) = false := fun h => decide_eq_false h
  by_cases q0 : x.key = []
  · have b0 : (x.key != []) = false := by simp [q0]
    rw [no fun h => h.1 q0]
    simp (disch := omega) only [go_sem, simprocAttr, ha, b0]
    exact hs.drop
  have b0 : (x.key != []) = true := by simpa using q0
  by_cases q1 : x.key.length ≤ 100
  rotate_left
  · have b1 : ((x.key.length : Int) ≤ 100) = False := by simp; omega
    rw [no fun h => q1 h.2.1]
    simp (disch := omega) only [go_sem, simprocAttr, ha, b0, b1]
    exact hs.drop
  have b1 : ((x.key.length : Int) ≤ 100) = True := by simp; omega
  by_cases q2 : x.val.length ≤ 4096
  rotate_left
  · have b2 : ((x.val.length : Int) ≤ 4096) = False := by simp; omega
    rw [no fun h => q2 h.2.2.1]
    simp (disch := omega) only [go_sem, simprocAttr, ha, b0, b1, b2]
    exact hs.drop
  have b2 : ((x.val.length : Int) ≤ 4096) = True := by simp; omega
  by_cases q3 : 0 ≤ x.lease
  rotate_left
  · have b3 : (x.lease ≥ 0) = False := by simp; omega
    rw [no fun h => q3 h.2.2.2.1]
    simp (disch := omega) only [go_sem, simprocAttr, ha, b0, b1, b2, b3]
    exact hs.drop
  have b3 : (x.lease ≥ 0) = True := by simp; omega
  by_cases q4 : 1 ≤ x.create
  rotate_left
  · have b4 : (x.create ≥ 1) = False := by simp; omega
    rw [no fun h => q4 h.2.2.2.2.1]
    simp (disch := omega) only [go_sem, simprocAttr, ha, b0, b1, b2, b3, b4]
    exact hs.drop
  have b4 : (x.create ≥ 1) = True := by simp; omega
  by_cases q5 : x.create ≤ x.mod
  rotate_left
  · have b5 : (x.create ≤ x.mod) = False := by simp; omega
    rw [no fun h => q5 h.2.2.2.2.2.1]
    simp (disch := omega) only [go_sem, simprocAttr, ha, b0, b1, b2, b3, b4, b5]
    exact hs.drop
  have b5 : (x.create ≤ x.mod) = True := by simp; omega
  by_cases q6 : x.mod ≤ r
  rotate_left
  · have b6 : (x.mod ≤ r) = False := by simp; omega
    rw [no fun h => q6 h.2.2.2.2.2.2.1]
    simp (disch := omega) only [go_sem, simprocAttr, ha, b0, b1, b2, b3, b4, b5, b6]
    exact hs.drop
  have b6 : (x.mod ≤ r) = True := by simp; omega
  by_cases q7 : 1 ≤ x.ver
  rotate_left
  · have b7 : (x.ver ≥ 1) = False := by simp; omega
    rw [no fun h => q7 h.2.2.2.2.2.2.2.1]
    simp (disch := omega) only [go_sem, simprocAttr, ha, b0, b1, b2, b3, b4, b5, b6, b7]
    exact hs.drop
  have b7 : (x.ver ≥ 1) = True := by simp; omega
  by_cases q8 : x.ver ≤ x.mod - x.create + 1
  rotate_left
  · have b8 : (x.ver ≤ x.mod - x.create + 1) = False := by simp; omega
    rw [no fun h => q8 h.2.2.2.2.2.2.2.2]
    simp (disch := omega) only [go_sem, simprocAttr, ha, b0, b1, b2, b3, b4, b5, b6, b7, b8]
    exact hs.drop
  have b8 : (x.ver ≤ x.mod - x.create + 1) = True := by simp; omega
  rw [decide_eq_true (p := mayP x r) ⟨q0, q1, q2, q3, q4, q5, q6, q7, q8⟩]
  simp (disch := omega) only [go_sem, simprocAttr, ha, b0, b1, b2, b3, b4, b5, b6, b7, b8]
  exact hs.drop
theorem svLoaded {t : RS} (hs : sat h (Rd p t :: F)) : Triple Tryz.prog 57 [.ptr p 3 0 0] h (fun r h => r = .agg (kvC t.kv) ∧ sat h (Rd p t.akv :: F)) := by
  refine t57 (Nat.le_of_ble_eq_true rfl) ?_
  simp (disch := omega) only [F57, go_sem, simprocAttr]
  refine new_opq hs fun a h hs => ?_
  simp (disch := omega) only [go_sem, simprocAttr]
  refine call_use (rText hs.p1) ?_
  rintro r h ⟨hr, hs⟩
  subst hr
  simp (disch := omega) only [go_sem, simprocAttr]
  refine new_opq hs fun b h hs => ?_
  have hb := hs.at
  have hs2 := hs.set (o' := .row 6 [[.str t.tx, .str [], .int .i64 0, .int .i64 0, .int .i64 0, .int .i64 0]] 1)
  simp (disch := omega) only [go_sem, simprocAttr, hb]
  generalize Hp.set h b _ = h3 at hs2 ⊢
  refine call_use (rText hs2.p1) ?_
  rintro r h ⟨hr, hs⟩
  subst hr
  have hb := hs.p1.at
  have hs2 := hs.p1.set (o' := .row 6 [[.str t.tx, .str t.atx.tx, .int .i64 0, .int .i64 0, .int .i64 0, .int .i64 0]] 1)
  simp (disch := omega) only [go_sem, simprocAttr, hb]
  generalize Hp.set h b _ = h3 at hs2 ⊢
  refine call_use (rInt hs2.p1) ?_
  rintro r h ⟨hr, hs⟩
  subst hr
  simp (disch := omega) only [go_sem, simprocAttr]
  refine call_use (rInt hs) ?_
  rintro r h ⟨hr, hs⟩
  subst hr
  simp (disch := omega) only [go_sem, simprocAttr]
  refine call_use (rInt hs) ?_
  rintro r h ⟨hr, hs⟩
  subst hr
  simp (disch := omega) only [go_sem, simprocAttr]
  refine call_use (rInt hs) ?_
  rintro r h ⟨hr, hs⟩
  subst hr
  have hb := hs.p1.at
  have ha := hs.p2.at
  have hs3 := hs.p1.set (o' := .row 6 [[.str t.tx, .str t.atx.tx, .int .i64 (t.atx.atx.val 8), .int .i64 ((t.atx.atx.adv 8).val 8), .int .i64 (((t.atx.atx.adv 8).adv 8).val 8), .int .i64 ((((t.atx.atx.adv 8).adv 8).adv 8).val 8)]] 1)
  have hb3 := hs3.at
  have ha3 := hs3.p2.at
  have hs4 := hs3.p2.set (o' := .row 6 [[.str t.tx, .str t.atx.tx, .int .i64 (t.atx.atx.val 8), .int .i64 ((t.atx.atx.adv 8).val 8), .int .i64 (((t.atx.atx.adv 8).adv 8).val 8), .int .i64 ((((t.atx.atx.adv 8).adv 8).adv 8).val 8)]] 1)
  have ha4 := hs4.at
  simp (disch := omega) only [go_sem, simprocAttr, hb, hb3, ha3, ha4]
  exact ⟨rfl, hs4.drop.drop⟩
/-- An elder key is taken in. -/
theorem svKeep {x : Kv} (hs : sat h (StP s A o :: F)) (hA : A.chs = []) (hx : x.key = [] ∨ ∀ y ∈ A.old, ltK y.key x.key = true) (hz : A.old.length ≤ 1000000) (hpp : A.past ≤ 1000000000000000) :
    Triple Tryz.prog 56 [.ptr s 7 0 0, .agg (kvC x)] h (fun r h => r = .bool (decide (mayP x A.past ∧ A.old.length < 4096)) ∧ sat h (StP s (if mayP x A.past ∧ A.old.length < 4096 then A.kept x else A) o :: F)) := by
  obtain ⟨ix, vm, cv, L, X, hok, hs2⟩ := mvP.1 hs
  have ok := hok.1
  have hnow : A.now = A.old := by unfold Sto.now; rw [hA]; rfl
  refine t56 (Nat.le_of_ble_eq_true rfl) ?_
  simp (disch := omega) only [F56, kvC, go_sem, simprocAttr]
  refine new_opq hs2 fun a h hs => ?_
  have ha := hs.at
  have hp := hs.p1.at
  rw [hnow] at hp
  simp (disch := omega) only [go_sem, simprocAttr, ha, hp]
  refine call_use (svMay (x := x) (r := A.past) hs (by omega)) ?_
  rintro r h ⟨hr, hs⟩
  subst hr
  have ha := hs.at
  have hp := hs.p1.at
  rw [hnow] at hp
  by_cases hm : mayP x A.past
  · have hxf : ∀ y ∈ A.old, ltK y.key x.key = true := hx.resolve_left hm.1
    have hl := lk_miss keyOK_str hs.p4 (q := x.key) (fun y h1 h2 => kept_none hxf hA hok.2.2 y h1 h2) (ok := false) (z := .nils)
    simp only [Bool.false_eq_true, if_false] at hl
    rw [decide_eq_true hm]
    by_cases hn : A.old.length < 4096
    · have c1 : ((A.old.length : Int) ≥ 4096) = False := by simp; omega
      rw [if_pos ⟨hm, hn⟩, decide_eq_true (p := mayP x A.past ∧ A.old.length < 4096) ⟨hm, hn⟩]
      simp (disch := omega) only [go_sem, simprocAttr, ha, hp, hl, c1]
      refine new_opq hs fun n h hs => ?_
      have ha := hs.p1.at
      have hp := hs.p2.at
      rw [hnow] at hp
      simp (disch := omega) only [go_sem, simprocAttr]
      refine mup_new keyOK_str hs.p5 (y := (⟨x.key, .arr n 2 0 1 1, [verO x]⟩ : Vn)) (fun y h1 h2 => kept_none hxf hA hok.2.2 y h1 h2) fun h hs => ?_
      have ha := hs.p2.at
      have hp := hs.p3.at
      rw [hnow] at hp
      have hLn := ix_num hok.2.1
      have hLl := ix_len hok.2.1
      rw [hA, List.length_nil] at hLn
      rw [hA, List.length_nil] at hLl
      simp (disch := omega) only [go_sem, simprocAttr, ha, hp]
      refine call_use (ixPut (key := x.key) (m := (x.mod, false)) hs.p4 hok.2.1.1 (fun x hx => by have := hLl x hx; omega) (by omega) (by have h1 := hm.2.2.2.2.1; have h2 := hm.2.2.2.2.2.1; have h3 := hm.2.2.2.2.2.2.1; show inI x.mod; unfold inI; omega)) ?_
      rintro r h ⟨hr', hs⟩
      subst hr'
      have hp := hs.p4.at
      rw [hnow] at hp
      have m1 : (A.old.length : Int) + 1 = ((A.old.length + 1 : Nat) : Int) := by omega
      simp (disch := omega) only [go_sem, simprocAttr, hp, m1]
      refine mvP.2 ⟨ix, vm, cv, putL L x.key (x.mod, false), X ++ [⟨x.key, .arr n 2 0 1 1, [verO x]⟩], ⟨kept_ok hxf ok hA hm, kept_ix hxf hA hok.2.1 hm, kept_vm hxf hA hok.2.2⟩, ?_⟩
      have hs7 := hs.p4.set (o' := .row 7 [[.int .i64 A.rev, .int .i64 A.past, .int .i64 ((A.old.length + 1 : Nat) : Int), .ptr ix 2 0 0, .map vm, cv, o]] 1)
      have hs8 := (hs7.p4.drop.p2.p4.p3.p3.p4).ow (by simp)
      have e1 : (A.kept x).now.length = A.old.length + 1 := by
        show (A.old ++ [x]).length = _
        simp
      have e2 : (A.kept x).rev = A.rev := rfl
      have e3 : (A.kept x).past = A.past := rfl
      have e4 : (A.kept x).chs = A.chs := hA.symm
      have hs9 := sat.unmid (l1 := [pto s (.row 7 [[.int .i64 A.rev, .int .i64 A.past, .int .i64 ((A.old.length + 1 : Nat) : Int), .ptr ix 2 0 0, .map vm, cv, o]] 1), IxP ix (putL L x.key (x.mod, false)), Ow 2 cv (A.chs.map (verC tp td)), MpA (fun k : Key => AV.str k) Vn.key Vn.v vm (X ++ [⟨x.key, .arr n 2 0 1 1, [verO x]⟩])] ++ X.map (VnP tp td)) (l2 := F) hs8
      have t2 : VnP tp td ⟨x.key, .arr n 2 0 1 1, [verO x]⟩ = Ow 2 (.arr n 2 0 1 1) [[.int .i64 x.mod, .iface tp (.agg (kvC x))]] := rfl
      unfold MvL
      rw [e1, e2, e3, e4, List.map_append, List.map_cons, List.map_nil, t2]
      simpa [kvC] using hs9
    · have c1 : ((A.old.length : Int) ≥ 4096) = True := by simp; omega
      have hf : ¬ (mayP x A.past ∧ A.old.length < 4096) := fun h => hn h.2
      rw [if_neg hf, decide_eq_false hf]
      simp (disch := omega) only [go_sem, simprocAttr, ha, hp, hl, c1]
      exact mvP.2 ⟨ix, vm, cv, L, X, hok, hs.drop⟩
  · have hf : ¬ (mayP x A.past ∧ A.old.length < 4096) := fun h => hm h.1
    rw [if_neg hf, decide_eq_false hf, decide_eq_false hm]
    simp (disch := omega) only [go_sem, simprocAttr]
    exact mvP.2 ⟨ix, vm, cv, L, X, hok, hs.drop⟩
end
end Go.Proofs.YtkclojjeepomfaaGreat
/- A store is loaded: a change is done again. -/
set_option linter.unusedSimpArgs false
set_option linter.unusedVariables false
set_option maxRecDepth 10000
namespace Go.Proofs.YtkclojjeepomfaaGreat
open Go.Hz

/-- May a change be the next one? -/
def repC (B : Sto) (r : Int) (k : Key) : Prop := (r = B.rev ∨ r = B.rev + 1) ∧ B.past < r ∧ ∀ w, (B.vers k).getLast? = some w → w.rev ≠ r
def repW (B : Sto) (r : Int) (del : Bool) (x : Kv) : Kv := if del = true then ⟨x.key, [], 0, r, 0, 0⟩ else wNew r ⟨B.now, []⟩ x.key x.val x.lease
def repCh (B : Sto) (r : Int) (del : Bool) (x : Kv) : Ch := if del = true then .del x.key else .put (repW B r del x)
def repN (B : Sto) (del : Bool) (k : Key) : Int := if del = true then (B.now.length : Int) - 1 else if (kvget B.now k).isSome = true then (B.now.length : Int) else (B.now.length : Int) + 1
def repS (B : Sto) (r : Int) (del : Bool) (x : Kv) : Sto := ⟨r, B.past, B.old, B.chs ++ [⟨r, repCh B r del x⟩]⟩
theorem kv_eqs (x y : Kv) : eqsA [PK.s, PK.s, PK.i, PK.i, PK.i, PK.i] false (.agg (kvC x)) (.agg (kvC y)) = some (.bool (decide (x = y))) := by
  have e : decide (x = y) = (x.key == y.key && (x.val == y.val && (x.create == y.create && (x.mod == y.mod && (x.ver == y.ver && x.lease == y.lease))))) := by
    rw [Bool.eq_iff_iff, decide_eq_true_eq]
    cases x; cases y
    simp
  rw [e]
  simp [eqsA, eqCs, eqC, kvC]
theorem rev_ok {B : Sto} (ok : StoOK B) {r : Int} (hr : B.rev ≤ r) : StoOK ⟨r, B.past, B.old, B.chs⟩ where
  past := ok.past
  rev := by have := ok.rev; show B.past ≤ r; omega
  old := ok.old
  oldm := ok.oldm
  chs := ok.chs
  chr := fun v hv => ⟨(ok.chr v hv).1, by have := (ok.chr v hv).2; show v.rev ≤ r; omega⟩
  key := ok.key
  del := ok.del
  num := ⟨ok.num.1, fun v hv kv hk => ⟨(ok.num.2 v hv kv hk).1, (ok.num.2 v hv kv hk).2.mono hr⟩⟩
section
variable {h : Hp} {F : List Asr} {s ix vm : Nat} {cv : AV} {n : Int} {B : Sto} {o : AV} {L : IL} {X : List Vn}
theorem vn_facts (hs : sat h (MvL tp td s ix vm cv o B L X ++ F)) {x : Vn} (hx : x ∈ X) (hne : x.vs ≠ []) : ∃ b cap, x.v = .arr b 2 0 x.vs.length cap ∧ h b = some (.row 2 (x.vs.map (verC tp td)) cap) := by
  obtain ⟨l1, l2, rfl⟩ := List.append_of_mem hx
  have hs5 : sat h ((pto s (.row 7 [[.int .i64 B.rev, .int .i64 B.past, .int .i64 B.now.length, .ptr ix 2 0 0, .map vm, cv, o]] 1) :: IxP ix L :: Ow 2 cv (B.chs.map (verC tp td)) :: MpA (fun k : Key => AV.str k) Vn.key Vn.v vm (l1 ++ x :: l2) :: l1.map (VnP tp td)) ++ VnP tp td x :: (l2.map (VnP tp td) ++ F)) := by simpa [MvL] using hs
  have hs6 : sat h (Ow 2 x.v (x.vs.map (verC tp td)) :: _) := hs5.mid
  rcases hs6.cases with ⟨_, h0, _⟩ | ⟨b, cap, hv, g, _⟩
  · exact absurd (by simpa using h0) hne
  · rw [List.length_map] at hv
    exact ⟨b, cap, hv, g.at⟩
theorem vers_look (hs : sat h (MvL tp td s ix vm cv o B L X ++ F)) (hv : VmOK B X) (k : Key) : ∃ lv, lkA true false .nils h (.map vm) (.str k) = some lv ∧ lenL lv = some (.int .i64 (B.vers k).length) ∧ (B.vers k ≠ [] → ∃ b cap, lv = .arr b 2 0 (B.vers k).length cap ∧ h b = some (.row 2 ((B.vers k).map (verC tp td)) cap)) := by
  have hm : sat h (MpA (fun k : Key => AV.str k) Vn.key Vn.v vm X :: _) := hs.p3
  by_cases hx : ∃ x ∈ X, x.key = k
  · obtain ⟨x, hx, rfl⟩ := hx
    have hl := lk_hit keyOK_str hm hv.1 hx (ok := false) (z := .nils)
    simp only [Bool.false_eq_true, if_false] at hl
    obtain ⟨h1, h2⟩ := hv.2.1 x hx
    obtain ⟨b, cap, h3, h4⟩ := vn_facts hs hx h2
    rw [h1] at h3 h4
    exact ⟨x.v, hl, by rw [h3]; rfl, fun _ => ⟨b, cap, h3, h4⟩⟩
  · have hl := lk_miss keyOK_str hm (q := k) (fun x h1 h2 => hx ⟨x, h1, h2⟩) (ok := false) (z := .nils)
    simp only [Bool.false_eq_true, if_false] at hl
    have h0 : B.vers k = [] := by
      cases hq : B.vers k with
      | nil => rfl
      | cons w l =>
        obtain ⟨x, h1, h2⟩ := hv.2.2 k (by rw [hq]; simp)
        exact absurd ⟨x, h1, h2⟩ hx
    rw [h0]
    exact ⟨.nils, hl, rfl, fun h => absurd rfl h⟩
theorem rep_len (ok : StoOK B) {r : Int} {del : Bool} {x : Kv} (hd : del = true → kvget B.now x.key ≠ none) : repN B del x.key = ((repS B r del x).now.length : Int) := by
  have e : (repS B r del x).now = done B.now (repCh B r del x) := by
    show doneL B.old ((B.chs ++ [(⟨r, repCh B r del x⟩ : Ver)]).map Ver.c) = _
    rw [List.map_append, List.map_cons, List.map_nil, doneL_snoc]; rfl
  have hk : (repCh B r del x).key = x.key := by
    unfold repCh repW
    cases del
    · simp only [Bool.false_eq_true, if_false]
      exact wNew_key
    · rfl
  rw [e, done_len (now_srt ok), hk]
  unfold repN repCh
  cases del
  · simp only [Bool.false_eq_true, if_false]
    cases hg : kvget B.now x.key with
    | none => simp [Ch.kv]
    | some y =>
      have := List.length_pos_of_mem (kvget_some hg).1
      simp [Ch.kv]
  · simp only [if_true]
    cases hg : kvget B.now x.key with
    | none => exact absurd hg (hd rfl)
    | some y =>
      have := List.length_pos_of_mem (kvget_some hg).1
      simp [Ch.kv]
      omega
/-- What a change that is done again brings. -/
inductive RepPost (B : Sto) (s : Nat) (o : AV) (F : List Asr) (r : Int) (del : Bool) (x : Kv) (q : AV) (h : Hp) : Prop
  | mk (b : Bool) (h1 : q = .bool b) (h2 : sat h F) (h3 : repC B r x.key → (del = true → kvget B.now x.key ≠ none) → StoOK (repS B r del x) → sat h (StP s (repS B r del x) o :: F) ∧ (b = true ↔ x = repW B r del x ∧ (del = true ∨ mayP x r) ∧ repN B del x.key ≤ 4096)) : RepPost B s o F r del x q h
theorem svStp {r : Int} {del : Bool} {x : Kv} {c : Ch} {ix vm : Nat} {cv : AV} {L : IL} {X : List Vn} (ok : StoOK B) (hcw : repCh B r del x = c) (hnn : repN B del x.key = n) (hok2 : StoOK ((⟨r, B.past, B.old, B.chs⟩ : Sto).snoc ⟨r, c⟩) → StoOK ((⟨r, B.past, B.old, B.chs⟩ : Sto).snoc ⟨r, c⟩) ∧ IxOK ((⟨r, B.past, B.old, B.chs⟩ : Sto).snoc ⟨r, c⟩) L ∧ VmOK ((⟨r, B.past, B.old, B.chs⟩ : Sto).snoc ⟨r, c⟩) X)
    (hs : sat h (MvLn tp td s ix vm cv o n ((⟨r, B.past, B.old, B.chs⟩ : Sto).snoc ⟨r, c⟩) L X ++ F)) (hd : del = true → kvget B.now x.key ≠ none) (hok3 : StoOK (repS B r del x)) : sat h (StP s (repS B r del x) o :: F) := by
  have e : (⟨r, B.past, B.old, B.chs⟩ : Sto).snoc ⟨r, c⟩ = repS B r del x := by unfold repS Sto.snoc; rw [hcw]
  rw [e] at hs hok2
  have h9 := mvN.2 ⟨ix, vm, cv, L, X, hok2 hok3, hs⟩
  rw [← hnn, rep_len ok hd] at h9
  exact h9
theorem svReplay {r : Int} {del : Bool} {x : Kv} (hs : sat h (StP s B o :: F)) (hz : B.old.length + B.chs.length ≤ 1000000) (hpp : B.rev ≤ 1000000000000000) (hr0 : inI r) (hx : i64 x.create ∧ i64 x.mod) (hvv : ∀ y ∈ B.now, y.ver ≤ 1000000000000000) :
    Triple Tryz.prog 59 [.ptr s 7 0 0, .int .i64 r, .bool del, .agg (kvC x)] h (fun q h => RepPost B s o F r del x q h) := by
  have ok := MvP.ok hs
  have hpa := ok.past
  have hre := ok.rev
  refine t59 (Nat.le_of_ble_eq_true rfl) ?_
  simp (disch := omega) only [F59, kvC, go_sem, simprocAttr]
  refine new_opq hs fun a h hs => ?_
  have ha := hs.at
  obtain ⟨ix0, vm0, cv0, L0, X0, hok0, hs2⟩ := mvP.1 hs.p1
  have hp := hs2.at
  simp (disch := omega) only [go_sem, simprocAttr, ha, hp]
  refine call_use (mvAt (key := x.key) (rev := B.rev) hs.p1 (by omega)) ?_
  rintro q h ⟨hq, hs⟩
  subst hq
  have hvat : vAt (B.vers x.key) B.rev = kvget B.now x.key := by rw [vAt_at ok hre, at_rev ok]
  rw [hvat]
  clear hp hs2 hok0 hvat
  simp (disch := omega) only [go_sem, simprocAttr]
  refine new_opq hs fun z h hs => ?_
  have hz0 := hs.at
  obtain ⟨W0, hW0⟩ : ∃ W0, W0 = (kvget B.now x.key).getD kv0 := ⟨_, rfl⟩
  obtain ⟨is, his⟩ : ∃ is, is = (kvget B.now x.key).isSome := ⟨_, rfl⟩
  rw [← hW0, ← his]
  have hs2 := hs.set (o' := .row 6 [kvC W0] 1)
  have ha := hs2.p2.at
  have hz1 := hs2.at
  obtain ⟨ix, vm, cv, L, X, hok, hs3⟩ := mvP.1 hs2.p1
  have hp := hs3.at
  obtain ⟨lv, hl1, hl2, hl3⟩ := vers_look hs3 hok.2.2 x.key
  have hvl := vers_le (A := B) x.key
  simp only [kvC] at hs2 ha hz1 hs3 hp hl1 hl3
  simp (disch := omega) only [go_sem, simprocAttr, hz0, kvC, ha, hp, hl1]
  generalize Hp.set h z _ = h3 at hs2 hs3 ha hz1 hp hl1 hl3 ⊢
  have hmk : ∀ {h : Hp} {G : List Asr}, sat h (MvL tp td s ix vm cv o B L X ++ G) → sat h (StP s B o :: G) := fun hs => mvP.2 ⟨ix, vm, cv, L, X, hok, hs⟩
  have hF : sat h3 F := (hmk hs3).drop.drop.drop
  refine cnd_join1 (Q := fun e h => h = h3 ∧ ∃ b, (b = true ↔ ¬ repC B r x.key) ∧ (e 0 = .ptr s 7 0 0 ∧ e 1 = .int .i64 r ∧ e 2 = .bool del ∧ e 7 = .ptr a 6 0 0 ∧ e 9 = .ptr z 6 0 0 ∧ e 10 = .bool is ∧ e 11 = lv ∧ e 70 = .bool b)) ?_ ?_
  · by_cases q1 : r = B.rev
    case' pos =>
      have q3 : r = B.rev ∨ r = B.rev + 1 := .inl q1
      have c1 : (r != B.rev) = false := by simpa using q1
      simp (disch := omega) only [go_sem, simprocAttr, c1, hp]
    case' neg =>
      have c1 : (r != B.rev) = true := by simpa using q1
      by_cases q2 : r = B.rev + 1
      case' pos =>
        have q3 : r = B.rev ∨ r = B.rev + 1 := .inr q2
        have c3 : (r != B.rev + 1) = false := by simpa using q2
        simp (disch := omega) only [go_sem, simprocAttr, c1, c3, hp]
      case' neg =>
        have c3 : (r != B.rev + 1) = true := by simpa using q2
        simp (disch := omega) only [go_sem, simprocAttr, c1, c3, hp]
        refine ⟨true, ⟨fun _ h => ?_, fun _ => rfl⟩, rfl⟩
        rcases h.1 with h | h <;> contradiction
    all_goals
      refine cnd_dec (fun p1 => ?_) (fun p1 => ?_)
      · simp (disch := omega) only [go_sem, simprocAttr, p1]
        refine ⟨true, ⟨fun _ h => ?_, fun _ => rfl⟩, rfl⟩
        have := h.2.1; omega
      · simp (disch := omega) only [go_sem, simprocAttr, p1, hl2]
        by_cases v0 : B.vers x.key = []
        · rw [v0]
          simp (disch := omega) only [go_sem, simprocAttr]
          have : repC B r x.key := ⟨q3, by omega, fun w hw => by rw [v0] at hw; cases hw⟩
          exact ⟨false, ⟨fun h => (by cases h), fun h => absurd this h⟩, rfl⟩
        · obtain ⟨b, cap, hlv, hb⟩ := hl3 v0
          subst hlv
          have hpos : 0 < (B.vers x.key).length := List.length_pos_iff.2 v0
          have c4 : (((B.vers x.key).length : Int) > 0) = True := by simp; omega
          have m4 : ((B.vers x.key).length : Int) - 1 = (((B.vers x.key).length - 1 : Nat) : Int) := by omega
          obtain ⟨w, hw⟩ : ∃ w, (B.vers x.key)[(B.vers x.key).length - 1]? = some w := ⟨_, List.getElem?_eq_getElem (by omega)⟩
          have hrow : ((B.vers x.key).map (verC tp td))[(B.vers x.key).length - 1]? = some [.int .i64 w.rev, chV tp td w.c] := by rw [List.getElem?_map, hw]; rfl
          have hlast : (B.vers x.key).getLast? = some w := by rw [List.getLast?_eq_getElem?, hw]
          simp (disch := omega) only [go_sem, simprocAttr, c4, m4, hb, hrow, hl2, Int.toNat_natCast]
          refine ⟨w.rev == r, ⟨fun h h2 => h2.2.2 w hlast (by simpa using h), fun h => ?_⟩, rfl⟩
          refine Classical.byContradiction fun h2 => h ⟨q3, by omega, fun w' hw' => ?_⟩
          rw [hlast] at hw'
          injection hw' with hw'
          subst hw'
          simpa using h2
  rintro e h ⟨rfl, b, hb, he⟩
  cases b with
  | true =>
    have hno := hb.1 rfl
    simp (disch := omega) only [go_sem, simprocAttr, he]
    exact .mk false rfl hF fun h => absurd h hno
  | false =>
    have hyes : repC B r x.key := Classical.byContradiction fun h => by have := hb.2 h; cases this
    have hge : B.rev ≤ r := by rcases hyes.1 with h | h <;> omega
    have hnl : B.now.length ≤ 1000000 := by
      have h1 := doneL_le (l := B.old) (cs := B.chs.map Ver.c)
      rw [List.length_map] at h1
      exact Nat.le_trans h1 hz
    simp (disch := omega) only [go_sem, simprocAttr, he, ha]
    refine new_opq hs3 fun q h hs => ?_
    have hq := hs.at
    have hp := hs.p1.at
    have hzz := hs.drop.mid.at
    have ha := hs.drop.mid.drop.mid.at
    have hs4 := hs.set (o' := .row 6 [[.str x.key, .str x.val, .int .i64 r, .int .i64 r, .int .i64 1, .int .i64 x.lease]] 1)
    have hq4 := hs4.at
    have hp4 := hs4.p1.at
    have hz4 := hs4.drop.mid.at
    have ha4 := hs4.drop.mid.drop.mid.at
    simp (disch := omega) only [go_sem, simprocAttr, hq, hq4]
    generalize Hp.set h q _ = h4 at hs4 hq4 hp4 hz4 ha4 ⊢
    cases del
    · cases is
      case' false =>
        have hg : kvget B.now x.key = none := by
          cases hq2 : kvget B.now x.key with
          | none => rfl
          | some y => rw [hq2] at his; cases his
        have hww : repW B r false x = ⟨x.key, x.val, r, r, 1, x.lease⟩ := by simp [repW, wNew, hg]
        have hcw : repCh B r false x = .put ⟨x.key, x.val, r, r, 1, x.lease⟩ := by simp [repCh, hww]
        have hnn : repN B false x.key = (B.now.length : Int) + 1 := by simp [repN, hg]
        have hs5 := hs4.p1.set (o' := .row 7 [[.int .i64 r, .int .i64 B.past, .int .i64 ((B.now.length : Int) + 1), .ptr ix 2 0 0, .map vm, cv, o]] 1)
        have hp5 := hs5.at
        simp (disch := omega) only [go_sem, simprocAttr, he, hp4, hp5, ha4, hq4]
        have ek := kv_eqs x ⟨x.key, x.val, r, r, 1, x.lease⟩
        simp only [kvC] at ek
        rw [← hww] at ek
        generalize Hp.set h4 s _ = h5 at hs5 ⊢
        have hs6 : sat h5 (MvLn tp td s ix vm cv o ((B.now.length : Int) + 1) ⟨r, B.past, B.old, B.chs⟩ L X ++ (_ :: _)) := sat.unmid (l1 := MvLn tp td s ix vm cv o ((B.now.length : Int) + 1) ⟨r, B.past, B.old, B.chs⟩ L X) hs5.p1
        have hs7 := mvN.2 ⟨ix, vm, cv, L, X, ⟨rev_ok ok hge, hok.2.1, hok.2.2⟩, hs6⟩
        refine call_use (mvNoteG (v := ⟨r, .put ⟨x.key, x.val, r, r, 1, x.lease⟩⟩) hs7 hr0 (by show B.old.length + B.chs.length ≤ _; omega)) ?_
      case' true =>
        obtain ⟨y, hg⟩ : ∃ y, kvget B.now x.key = some y := by
          cases hq2 : kvget B.now x.key with
          | none => rw [hq2] at his; cases his
          | some y => exact ⟨y, rfl⟩
        rw [hg, Option.getD_some] at hW0
        subst hW0
        have hyv := hvv W0 (kvget_some hg).1
        have hyk := (now_num ok W0 (kvget_some hg).1).2.2.2.1
        have hww : repW B r false x = ⟨x.key, x.val, W0.create, r, W0.ver + 1, x.lease⟩ := by simp [repW, wNew, hg]
        have hcw : repCh B r false x = .put ⟨x.key, x.val, W0.create, r, W0.ver + 1, x.lease⟩ := by simp [repCh, hww]
        have hnn : repN B false x.key = (B.now.length : Int) := by simp [repN, hg]
        have hs45 := hs4.set (o' := .row 6 [[.str x.key, .str x.val, .int .i64 W0.create, .int .i64 r, .int .i64 (W0.ver + 1), .int .i64 x.lease]] 1)
        have hq45 := hs45.at
        have hp45 := hs45.p1.at
        have hs5 := hs45.p1.set (o' := .row 7 [[.int .i64 r, .int .i64 B.past, .int .i64 (B.now.length : Int), .ptr ix 2 0 0, .map vm, cv, o]] 1)
        have hp5 := hs5.at
        simp (disch := omega) only [go_sem, simprocAttr, he, hp4, hp5, ha4, hq4, hz4, hq45, hp45, hs4.set.drop.mid.at]
        have ek := kv_eqs x ⟨x.key, x.val, W0.create, r, W0.ver + 1, x.lease⟩
        simp only [kvC] at ek
        rw [← hww] at ek
        generalize Hp.set (Hp.set h4 q _) s _ = h5 at hs5 ⊢
        have hs6 : sat h5 (MvLn tp td s ix vm cv o ((B.now.length : Int)) ⟨r, B.past, B.old, B.chs⟩ L X ++ (_ :: _)) := sat.unmid (l1 := MvLn tp td s ix vm cv o ((B.now.length : Int)) ⟨r, B.past, B.old, B.chs⟩ L X) hs5.p1
        have hs7 := mvN.2 ⟨ix, vm, cv, L, X, ⟨rev_ok ok hge, hok.2.1, hok.2.2⟩, hs6⟩
        refine call_use (mvNoteG (v := ⟨r, .put ⟨x.key, x.val, W0.create, r, W0.ver + 1, x.lease⟩⟩) hs7 hr0 (by show B.old.length + B.chs.length ≤ _; omega)) ?_
      all_goals
        rintro v0 h ⟨ix2, vm2, cv2, L2, X2, hok2, hs⟩
        have hq := hs.mid.at
        have ha := hs.mid.drop.mid.drop.mid.at
        have hp := hs.at
        by_cases e1 : x = repW B r false x
        · rw [decide_eq_true e1] at ek
          simp (disch := omega) only [go_sem, simprocAttr, he, hq, ha, ek]
          refine call_use (svMay (x := x) (r := r) hs (by rcases hyes.1 with h | h <;> omega)) ?_
          rintro v1 h ⟨hv1, hs⟩
          subst hv1
          have hp := hs.at
          by_cases e2 : mayP x r
          · rw [decide_eq_true e2]
            simp (disch := omega) only [go_sem, simprocAttr, he, hp]
            refine .mk _ rfl hs.right.drop.drop.drop fun _ hd hok3 => ⟨(svStp ok hcw hnn hok2 hs hd hok3).p1.drop.p1.drop.p1.drop, ?_⟩
            rw [hnn]
            exact ⟨fun h => ⟨e1, .inr e2, of_decide_eq_true h⟩, fun h => decide_eq_true h.2.2⟩
          · rw [decide_eq_false e2]
            simp (disch := omega) only [go_sem, simprocAttr, he, hp]
            refine .mk _ rfl hs.right.drop.drop.drop fun _ hd hok3 => ⟨(svStp ok hcw hnn hok2 hs hd hok3).p1.drop.p1.drop.p1.drop, ?_⟩
            exact ⟨fun h => (by cases h), fun h => absurd (h.2.1.resolve_left (by simp)) e2⟩
        · rw [decide_eq_false e1] at ek
          simp (disch := omega) only [go_sem, simprocAttr, he, hq, ha, ek]
          refine .mk _ rfl hs.right.drop.drop.drop fun _ hd hok3 => ⟨(svStp ok hcw hnn hok2 hs hd hok3).p1.drop.p1.drop.p1.drop, ?_⟩
          exact ⟨fun h => (by cases h), fun h => absurd h.1 e1⟩
    · cases is
      · simp (disch := omega) only [go_sem, simprocAttr, he]
        have hg : kvget B.now x.key = none := by
          cases hq2 : kvget B.now x.key with
          | none => rfl
          | some y => rw [hq2] at his; cases his
        exact .mk false rfl (hmk hs4.drop.mid.drop.mid.drop).drop fun _ h => absurd hg (h rfl)
      have hww : repW B r true x = ⟨x.key, [], 0, r, 0, 0⟩ := by simp [repW]
      have hcw : repCh B r true x = .del x.key := by simp [repCh]
      have hnn : repN B true x.key = (B.now.length : Int) - 1 := by simp [repN]
      have hs45 := hs4.set (o' := .row 6 [[.str x.key, .str [], .int .i64 0, .int .i64 r, .int .i64 0, .int .i64 0]] 1)
      have hq45 := hs45.at
      have hp45 := hs45.p1.at
      have ha45 := hs45.drop.mid.drop.mid.at
      have hs5 := hs45.p1.set (o' := .row 7 [[.int .i64 r, .int .i64 B.past, .int .i64 ((B.now.length : Int) - 1), .ptr ix 2 0 0, .map vm, cv, o]] 1)
      have hp5 := hs5.at
      simp (disch := omega) only [go_sem, simprocAttr, he, hp4, hp5, ha4, hq4, hq45, hp45, ha45]
      have ek := kv_eqs x ⟨x.key, [], 0, r, 0, 0⟩
      simp only [kvC] at ek
      rw [← hww] at ek
      generalize Hp.set (Hp.set h4 q _) s _ = h5 at hs5 ⊢
      have hs6 : sat h5 (MvLn tp td s ix vm cv o ((B.now.length : Int) - 1) ⟨r, B.past, B.old, B.chs⟩ L X ++ (_ :: _)) := sat.unmid (l1 := MvLn tp td s ix vm cv o ((B.now.length : Int) - 1) ⟨r, B.past, B.old, B.chs⟩ L X) hs5.p1
      have hs7 := mvN.2 ⟨ix, vm, cv, L, X, ⟨rev_ok ok hge, hok.2.1, hok.2.2⟩, hs6⟩
      refine call_use (mvNoteG (v := ⟨r, .del x.key⟩) hs7 hr0 (by show B.old.length + B.chs.length ≤ _; omega)) ?_
      rintro v0 h ⟨ix2, vm2, cv2, L2, X2, hok2, hs⟩
      have hq := hs.mid.at
      have ha := hs.mid.drop.mid.drop.mid.at
      have hp := hs.at
      by_cases e1 : x = repW B r true x
      · rw [decide_eq_true e1] at ek
        simp (disch := omega) only [go_sem, simprocAttr, he, hq, ha, ek, hp]
        refine .mk _ rfl hs.right.drop.drop.drop fun _ hd hok3 => ⟨(svStp ok hcw hnn hok2 hs hd hok3).p1.drop.p1.drop.p1.drop, ?_⟩
        rw [hnn]
        exact ⟨fun h => ⟨e1, .inl rfl, of_decide_eq_true h⟩, fun h => decide_eq_true h.2.2⟩
      · rw [decide_eq_false e1] at ek
        simp (disch := omega) only [go_sem, simprocAttr, he, hq, ha, ek]
        refine .mk _ rfl hs.right.drop.drop.drop fun _ hd hok3 => ⟨(svStp ok hcw hnn hok2 hs hd hok3).p1.drop.p1.drop.p1.drop, ?_⟩
        exact ⟨fun h => (by cases h), fun h => absurd h.1 e1⟩
end
end Go.Proofs.YtkclojjeepomfaaGreat
/- A store is loaded: its bytes, cut short, or with more behind, too. -/
set_option linter.unusedSimpArgs false
set_option linter.unusedVariables false
set_option maxRecDepth 10000
namespace Go.Proofs.YtkclojjeepomfaaGreat
open Go.Hz

/-- What is left to be read behind the keys, behind the changes that were read. -/
def svR2 (A : Sto) : List UInt8 := beB 8 A.chs.length ++ A.chs.flatMap svVer
/-- A store without keys. -/
def Sto.bare (c : Int) : Sto := ⟨c, c, [], []⟩
section
variable {h : Hp} {F : List Asr} {p s : Nat} {A : Sto} {o : AV} {m : Option (List UInt8)}
theorem bare_ok {c : Int} (hc : 0 ≤ c) : StoOK (Sto.bare c) :=
  ⟨hc, Int.le_refl _, List.Pairwise.nil, (fun x hx => by cases hx), List.Pairwise.nil, (fun v hv => by cases hv), ⟨(fun x hx => by cases hx), (fun v hv => by cases hv)⟩, (fun a v b h => by have h : [] = a ++ v :: b := h; simp at h), ⟨(fun x hx => by cases hx), (fun v hv => by cases hv)⟩⟩
/-- The next change is done again as it was. -/
theorem rep_next (ok : StoOK A) (hf : StoFine A) {a b : List Ver} {v : Ver} (h : A.chs = a ++ v :: b) :
    repC (A.upto a) v.rev (evKv v).key ∧ (v.c.kv.isNone = true → kvget (A.upto a).now (evKv v).key ≠ none) ∧ repS (A.upto a) v.rev v.c.kv.isNone (evKv v) = A.upto (a ++ [v]) ∧
      (evKv v = repW (A.upto a) v.rev v.c.kv.isNone (evKv v) ∧ (v.c.kv.isNone = true ∨ mayP (evKv v) v.rev) ∧ repN (A.upto a) v.c.kv.isNone (evKv v).key ≤ 4096) := by
  obtain ⟨h1, h2, h3⟩ := upto_next ok hf h
  have hv : v ∈ A.chs := by rw [h]; simp
  have hkk : (evKv v).key = v.c.key := by unfold evKv; cases v.c <;> rfl
  have hokv := ok.key.2 v hv
  have hnum := ok.num.2 v hv
  have hdel := ok.del a v b h
  have hc := ok.chs
  rw [h] at hc
  have hpre := (List.pairwise_append.1 hc).2.2
  have hC : repC (A.upto a) v.rev (evKv v).key := by
    refine ⟨h3, h1, fun w hw => ?_⟩
    have hm := List.mem_of_getLast? hw
    unfold Sto.vers at hm
    rcases List.mem_append.1 hm with hm | hm
    · have hm : w ∈ ((kvget A.old (evKv v).key).map verO).toList := hm
      cases hg : kvget A.old (evKv v).key with
      | none => rw [hg] at hm; simp at hm
      | some x =>
        rw [hg] at hm
        simp at hm; subst hm
        have := (ok.oldm x (kvget_some hg).1).2
        show x.mod ≠ v.rev
        omega
    · obtain ⟨hm1, hm2⟩ := List.mem_filter.1 hm
      have := (hpre w hm1 v (by simp)).2 (by rw [← hkk]; simpa using hm2)
      omega
  have hnow : (A.upto a).now = doneL A.old (a.map Ver.c) := rfl
  have hD : v.c.kv.isNone = true → kvget (A.upto a).now (evKv v).key ≠ none := by
    intro h5
    rw [hnow, hkk]
    exact hdel (by simpa using h5)
  have hW : evKv v = repW (A.upto a) v.rev v.c.kv.isNone (evKv v) ∧ repCh (A.upto a) v.rev v.c.kv.isNone (evKv v) = v.c := by
    have hr := hf.right a v b h
    unfold evKv
    cases hcc : v.c with
    | put x =>
      have := hr x hcc
      rw [← hnow] at this
      simp only [Ch.kv, Option.getD_some, Option.isNone_some, repW, repCh, Bool.false_eq_true, if_false]
      exact ⟨this, by rw [← this]⟩
    | del k =>
      simp [Ch.kv, Ch.key, repW, repCh]
  have hS : repS (A.upto a) v.rev v.c.kv.isNone (evKv v) = A.upto (a ++ [v]) := by
    unfold repS Sto.upto
    rw [lastR_snoc]
    have e : repCh (A.upto a) v.rev v.c.kv.isNone (evKv v) = v.c := hW.2
    unfold Sto.upto at e
    rw [e]
  refine ⟨hC, hD, hS, hW.1, ?_, ?_⟩
  · cases hcc : v.c with
    | del k => exact .inl rfl
    | put x =>
      right
      obtain ⟨n1, n2, n3, n4, n5, n6, n7, n8⟩ := hnum x hcc
      rw [hcc] at hokv
      unfold evKv
      rw [hcc]
      exact ⟨hokv.1, hokv.2, n8, n7, n2, n3, by show x.mod ≤ v.rev; omega, n5, n6⟩
  · rw [rep_len (r := v.rev) (upto_ok ok h) hD, hS]
    have h9 : (A.upto (a ++ [v])).now = doneL A.old ((a ++ [v]).map Ver.c) := rfl
    have := hf.num (a ++ [v]) b (by rw [h]; simp)
    rw [h9]
    omega
theorem kvW_in {x : Kv} {r : Int} (hx : KvIn r x) (hk : x.key.length ≤ 100) (hr : r ≤ 1000000000000000) (hl : x.lease ≤ 9223372036854775807) : KvW x := by
  obtain ⟨n2, n3, n4, n5, n6, n7, n8⟩ := hx
  refine ⟨by omega, by omega, ?_, ?_, ?_, ?_⟩ <;> unfold i64 <;> omega
theorem kvW_old (ok : StoOK A) (hf : StoFine A) (hr : A.rev ≤ 1000000000000000) {x : Kv} (hx : x ∈ A.old) : KvW x :=
  kvW_in (ok.num.1 x hx) (ok.key.1 x hx).2 (by have := ok.rev; omega) (hf.lea.1 x hx)
theorem kvW_ver (ok : StoOK A) (hf : StoFine A) (hr : A.rev ≤ 1000000000000000) {v : Ver} (hv : v ∈ A.chs) : KvW (evKv v) := by
  have hk := ok.key.2 v hv
  have h1 := ok.chr v hv
  have hp := ok.past
  cases hc : v.c with
  | put x =>
    rw [hc] at hk
    unfold evKv
    rw [hc]
    exact kvW_in (ok.num.2 v hv x hc).2 hk.2 hr (hf.lea.2 v hv x hc)
  | del k =>
    rw [hc] at hk
    have hk2 : k.length ≤ 100 := hk.2
    unfold evKv
    rw [hc]
    refine ⟨by show k.length < _; omega, by simp [Ch.kv], ?_, ?_, ?_, ?_⟩ <;> unfold i64 <;> simp [Ch.kv] <;> omega
theorem flat_len {α : Type} {f : α → List UInt8} {n : Nat} : ∀ {l : List α}, (∀ x ∈ l, (f x).length ≤ n) → (l.flatMap f).length ≤ n * l.length
  | [], _ => Nat.zero_le _
  | x :: l, h => by
    have h1 := h x (by simp)
    have h2 := flat_len (l := l) fun y hy => h y (List.mem_cons_of_mem _ hy)
    rw [List.flatMap_cons, List.length_append, List.length_cons, Nat.mul_succ]
    omega
theorem svA_len (ok : StoOK A) : (svA A).length ≤ 56 + 4236 * A.old.length + 4245 * A.chs.length := by
  have h1 := flat_len (f := svKv) (n := 4236) (l := A.old) fun x hx => svKv_len (ok.key.1 x hx).2 (ok.num.1 x hx).2.2.2.2.2.2
  have h2 := flat_len (f := svVer) (n := 4245) (l := A.chs) fun v hv => by
    obtain ⟨h3, h4⟩ := evKv_sz ok hv
    have := svKv_len h3 h4
    unfold svVer
    simp [beB_length]
    omega
  unfold svA svB
  simp only [List.length_append, txB_length, beB_length, sumsF_len, wordB, List.length_cons, List.length_nil]
  omega
theorem rdG_self : RdG (some []) ⟨(svA A).take ((svA A).length - 4), 0, 0⟩ (svB A) := by
  have e : (svA A).take ((svA A).length - 4) = svB A := by
    unfold svA
    rw [List.length_append, sumsF_len, Nat.add_sub_cancel, List.take_left]
  rw [e]
  show RS.At _ (svB A ++ [])
  rw [List.append_nil]
  exact RS.At.start _
/-- A new store, of which the revisions are set. -/
theorem bare_set {c : Int} (hc : 0 ≤ c) (hs : sat h (StP s ⟨0, 0, [], []⟩ o :: F)) : ∃ ix vm cv, h s = some (.row 7 [[.int .i64 0, .int .i64 0, .int .i64 0, .ptr ix 2 0 0, .map vm, cv, o]] 1) ∧ sat (h.set s (.row 7 [[.int .i64 c, .int .i64 c, .int .i64 0, .ptr ix 2 0 0, .map vm, cv, o]] 1)) (StP s (Sto.bare c) o :: F) := by
  obtain ⟨ix, vm, cv, L, X, hok, hs2⟩ := mvP.1 hs
  refine ⟨ix, vm, cv, hs2.at, mvP.2 ⟨ix, vm, cv, L, X, ⟨bare_ok hc, hok.2.1, hok.2.2⟩, ?_⟩⟩
  exact hs2.set
/-- Load: what was saved is loaded as it was; other bytes are refused, if they are its front, or have more behind. -/
inductive LoadPost (A : Sto) (b : List UInt8) (F : List Asr) (r : AV) (h : Hp) : Prop
  | ok (s : Nat) (h1 : b = svA A) (h2 : r = .tup [.ptr s 7 0 0, .int .i64 0]) (h3 : sat h (StP s A .nilp :: F)) : LoadPost A b F r h
  | bad (h1 : b ≠ svA A) (h2 : r = .tup [.nilp, .int .i64 11]) (h3 : sat h F) : LoadPost A b F r h
theorem svLoad {v : AV} {b : List UInt8} (ok : StoOK A) (hf : StoFine A) (hz : A.old.length + A.chs.length ≤ 200000) (hrr : A.rev ≤ 1000000000000000)
    (hs : sat h F) (hE : ∀ h, sat h F → Bts h v b) (hc : CapOK v) (hb : b.length ≤ 1000000000) (hG : 4 ≤ b.length → ∃ m, RdG m ⟨b.take (b.length - 4), 0, 0⟩ (svB A)) :
    Triple Tryz.prog 26 [v] h (fun r h => LoadPost A b F r h) := by
  have hlen := Bts.len (hE _ hs)
  have hpa := ok.past
  have hre := ok.rev
  have nbad : ¬ (4 ≤ b.length ∧ sumsF (b.take (b.length - 4)) = b.drop (b.length - 4)) → b ≠ svA A := fun h e => h (svA_sum e)
  refine t26 (Nat.le_of_ble_eq_true rfl) ?_
  simp (disch := omega) only [F26, hlen, go_sem, simprocAttr]
  by_cases g1 : b.length < 4
  · have c1 : ((b.length : Int) < 4) = True := by simp; omega
    simp (disch := omega) only [go_sem, simprocAttr, c1]
    exact .bad (nbad fun h => by omega) rfl hs
  have c1 : ((b.length : Int) < 4) = False := by simp; omega
  obtain ⟨m, hG⟩ := hG (by omega)
  have e4 : (b.length : Int) - 4 = ((b.length - 4 : Nat) : Int) := by omega
  obtain ⟨x, hx, hxE, hxc⟩ := slc_E (A := fun h => sat h F) hs hE hc .i64 .i64 (lo := 0) (hi := b.length - 4) (by omega) (by simp)
  obtain ⟨y, hy, hyE, hyc⟩ := slc_E (A := fun h => sat h F) hs hE hc .i64 .i64 (lo := b.length - 4) (hi := b.length) (by omega) (by simp)
  have hx' : slcL 1 v none (some (.int .i64 ((b.length - 4 : Nat) : Int))) = some x := by rw [slc_lo]; exact hx
  have hy' : slcL 1 v (some (.int .i64 ((b.length - 4 : Nat) : Int))) none = some y := by rw [slc_hi hlen]; exact hy
  have hxB : ∀ h, sat h F → Bts h x (b.take (b.length - 4)) := fun h hs => by
    have := hxE h hs
    rw [List.drop_zero, ← List.map_take, Nat.sub_zero] at this
    exact this
  have hyB : ∀ h, sat h F → Bts h y (b.drop (b.length - 4)) := fun h hs => by
    have := hyE h hs
    rw [← List.map_drop, List.take_of_length_le (by simp)] at this
    exact this
  simp (disch := omega) only [go_sem, simprocAttr, c1, hlen, e4, hx', hy']
  refine call_use (svSums hs hxB hxc (by rw [List.length_take]; omega)) ?_
  rintro q h ⟨u, es, hs, hq, hqc⟩
  simp (disch := omega) only [go_sem, simprocAttr]
  refine call_use (bytesEq2 hs (a := sumsF (b.take (b.length - 4))) (b := b.drop (b.length - 4)) (hq _ _ hs) (hyB _ hs.drop)) ?_
  rintro q2 h ⟨hq2, hs⟩
  subst hq2
  have hs := hs.drop
  by_cases g2 : sumsF (b.take (b.length - 4)) = b.drop (b.length - 4)
  rotate_left
  · have c2 : (sumsF (b.take (b.length - 4)) == b.drop (b.length - 4)) = false := by simpa using g2
    simp (disch := omega) only [go_sem, simprocAttr, c2]
    exact .bad (nbad fun h => g2 h.2) rfl hs
  have c2 : (sumsF (b.take (b.length - 4)) == b.drop (b.length - 4)) = true := by simpa using g2
  clear hq hqc
  simp (disch := omega) only [go_sem, simprocAttr, c2, hlen, e4, hx']
  refine call_use (newReader (b := b.take (b.length - 4)) hs hxB (by rw [List.length_take]; omega)) ?_
  rintro q3 h ⟨p, hq3, hs⟩
  subst hq3
  simp (disch := omega) only [go_sem, simprocAttr]
  refine call_use (mvNew hs) ?_
  rintro q4 h ⟨s, hq4, hs⟩
  subst hq4
  have nD : m = none → b ≠ svA A := fun h => by subst h; exact svB_ne hG
  generalize b.take (b.length - 4) = pay at hG hs
  simp (disch := omega) only [go_sem, simprocAttr]
  refine call_use (rText hs.p1) ?_
  rintro q5 h ⟨hq5, hs⟩
  subst hq5
  simp (disch := omega) only [go_sem, simprocAttr]
  refine call_use (rInt hs) ?_
  rintro q6 h ⟨hq6, hs⟩
  subst hq6
  simp (disch := omega) only [go_sem, simprocAttr]
  refine call_use (rInt hs) ?_
  rintro q7 h ⟨hq7, hs⟩
  subst hq7
  have H : ((RS.mk pay 0 0).tx = wordB ∧ (RS.mk pay 0 0).atx.val 8 = A.rev ∧ ((RS.mk pay 0 0).atx.adv 8).val 8 = A.past ∧ RdG m (((RS.mk pay 0 0).atx.adv 8).adv 8) (beB 8 A.old.length ++ (A.old.flatMap svKv ++ svR2 A))) ∨ (RdD m (((RS.mk pay 0 0).atx.adv 8).adv 8) ∧ ((RS.mk pay 0 0).atx.adv 8).val 8 = 0) := by
    have hG : RdG m (RS.mk pay 0 0) (txB wordB ++ (beB 8 A.rev ++ (beB 8 A.past ++ (beB 8 A.old.length ++ (A.old.flatMap svKv ++ svR2 A))))) := hG
    rcases hG.t (by decide) with ⟨a1, hG⟩ | ⟨_, d⟩
    rotate_left
    · right; simp only [d.adv, d.val]; exact ⟨d, trivial⟩
    rcases hG.i8 (by omega) (by omega) with ⟨a2, hG⟩ | ⟨_, d⟩
    rotate_left
    · right; simp only [d.adv, d.val]; exact ⟨d, trivial⟩
    rcases hG.i8 (by omega) (by omega) with ⟨a3, hG⟩ | ⟨a3, d⟩
    rotate_left
    · exact .inr ⟨d, a3⟩
    exact .inl ⟨a1, a2, a3, hG⟩
  clear hG
  generalize (RS.mk pay 0 0).tx = tx at *
  generalize (RS.mk pay 0 0).atx.val 8 = rv at *
  generalize ((RS.mk pay 0 0).atx.adv 8).val 8 = c at *
  generalize (((RS.mk pay 0 0).atx.adv 8).adv 8) = t0 at *
  have hc0 : 0 ≤ c := by rcases H with ⟨_, _, h, _⟩ | ⟨_, h⟩ <;> omega
  obtain ⟨ix, vm, cv, hp, hs2⟩ := bare_set hc0 hs.p1
  obtain ⟨ix3, vm3, cv3, L3, X3, _, hs3⟩ := mvP.1 hs2
  have hp3 := hs3.at
  have hc1 : (c ≥ 0) = True := by simp; omega
  simp (disch := omega) only [go_sem, simprocAttr, hp]
  generalize Hp.set h s _ = h2 at hs2 hs3 hp3 ⊢
  refine cnd_join1 (Q := fun e h => h = h2 ∧ ∃ fb, (tx = wordB → c ≤ rv → fb = true) ∧ (e 0 = v ∧ e 4 = .ptr p 3 0 0 ∧ e 5 = .ptr s 7 0 0 ∧ e 6 = .bool fb ∧ e 7 = .int .i64 rv)) ?_ ?_
  · refine cnd_bool (fun w => ?_) (fun w => ?_)
    · simp (disch := omega) only [go_sem, simprocAttr, w, hc1]
      exact ⟨_, fun _ h => decide_eq_true h, rfl⟩
    · simp (disch := omega) only [go_sem, simprocAttr, w]
      exact ⟨false, fun h => (by rw [h] at w; exact absurd w (by decide)), rfl⟩
  rintro e h ⟨rfl, fb, hfb, he⟩
  simp (disch := omega) only [go_sem, simprocAttr, he]
  refine call_use (rInt hs2.p1) ?_
  rintro q8 h ⟨hq8, hs⟩
  subst hq8
  simp (disch := omega) only [go_sem, simprocAttr, he]
  refine blk_join (Q := fun e h => ((∃ t, RdG m t (svR2 A) ∧ sat h (Rd p t :: StP s (A.upto []) .nilp :: F) ∧ (e 5 = .ptr s 7 0 0 ∧ e 6 = .bool true ∧ e 7 = .int .i64 A.rev)) ∨ (∃ t fb, RdD m t ∧ sat h (Rd p t :: F) ∧ e 6 = .bool fb)) ∧ (e 0 = v ∧ e 4 = .ptr p 3 0 0)) ?_ ?_
  · refine run_up (N := A.old.length) (fun i e h => ((∃ t, RdG m t ((A.old.drop i).flatMap svKv ++ svR2 A) ∧ sat h (Rd p t :: StP s ⟨A.past, A.past, A.old.take i, []⟩ .nilp :: F) ∧ (e 5 = .ptr s 7 0 0 ∧ e 6 = .bool true ∧ e 7 = .int .i64 A.rev ∧ e 9 = .int .i64 ((A.old.length : Int) - i))) ∨ (∃ t fb z, RdD m t ∧ sat h (Rd p t :: F) ∧ e 6 = .bool fb ∧ e 9 = .int .i64 z)) ∧ (e 0 = v ∧ e 4 = .ptr p 3 0 0)) ⟨?_, by simp [Env.upd_apply, he]⟩ ?_
    · rcases H with ⟨a1, a2, a3, hG⟩ | ⟨d, a3⟩
      · subst a1 a2 a3
        have hfb := hfb rfl hre
        subst hfb
        rcases hG.i8 (by omega) (by omega) with ⟨a4, hG⟩ | ⟨a4, d⟩
        · left
          exact ⟨_, by simpa using hG, hs, by simp [Env.upd_apply, he, a4]⟩
        · right
          exact ⟨_, true, 0, d, hs.d1, by simp [Env.upd_apply, he, a4]⟩
      · right
        have hv := d.val 8
        have had := d.adv 8
        rw [had] at hs
        exact ⟨_, fb, 0, d, hs.d1, by simp [Env.upd_apply, he, hv]⟩
    clear hs hs2 hs3 he hp hp3 H hc0 hc1 hfb
    rintro i e h hi ⟨hI, he0⟩
    rcases hI with ⟨t, hG, hs, he⟩ | ⟨t, fb, z, d, hs, he⟩
    · by_cases hi2 : i < A.old.length
      · have c2 : ((A.old.length : Int) - i > 0) = True := by simp; omega
        have m2 : (A.old.length : Int) - i - 1 = (A.old.length : Int) - (i + 1 : Nat) := by omega
        have et := hG.err
        simp (disch := omega) only [go_sem, simprocAttr, he, he0, c2]
        refine call_use (rErr hs) ?_
        rintro r h ⟨hr, hs⟩
        subst hr
        simp (disch := omega) only [go_sem, simprocAttr, he, he0, et]
        refine call_use (svLoaded hs) ?_
        rintro q9 h ⟨hq9, hs⟩
        subst hq9
        rw [List.drop_eq_getElem_cons hi2, List.flatMap_cons, List.append_assoc] at hG
        have hx0 := kvW_old ok hf hrr (List.getElem_mem hi2)
        have hord : ∀ y ∈ A.old.take i, ltK y.key A.old[i].key = true := by
          intro y hy
          obtain ⟨j, hj, rfl⟩ := List.getElem_of_mem hy
          rw [List.length_take] at hj
          rw [List.getElem_take]
          exact List.pairwise_iff_getElem.1 ok.old j i (by omega) hi2 (by omega)
        have hkl : t.kv.key = [] ∨ ∀ y ∈ A.old.take i, ltK y.key t.kv.key = true := by
          rcases hG.kv hx0 with ⟨h1, _⟩ | ⟨_, h1 | h1, _⟩
          · right; rw [h1]; exact hord
          · right; rw [h1]; exact hord
          · exact .inl h1
        simp (disch := omega) only [go_sem, simprocAttr, he, he0]
        refine call_use (svKeep (x := t.kv) hs.p1 rfl hkl (by show (A.old.take i).length ≤ _; rw [List.length_take]; omega) (by show A.past ≤ _; omega)) ?_
        rintro q10 h ⟨hq10, hs⟩
        subst hq10
        simp (disch := omega) only [go_sem, simprocAttr, he, he0, m2]
        refine ⟨hi2, ?_⟩
        rcases hG.kv hx0 with ⟨h1, hG⟩ | ⟨d, _⟩
        · left
          have hk := ok.key.1 _ (List.getElem_mem hi2)
          obtain ⟨n2, n3, n4, n5, n6, n7, n8⟩ := ok.num.1 _ (List.getElem_mem hi2)
          have hn := hf.num [] A.chs rfl
          have hn : A.old.length ≤ 4096 := hn
          have hm : mayP t.kv A.past ∧ (A.old.take i).length < 4096 := by
            rw [h1]
            exact ⟨⟨hk.1, hk.2, n8, n7, n2, n3, n4, n5, n6⟩, by rw [List.length_take]; omega⟩
          rw [if_pos hm, h1] at hs
          have ek : Sto.kept ⟨A.past, A.past, A.old.take i, []⟩ A.old[i] = ⟨A.past, A.past, A.old.take (i + 1), []⟩ := by
            unfold Sto.kept
            rw [List.take_succ_eq_append_getElem hi2]
          rw [ek] at hs
          exact ⟨_, hG, hs.p1, by rw [decide_eq_true hm]⟩
        · right
          exact ⟨_, _, _, d, hs.drop, rfl, rfl⟩
      · have hi3 : i = A.old.length := by omega
        subst hi3
        have c2 : ((A.old.length : Int) - A.old.length > 0) = False := by simp
        rw [List.drop_length, List.flatMap_nil, List.nil_append] at hG
        rw [List.take_length] at hs
        simp (disch := omega) only [go_sem, simprocAttr, he, he0, c2]
        exact .inl ⟨t, hG, hs⟩
    · cases fb with
      | false =>
        simp (disch := omega) only [go_sem, simprocAttr, he, he0]
        exact .inr ⟨t, false, d, hs, rfl⟩
      | true =>
        by_cases z0 : z > 0
        · have c2 : (z > 0) = True := by simpa using z0
          have e8 := d.2
          simp (disch := omega) only [go_sem, simprocAttr, he, he0, c2]
          refine call_use (rErr hs) ?_
          rintro r h ⟨hr, hs⟩
          subst hr
          simp (disch := omega) only [go_sem, simprocAttr, he, he0, e8]
          exact .inr ⟨t, true, d, hs, rfl⟩
        · have c2 : (z > 0) = False := by simpa using z0
          simp (disch := omega) only [go_sem, simprocAttr, he, he0, c2]
          exact .inr ⟨t, true, d, hs, rfl⟩
  clear hs hs2 hs3 he hp hp3 H hc0 hc1 hfb
  rintro e h ⟨hI, he0⟩
  obtain ⟨t, G, hs, hI⟩ : ∃ t G, sat h (Rd p t :: G) ∧ ((RdG m t (svR2 A) ∧ G = StP s (A.upto []) .nilp :: F ∧ (e 5 = .ptr s 7 0 0 ∧ e 6 = .bool true ∧ e 7 = .int .i64 A.rev)) ∨ (RdD m t ∧ G = F ∧ ∃ fb, e 6 = .bool fb)) := by
    rcases hI with ⟨t, h1, hs, h2⟩ | ⟨t, fb, h1, hs, h2⟩
    · exact ⟨t, _, hs, .inl ⟨h1, rfl, h2⟩⟩
    · exact ⟨t, _, hs, .inr ⟨h1, rfl, fb, h2⟩⟩
  simp (disch := omega) only [go_sem, simprocAttr, he0]
  refine call_use (rInt hs) ?_
  rintro q8 h ⟨hq8, hs⟩
  subst hq8
  simp (disch := omega) only [go_sem, simprocAttr, he0]
  refine blk_join (Q := fun e h => ((∃ t, t.err = 0 ∧ sat h (Rd p t :: StP s A .nilp :: F) ∧ (e 5 = .ptr s 7 0 0 ∧ e 6 = .bool true ∧ e 7 = .int .i64 A.rev)) ∨ (∃ t fb, RdD m t ∧ sat h (Rd p t :: F) ∧ e 6 = .bool fb)) ∧ (e 0 = v ∧ e 4 = .ptr p 3 0 0)) ?_ ?_
  · refine run_up (N := A.chs.length) (fun i e h => ((∃ t, RdG m t ((A.chs.drop i).flatMap svVer) ∧ sat h (Rd p t :: StP s (A.upto (A.chs.take i)) .nilp :: F) ∧ (e 5 = .ptr s 7 0 0 ∧ e 6 = .bool true ∧ e 7 = .int .i64 A.rev ∧ e 10 = .int .i64 ((A.chs.length : Int) - i))) ∨ (∃ t fb z, RdD m t ∧ sat h (Rd p t :: F) ∧ e 6 = .bool fb ∧ e 10 = .int .i64 z)) ∧ (e 0 = v ∧ e 4 = .ptr p 3 0 0)) ⟨?_, by simp [Env.upd_apply, he0]⟩ ?_
    · rcases hI with ⟨hG, hGF, he⟩ | ⟨d, hGF, fb, he⟩
      · rw [hGF] at hs
        rcases hG.i8 (by omega) (by omega) with ⟨a4, hG⟩ | ⟨a4, d⟩
        · exact .inl ⟨_, by simpa using hG, hs, by simp [Env.upd_apply, he, a4]⟩
        · exact .inr ⟨_, true, 0, d, hs.d1, by simp [Env.upd_apply, he, a4]⟩
      · have hv := d.val 8
        have had := d.adv 8
        rw [had, hGF] at hs
        exact .inr ⟨_, fb, 0, d, hs, by simp [Env.upd_apply, he, hv]⟩
    clear hs hI he0
    rintro i e h hi ⟨hI, he0⟩
    rcases hI with ⟨t, hG, hs, he⟩ | ⟨t, fb, z, d, hs, he⟩
    · by_cases hi2 : i < A.chs.length
      · have c2 : ((A.chs.length : Int) - i > 0) = True := by simp; omega
        have m2 : (A.chs.length : Int) - i - 1 = (A.chs.length : Int) - (i + 1 : Nat) := by omega
        have et := hG.err
        have hsp : A.chs = A.chs.take i ++ A.chs[i] :: A.chs.drop (i + 1) := by
          rw [← List.drop_eq_getElem_cons hi2, List.take_append_drop]
        simp (disch := omega) only [go_sem, simprocAttr, he, he0, c2]
        refine call_use (rErr hs) ?_
        rintro r h ⟨hr, hs⟩
        subst hr
        simp (disch := omega) only [go_sem, simprocAttr, he, he0, et]
        refine call_use (rInt hs) ?_
        rintro q9 h ⟨hq9, hs⟩
        subst hq9
        simp (disch := omega) only [go_sem, simprocAttr, he, he0]
        refine call_use (rU8 hs) ?_
        rintro q9 h ⟨hq9, hs⟩
        subst hq9
        simp (disch := omega) only [go_sem, simprocAttr, he, he0]
        refine call_use (svLoaded hs) ?_
        rintro q9 h ⟨hq9, hs⟩
        subst hq9
        rw [List.drop_eq_getElem_cons hi2, List.flatMap_cons] at hG
        have hvm := List.getElem_mem hi2
        have htk : A.chs.take (i + 1) = A.chs.take i ++ [A.chs[i]] := List.take_succ_eq_append_getElem hi2
        generalize A.chs[i] = w at hG hsp hvm htk
        have okB := upto_ok ok hsp
        have H2 : (t.val 8 = w.rev ∧ ((t.adv 8).val 1 == 1) = w.c.kv.isNone ∧ ((t.adv 8).adv 1).kv = evKv w ∧ RdG m ((t.adv 8).adv 1).akv ((A.chs.drop (i + 1)).flatMap svVer)) ∨ RdD m ((t.adv 8).adv 1).akv := by
          unfold svVer at hG
          simp only [List.append_assoc] at hG
          have h1 := ok.chr w hvm
          rcases hG.i8 (by omega) (by omega) with ⟨a1, hG⟩ | ⟨_, d⟩
          rotate_left
          · right; rw [d.adv, d.kv.2]; exact d
          rcases hG.i1 (by split <;> omega) (by split <;> omega) with ⟨a2, hG⟩ | ⟨_, d⟩
          rotate_left
          · right; rw [d.kv.2]; exact d
          rcases hG.kv (kvW_ver ok hf hrr hvm) with ⟨a3, hG⟩ | ⟨d, _⟩
          · exact .inl ⟨a1, by rw [a2]; cases w.c.kv.isNone <;> rfl, a3, hG⟩
          · exact .inr d
        have hlr : lastR A.past (A.chs.take i) ≤ A.rev := by
          rcases lastR_or A.past (A.chs.take i) with ⟨_, e⟩ | ⟨u, hu, e⟩
          · rw [e]; exact hre
          · rw [e]; exact (ok.chr u (List.mem_of_mem_take hu)).2
        have hnn := now_num okB
        simp (disch := omega) only [go_sem, simprocAttr, he, he0]
        refine call_use (svReplay hs.p1 (by show A.old.length + (A.chs.take i).length ≤ _; rw [List.length_take]; omega) (by show lastR A.past (A.chs.take i) ≤ _; omega) (RS.val_in t 8) (RS.kv_in ((t.adv 8).adv 1)) (fun y hy => by obtain ⟨n2, n3, n4, n5, n6, n7, n8⟩ := hnn y hy; have : (A.upto (A.chs.take i)).rev = lastR A.past (A.chs.take i) := rfl; omega)) ?_
        rintro q10 h ⟨b2, hq10, hF, h3⟩
        subst hq10
        simp (disch := omega) only [go_sem, simprocAttr, he, he0, m2]
        refine ⟨hi2, ?_⟩
        rcases H2 with ⟨a1, a2, a3, hG⟩ | d
        · left
          obtain ⟨r1, r2, r3, r4⟩ := rep_next ok hf hsp
          rw [a1, a2, a3] at h3
          obtain ⟨hs, hb2⟩ := h3 r1 r2 (by rw [r3, ← htk]; exact upto_ok ok (List.take_append_drop (i + 1) A.chs).symm)
          rw [r3, ← htk] at hs
          have hbt := hb2.2 r4
          subst hbt
          exact ⟨_, hG, hs.p1, rfl⟩
        · exact .inr ⟨_, b2, _, d, hF, rfl, rfl⟩
      · have hi3 : i = A.chs.length := by omega
        subst hi3
        have c2 : ((A.chs.length : Int) - A.chs.length > 0) = False := by simp
        rw [List.take_length, upto_all ok hf] at hs
        simp (disch := omega) only [go_sem, simprocAttr, he, he0, c2]
        exact .inl ⟨t, hG.err, hs⟩
    · cases fb with
      | false =>
        simp (disch := omega) only [go_sem, simprocAttr, he, he0]
        exact .inr ⟨t, false, d, hs, rfl⟩
      | true =>
        by_cases z0 : z > 0
        · have c2 : (z > 0) = True := by simpa using z0
          have e8 := d.2
          simp (disch := omega) only [go_sem, simprocAttr, he, he0, c2]
          refine call_use (rErr hs) ?_
          rintro r h ⟨hr, hs⟩
          subst hr
          simp (disch := omega) only [go_sem, simprocAttr, he, he0, e8]
          exact .inr ⟨t, true, d, hs, rfl⟩
        · have c2 : (z > 0) = False := by simpa using z0
          simp (disch := omega) only [go_sem, simprocAttr, he, he0, c2]
          exact .inr ⟨t, true, d, hs, rfl⟩
  clear hs hI he0
  rintro e h ⟨hI, he0⟩
  rcases hI with ⟨t, et, hs, he⟩ | ⟨t, fb, d, hs, he⟩
  · simp (disch := omega) only [go_sem, simprocAttr, he, he0]
    refine call_use (rErr hs) ?_
    rintro r h ⟨hr, hs⟩
    subst hr
    simp (disch := omega) only [go_sem, simprocAttr, he, he0, et]
    obtain ⟨ix, vm, cv, L, X, hok, hs2⟩ := mvP.1 hs.p1
    have hp := hs2.at
    have nbr : (A.rev != A.rev) = false := by simp
    simp (disch := omega) only [go_sem, simprocAttr, he, he0, hp, nbr]
    refine call_use (svSave hs.p1 hz) ?_
    rintro q9 h ⟨hq9, hs⟩
    subst hq9
    simp (disch := omega) only [go_sem, simprocAttr, he, he0]
    refine call_use (bytesEq2 hs (a := svA A) (b := b) (Els.lst (eb_one _)) (hE _ hs.drop.drop)) ?_
    rintro q2 h ⟨hq2, hs⟩
    subst hq2
    by_cases e1 : svA A = b
    · have c3 : (svA A == b) = true := by simpa using e1
      simp (disch := omega) only [go_sem, simprocAttr, he, c3]
      exact .ok s e1.symm rfl hs.d1
    · have c3 : (svA A == b) = false := by simpa using e1
      simp (disch := omega) only [go_sem, simprocAttr, he, c3]
      exact .bad (fun h => e1 h.symm) rfl hs.drop.drop
  · cases fb with
    | false =>
      simp (disch := omega) only [go_sem, simprocAttr, he, he0]
      exact .bad (nD d.1) rfl hs.drop
    | true =>
      have e8 := d.2
      simp (disch := omega) only [go_sem, simprocAttr, he, he0]
      refine call_use (rErr hs) ?_
      rintro r h ⟨hr, hs⟩
      subst hr
      simp (disch := omega) only [go_sem, simprocAttr, he, he0, e8]
      exact .bad (nD d.1) rfl hs.drop
end
end Go.Proofs.YtkclojjeepomfaaGreat
/- A range of a write; events that are alike; a store and the document's are alike. -/
set_option linter.unusedSimpArgs false
set_option linter.unusedVariables false
set_option maxRecDepth 10000
namespace Go.Proofs.YtkclojjeepomfaaGreat
open Go.Hz

section
variable {h : Hp} {F : List Asr} {s w x : Nat} {A : Sto} {W : Go.Hz.Wr} {o : AV}
theorem wkeys_pick {lo hi : Key} {ks : List Key} (ok : StoOK A) (hw : WrOK A W) (hk : WKeys A W lo hi ks) : ks.filterMap (kvget W.cur) = W.cur.filter fun y => inK lo hi y.key := by
  obtain ⟨h1, _, h2⟩ := hk
  by_cases hh : hi = []
  · rw [if_pos hh] at h2
    subst h2
    refine pick_keys (hw.srt ok) h1 (fun k hk => ?_) fun y hy hin => ?_
    · rw [List.mem_singleton.1 hk]; unfold inK; rw [if_pos hh]; simp
    · unfold inK at hin; rw [if_pos hh] at hin; simpa using hin
  · rw [if_neg hh] at h2
    refine pick_keys (hw.srt ok) h1 (fun k hk => ?_) fun y hy hin => ?_
    · unfold inK; rw [if_neg hh]; exact ((h2 k).1 hk).2
    · unfold inK at hin; rw [if_neg hh] at hin
      refine (h2 _).2 ⟨?_, hin⟩
      cases hc : wChg W y.key with
      | true => exact .inr rfl
      | false =>
        left
        have hg := kvget_mem (hw.srt ok) hy
        rw [now_same ok hw hc, ← at_rev ok] at hg
        obtain ⟨h3, _⟩ := kvget_some hg
        exact at_vers ok ok.rev h3
theorem mvWRangeO {lo hi : Key} {lim : Int} (hs : sat h (WtP w s A W :: StP s A o :: F)) (hz : A.old.length + A.chs.length + W.l.length ≤ 40000000) : Triple Tryz.prog 14 [.ptr w 4 0 0, .str lo, .str hi, .int .i64 lim] h
    (fun r h => ∃ v, r = .tup [v, .int .i64 (rngL W.cur lo hi lim).2] ∧ sat h (Ow 6 v ((rngL W.cur lo hi lim).1.map kvC) :: WtP w s A W :: StP s A o :: F)) := by
  have ok := MvP.ok hs.p1
  have hw := WrP.ok hs
  refine t14 (Nat.le_of_ble_eq_true rfl) ?_
  simp (disch := omega) only [F14, go_sem, simprocAttr]
  refine call_use (mvWKeysR (lo := lo) (hi := hi) hs hz) ?_
  rintro v h ⟨ks, hk, hv, hs⟩
  subst hv
  have hsel := wkeys_pick ok hw hk
  have hkl := hk.2.1
  have lenk : lenL (strsV ks) = some (.int .i64 ks.length) := by simp [strsV, lenL]
  obtain ⟨pf, hpf⟩ : ∃ pf : Key → Option Kv, pf = kvget W.cur := ⟨_, rfl⟩
  rw [← hpf] at hsel
  have hpf2 : ∀ k, kvget W.cur k = pf k := fun k => by rw [hpf]
  simp (disch := omega) only [go_sem, simprocAttr, lenk]
  refine run_up (N := ks.length) (fun i e h => sat h (Ow 6 (e 10) ((cutL lim ((ks.take i).filterMap pf)).map kvC) :: WtP w s A W :: StP s A o :: F) ∧ (e 0 = .ptr w 4 0 0 ∧ e 3 = .int .i64 lim ∧ e 11 = .int .i64 (((ks.take i).filterMap pf).length : Nat) ∧ e 19 = strsV ks ∧ e 20 = .int .i64 ks.length ∧ e 21 = .int .i64 i)) ⟨?_, ?_⟩ ?_
  · have : (cutL lim (([] : List Key).filterMap pf)).map kvC = [] := by simp [cutL]
    rw [List.take_zero, this]
    exact hs.add ow_nil
  · simp [Env.upd_apply, initE]
  clear hs
  rintro i e h hi ⟨hs, he⟩
  have m1 : (i : Int) + 1 = ((i + 1 : Nat) : Int) := by omega
  simp (disch := omega) only [go_sem, simprocAttr, he, m1]
  refine cnd_dec (fun h1 => ?_) (fun h1 => ?_)
  · have hi : i < ks.length := by omega
    have hik : iaA 1 (strsV ks) (.int .i64 (i : Int)) = some (.ro [.str ks[i]]) := ia_lst (f := fun k => [AV.str k]) hi fun _ => rfl
    have hfl : ((ks.take i).filterMap pf).length ≤ 100000001 := by
      have := List.length_filterMap_le pf (ks.take i)
      rw [List.length_take] at this
      omega
    have hst : (ks.take (i + 1)).filterMap pf = (ks.take i).filterMap pf ++ (pf ks[i]).toList := by
      rw [List.take_succ_eq_append_getElem hi, List.filterMap_append]
      cases h : pf ks[i] <;> simp [h]
    simp (disch := omega) only [go_sem, simprocAttr, he, hik]
    refine call_use (mvNow (key := ks[i]) hs.p2.p2 (by omega)) ?_
    rintro r h ⟨hr, hs⟩
    subst hr
    simp (disch := omega) only [go_sem, simprocAttr, hpf2]
    refine new_opq hs fun a h hs => ?_
    have ha := hs.at
    cases hpk : pf ks[i] with
    | none =>
      rw [hpk, Option.toList_none, List.append_nil] at hst
      have hs := hs.set (o' := .row 6 [kvC kv0] 1)
      simp only [kvC, kv0] at hs
      simp (disch := omega) only [go_sem, simprocAttr, ha, hpk, Option.getD_none, Option.isSome_none, kvC, kv0, he, m1]
      rw [hst]
      exact ⟨by omega, hs.drop.p1.p1.p2, rfl⟩
    | some kv =>
      rw [hpk, Option.toList_some] at hst
      have hs2 := hs.set (o' := .row 6 [kvC kv] 1)
      have ha2 := hs2.at
      simp only [kvC] at hs2 ha2
      simp (disch := omega) only [go_sem, simprocAttr, ha, hpk, Option.getD_some, Option.isSome_some, kvC, he]
      generalize Hp.set h a _ = h3 at hs2 ha2 ⊢
      have hol := hs2.p3.els.len
      have hcl : (cutL lim ((ks.take i).filterMap pf)).length ≤ 100000001 := Nat.le_trans cutL_len hfl
      have hsn := cutL_snoc (lim := lim) (l := (ks.take i).filterMap pf) (x := kv)
      have hlen14 : ((((ks.take i).filterMap pf).length : Nat) : Int) + 1 = (((ks.take i).filterMap pf ++ [kv]).length : Int) := by simp
      rw [List.length_map] at hol
      by_cases l1 : lim < 1
      · rw [if_pos (.inl l1)] at hsn
        simp (disch := omega) only [go_sem, simprocAttr, l1, he, ha2]
        refine new_opq hs2 fun b h hs => ?_
        simp (disch := omega) only [go_sem, simprocAttr]
        refine app_sat hs.p4 (src_one hs.at) (atoms_one (by simp [AV.isAtom])) (by simp; omega) fun v' h hs ca aa => ?_
        simp (disch := omega) only [go_sem, simprocAttr, he, m1]
        rw [hst, hsn]
        refine ⟨by omega, ?_, ?_⟩
        · have := hs.p1.drop.p1.drop.p2.p2.p2
          simpa [kvC] using this
        · rw [hlen14]
      · by_cases l2 : ((cutL lim ((ks.take i).filterMap pf)).length : Int) < lim
        · rw [if_pos (.inr l2)] at hsn
          simp (disch := omega) only [go_sem, simprocAttr, l1, l2, hol, he, ha2]
          refine new_opq hs2 fun b h hs => ?_
          simp (disch := omega) only [go_sem, simprocAttr]
          refine app_sat hs.p4 (src_one hs.at) (atoms_one (by simp [AV.isAtom])) (by simp; omega) fun v' h hs ca aa => ?_
          simp (disch := omega) only [go_sem, simprocAttr, he, m1]
          rw [hst, hsn]
          refine ⟨by omega, ?_, ?_⟩
          · have := hs.p1.drop.p1.drop.p2.p2.p2
            simpa [kvC] using this
          · rw [hlen14]
        · rw [if_neg (by intro hh; rcases hh with hh | hh; exact l1 hh; exact l2 hh)] at hsn
          simp (disch := omega) only [go_sem, simprocAttr, l1, l2, hol, he, m1]
          rw [hst, hsn]
          exact ⟨by omega, hs2.drop.p1.p1.p2, by rw [hlen14]⟩
  · have hi : i = ks.length := by omega
    subst hi
    simp (disch := omega) only [go_sem, simprocAttr, he]
    rw [List.take_length, hsel] at hs
    refine ⟨_, ?_, hs⟩
    rw [List.take_length, hsel]
    rfl
theorem mvWRange {lo hi : Key} {lim : Int} (hs : sat h (WtP w s A W :: StP s A o :: F)) (hz : A.old.length + A.chs.length + W.l.length ≤ 40000000) : Triple Tryz.prog 14 [.ptr w 4 0 0, .str lo, .str hi, .int .i64 lim] h
    (fun r h => r = .tup [kvsV (rngL W.cur lo hi lim).1, .int .i64 (rngL W.cur lo hi lim).2] ∧ sat h (WtP w s A W :: StP s A o :: F)) :=
  Triple.lst1 6 ((mvWRangeO hs hz).mono fun r h ⟨v, hr, hs⟩ => ⟨v, _, _, _, hr, hs, fun h hs => ⟨rfl, hs⟩⟩)
theorem rgWRange {lo hi : Key} {lim : Int} (hs : sat h (RwP w x A W :: F)) (hl : W.cur.length ≤ 1000000) : Triple Tryz.prog 15 [.ptr w 4 0 0, .str lo, .str hi, .int .i64 lim] h
    (fun r h => r = .tup [kvsV (rngL W.cur lo hi lim).1, .int .i64 (rngL W.cur lo hi lim).2] ∧ sat h (RwP w x A W :: F)) := by
  obtain ⟨lv, ev, ks, hlv, hs1⟩ := rwP.1 hs
  have hwp := hs1.at
  refine t15 (Nat.le_of_ble_eq_true rfl) ?_
  simp (disch := omega) only [F15, hwp, go_sem, simprocAttr]
  refine call_use (rgPick (lo := lo) (hi := hi) (lim := lim) hlv hs hl) ?_
  rintro r h ⟨hr, hs⟩
  subst hr
  simp (disch := omega) only [go_sem, simprocAttr]
  exact hs
theorem mvCompd (hs : sat h (StP s A o :: F)) : Triple Tryz.prog 68 [.ptr s 7 0 0] h (fun r h => r = .int .i64 A.past ∧ sat h (StP s A o :: F)) := by
  obtain ⟨ix, vm, cv, L, X, hok, hs2⟩ := mvP.1 hs
  have hp := hs2.at
  refine t68 (Nat.le_of_ble_eq_true rfl) ?_
  simp (disch := omega) only [F68, hp, go_sem, simprocAttr]
  exact hs
theorem sameEvs (hs : sat h F) {l : List Ver} (hl : l.length ≤ 9223372036854775807) : Triple Tryz.prog 25 [evsV l, evsV l] h (fun r h => r = .bool true ∧ sat h F) := by
  have len2 : lenL (evsV l) = some (.int .i64 l.length) := by simp [lenL]
  refine t25 (Nat.le_of_ble_eq_true rfl) ?_
  simp (disch := omega) only [F25, len2, go_sem, simprocAttr]
  refine run_up (N := l.length) (fun i e h => sat h F ∧ (e 0 = evsV l ∧ e 1 = evsV l ∧ e 5 = .int .i64 i)) ⟨hs, rfl, rfl, rfl⟩ ?_
  clear hs
  rintro i e h hi ⟨hs, he⟩
  have m1 : (i : Int) + 1 = ((i + 1 : Nat) : Int) := by omega
  simp (disch := omega) only [go_sem, simprocAttr, he, m1, len2]
  refine cnd_dec (fun h1 => ?_) (fun h1 => ?_)
  · have hi : i < l.length := by omega
    have ez := ia_lst (f := evC) (l := l) (i := i) (s := 8) (k := .i64) hi (fun _ => rfl)
    have ek := ev_self l[i]
    simp only [evKv_eq, kvC] at ek ez
    simp (disch := omega) only [go_sem, simprocAttr, he, ez, ek, m1]
    exact ⟨by omega, hs⟩
  · simp (disch := omega) only [go_sem, simprocAttr, he]
    exact hs
theorem sameEvsO {v : AV} {l : List Ver} (hs : sat h (Ow 8 v (l.map evC) :: F)) (hl : l.length ≤ 9223372036854775807) : Triple Tryz.prog 25 [evsV l, v] h (fun r h => r = .bool true ∧ sat h (Ow 8 v (l.map evC) :: F)) := by
  have len2 : lenL (evsV l) = some (.int .i64 l.length) := by simp [lenL]
  have lenE := hs.els.len
  rw [List.length_map] at lenE
  refine t25 (Nat.le_of_ble_eq_true rfl) ?_
  simp (disch := omega) only [F25, len2, lenE, go_sem, simprocAttr]
  refine run_up (N := l.length) (fun i e h => sat h (Ow 8 v (l.map evC) :: F) ∧ (e 0 = evsV l ∧ e 1 = v ∧ e 5 = .int .i64 i)) ⟨hs, rfl, rfl, rfl⟩ ?_
  clear hs
  rintro i e h hi ⟨hs, he⟩
  have m1 : (i : Int) + 1 = ((i + 1 : Nat) : Int) := by omega
  simp (disch := omega) only [go_sem, simprocAttr, he, m1, len2]
  refine cnd_dec (fun h1 => ?_) (fun h1 => ?_)
  · have hi : i < l.length := by omega
    have ez := ia_lst (f := evC) (l := l) (i := i) (s := 8) (k := .i64) hi (fun _ => rfl)
    obtain ⟨b, cap, hv, hb, hrow⟩ := ev_row hs hi
    subst hv
    have ek := ev_self l[i]
    simp only [evKv_eq, kvC] at ek ez
    simp (disch := omega) only [go_sem, simprocAttr, he, ez, hb, hrow, ek, m1, Int.toNat_natCast]
    exact ⟨by omega, hs⟩
  · simp (disch := omega) only [go_sem, simprocAttr, he]
    exact hs
theorem alike (hs : sat h (StP s A o :: RxP x A :: F)) (hz : A.old.length + A.chs.length ≤ 1000000) (hr : A.rev ≤ 1000000000000000) : Triple Tryz.prog 28 [.ptr s 7 0 0, .ptr x 5 0 0] h (fun r h => r = .bool true ∧ sat h (StP s A o :: RxP x A :: F)) := by
  have ok := MvP.ok hs
  have hpa := ok.past
  have hre := ok.rev
  have en := range_now ok
  have es : stSince A (A.past + 1) = (A.chs, 0) := by
    rw [stSince, if_neg (by omega), if_neg (by omega)]
    congr 1
    rw [List.filter_eq_self]
    intro v hv
    have := (ok.chr v hv).1
    simp; omega
  have nb : ∀ z : Int, (z == z) = true := fun z => by simp
  refine t28 (Nat.le_of_ble_eq_true rfl) ?_
  simp (disch := omega) only [F28, go_sem, simprocAttr]
  refine call_use (top8 hs) ?_
  rintro r h ⟨hr, hs⟩
  subst hr
  simp (disch := omega) only [go_sem, simprocAttr]
  refine call_use (mvRange hs (by omega)) ?_
  rintro r h ⟨hr, hs⟩
  subst hr
  simp (disch := omega) only [go_sem, simprocAttr, en]
  obtain ⟨ov, ev, nw, ho, hs⟩ := rxP.1 hs.p1
  have hx := hs.at
  simp (disch := omega) only [go_sem, simprocAttr, hx]
  refine call_use (mvSince (rev := A.past + 1) hs.p2 (by omega)) ?_
  rintro r h ⟨hr, hs⟩
  subst hr
  simp (disch := omega) only [go_sem, simprocAttr, es]
  have hx := hs.p1.at
  simp (disch := omega) only [go_sem, simprocAttr, hx]
  refine call_use' (mvRev hs) ?_
  rintro r h ⟨hr', hs⟩
  subst hr'
  have hx := hs.p1.at
  simp (disch := omega) only [go_sem, simprocAttr, hx, nb]
  refine call_use' (mvCompd hs) ?_
  rintro r h ⟨hr', hs⟩
  subst hr'
  have hx := hs.p1.at
  have lnw := ho.2.lenM
  simp (disch := omega) only [go_sem, simprocAttr, hx, nb, lnw]
  have hnl : A.now.length ≤ 1000000 := by
    have h1 := doneL_le (l := A.old) (cs := A.chs.map Ver.c)
    rw [List.length_map] at h1
    exact Nat.le_trans h1 hz
  refine call_use (sameKVs2 (l := A.now) hs (by omega) slV_lst ho.2) ?_
  rintro r h ⟨hr', hs⟩
  subst hr'
  have hx := hs.p1.at
  simp (disch := omega) only [go_sem, simprocAttr, hx]
  refine call_use (sameEvsO hs.p2 (by omega)) ?_
  rintro r h ⟨hr', hs⟩
  subst hr'
  simp (disch := omega) only [go_sem, simprocAttr]
  exact (rxP.2 ⟨ov, ev, nw, ho, hs.p1.p1.p2⟩).p1
end
end Go.Proofs.YtkclojjeepomfaaGreat
/- The law MvccPlays, walked. -/
set_option linter.unusedSimpArgs false
set_option linter.unusedVariables false
set_option maxRecDepth 10000
namespace Go.Proofs.YtkclojjeepomfaaGreat
open Go.Hz

section
theorem rx_new {h : Hp} {F : List Asr} {x : Nat} (hs : sat h (pto x (.row 5 [[.int .i64 0, .int .i64 0, .nils, .nils, .nils]] 1) :: F)) : sat h (RxP x ⟨0, 0, [], []⟩ :: F) :=
  rxP.2 ⟨.nils, .nils, .nils, ⟨slV_nil, slV_nil⟩, ((hs.add (ow_nil (s := 8))).p1)⟩
theorem old_le {A : Sto} (hf : StoFine A) : A.old.length ≤ 4096 := hf.num [] A.chs rfl
/-- A store behind Compact. -/
theorem comp_if {A : Sto} {r : Int} (ok : StoOK A) (hf : StoFine A) : StoFine (if stCompE A r = 0 then stComp A r else A) ∧ (if stCompE A r = 0 then stComp A r else A).now = A.now ∧ (if stCompE A r = 0 then stComp A r else A).chs.length ≤ A.chs.length ∧ (if stCompE A r = 0 then stComp A r else A).rev = A.rev := by
  split
  · rename_i h
    have hp : A.past ≤ r := by
      unfold stCompE at h
      split at h
      · cases h
      split at h
      · cases h
      split at h
      · cases h
      · omega
    exact ⟨fine_comp ok hf hp, comp_now ok, List.length_filter_le _ _, rfl⟩
  · exact ⟨hf, rfl, Nat.le_refl _, rfl⟩
theorem rng_len {A : Sto} {lo hi : Key} {rev lim : Int} : (stRange A lo hi rev lim).1.length ≤ A.old.length + A.chs.length := by
  unfold stRange
  split
  · exact Nat.zero_le _
  split
  · exact Nat.zero_le _
  split
  · exact Nat.zero_le _
  · exact Nat.le_trans cutL_len (Nat.le_trans (List.length_filter_le _ _) at_le)
theorem snc_len {A : Sto} {rev : Int} : (stSince A rev).1.length ≤ A.chs.length := by
  unfold stSince
  split
  · exact Nat.zero_le _
  split
  · exact Nat.zero_le _
  · exact List.length_filter_le _ _
theorem plays8 {cs : List Cl8} (hl : cs.length ≤ 1048576) (hc : ∀ c ∈ cs, c.ok) : Triple Tryz.prog 3 [clsV8 cs] Hp.emp (fun r _ => r = .bool true) := by
  have hs : sat Hp.emp [] := trivial
  have lenC := len_clsV8 cs
  have nbr : ∀ z : Int, (z != z) = false := fun z => by simp
  refine t3 (Nat.le_of_ble_eq_true rfl) ?_
  simp (disch := omega) only [F3, go_sem, simprocAttr]
  refine call_use (known8 hs) ?_
  rintro r h ⟨hr, hs⟩
  subst hr
  simp (disch := omega) only [go_sem, simprocAttr]
  refine call_use (mvNew hs) ?_
  rintro r h ⟨s, hr, hs⟩
  subst hr
  simp (disch := omega) only [go_sem, simprocAttr]
  refine new_opq hs fun x h hs => ?_
  have hs := (rx_new hs).p1
  simp (disch := omega) only [go_sem, simprocAttr]
  refine run_up (N := min cs.length 60) (fun i e h => ∃ A s o, sat h [StP s A o, RxP x A] ∧ StoFine A ∧ A.now.length ≤ 30 * i ∧ A.chs.length ≤ 1830 * i ∧ A.rev ≤ i ∧ (e 0 = clsV8 cs ∧ e 3 = .ptr s 7 0 0 ∧ e 4 = .ptr x 5 0 0 ∧ e 5 = .int .i64 i))
    ⟨_, s, _, hs, fine_new, by simp [Sto.now, doneL], by simp, by simp, by simp [Env.upd_apply, initE]⟩ ?_
  clear hs
  rintro i e h hiN ⟨A, s, o, hs, a1, a3, a4, a5, he⟩
  have m1 : (i : Int) + 1 = ((i + 1 : Nat) : Int) := by omega
  by_cases hi : i < min cs.length 60
  rotate_left
  · by_cases h1 : i < cs.length
    · have c1 : ((i : Int) < cs.length) = True := by simp; omega
      have c2 : ((i : Int) < 60) = False := by simp; omega
      simp (disch := omega) only [go_sem, simprocAttr, he, lenC, c1, c2]
    · have c1 : ((i : Int) < cs.length) = False := by simp; omega
      simp (disch := omega) only [go_sem, simprocAttr, he, lenC, c1]
  have c1 : ((i : Int) < cs.length) = True := by simp; omega
  have c2 : ((i : Int) < 60) = True := by simp; omega
  have hi1 : i < cs.length := by omega
  have hik := at_clsV8 hi1
  have hok := hc _ (List.getElem_mem hi1)
  generalize cs[i] = c at hik hok
  have ad := atom_doesV c.does
  have cd := cells_doesV c.does
  have ok := MvP.ok hs
  have hold := old_le a1
  have hpa := ok.past
  have hre := ok.rev
  simp (disch := omega) only [go_sem, simprocAttr, he, lenC, c1, c2, hik]
  refine new_opq hs fun p h hs => ?_
  have hp := hs.at
  have hs2 := hs.set (o' := .row 6 [[.int .i64 c.kind, .int .i64 c.rev, .int .i64 c.limit, .str c.lo, .str c.hi, doesV c.does]] 1)
  have hp2 := hs2.at
  simp (disch := omega) only [go_sem, simprocAttr, hp, hp2, ad, cd]
  generalize Hp.set h p _ = h2 at hs2 hp2 ⊢
  refine call_use (few8 (c := c) hs2 hok) ?_
  rintro r h ⟨b, hr, hb, hs⟩
  subst hr
  cases b with
  | false =>
    simp (disch := omega) only [go_sem, simprocAttr, he, m1]
    exact ⟨by omega, A, s, o, hs.drop, a1, by omega, by omega, by omega, rfl⟩
  | true =>
    have hd30 := hb rfl
    have hp2 := hs.at
    simp (disch := omega) only [go_sem, simprocAttr, he, hp2]
    refine call_use (within8 hs hok.1.1 hok.1.2 (n := 6) (by omega) (by omega)) ?_
    rintro r h ⟨k, hr, hkm, hk, hs⟩
    subst hr
    have hp2 := hs.at
    obtain hk | hk | hk | hk | hk : (k = 0 ∨ k = 5) ∨ k = 1 ∨ k = 2 ∨ k = 3 ∨ k = 4 := by omega
    · have hk6 : k = 0 ∨ k = 5 := hk
      simp (disch := omega) only [go_sem, simprocAttr, he]
      refine cnd_join (Q := fun e h' => h' = h ∧ (e 0 = clsV8 cs ∧ e 3 = .ptr s 7 0 0 ∧ e 4 = .ptr x 5 0 0 ∧ e 5 = .int .i64 i ∧ e 6 = .ptr p 6 0 0 ∧ e 52 = .bool true)) ?_ ?_
      · rcases hk6 with hk6 | hk6
        · subst hk6
          simp (disch := omega) only [go_sem, simprocAttr, he]
        · subst hk6
          simp (disch := omega) only [go_sem, simprocAttr, he]
      rintro e h' ⟨rfl, he⟩
      simp (disch := omega) only [go_sem, simprocAttr, he]
      refine call_use (mvWrite hs.p1) ?_
      rintro r h ⟨w, hr, hs⟩
      subst hr
      simp (disch := omega) only [go_sem, simprocAttr, he]
      refine call_use (rgWr hs.p2.p2.p2.p3) ?_
      rintro r h ⟨u, hr, hs⟩
      subst hr
      have hs := hs.p4.p2.p2.p4.p4
      simp (disch := omega) only [go_sem, simprocAttr, he]
      refine blk_join (Q := fun e h => ∃ W, sat h [WtP w s A W, StP s A (.ptr w 4 0 0), RwP u x A W, RxP x A, pto p (.row 6 [[.int .i64 c.kind, .int .i64 c.rev, .int .i64 c.limit, .str c.lo, .str c.hi, doesV c.does]] 1)] ∧ WrFine A W ∧ WB A W 30 ∧ (e 0 = clsV8 cs ∧ e 3 = .ptr s 7 0 0 ∧ e 4 = .ptr x 5 0 0 ∧ e 5 = .int .i64 i ∧ e 6 = .ptr p 6 0 0 ∧ e 7 = .ptr w 4 0 0 ∧ e 8 = .ptr u 4 0 0)) ?_ ?_
      · have lenD := len_doesV c.does
        refine run_up (N := c.does.length) (fun k e h => ∃ W, sat h [WtP w s A W, StP s A (.ptr w 4 0 0), RwP u x A W, RxP x A, pto p (.row 6 [[.int .i64 c.kind, .int .i64 c.rev, .int .i64 c.limit, .str c.lo, .str c.hi, doesV c.does]] 1)] ∧ WrFine A W ∧ WB A W k ∧ (e 0 = clsV8 cs ∧ e 3 = .ptr s 7 0 0 ∧ e 4 = .ptr x 5 0 0 ∧ e 5 = .int .i64 i ∧ e 6 = .ptr p 6 0 0 ∧ e 7 = .ptr w 4 0 0 ∧ e 8 = .ptr u 4 0 0 ∧ e 9 = .int .i64 k)) ⟨_, hs, fine_wr a1, wb_nil, by simp [Env.upd_apply, he]⟩ ?_
        clear hs he hs2 hp2 hp
        rintro k e h hk ⟨W, hs, hwf, hwb, he⟩
        have hw := WrP.ok hs
        have m2 : (k : Int) + 1 = ((k + 1 : Nat) : Int) := by omega
        have wl := hwb.len hw
        have wc := hwb.cur ok hw
        have hp := hs.p4.at
        simp (disch := omega) only [go_sem, simprocAttr, he, hp, lenD, m2]
        refine cnd_dec (fun g1 => ?_) (fun g1 => ?_)
        rotate_left
        · simp (disch := omega) only [go_sem, simprocAttr, he]
          exact ⟨W, hs, hwf, hwb.mono (by omega)⟩
        have hk' : k < c.does.length := by omega
        have hia := at_doesV hk'
        obtain ⟨dk1, dk2, _⟩ := hok.2.2.2.2.2.2 _ (List.getElem_mem hk')
        generalize c.does[k] = d at hia dk1 dk2
        simp (disch := omega) only [go_sem, simprocAttr, he, hp, hia]
        refine new_opq hs fun q h hs => ?_
        have hq := hs.at
        have hs3 := hs.set (o' := .row 5 [[.int .i64 d.kind, .int .i64 d.lease, .str d.key, .str d.hi, .str d.val]] 1)
        have hq3 := hs3.at
        simp (disch := omega) only [go_sem, simprocAttr, hq, hq3]
        generalize Hp.set h q _ = h3 at hs3 hq3 ⊢
        refine call_use (within8 hs3 dk1.1 dk1.2 (n := 3) (by omega) (by omega)) ?_
        rintro r h ⟨k3, hr, _, hk3, hs⟩
        subst hr
        have hq3 := hs.at
        obtain hk3 | hk3 | hk3 : k3 = 0 ∨ k3 = 1 ∨ k3 = 2 := by omega
        · subst hk3
          simp (disch := omega) only [go_sem, simprocAttr, he, hq3]
          refine call_use' (mvPut (key := d.key) (val := d.val) (lease := d.lease) hs.p5.p5.p5.p3.p5.p5 (by omega) (by omega) (by omega) (by omega)) ?_
          rintro r h ⟨hr, hs⟩
          subst hr
          have hq4 := hs.p2.at
          simp (disch := omega) only [go_sem, simprocAttr, he, hq4]
          refine call_use (rgPut (key := d.key) (val := d.val) (lease := d.lease) hs.p2.drop.p4.p2.p2.p4.p4 ok hw (by omega) (by omega)) ?_
          rintro r h ⟨hr, hs⟩
          subst hr
          simp (disch := omega) only [go_sem, simprocAttr, he, nbr, m2]
          exact ⟨hk', _, hs.p4.p2.p2.p4.p4, hwf.put ok hw dk2.2, hwb.put⟩
        · subst hk3
          simp (disch := omega) only [go_sem, simprocAttr, he, hq3]
          refine call_use' (mvDel (lo := d.key) (hi := d.hi) hs.p5.p5.p5.p3.p5.p5 (by omega)) ?_
          rintro r h ⟨ks, hks, hr, hs⟩
          subst hr
          have hq4 := hs.p2.at
          have hdl := WB.dels ok (ks := ks) hw hwb
          have hdf := WrFine.dels ok (ks := ks) hw hwf
          rw [wkeys_same ok hw hks] at hs hdl hdf ⊢
          simp (disch := omega) only [go_sem, simprocAttr, he, hq4]
          refine call_use (rgDel (lo := d.key) (hi := d.hi) hs.p2.drop.p4.p2.p2.p4.p4 ok hw (by omega) (by omega)) ?_
          rintro r h ⟨hr, hs⟩
          subst hr
          simp (disch := omega) only [go_sem, simprocAttr, he, nbr, m2]
          exact ⟨hk', _, hs.p4.p2.p2.p4.p4, hdf, hdl.mono (by omega)⟩
        · subst hk3
          simp (disch := omega) only [go_sem, simprocAttr, he, hq3]
          refine call_use (mvWRange (lo := d.key) (hi := d.hi) (lim := d.lease) hs.p5.p5.p5.p3.p5.p5 (by omega)) ?_
          rintro r h ⟨hr, hs⟩
          subst hr
          have hq4 := hs.p2.at
          simp (disch := omega) only [go_sem, simprocAttr, he, hq4]
          refine call_use (rgWRange (lo := d.key) (hi := d.hi) (lim := d.lease) hs.p2.drop.p4.p2.p2.p4.p4 (by omega)) ?_
          rintro r h ⟨hr, hs⟩
          subst hr
          simp (disch := omega) only [go_sem, simprocAttr, he, nbr]
          refine call_use (sameKVs1 hs (Nat.le_trans (Nat.le_trans cutL_len (List.length_filter_le _ _)) (by omega))) ?_
          rintro r h ⟨hr, hs⟩
          subst hr
          simp (disch := omega) only [go_sem, simprocAttr, he, m2]
          exact ⟨hk', W, hs.p4.p2.p2.p4.p4, hwf, hwb.mono (by omega)⟩
      clear hs he hs2 hp2 hp
      rintro e h ⟨W, hs, hwf, hwb, he⟩
      have hw := WrP.ok hs
      have wl := hwb.len hw
      have wc := hwb.cur ok hw
      have hp := hs.p4.at
      simp (disch := omega) only [go_sem, simprocAttr, he, hp]
      refine call_use (within8 hs hok.1.1 hok.1.2 (n := 6) (by omega) (by omega)) ?_
      rintro r h ⟨k2, hr, hkm2, _, hs⟩
      subst hr
      have hk2 : k2 = k := by omega
      subst hk2
      rcases hk6 with hk6 | hk6
      · subst hk6
        simp (disch := omega) only [go_sem, simprocAttr, he]
        refine call_use (mvDone hs (by omega) (by omega)) ?_
        rintro r h ⟨hr, hs⟩
        subst hr
        simp (disch := omega) only [go_sem, simprocAttr, he]
        refine call_use (rgDn hs.p3.p1.p3.p3 hw (by omega) (by omega) (by omega)) ?_
        rintro r h ⟨hr, hs⟩
        subst hr
        obtain ⟨d1, d2, d3, d5, d4⟩ := stDone_len (A := A) (W := W)
        have ok2 := stDone_ok ok hw
        have hnow := stDone_now hw
        rw [← hnow] at wc
        have f1 := fine_done a1 hwf
        have f5 := old_le f1
        generalize stDone A W = B at *
        simp (disch := omega) only [go_sem, simprocAttr, he, nbr]
        refine call_use (alike (A := B) hs.p2.p1.p2 (by omega) (by omega)) ?_
        rintro r h ⟨hr, hs⟩
        subst hr
        simp (disch := omega) only [go_sem, simprocAttr, he, m1]
        exact ⟨by omega, B, s, .nilp, hs.p2.drop.p1.p1, f1, by omega, by omega, by omega, rfl⟩
      · subst hk6
        have hs := hs.drop.p1.drop.p2.p2.p2
        simp (disch := omega) only [go_sem, simprocAttr, he, nbr]
        refine call_use (alike (A := A) hs (by omega) (by omega)) ?_
        rintro r h ⟨hr, hs⟩
        subst hr
        simp (disch := omega) only [go_sem, simprocAttr, he, m1]
        exact ⟨by omega, A, s, .ptr w 4 0 0, hs.p2.drop.p1.p1, a1, by omega, by omega, by omega, rfl⟩
    · subst hk
      simp (disch := omega) only [go_sem, simprocAttr, he, hp2]
      refine call_use' (mvCompact (rev := c.rev) hs.p1 (by omega)) ?_
      rintro r h ⟨hr, hs⟩
      subst hr
      have hp2 := hs.p1.at
      simp (disch := omega) only [go_sem, simprocAttr, he, hp2]
      refine call_use (rgCompact (rev := c.rev) hs.p1.p1.p2 ok (by omega)) ?_
      rintro r h ⟨hr, hs⟩
      subst hr
      obtain ⟨f1, f2, f3, f4⟩ := comp_if (r := c.rev) ok a1
      have f5 := old_le f1
      generalize (if stCompE A c.rev = 0 then stComp A c.rev else A) = B at *
      rw [← f2] at a3
      simp (disch := omega) only [go_sem, simprocAttr, he, nbr]
      refine call_use (alike (A := B) hs.p2.p1.p2 (by omega) (by omega)) ?_
      rintro r h ⟨hr, hs⟩
      subst hr
      simp (disch := omega) only [go_sem, simprocAttr, he, m1]
      exact ⟨by omega, B, s, o, hs.p2.drop.p1.p1, f1, by omega, by omega, by omega, rfl⟩
    · subst hk
      simp (disch := omega) only [go_sem, simprocAttr, he, hp2]
      refine call_use (mvRange (lo := c.lo) (hi := c.hi) (rev := c.rev) (lim := c.limit) hs.p1 (by omega)) ?_
      rintro r h ⟨hr, hs⟩
      subst hr
      have hp2 := hs.p1.at
      simp (disch := omega) only [go_sem, simprocAttr, he, hp2]
      refine call_use (rgRange (lo := c.lo) (hi := c.hi) (rev := c.rev) (lim := c.limit) hs.p1.p1.p2 ok (by omega)) ?_
      rintro r h ⟨v, hv, hr, hs⟩
      subst hr
      simp (disch := omega) only [go_sem, simprocAttr, he, nbr]
      refine call_use (sameKVs2 hs (Nat.le_trans rng_len (by omega)) slV_lst hv) ?_
      rintro r h ⟨hr, hs⟩
      subst hr
      simp (disch := omega) only [go_sem, simprocAttr, he, nbr]
      refine call_use (alike (A := A) hs.p2.p1.p2 (by omega) (by omega)) ?_
      rintro r h ⟨hr, hs⟩
      subst hr
      simp (disch := omega) only [go_sem, simprocAttr, he, m1]
      exact ⟨by omega, A, s, o, hs.p2.drop.p1.p1, a1, by omega, by omega, by omega, rfl⟩
    · subst hk
      simp (disch := omega) only [go_sem, simprocAttr, he, hp2]
      refine call_use (mvSince (rev := c.rev) hs.p1 (by omega)) ?_
      rintro r h ⟨hr, hs⟩
      subst hr
      have hp2 := hs.p1.at
      simp (disch := omega) only [go_sem, simprocAttr, he, hp2]
      refine call_use (rgSince (rev := c.rev) hs.p1.p1.p2 (by omega)) ?_
      rintro r h ⟨hr, hs⟩
      subst hr
      simp (disch := omega) only [go_sem, simprocAttr, he, nbr]
      refine call_use (sameEvs hs (Nat.le_trans snc_len (by omega))) ?_
      rintro r h ⟨hr, hs⟩
      subst hr
      simp (disch := omega) only [go_sem, simprocAttr, he, nbr]
      refine call_use (alike (A := A) hs.p2.p1.p2 (by omega) (by omega)) ?_
      rintro r h ⟨hr, hs⟩
      subst hr
      simp (disch := omega) only [go_sem, simprocAttr, he, m1]
      exact ⟨by omega, A, s, o, hs.p2.drop.p1.p1, a1, by omega, by omega, by omega, rfl⟩
    · subst hk
      simp (disch := omega) only [go_sem, simprocAttr, he]
      refine call_use (svSave hs.p1 (by omega)) ?_
      rintro r h ⟨hr, hs⟩
      subst hr
      have hal := svA_len ok
      simp (disch := omega) only [go_sem, simprocAttr, he]
      refine call_use (svLoad (b := svA A) ok a1 (by omega) (by omega) hs (fun h hs => Els.lst (eb_one _)) capOK_lst (by omega) (fun _ => ⟨some [], rdG_self⟩)) ?_
      rintro r h hp
      rcases hp with ⟨t, _, hr, hs⟩ | ⟨hb, _, _⟩
      rotate_left
      · exact absurd rfl hb
      subst hr
      simp (disch := omega) only [go_sem, simprocAttr, he, nbr]
      refine call_use (alike (A := A) hs.p1.drop.p1.p2.p2 (by omega) (by omega)) ?_
      rintro r h ⟨hr, hs⟩
      subst hr
      simp (disch := omega) only [go_sem, simprocAttr, he, m1]
      exact ⟨by omega, A, t, .nilp, hs.p2.drop.p1.p1, a1, by omega, by omega, by omega, rfl⟩
theorem mvccPlays_law (vs : List AV) (h : Ty.ones [.sl (.st tyCl8)] vs) (hN : Ty.bulks [.sl (.st tyCl8)] vs ≤ 1048576) : Triple Tryz.prog 3 vs Hp.emp (fun r _ => r = .bool true) := by
  obtain ⟨a, _, rfl, ha, h⟩ := ones_cons h
  obtain rfl := ones_nil h
  obtain ⟨n1, _⟩ := bulk1_le hN
  obtain ⟨cs, rfl, hl, hc⟩ := cls8_of ha n1
  exact plays8 hl hc
end
end Go.Proofs.YtkclojjeepomfaaGreat
