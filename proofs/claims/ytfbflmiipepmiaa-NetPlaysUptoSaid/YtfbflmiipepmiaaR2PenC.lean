/- Sums, frames, and what the laws of chapter 1 share. -/
import Derived.Test.YtfbflmiipepmiaaR2PenB
import Derived.Test.YtfbflmiipepmiaaHzCrc
set_option linter.unusedSimpArgs false
set_option linter.unusedVariables false
set_option maxRecDepth 10000
namespace Go.Proofs.Ytfbflmiipepmiaa
open Go.Hz

section
variable {h : Hp} {F : List Asr} {v : AV} {b : List UInt8}

theorem psum (hs : sat h F) (hE : ∀ h, sat h F → Bts h v b) (hb : b.length ≤ 1000000000000) :
    Triple Try.prog 86 [v] h (fun r h => r = .int .u32 (sumX b).toNat ∧ sat h F) := by
  refine t86 (Nat.le_of_ble_eq_true rfl) ?_
  simp (disch := omega) only [F86, go_sem, reduceCtorEq, ↓reduceIte, Nat.reduceEqDiff, Nat.reduceAdd, Nat.reduceSub, Nat.reduceMul, Nat.reduceLT, Nat.reduceLeDiff, Int.reduceEq, Int.reduceNe, Int.reduceLT, Int.reduceLE, Int.reduceBEq, Int.reduceBNe, Int.reduceToNat]
  refine new_sat hs fun n hn hs => ?_
  simp (disch := omega) only [go_sem, reduceCtorEq, ↓reduceIte, Nat.reduceEqDiff, Nat.reduceAdd, Nat.reduceSub, Nat.reduceMul, Nat.reduceLT, Nat.reduceLeDiff, Int.reduceEq, Int.reduceNe, Int.reduceLT, Int.reduceLE, Int.reduceBEq, Int.reduceBNe, Int.reduceToNat]
  have hs := hs.set (o' := .row 16 [cellsP] 1)
  rw [Hp.set_set] at hs
  have hl := Bts.len (hE _ hs.drop)
  generalize hH : (h.set n _ : Hp) = H
  have hs : sat H (pto n (.row 16 [cellsP] 1) :: F) := by rw [← hH]; exact hs
  clear hH
  simp (disch := omega) only [go_sem, reduceCtorEq, ↓reduceIte, Nat.reduceEqDiff, Nat.reduceAdd, Nat.reduceSub, Nat.reduceMul, Nat.reduceLT, Nat.reduceLeDiff, Int.reduceEq, Int.reduceNe, Int.reduceLT, Int.reduceLE, Int.reduceBEq, Int.reduceBNe, Int.reduceToNat, hl]
  refine run_loop (fun e h2 => ∃ i : Nat, i ≤ b.length ∧ sat h2 (pto n (.row 16 [cellsP] 1) :: F) ∧ (e 3 = .ptr n 16 0 0 ∧ e 8 = v ∧ e 9 = .int .i64 b.length ∧ e 10 = .int .i64 i ∧ e 4 = .int .u32 ((b.take i).foldl stepP 4294967295).toNat))
    (fun e _ => match e 10 with | .int _ j => (b.length - j).toNat | _ => 0) ?_ ?_
  · exact ⟨0, by omega, hs, rfl, rfl, rfl, rfl, rfl⟩
  · rintro e h2 ⟨i, hi, hs, he⟩
    have hn' := hs.at
    simp (disch := omega) only [go_sem, reduceCtorEq, ↓reduceIte, Nat.reduceEqDiff, Nat.reduceAdd, Nat.reduceSub, Nat.reduceMul, Nat.reduceLT, Nat.reduceLeDiff, Int.reduceEq, Int.reduceNe, Int.reduceLT, Int.reduceLE, Int.reduceBEq, Int.reduceBNe, Int.reduceToNat, he]
    refine cnd_dec (fun hc => ?_) (fun hc => ?_)
    · obtain ⟨q, hq1, hq2⟩ := Bts.at (hE _ hs.drop) (k := .i64) (i := i) (by omega)
      generalize hC : (b.take i).foldl stepP 4294967295 = C at *
      have k1 := and15 (C ^^^ b[i].toUInt32)
      have k2 := and15 (nibP (C ^^^ b[i].toUInt32))
      have f1 := cellsP_at _ k1
      have f2 := cellsP_at _ k2
      unfold nibP at f2 k2
      simp (disch := omega) only [go_sem, reduceCtorEq, ↓reduceIte, Nat.reduceEqDiff, Nat.reduceAdd, Nat.reduceSub, Nat.reduceMul, Nat.reduceLT, Nat.reduceLeDiff, Int.reduceEq, Int.reduceNe, Int.reduceLT, Int.reduceLE, Int.reduceBEq, Int.reduceBNe, Int.reduceToNat, he, hq1, hq2, u32_of_u8, u32_xor, u32_and15, u32_shr4, hn', Int.toNat_natCast, Nat.mul_one, f1, f2]
      refine ⟨by omega, by omega, ⟨i + 1, by omega, hs, by simp, ?_⟩, by omega⟩
      rw [List.take_succ_eq_append_getElem (by omega), List.foldl_append, hC]
      rfl
    · simp (disch := omega) only [go_sem, reduceCtorEq, ↓reduceIte, Nat.reduceEqDiff, Nat.reduceAdd, Nat.reduceSub, Nat.reduceMul, Nat.reduceLT, Nat.reduceLeDiff, Int.reduceEq, Int.reduceNe, Int.reduceLT, Int.reduceLE, Int.reduceBEq, Int.reduceBNe, Int.reduceToNat, he, u32_not]
      have : i = b.length := by omega
      subst this
      rw [List.take_length, ← sum_eq]
      exact ⟨rfl, hs.drop⟩

theorem xsum (hs : sat h F) (hE : ∀ h, sat h F → Bts h v b) (hb : b.length ≤ 1000000000000) :
    Triple Try.prog 84 [v] h (fun r h => r = .int .u32 (sumX b).toNat ∧ sat h F) := by
  have hv := hE _ hs
  have hl := Bts.len hv
  refine t84 (Nat.le_of_ble_eq_true rfl) ?_
  simp (disch := omega) only [F84, hl, go_sem, reduceCtorEq, ↓reduceIte, Nat.reduceEqDiff, Nat.reduceAdd, Nat.reduceSub, Nat.reduceMul, Nat.reduceLT, Nat.reduceLeDiff, Int.reduceEq, Int.reduceNe, Int.reduceLT, Int.reduceLE, Int.reduceBEq, Int.reduceBNe, Int.reduceToNat]
  refine run_loop (fun e h2 => ∃ i : Nat, i ≤ b.length ∧ h2 = h ∧ (e 0 = v ∧ e 4 = .int .i64 i ∧ e 3 = .int .u32 ((b.take i).foldl stepX 4294967295).toNat))
    (fun e _ => match e 4 with | .int _ j => (b.length - j).toNat | _ => 0) ?_ ?_
  · exact ⟨0, by omega, rfl, rfl, rfl, rfl⟩
  · rintro e h2 ⟨i, hi, rfl, he⟩
    simp (disch := omega) only [go_sem, reduceCtorEq, ↓reduceIte, Nat.reduceEqDiff, Nat.reduceAdd, Nat.reduceSub, Nat.reduceMul, Nat.reduceLT, Nat.reduceLeDiff, Int.reduceEq, Int.reduceNe, Int.reduceLT, Int.reduceLE, Int.reduceBEq, Int.reduceBNe, Int.reduceToNat, he, hl]
    refine cnd_dec (fun hc => ?_) (fun hc => ?_)
    · obtain ⟨q, hq1, hq2⟩ := Bts.at hv (k := .i64) (i := i) (by omega)
      generalize hC : (b.take i).foldl stepX 4294967295 = C at *
      simp (disch := omega) only [go_sem, reduceCtorEq, ↓reduceIte, Nat.reduceEqDiff, Nat.reduceAdd, Nat.reduceSub, Nat.reduceMul, Nat.reduceLT, Nat.reduceLeDiff, Int.reduceEq, Int.reduceNe, Int.reduceLT, Int.reduceLE, Int.reduceBEq, Int.reduceBNe, Int.reduceToNat, he, hq1, hq2, u32_of_u8, u32_xor]
      generalize hD : C ^^^ b[i].toUInt32 = D at *
      refine run_loop (fun e h3 => ∃ k : Nat, k ≤ 8 ∧ h3 = h2 ∧ (e 0 = v ∧ e 4 = .int .i64 i ∧ e 5 = .int .i64 k ∧ e 3 = .int .u32 (bitsX k D).toNat))
        (fun e _ => match e 5 with | .int _ j => (8 - j).toNat | _ => 0) ?_ ?_
      · exact ⟨0, by omega, rfl, by simp [Env.upd_apply, he], by simp [Env.upd_apply, he], rfl, rfl⟩
      · rintro e3 h3' ⟨k, hk, rfl, ge⟩
        simp (disch := omega) only [go_sem, reduceCtorEq, ↓reduceIte, Nat.reduceEqDiff, Nat.reduceAdd, Nat.reduceSub, Nat.reduceMul, Nat.reduceLT, Nat.reduceLeDiff, Int.reduceEq, Int.reduceNe, Int.reduceLT, Int.reduceLE, Int.reduceBEq, Int.reduceBNe, Int.reduceToNat, ge]
        refine cnd_dec (fun hc3 => ?_) (fun hc3 => ?_)
        · simp (disch := omega) only [go_sem, reduceCtorEq, ↓reduceIte, Nat.reduceEqDiff, Nat.reduceAdd, Nat.reduceSub, Nat.reduceMul, Nat.reduceLT, Nat.reduceLeDiff, Int.reduceEq, Int.reduceNe, Int.reduceLT, Int.reduceLE, Int.reduceBEq, Int.reduceBNe, Int.reduceToNat, ge, u32_and1]
          refine cnd_bool (fun hb1 => ?_) (fun hb1 => ?_)
          · have hb2 : (bitsX k D) &&& 1 = 1 := by
              have := of_decide_eq_true hb1
              exact UInt32.toNat_inj.1 (by simpa using (Int.ofNat_inj.1 this))
            simp (disch := omega) only [go_sem, reduceCtorEq, ↓reduceIte, Nat.reduceEqDiff, Nat.reduceAdd, Nat.reduceSub, Nat.reduceMul, Nat.reduceLT, Nat.reduceLeDiff, Int.reduceEq, Int.reduceNe, Int.reduceLT, Int.reduceLE, Int.reduceBEq, Int.reduceBNe, Int.reduceToNat, ge, u32_shr1, u32_xorP]
            refine ⟨⟨k + 1, by omega, by simp, ?_⟩, by omega⟩
            simp only [bitsX, bitX, hb2, if_true]
          · have hb2 : ¬ (bitsX k D) &&& 1 = 1 := by
              have := of_decide_eq_false hb1
              intro hh
              exact this (by rw [hh]; rfl)
            simp (disch := omega) only [go_sem, reduceCtorEq, ↓reduceIte, Nat.reduceEqDiff, Nat.reduceAdd, Nat.reduceSub, Nat.reduceMul, Nat.reduceLT, Nat.reduceLeDiff, Int.reduceEq, Int.reduceNe, Int.reduceLT, Int.reduceLE, Int.reduceBEq, Int.reduceBNe, Int.reduceToNat, ge, u32_shr1, u32_xorP]
            refine ⟨⟨k + 1, by omega, by simp, ?_⟩, by omega⟩
            simp only [bitsX, bitX, hb2, if_false]
        · have : k = 8 := by omega
          subst this
          simp (disch := omega) only [go_sem, reduceCtorEq, ↓reduceIte, Nat.reduceEqDiff, Nat.reduceAdd, Nat.reduceSub, Nat.reduceMul, Nat.reduceLT, Nat.reduceLeDiff, Int.reduceEq, Int.reduceNe, Int.reduceLT, Int.reduceLE, Int.reduceBEq, Int.reduceBNe, Int.reduceToNat, ge]
          refine ⟨⟨i + 1, by omega, by simp, ?_⟩, by omega⟩
          rw [List.take_succ_eq_append_getElem (by omega), List.foldl_append, hC, ← hD]
          rfl
    · simp (disch := omega) only [go_sem, reduceCtorEq, ↓reduceIte, Nat.reduceEqDiff, Nat.reduceAdd, Nat.reduceSub, Nat.reduceMul, Nat.reduceLT, Nat.reduceLeDiff, Int.reduceEq, Int.reduceNe, Int.reduceLT, Int.reduceLE, Int.reduceBEq, Int.reduceBNe, Int.reduceToNat, he, u32_not]
      have : i = b.length := by omega
      subst this
      rw [List.take_length]
      exact ⟨rfl, hs⟩

theorem pFrame (hs : sat h F) (hE : ∀ h, sat h F → Bts h v b) (hb : b.length ≤ 100000000000) :
    Triple Try.prog 66 [v] h (fun r h => sat h (Ow 1 r ((frameB b).map eb) :: F)) := by
  have hl := Bts.len (hE _ hs)
  refine t66 (Nat.le_of_ble_eq_true rfl) ?_
  simp (disch := omega) only [F66, go_sem, reduceCtorEq, ↓reduceIte, Nat.reduceEqDiff, Nat.reduceAdd, Nat.reduceSub, Nat.reduceMul, Nat.reduceLT, Nat.reduceLeDiff, Int.reduceEq, Int.reduceNe, Int.reduceLT, Int.reduceLE, Int.reduceBEq, Int.reduceBNe, Int.reduceToNat]
  refine call_use (newWriter hs) fun r h ⟨p, hr, hs⟩ => ?_
  subst hr
  simp (disch := omega) only [go_sem, reduceCtorEq, ↓reduceIte, Nat.reduceEqDiff, Nat.reduceAdd, Nat.reduceSub, Nat.reduceMul, Nat.reduceLT, Nat.reduceLeDiff, Int.reduceEq, Int.reduceNe, Int.reduceLT, Int.reduceLE, Int.reduceBEq, Int.reduceBNe, Int.reduceToNat, hl]
  refine call_use (wU32 hs b.length (by omega)) ?_
  rintro r h ⟨hr, hs⟩
  subst hr
  simp (disch := omega) only [go_sem, reduceCtorEq, ↓reduceIte, Nat.reduceEqDiff, Nat.reduceAdd, Nat.reduceSub, Nat.reduceMul, Nat.reduceLT, Nat.reduceLeDiff, Int.reduceEq, Int.reduceNe, Int.reduceLT, Int.reduceLE, Int.reduceBEq, Int.reduceBNe, Int.reduceToNat]
  refine call_use (psum hs (fun h hs => hE _ hs.drop) (by omega)) ?_
  rintro r h ⟨hr, hs⟩
  subst hr
  simp (disch := omega) only [go_sem, reduceCtorEq, ↓reduceIte, Nat.reduceEqDiff, Nat.reduceAdd, Nat.reduceSub, Nat.reduceMul, Nat.reduceLT, Nat.reduceLeDiff, Int.reduceEq, Int.reduceNe, Int.reduceLT, Int.reduceLE, Int.reduceBEq, Int.reduceBNe, Int.reduceToNat, i64_u32]
  refine call_use (wU32 hs (sumX b).toNat (by omega)) ?_
  rintro r h ⟨hr, hs⟩
  subst hr
  simp (disch := omega) only [go_sem, reduceCtorEq, ↓reduceIte, Nat.reduceEqDiff, Nat.reduceAdd, Nat.reduceSub, Nat.reduceMul, Nat.reduceLT, Nat.reduceLeDiff, Int.reduceEq, Int.reduceNe, Int.reduceLT, Int.reduceLE, Int.reduceBEq, Int.reduceBNe, Int.reduceToNat]
  obtain ⟨hk, v', hs⟩ := Wr.iff.1 hs
  simp (disch := omega) only [go_sem, reduceCtorEq, ↓reduceIte, Nat.reduceEqDiff, Nat.reduceAdd, Nat.reduceSub, Nat.reduceMul, Nat.reduceLT, Nat.reduceLeDiff, Int.reduceEq, Int.reduceNe, Int.reduceLT, Int.reduceLE, Int.reduceBEq, Int.reduceBNe, Int.reduceToNat, hs.at]
  refine app_sat hs.p1 (hE _ hs.drop.drop).1 (atoms_eb _) (by simp at hk ⊢; omega) fun v' h hs hc' ha' => ?_
  simp (disch := omega) only [go_sem, reduceCtorEq, ↓reduceIte, Nat.reduceEqDiff, Nat.reduceAdd, Nat.reduceSub, Nat.reduceMul, Nat.reduceLT, Nat.reduceLeDiff, Int.reduceEq, Int.reduceNe, Int.reduceLT, Int.reduceLE, Int.reduceBEq, Int.reduceBNe, Int.reduceToNat]
  simpa [frameB] using hs.d1

theorem xFrame (hs : sat h F) (hE : ∀ h, sat h F → Bts h v b) (hb : b.length ≤ 100000000000) :
    Triple Try.prog 48 [v] h (fun r h => sat h (Ow 1 r ((frameB b).map eb) :: F)) := by
  have hl := Bts.len (hE _ hs)
  refine t48 (Nat.le_of_ble_eq_true rfl) ?_
  simp (disch := omega) only [F48, hl, go_sem, reduceCtorEq, ↓reduceIte, Nat.reduceEqDiff, Nat.reduceAdd, Nat.reduceSub, Nat.reduceMul, Nat.reduceLT, Nat.reduceLeDiff, Int.reduceEq, Int.reduceNe, Int.reduceLT, Int.reduceLE, Int.reduceBEq, Int.reduceBNe, Int.reduceToNat]
  refine call_use (xNum (bs := []) (hs.add ow_nil) (size := 4) (by omega) b.length (by simp)) ?_
  intro r h hs
  simp (disch := omega) only [go_sem, reduceCtorEq, ↓reduceIte, Nat.reduceEqDiff, Nat.reduceAdd, Nat.reduceSub, Nat.reduceMul, Nat.reduceLT, Nat.reduceLeDiff, Int.reduceEq, Int.reduceNe, Int.reduceLT, Int.reduceLE, Int.reduceBEq, Int.reduceBNe, Int.reduceToNat]
  refine call_use (xsum hs (fun h hs => hE _ hs.drop) (by omega)) ?_
  rintro r h ⟨hr, hs⟩
  subst hr
  simp (disch := omega) only [go_sem, reduceCtorEq, ↓reduceIte, Nat.reduceEqDiff, Nat.reduceAdd, Nat.reduceSub, Nat.reduceMul, Nat.reduceLT, Nat.reduceLeDiff, Int.reduceEq, Int.reduceNe, Int.reduceLT, Int.reduceLE, Int.reduceBEq, Int.reduceBNe, Int.reduceToNat]
  refine call_use (xNum hs (size := 4) (by omega) (sumX b).toNat (by simp [beB_length])) ?_
  intro r h hs
  simp (disch := omega) only [go_sem, reduceCtorEq, ↓reduceIte, Nat.reduceEqDiff, Nat.reduceAdd, Nat.reduceSub, Nat.reduceMul, Nat.reduceLT, Nat.reduceLeDiff, Int.reduceEq, Int.reduceNe, Int.reduceLT, Int.reduceLE, Int.reduceBEq, Int.reduceBNe, Int.reduceToNat]
  refine app_sat hs (hE _ hs.drop).1 (atoms_eb _) (by simp [beB_length]; omega) fun v' h hs hc' ha' => ?_
  simp (disch := omega) only [go_sem, reduceCtorEq, ↓reduceIte, Nat.reduceEqDiff, Nat.reduceAdd, Nat.reduceSub, Nat.reduceMul, Nat.reduceLT, Nat.reduceLeDiff, Int.reduceEq, Int.reduceNe, Int.reduceLT, Int.reduceLE, Int.reduceBEq, Int.reduceBNe, Int.reduceToNat]
  simpa [frameB] using hs

theorem Els.imp_nil {h : Hp} {s : Nat} : Els h s .nils [] := ⟨rfl, by simp⟩

theorem pUnframe (hs : sat h F) (hE : ∀ h, sat h F → Bts h v b) (hc : CapOK v) (hb : b.length ≤ 100000000000) :
    Triple Try.prog 49 [v] h (fun (r : AV) h => r = .tup [.lst ((unF b).1.map eb), .int .i64 (unF b).2.1, .int .i64 (unF b).2.2] ∧ sat h F) := by
  have hl := Bts.len (hE _ hs)
  have fin : ∀ (es : List UInt8) (n : Nat) (k : Int) (r : AV) (h : Hp), unF b = (es, n, k) → (∃ x, r = .tup [x, .int .i64 n, .int .i64 k] ∧ sat h (Ow 1 x (es.map eb) :: F)) →
      ∃ v rest es F', r = .tup (v :: rest) ∧ sat h (Ow 1 v es :: F') ∧ ∀ h'', sat h'' F' → (fun (r : AV) h => r = .tup [.lst ((unF b).1.map eb), .int .i64 (unF b).2.1, .int .i64 (unF b).2.2] ∧ sat h F) (.tup (.lst es :: rest)) h'' := by
    rintro es n k r h hu ⟨x, hr, hs⟩
    rw [hu]
    exact ⟨x, _, _, F, hr, hs, fun h hs => ⟨rfl, hs⟩⟩
  have nil : ∀ (n : Nat) (k : Int) (h : Hp), sat h F → ∃ x, (AV.tup [.nils, .int .i64 n, .int .i64 k]) = .tup [x, .int .i64 n, .int .i64 k] ∧ sat h (Ow 1 x (([] : List UInt8).map eb) :: F) :=
    fun n k h hs => ⟨.nils, rfl, hs.add ow_nil⟩
  refine Triple.lst1 1 ?_
  refine t49 (Nat.le_of_ble_eq_true rfl) ?_
  simp (disch := omega) only [F49, hl, go_sem, reduceCtorEq, ↓reduceIte, Nat.reduceEqDiff, Nat.reduceAdd, Nat.reduceSub, Nat.reduceMul, Nat.reduceLT, Nat.reduceLeDiff, Int.reduceEq, Int.reduceNe, Int.reduceLT, Int.reduceLE, Int.reduceBEq, Int.reduceBNe, Int.reduceToNat]
  refine cnd_dec (fun hc1 => ?_) (fun hc1 => ?_)
  · simp (disch := omega) only [go_sem, reduceCtorEq, ↓reduceIte, Nat.reduceEqDiff, Nat.reduceAdd, Nat.reduceSub, Nat.reduceMul, Nat.reduceLT, Nat.reduceLeDiff, Int.reduceEq, Int.reduceNe, Int.reduceLT, Int.reduceLE, Int.reduceBEq, Int.reduceBNe, Int.reduceToNat]
    exact fin [] 0 8 _ _ (by unfold unF; rw [if_pos (by omega)]) (nil 0 8 _ hs)
  · obtain ⟨x, hx, hxE, _⟩ := slc_E (A := fun h => sat h F) hs hE hc .i64 .i64 (lo := 0) (hi := 8) (by omega) (by simp; omega)
    have e : (List.take (8 - 0) (List.drop 0 (List.map eb b))) = (b.take 8).map eb := by simp
    rw [e] at hxE
    have l8 : (b.take 8).length = 8 := by simp; omega
    have hx' : slcL 1 v (some (.int .i64 0)) (some (.int .i64 8)) = some x := hx
    simp (disch := omega) only [go_sem, reduceCtorEq, ↓reduceIte, Nat.reduceEqDiff, Nat.reduceAdd, Nat.reduceSub, Nat.reduceMul, Nat.reduceLT, Nat.reduceLeDiff, Int.reduceEq, Int.reduceNe, Int.reduceLT, Int.reduceLE, Int.reduceBEq, Int.reduceBNe, Int.reduceToNat, slc_lo, hx']
    refine call_use (newReader hs hxE (by omega)) fun r h ⟨p, hr, hs⟩ => ?_
    subst hr
    have hn := hdN_val b (b.take 8) (by omega) (by rw [List.take_take]; rfl)
    have hm := hdS_val b (b.take 8) (by omega) (by rw [List.drop_take, List.take_take]; rfl)
    have hn2 := hn.2
    have hm2 := hm.2
    simp (disch := omega) only [go_sem, reduceCtorEq, ↓reduceIte, Nat.reduceEqDiff, Nat.reduceAdd, Nat.reduceSub, Nat.reduceMul, Nat.reduceLT, Nat.reduceLeDiff, Int.reduceEq, Int.reduceNe, Int.reduceLT, Int.reduceLE, Int.reduceBEq, Int.reduceBNe, Int.reduceToNat]
    refine call_use (rU32 hs) ?_
    rintro r h ⟨hr, hs⟩
    subst hr
    simp (disch := omega) only [go_sem, reduceCtorEq, ↓reduceIte, Nat.reduceEqDiff, Nat.reduceAdd, Nat.reduceSub, Nat.reduceMul, Nat.reduceLT, Nat.reduceLeDiff, Int.reduceEq, Int.reduceNe, Int.reduceLT, Int.reduceLE, Int.reduceBEq, Int.reduceBNe, Int.reduceToNat, hn.1]
    refine call_use (rU32 hs) ?_
    rintro r h ⟨hr, hs⟩
    subst hr
    simp (disch := omega) only [go_sem, reduceCtorEq, ↓reduceIte, Nat.reduceEqDiff, Nat.reduceAdd, Nat.reduceSub, Nat.reduceMul, Nat.reduceLT, Nat.reduceLeDiff, Int.reduceEq, Int.reduceNe, Int.reduceLT, Int.reduceLE, Int.reduceBEq, Int.reduceBNe, Int.reduceToNat, hm.1]
    refine cnd_dec (fun hc2 => ?_) (fun hc2 => ?_)
    · simp (disch := omega) only [go_sem, reduceCtorEq, ↓reduceIte, Nat.reduceEqDiff, Nat.reduceAdd, Nat.reduceSub, Nat.reduceMul, Nat.reduceLT, Nat.reduceLeDiff, Int.reduceEq, Int.reduceNe, Int.reduceLT, Int.reduceLE, Int.reduceBEq, Int.reduceBNe, Int.reduceToNat]
      exact fin [] 0 5 _ _ (by unfold unF; rw [if_neg (by omega), if_pos (by omega)]) (nil 0 5 _ hs.drop)
    · simp (disch := omega) only [go_sem, reduceCtorEq, ↓reduceIte, Nat.reduceEqDiff, Nat.reduceAdd, Nat.reduceSub, Nat.reduceMul, Nat.reduceLT, Nat.reduceLeDiff, Int.reduceEq, Int.reduceNe, Int.reduceLT, Int.reduceLE, Int.reduceBEq, Int.reduceBNe, Int.reduceToNat, hl]
      refine cnd_dec (fun hc3 => ?_) (fun hc3 => ?_)
      · simp (disch := omega) only [go_sem, reduceCtorEq, ↓reduceIte, Nat.reduceEqDiff, Nat.reduceAdd, Nat.reduceSub, Nat.reduceMul, Nat.reduceLT, Nat.reduceLeDiff, Int.reduceEq, Int.reduceNe, Int.reduceLT, Int.reduceLE, Int.reduceBEq, Int.reduceBNe, Int.reduceToNat]
        exact fin [] 0 8 _ _ (by unfold unF; rw [if_neg (by omega), if_neg (by omega), if_pos (by omega)]) (nil 0 8 _ hs.drop)
      · have hs := hs.drop
        obtain ⟨y, hy, hyE, _⟩ := slc_E (A := fun h => sat h F) hs hE hc .i64 .i64 (lo := 8) (hi := 8 + hdN b) (by omega) (by simp; omega)
        have e : (List.take (8 + hdN b - 8) (List.drop 8 (List.map eb b))) = ((b.drop 8).take (hdN b)).map eb := by
          rw [show 8 + hdN b - 8 = hdN b from by omega]; simp
        rw [e] at hyE
        have hy' : slcL 1 v (some (.int .i64 8)) (some (.int .i64 (8 + (hdN b : Int)))) = some y := by
          have e4 : ((8 + hdN b : Nat) : Int) = 8 + (hdN b : Int) := by omega
          rw [← e4]
          exact hy
        simp (disch := omega) only [go_sem, reduceCtorEq, ↓reduceIte, Nat.reduceEqDiff, Nat.reduceAdd, Nat.reduceSub, Nat.reduceMul, Nat.reduceLT, Nat.reduceLeDiff, Int.reduceEq, Int.reduceNe, Int.reduceLT, Int.reduceLE, Int.reduceBEq, Int.reduceBNe, Int.reduceToNat, hy']
        refine call_use (psum hs hyE (by simp; omega)) ?_
        rintro r h ⟨hr, hs⟩
        subst hr
        simp (disch := omega) only [go_sem, reduceCtorEq, ↓reduceIte, Nat.reduceEqDiff, Nat.reduceAdd, Nat.reduceSub, Nat.reduceMul, Nat.reduceLT, Nat.reduceLeDiff, Int.reduceEq, Int.reduceNe, Int.reduceLT, Int.reduceLE, Int.reduceBEq, Int.reduceBNe, Int.reduceToNat, u32_wrap _ hm2]
        refine cnd_bool (fun hc4 => ?_) (fun hc4 => ?_)
        · simp (disch := omega) only [go_sem, reduceCtorEq, ↓reduceIte, Nat.reduceEqDiff, Nat.reduceAdd, Nat.reduceSub, Nat.reduceMul, Nat.reduceLT, Nat.reduceLeDiff, Int.reduceEq, Int.reduceNe, Int.reduceLT, Int.reduceLE, Int.reduceBEq, Int.reduceBNe, Int.reduceToNat]
          have hc5 : (sumX ((b.drop 8).take (hdN b))).toNat ≠ hdS b := by
            intro hh; rw [hh] at hc4; simp at hc4
          exact fin [] 0 12 _ _ (by unfold unF; rw [if_neg (by omega), if_neg (by omega), if_neg (by omega), if_pos hc5]) (nil 0 12 _ hs)
        · simp (disch := omega) only [go_sem, reduceCtorEq, ↓reduceIte, Nat.reduceEqDiff, Nat.reduceAdd, Nat.reduceSub, Nat.reduceMul, Nat.reduceLT, Nat.reduceLeDiff, Int.reduceEq, Int.reduceNe, Int.reduceLT, Int.reduceLE, Int.reduceBEq, Int.reduceBNe, Int.reduceToNat, hy']
          refine call_use (clone hs hyE (by simp; omega)) ?_
          intro r h hs
          simp (disch := omega) only [go_sem, reduceCtorEq, ↓reduceIte, Nat.reduceEqDiff, Nat.reduceAdd, Nat.reduceSub, Nat.reduceMul, Nat.reduceLT, Nat.reduceLeDiff, Int.reduceEq, Int.reduceNe, Int.reduceLT, Int.reduceLE, Int.reduceBEq, Int.reduceBNe, Int.reduceToNat]
          have hc5 : (sumX ((b.drop 8).take (hdN b))).toNat = hdS b := by
            simp at hc4
            omega
          refine fin ((b.drop 8).take (hdN b)) (8 + hdN b) 0 _ _ (by unfold unF; rw [if_neg (by omega), if_neg (by omega), if_neg (by omega), if_neg (by simpa using hc5)]) ⟨r, ?_, hs⟩
          simp

theorem xUnframe (hs : sat h F) (hE : ∀ h, sat h F → Bts h v b) (hc : CapOK v) (hb : b.length ≤ 100000000000) (hat : v.cells = [v] ∧ v.isAtom = true) :
    Triple Try.prog 52 [v] h (fun (r : AV) h => r = .tup [.lst ((unF b).1.map eb), .int .i64 (unF b).2.1, .int .i64 (unF b).2.2] ∧ sat h F) := by
  have hl := Bts.len (hE _ hs)
  have fin : ∀ (es : List UInt8) (n : Nat) (k : Int) (r : AV) (h : Hp), unF b = (es, n, k) → (∃ x, r = .tup [x, .int .i64 n, .int .i64 k] ∧ sat h (Ow 1 x (es.map eb) :: F)) →
      ∃ v rest es F', r = .tup (v :: rest) ∧ sat h (Ow 1 v es :: F') ∧ ∀ h'', sat h'' F' → (fun (r : AV) h => r = .tup [.lst ((unF b).1.map eb), .int .i64 (unF b).2.1, .int .i64 (unF b).2.2] ∧ sat h F) (.tup (.lst es :: rest)) h'' := by
    rintro es n k r h hu ⟨x, hr, hs⟩
    rw [hu]
    exact ⟨x, _, _, F, hr, hs, fun h hs => ⟨rfl, hs⟩⟩
  have nil : ∀ (n : Nat) (k : Int) (h : Hp), sat h F → ∃ x, (AV.tup [.nils, .int .i64 n, .int .i64 k]) = .tup [x, .int .i64 n, .int .i64 k] ∧ sat h (Ow 1 x (([] : List UInt8).map eb) :: F) :=
    fun n k h hs => ⟨.nils, rfl, hs.add ow_nil⟩
  refine Triple.lst1 1 ?_
  refine t52 (Nat.le_of_ble_eq_true rfl) ?_
  simp (disch := omega) only [F52, hl, go_sem, reduceCtorEq, ↓reduceIte, Nat.reduceEqDiff, Nat.reduceAdd, Nat.reduceSub, Nat.reduceMul, Nat.reduceLT, Nat.reduceLeDiff, Int.reduceEq, Int.reduceNe, Int.reduceLT, Int.reduceLE, Int.reduceBEq, Int.reduceBNe, Int.reduceToNat]
  refine cnd_dec (fun hc1 => ?_) (fun hc1 => ?_)
  · simp (disch := omega) only [go_sem, reduceCtorEq, ↓reduceIte, Nat.reduceEqDiff, Nat.reduceAdd, Nat.reduceSub, Nat.reduceMul, Nat.reduceLT, Nat.reduceLeDiff, Int.reduceEq, Int.reduceNe, Int.reduceLT, Int.reduceLE, Int.reduceBEq, Int.reduceBNe, Int.reduceToNat]
    exact fin [] 0 8 _ _ (by unfold unF; rw [if_pos (by omega)]) (nil 0 8 _ hs)
  · simp (disch := omega) only [go_sem, reduceCtorEq, ↓reduceIte, Nat.reduceEqDiff, Nat.reduceAdd, Nat.reduceSub, Nat.reduceMul, Nat.reduceLT, Nat.reduceLeDiff, Int.reduceEq, Int.reduceNe, Int.reduceLT, Int.reduceLE, Int.reduceBEq, Int.reduceBNe, Int.reduceToNat, hat]
    refine new_sat hs fun p hp hs => ?_
    simp (disch := omega) only [go_sem, reduceCtorEq, ↓reduceIte, Nat.reduceEqDiff, Nat.reduceAdd, Nat.reduceSub, Nat.reduceMul, Nat.reduceLT, Nat.reduceLeDiff, Int.reduceEq, Int.reduceNe, Int.reduceLT, Int.reduceLE, Int.reduceBEq, Int.reduceBNe, Int.reduceToNat]
    have hs : sat _ (Xr p v ⟨b, 0, 0⟩ :: F) := Xr.iff.2 ⟨⟨Nat.zero_le _, by simp; omega, .inl rfl⟩, hs⟩
    have hn := hdN_val b b (by omega) rfl
    have hm := hdS_val b b (by omega) rfl
    have hn2 := hn.2
    have hm2 := hm.2
    refine call_use (xrU32 hs hE) ?_
    rintro r h ⟨hr, hs⟩
    subst hr
    simp (disch := omega) only [go_sem, reduceCtorEq, ↓reduceIte, Nat.reduceEqDiff, Nat.reduceAdd, Nat.reduceSub, Nat.reduceMul, Nat.reduceLT, Nat.reduceLeDiff, Int.reduceEq, Int.reduceNe, Int.reduceLT, Int.reduceLE, Int.reduceBEq, Int.reduceBNe, Int.reduceToNat, hn.1]
    refine call_use (xrU32 hs hE) ?_
    rintro r h ⟨hr, hs⟩
    subst hr
    simp (disch := omega) only [go_sem, reduceCtorEq, ↓reduceIte, Nat.reduceEqDiff, Nat.reduceAdd, Nat.reduceSub, Nat.reduceMul, Nat.reduceLT, Nat.reduceLeDiff, Int.reduceEq, Int.reduceNe, Int.reduceLT, Int.reduceLE, Int.reduceBEq, Int.reduceBNe, Int.reduceToNat, hm.1]
    have hs := hs.drop
    refine cnd_dec (fun hc2 => ?_) (fun hc2 => ?_)
    · simp (disch := omega) only [go_sem, reduceCtorEq, ↓reduceIte, Nat.reduceEqDiff, Nat.reduceAdd, Nat.reduceSub, Nat.reduceMul, Nat.reduceLT, Nat.reduceLeDiff, Int.reduceEq, Int.reduceNe, Int.reduceLT, Int.reduceLE, Int.reduceBEq, Int.reduceBNe, Int.reduceToNat]
      exact fin [] 0 5 _ _ (by unfold unF; rw [if_neg (by omega), if_pos (by omega)]) (nil 0 5 _ hs)
    · simp (disch := omega) only [go_sem, reduceCtorEq, ↓reduceIte, Nat.reduceEqDiff, Nat.reduceAdd, Nat.reduceSub, Nat.reduceMul, Nat.reduceLT, Nat.reduceLeDiff, Int.reduceEq, Int.reduceNe, Int.reduceLT, Int.reduceLE, Int.reduceBEq, Int.reduceBNe, Int.reduceToNat, hl]
      refine cnd_dec (fun hc3 => ?_) (fun hc3 => ?_)
      · simp (disch := omega) only [go_sem, reduceCtorEq, ↓reduceIte, Nat.reduceEqDiff, Nat.reduceAdd, Nat.reduceSub, Nat.reduceMul, Nat.reduceLT, Nat.reduceLeDiff, Int.reduceEq, Int.reduceNe, Int.reduceLT, Int.reduceLE, Int.reduceBEq, Int.reduceBNe, Int.reduceToNat]
        exact fin [] 0 8 _ _ (by unfold unF; rw [if_neg (by omega), if_neg (by omega), if_pos (by omega)]) (nil 0 8 _ hs)
      · obtain ⟨y, hy, hyE, _⟩ := slc_E (A := fun h => sat h F) hs hE hc .i64 .i64 (lo := 8) (hi := 8 + hdN b) (by omega) (by simp; omega)
        have e : (List.take (8 + hdN b - 8) (List.drop 8 (List.map eb b))) = ((b.drop 8).take (hdN b)).map eb := by
          rw [show 8 + hdN b - 8 = hdN b from by omega]; simp
        rw [e] at hyE
        have hy' : slcL 1 v (some (.int .i64 8)) (some (.int .i64 (8 + (hdN b : Int)))) = some y := by
          have e4 : ((8 + hdN b : Nat) : Int) = 8 + (hdN b : Int) := by omega
          rw [← e4]
          exact hy
        simp (disch := omega) only [go_sem, reduceCtorEq, ↓reduceIte, Nat.reduceEqDiff, Nat.reduceAdd, Nat.reduceSub, Nat.reduceMul, Nat.reduceLT, Nat.reduceLeDiff, Int.reduceEq, Int.reduceNe, Int.reduceLT, Int.reduceLE, Int.reduceBEq, Int.reduceBNe, Int.reduceToNat, hy']
        refine new_sat hs fun m hm hs => ?_
        simp (disch := omega) only [go_sem, reduceCtorEq, ↓reduceIte, Nat.reduceEqDiff, Nat.reduceAdd, Nat.reduceSub, Nat.reduceMul, Nat.reduceLT, Nat.reduceLeDiff, Int.reduceEq, Int.reduceNe, Int.reduceLT, Int.reduceLE, Int.reduceBEq, Int.reduceBNe, Int.reduceToNat, hy']
        refine app_sat (bytes := 1) (hs.ow (Nat.zero_le _)) (hyE _ hs.drop).1 (atoms_eb _) (by simp; omega) fun v' h hs hc' ha' => ?_
        simp (disch := omega) only [go_sem, reduceCtorEq, ↓reduceIte, Nat.reduceEqDiff, Nat.reduceAdd, Nat.reduceSub, Nat.reduceMul, Nat.reduceLT, Nat.reduceLeDiff, Int.reduceEq, Int.reduceNe, Int.reduceLT, Int.reduceLE, Int.reduceBEq, Int.reduceBNe, Int.reduceToNat]
        refine call_use (xsum hs (fun h hs => (hs.bts)) (by simp; omega)) ?_
        rintro r h ⟨hr, hs⟩
        subst hr
        simp (disch := omega) only [go_sem, reduceCtorEq, ↓reduceIte, Nat.reduceEqDiff, Nat.reduceAdd, Nat.reduceSub, Nat.reduceMul, Nat.reduceLT, Nat.reduceLeDiff, Int.reduceEq, Int.reduceNe, Int.reduceLT, Int.reduceLE, Int.reduceBEq, Int.reduceBNe, Int.reduceToNat, u32_wrap _ hm2]
        refine cnd_bool (fun hc4 => ?_) (fun hc4 => ?_)
        · simp (disch := omega) only [go_sem, reduceCtorEq, ↓reduceIte, Nat.reduceEqDiff, Nat.reduceAdd, Nat.reduceSub, Nat.reduceMul, Nat.reduceLT, Nat.reduceLeDiff, Int.reduceEq, Int.reduceNe, Int.reduceLT, Int.reduceLE, Int.reduceBEq, Int.reduceBNe, Int.reduceToNat]
          have hc5 : (sumX ((b.drop 8).take (hdN b))).toNat ≠ hdS b := by
            intro hh; rw [hh] at hc4; simp at hc4
          exact fin [] 0 12 _ _ (by unfold unF; rw [if_neg (by omega), if_neg (by omega), if_neg (by omega), if_pos hc5]) (nil 0 12 _ hs.drop)
        · simp (disch := omega) only [go_sem, reduceCtorEq, ↓reduceIte, Nat.reduceEqDiff, Nat.reduceAdd, Nat.reduceSub, Nat.reduceMul, Nat.reduceLT, Nat.reduceLeDiff, Int.reduceEq, Int.reduceNe, Int.reduceLT, Int.reduceLE, Int.reduceBEq, Int.reduceBNe, Int.reduceToNat]
          have hc5 : (sumX ((b.drop 8).take (hdN b))).toNat = hdS b := by
            simp at hc4
            omega
          refine fin ((b.drop 8).take (hdN b)) (8 + hdN b) 0 _ _ (by unfold unF; rw [if_neg (by omega), if_neg (by omega), if_neg (by omega), if_neg (by simpa using hc5)]) ⟨v', ?_, hs⟩
          simp
end
end Go.Proofs.Ytfbflmiipepmiaa
