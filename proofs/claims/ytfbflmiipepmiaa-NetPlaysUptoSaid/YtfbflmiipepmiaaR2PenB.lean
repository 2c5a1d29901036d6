/- The document's own writer and reader. -/
import Derived.Test.YtfbflmiipepmiaaR2PenA
set_option linter.unusedSimpArgs false
set_option linter.unusedVariables false
set_option maxRecDepth 10000
namespace Go.Proofs.Ytfbflmiipepmiaa
open Go.Hz

section
variable {h : Hp} {F : List Asr} {v : AV} {bs : List UInt8}

theorem xNum (hs : sat h (Ow 1 v (bs.map eb) :: F)) {size : Nat} (hsz : size ≤ 8) (n : Int) (hb : bs.length ≤ 1000000000000) :
    Triple Try.prog 82 [v, .int .i64 size, .int .u64 (IntKind.u64.wrap n)] h (fun r h => sat h (Ow 1 r ((bs ++ beB size n).map eb) :: F)) := by
  refine t82 (Nat.le_of_ble_eq_true rfl) ?_
  simp (disch := omega) only [F82, go_sem, reduceCtorEq, ↓reduceIte, Nat.reduceEqDiff, Nat.reduceAdd, Nat.reduceSub, Nat.reduceMul, Nat.reduceLT, Nat.reduceLeDiff, Int.reduceEq, Int.reduceNe, Int.reduceLT, Int.reduceLE, Int.reduceBEq, Int.reduceBNe, Int.reduceToNat]
  refine run_loop (fun e h => ∃ (j : Nat) (a : List UInt8), j ≤ size ∧ a.length = size - j ∧ a ++ beB j n = beB size n ∧ (e 2 = .int .u64 (IntKind.u64.wrap n) ∧ e 7 = .int .i64 (j - 1)) ∧ sat h (Ow 1 (e 0) ((bs ++ a).map eb) :: F))
    (fun e _ => match e 7 with | .int _ j => (j + 1).toNat | _ => 0) ?_ ?_
  · exact ⟨size, [], Nat.le_refl _, by simp, rfl, ⟨rfl, rfl⟩, by simpa [Env.upd_apply, initE] using hs⟩
  · rintro e h ⟨j, a, hj, hal, ha, he, hs⟩
    simp (disch := omega) only [go_sem, reduceCtorEq, ↓reduceIte, Nat.reduceEqDiff, Nat.reduceAdd, Nat.reduceSub, Nat.reduceMul, Nat.reduceLT, Nat.reduceLeDiff, Int.reduceEq, Int.reduceNe, Int.reduceLT, Int.reduceLE, Int.reduceBEq, Int.reduceBNe, Int.reduceToNat, he]
    refine cnd_dec (fun hc => ?_) (fun hc => ?_)
    · simp (disch := omega) only [go_sem, reduceCtorEq, ↓reduceIte, Nat.reduceEqDiff, Nat.reduceAdd, Nat.reduceSub, Nat.reduceMul, Nat.reduceLT, Nat.reduceLeDiff, Int.reduceEq, Int.reduceNe, Int.reduceLT, Int.reduceLE, Int.reduceBEq, Int.reduceBNe, Int.reduceToNat, he]
      refine ⟨by omega, ?_⟩
      refine new_sat hs fun b hb hs => ?_
      simp (disch := omega) only [go_sem, reduceCtorEq, ↓reduceIte, Nat.reduceEqDiff, Nat.reduceAdd, Nat.reduceSub, Nat.reduceMul, Nat.reduceLT, Nat.reduceLeDiff, Int.reduceEq, Int.reduceNe, Int.reduceLT, Int.reduceLE, Int.reduceBEq, Int.reduceBNe, Int.reduceToNat, he]
      have hy := src_row1 hs.at 1
      rw [bz_cell n j (by omega) (by omega)] at hy
      rw [bz_cell n j (by omega) (by omega)] at hs
      rw [bz_cell n j (by omega) (by omega)]
      refine app_sat hs.p1 hy (atoms_eb _) (by simp; omega) fun v' h hs hc' ha' => ?_
      simp (disch := omega) only [go_sem, reduceCtorEq, ↓reduceIte, Nat.reduceEqDiff, Nat.reduceAdd, Nat.reduceSub, Nat.reduceMul, Nat.reduceLT, Nat.reduceLeDiff, Int.reduceEq, Int.reduceNe, Int.reduceLT, Int.reduceLE, Int.reduceBEq, Int.reduceBNe, Int.reduceToNat, he]
      refine ⟨⟨j - 1, a ++ [bz n (j - 1)], by omega, by simp; omega, ?_, by congr 1; omega, by simpa using hs.d1⟩, by omega⟩
      rw [← ha]
      obtain ⟨i, rfl⟩ : ∃ i, j = i + 1 := ⟨j - 1, by omega⟩
      simp [beB]
    · simp (disch := omega) only [go_sem, reduceCtorEq, ↓reduceIte, Nat.reduceEqDiff, Nat.reduceAdd, Nat.reduceSub, Nat.reduceMul, Nat.reduceLT, Nat.reduceLeDiff, Int.reduceEq, Int.reduceNe, Int.reduceLT, Int.reduceLE, Int.reduceBEq, Int.reduceBNe, Int.reduceToNat, he]
      have hj0 : j = 0 := by omega
      subst hj0
      simpa [← ha, beB] using hs

theorem xU8 (hs : sat h (Ow 1 v (bs.map eb) :: F)) (n : Int) (hb : bs.length ≤ 1000000000000) :
    Triple Try.prog 43 [v, .int .i64 n] h (fun r h => sat h (Ow 1 r ((bs ++ beB 1 n).map eb) :: F)) := by
  refine t43 (Nat.le_of_ble_eq_true rfl) ?_
  simp (disch := omega) only [F43, go_sem, reduceCtorEq, ↓reduceIte, Nat.reduceEqDiff, Nat.reduceAdd, Nat.reduceSub, Nat.reduceMul, Nat.reduceLT, Nat.reduceLeDiff, Int.reduceEq, Int.reduceNe, Int.reduceLT, Int.reduceLE, Int.reduceBEq, Int.reduceBNe, Int.reduceToNat]
  refine new_sat hs fun b hb hs => ?_
  simp (disch := omega) only [go_sem, reduceCtorEq, ↓reduceIte, Nat.reduceEqDiff, Nat.reduceAdd, Nat.reduceSub, Nat.reduceMul, Nat.reduceLT, Nat.reduceLeDiff, Int.reduceEq, Int.reduceNe, Int.reduceLT, Int.reduceLE, Int.reduceBEq, Int.reduceBNe, Int.reduceToNat]
  have hy := src_row1 hs.at 1
  rw [beB1] at hy
  rw [beB1] at hs
  rw [beB1]
  refine app_sat hs.p1 hy (atoms_eb _) (by simp [beB_length]; omega) fun v' h hs hc' ha' => ?_
  simp (disch := omega) only [go_sem, reduceCtorEq, ↓reduceIte, Nat.reduceEqDiff, Nat.reduceAdd, Nat.reduceSub, Nat.reduceMul, Nat.reduceLT, Nat.reduceLeDiff, Int.reduceEq, Int.reduceNe, Int.reduceLT, Int.reduceLE, Int.reduceBEq, Int.reduceBNe, Int.reduceToNat]
  simpa using hs.d1
theorem xU32 (hs : sat h (Ow 1 v (bs.map eb) :: F)) (n : Int) (hb : bs.length ≤ 1000000000000) :
    Triple Try.prog 83 [v, .int .i64 n] h (fun r h => sat h (Ow 1 r ((bs ++ beB 4 n).map eb) :: F)) := by
  refine t83 (Nat.le_of_ble_eq_true rfl) ?_
  simp (disch := omega) only [F83, go_sem, reduceCtorEq, ↓reduceIte, Nat.reduceEqDiff, Nat.reduceAdd, Nat.reduceSub, Nat.reduceMul, Nat.reduceLT, Nat.reduceLeDiff, Int.reduceEq, Int.reduceNe, Int.reduceLT, Int.reduceLE, Int.reduceBEq, Int.reduceBNe, Int.reduceToNat]
  refine call_use (xNum hs (size := 4) (by omega) n hb) ?_
  intro r h hs
  simp (disch := omega) only [go_sem, reduceCtorEq, ↓reduceIte, Nat.reduceEqDiff, Nat.reduceAdd, Nat.reduceSub, Nat.reduceMul, Nat.reduceLT, Nat.reduceLeDiff, Int.reduceEq, Int.reduceNe, Int.reduceLT, Int.reduceLE, Int.reduceBEq, Int.reduceBNe, Int.reduceToNat]
  exact hs
theorem xInt (hs : sat h (Ow 1 v (bs.map eb) :: F)) (n : Int) (hb : bs.length ≤ 1000000000000) :
    Triple Try.prog 44 [v, .int .i64 n] h (fun r h => sat h (Ow 1 r ((bs ++ beB 8 n).map eb) :: F)) := by
  refine t44 (Nat.le_of_ble_eq_true rfl) ?_
  simp (disch := omega) only [F44, go_sem, reduceCtorEq, ↓reduceIte, Nat.reduceEqDiff, Nat.reduceAdd, Nat.reduceSub, Nat.reduceMul, Nat.reduceLT, Nat.reduceLeDiff, Int.reduceEq, Int.reduceNe, Int.reduceLT, Int.reduceLE, Int.reduceBEq, Int.reduceBNe, Int.reduceToNat]
  refine call_use (xNum hs (size := 8) (by omega) n hb) ?_
  intro r h hs
  simp (disch := omega) only [go_sem, reduceCtorEq, ↓reduceIte, Nat.reduceEqDiff, Nat.reduceAdd, Nat.reduceSub, Nat.reduceMul, Nat.reduceLT, Nat.reduceLeDiff, Int.reduceEq, Int.reduceNe, Int.reduceLT, Int.reduceLE, Int.reduceBEq, Int.reduceBNe, Int.reduceToNat]
  exact hs
theorem xText (hs : sat h (Ow 1 v (bs.map eb) :: F)) (s : List UInt8) (hb : bs.length ≤ 100000000000) (hm : s.length ≤ 100000000000) :
    Triple Try.prog 45 [v, .str s] h (fun r h => sat h (Ow 1 r ((bs ++ txB s).map eb) :: F)) := by
  refine t45 (Nat.le_of_ble_eq_true rfl) ?_
  simp (disch := omega) only [F45, go_sem, reduceCtorEq, ↓reduceIte, Nat.reduceEqDiff, Nat.reduceAdd, Nat.reduceSub, Nat.reduceMul, Nat.reduceLT, Nat.reduceLeDiff, Int.reduceEq, Int.reduceNe, Int.reduceLT, Int.reduceLE, Int.reduceBEq, Int.reduceBNe, Int.reduceToNat]
  refine call_use (xU32 hs s.length (by omega)) ?_
  intro r h hs
  simp (disch := omega) only [go_sem, reduceCtorEq, ↓reduceIte, Nat.reduceEqDiff, Nat.reduceAdd, Nat.reduceSub, Nat.reduceMul, Nat.reduceLT, Nat.reduceLeDiff, Int.reduceEq, Int.reduceNe, Int.reduceLT, Int.reduceLE, Int.reduceBEq, Int.reduceBNe, Int.reduceToNat]
  refine app_sat hs eb_str (atoms_eb _) (by simp [beB_length]; omega) fun v' h hs hc' ha' => ?_
  simp (disch := omega) only [go_sem, reduceCtorEq, ↓reduceIte, Nat.reduceEqDiff, Nat.reduceAdd, Nat.reduceSub, Nat.reduceMul, Nat.reduceLT, Nat.reduceLeDiff, Int.reduceEq, Int.reduceNe, Int.reduceLT, Int.reduceLE, Int.reduceBEq, Int.reduceBNe, Int.reduceToNat]
  simpa [txB] using hs
end

/-- The document's reader at p, over a slice that it only reads. -/
def Xr (p : Nat) (v : AV) (s : RS) : Asr := fun h => s.good ∧ h p = some (.row 3 [[v, .int .i64 s.a, .bool (s.err != 0)]] 1)
theorem Xr.iff {h : Hp} {p : Nat} {v : AV} {s : RS} {F : List Asr} : sat h (Xr p v s :: F) ↔ s.good ∧ sat h (pto p (.row 3 [[v, .int .i64 s.a, .bool (s.err != 0)]] 1) :: F) := by
  unfold Xr
  rw [sat_and]
  rfl

/-- A slice's part. -/
theorem els_slc {h : Hp} {s : Nat} {v : AV} {es : List (List AV)} (e : Els h s v es) (k k' : IntKind) {lo hi : Nat} (h1 : lo ≤ hi) (h2 : hi ≤ es.length) (hc : ∀ q s o l c, v = .arr q s o l c → l ≤ c) :
    ∃ x, slcL s v (some (.int k lo)) (some (.int k' hi)) = some x ∧ Els h s x ((es.drop lo).take (hi - lo)) := by
  obtain ⟨x, a, b, _⟩ := Els.slc (k := k) (k' := k') e h1 h2 hc
  exact ⟨x, a, b⟩

section
variable {h : Hp} {F : List Asr} {p : Nat} {s : RS} {v : AV}

theorem xNumR (hs : sat h (Xr p v s :: F)) (hE : ∀ h, sat h F → Bts h v s.b) {n : Nat} (hn : n ≤ 1000000000000) :
    Triple Try.prog 95 [.ptr p 3 0 0, .int .i64 n] h (fun r h => r = .int .u64 (if s.ok n then rawN ((s.b.drop s.a).take n) else 0) ∧ sat h (Xr p v (s.adv n) :: F)) := by
  have ⟨g, hs'⟩ := Xr.iff.1 hs
  have hp := hs'.at
  have hv := hE _ hs.drop
  have hl := hv.len
  have ⟨g1, g2, g3⟩ := g
  have hno : s.ok n = false → sat (h.set p (.row 3 [[v, .int .i64 s.a, .bool true]] 1)) (Xr p v (s.adv n) :: F) := by
    intro hk
    refine Xr.iff.2 ⟨g.adv n, ?_⟩
    simp only [RS.adv, hk]
    exact hs'.set
  by_cases he : s.err = 0
  · have e1 : (s.err != 0) = false := by simp [he]
    refine t95 (Nat.le_of_ble_eq_true rfl) ?_
    simp (disch := omega) only [F95, hp, hl, e1, go_sem, reduceCtorEq, ↓reduceIte, Nat.reduceEqDiff, Nat.reduceAdd, Nat.reduceSub, Nat.reduceMul, Nat.reduceLT, Nat.reduceLeDiff, Int.reduceEq, Int.reduceNe, Int.reduceLT, Int.reduceLE, Int.reduceBEq, Int.reduceBNe, Int.reduceToNat]
    refine cnd_dec (fun hc => ?_) (fun hc => ?_)
    · have hk : s.ok n = false := by simp [RS.ok, he]; omega
      simp (disch := omega) only [go_sem, reduceCtorEq, ↓reduceIte, Nat.reduceEqDiff, Nat.reduceAdd, Nat.reduceSub, Nat.reduceMul, Nat.reduceLT, Nat.reduceLeDiff, Int.reduceEq, Int.reduceNe, Int.reduceLT, Int.reduceLE, Int.reduceBEq, Int.reduceBNe, Int.reduceToNat, hp, hk, e1]
      exact hno hk
    · have hk : s.ok n = true := by simp [RS.ok, he]; omega
      simp (disch := omega) only [go_sem, reduceCtorEq, ↓reduceIte, Nat.reduceEqDiff, Nat.reduceAdd, Nat.reduceSub, Nat.reduceMul, Nat.reduceLT, Nat.reduceLeDiff, Int.reduceEq, Int.reduceNe, Int.reduceLT, Int.reduceLE, Int.reduceBEq, Int.reduceBNe, Int.reduceToNat, hp, hk, e1]
      have hlen : ((s.b.drop s.a).take n).length = n := by simp; omega
      refine run_loop (fun e h1 => ∃ i : Nat, i ≤ n ∧ h1 = h ∧ (e 0 = .ptr p 3 0 0 ∧ e 1 = .int .i64 n ∧ e 6 = .int .i64 i ∧ e 5 = .int .u64 (rawN (((s.b.drop s.a).take n).take i))))
        (fun e _ => match e 6 with | .int _ j => (n - j).toNat | _ => 0) ?_ ?_
      · exact ⟨0, by omega, rfl, rfl, rfl, rfl, rfl⟩
      · rintro e h1 ⟨i, hi, rfl, he'⟩
        simp (disch := omega) only [go_sem, reduceCtorEq, ↓reduceIte, Nat.reduceEqDiff, Nat.reduceAdd, Nat.reduceSub, Nat.reduceMul, Nat.reduceLT, Nat.reduceLeDiff, Int.reduceEq, Int.reduceNe, Int.reduceLT, Int.reduceLE, Int.reduceBEq, Int.reduceBNe, Int.reduceToNat, he']
        have e4 : ((s.a : Int) + i) = ((s.a + i : Nat) : Int) := by omega
        refine cnd_dec (fun hc' => ?_) (fun hc' => ?_)
        · obtain ⟨q, hq1, hq2⟩ := Bts.at hv (k := .i64) (i := s.a + i) (by omega)
          simp (disch := omega) only [go_sem, reduceCtorEq, ↓reduceIte, Nat.reduceEqDiff, Nat.reduceAdd, Nat.reduceSub, Nat.reduceMul, Nat.reduceLT, Nat.reduceLeDiff, Int.reduceEq, Int.reduceNe, Int.reduceLT, Int.reduceLE, Int.reduceBEq, Int.reduceBNe, Int.reduceToNat, he', hp, e4, hq1, hq2]
          refine ⟨⟨i + 1, by omega, by simp, ?_⟩, by omega⟩
          rw [rawN_succ _ _ (by omega)]
          simp only [List.getElem_take, List.getElem_drop]
          rfl
        · have : i = n := by omega
          subst this
          simp (disch := omega) only [go_sem, reduceCtorEq, ↓reduceIte, Nat.reduceEqDiff, Nat.reduceAdd, Nat.reduceSub, Nat.reduceMul, Nat.reduceLT, Nat.reduceLeDiff, Int.reduceEq, Int.reduceNe, Int.reduceLT, Int.reduceLE, Int.reduceBEq, Int.reduceBNe, Int.reduceToNat, he', hp, e4]
          refine ⟨by rw [List.take_take, Nat.min_self], Xr.iff.2 ⟨g.adv i, ?_⟩⟩
          simp only [RS.adv, hk]
          rw [e1]
          simpa [e1] using hs'.set (o' := .row 3 [[v, .int .i64 ((s.a + i : Nat) : Int), .bool false]] 1)
  · have hk : s.ok n = false := by simp [RS.ok, he]
    have e1 : (s.err != 0) = true := by simp [he]
    refine t95 (Nat.le_of_ble_eq_true rfl) ?_
    simp (disch := omega) only [F95, hp, hl, e1, hk, go_sem, reduceCtorEq, ↓reduceIte, Nat.reduceEqDiff, Nat.reduceAdd, Nat.reduceSub, Nat.reduceMul, Nat.reduceLT, Nat.reduceLeDiff, Int.reduceEq, Int.reduceNe, Int.reduceLT, Int.reduceLE, Int.reduceBEq, Int.reduceBNe, Int.reduceToNat]
    exact hno hk

theorem xrU8 (hs : sat h (Xr p v s :: F)) (hE : ∀ h, sat h F → Bts h v s.b) :
    Triple Try.prog 53 [.ptr p 3 0 0] h (fun r h => r = .int .i64 (s.val 1) ∧ sat h (Xr p v (s.adv 1) :: F)) := by
  refine t53 (Nat.le_of_ble_eq_true rfl) ?_
  simp (disch := omega) only [F53, go_sem, reduceCtorEq, ↓reduceIte, Nat.reduceEqDiff, Nat.reduceAdd, Nat.reduceSub, Nat.reduceMul, Nat.reduceLT, Nat.reduceLeDiff, Int.reduceEq, Int.reduceNe, Int.reduceLT, Int.reduceLE, Int.reduceBEq, Int.reduceBNe, Int.reduceToNat]
  refine call_use (xNumR hs hE (n := 1) (by omega)) ?_
  rintro r h ⟨hr, hs⟩
  subst hr
  simp (disch := omega) only [go_sem, reduceCtorEq, ↓reduceIte, Nat.reduceEqDiff, Nat.reduceAdd, Nat.reduceSub, Nat.reduceMul, Nat.reduceLT, Nat.reduceLeDiff, Int.reduceEq, Int.reduceNe, Int.reduceLT, Int.reduceLE, Int.reduceBEq, Int.reduceBNe, Int.reduceToNat]
  refine ⟨?_, hs⟩
  unfold RS.val
  split <;> rfl
theorem xrU32 (hs : sat h (Xr p v s :: F)) (hE : ∀ h, sat h F → Bts h v s.b) :
    Triple Try.prog 94 [.ptr p 3 0 0] h (fun r h => r = .int .i64 (s.val 4) ∧ sat h (Xr p v (s.adv 4) :: F)) := by
  refine t94 (Nat.le_of_ble_eq_true rfl) ?_
  simp (disch := omega) only [F94, go_sem, reduceCtorEq, ↓reduceIte, Nat.reduceEqDiff, Nat.reduceAdd, Nat.reduceSub, Nat.reduceMul, Nat.reduceLT, Nat.reduceLeDiff, Int.reduceEq, Int.reduceNe, Int.reduceLT, Int.reduceLE, Int.reduceBEq, Int.reduceBNe, Int.reduceToNat]
  refine call_use (xNumR hs hE (n := 4) (by omega)) ?_
  rintro r h ⟨hr, hs⟩
  subst hr
  simp (disch := omega) only [go_sem, reduceCtorEq, ↓reduceIte, Nat.reduceEqDiff, Nat.reduceAdd, Nat.reduceSub, Nat.reduceMul, Nat.reduceLT, Nat.reduceLeDiff, Int.reduceEq, Int.reduceNe, Int.reduceLT, Int.reduceLE, Int.reduceBEq, Int.reduceBNe, Int.reduceToNat]
  refine ⟨?_, hs⟩
  unfold RS.val
  split <;> rfl
theorem xrInt (hs : sat h (Xr p v s :: F)) (hE : ∀ h, sat h F → Bts h v s.b) :
    Triple Try.prog 54 [.ptr p 3 0 0] h (fun r h => r = .int .i64 (s.val 8) ∧ sat h (Xr p v (s.adv 8) :: F)) := by
  refine t54 (Nat.le_of_ble_eq_true rfl) ?_
  simp (disch := omega) only [F54, go_sem, reduceCtorEq, ↓reduceIte, Nat.reduceEqDiff, Nat.reduceAdd, Nat.reduceSub, Nat.reduceMul, Nat.reduceLT, Nat.reduceLeDiff, Int.reduceEq, Int.reduceNe, Int.reduceLT, Int.reduceLE, Int.reduceBEq, Int.reduceBNe, Int.reduceToNat]
  refine call_use (xNumR hs hE (n := 8) (by omega)) ?_
  rintro r h ⟨hr, hs⟩
  subst hr
  simp (disch := omega) only [go_sem, reduceCtorEq, ↓reduceIte, Nat.reduceEqDiff, Nat.reduceAdd, Nat.reduceSub, Nat.reduceMul, Nat.reduceLT, Nat.reduceLeDiff, Int.reduceEq, Int.reduceNe, Int.reduceLT, Int.reduceLE, Int.reduceBEq, Int.reduceBNe, Int.reduceToNat]
  refine ⟨?_, hs⟩
  unfold RS.val
  split <;> rfl
theorem xrText (hs : sat h (Xr p v s :: F)) (hE : ∀ h, sat h F → Bts h v s.b) (hc : ∀ q s o l c, v = .arr q s o l c → l ≤ c) :
    Triple Try.prog 55 [.ptr p 3 0 0] h (fun r h => r = .str s.tx ∧ sat h (Xr p v s.atx :: F)) := by
  have ⟨g, hs'⟩ := Xr.iff.1 hs
  have ⟨g1, g2, g3⟩ := g
  have ⟨k1, k2⟩ := s.val_txk
  refine t55 (Nat.le_of_ble_eq_true rfl) ?_
  simp (disch := omega) only [F55, hs'.at, go_sem, reduceCtorEq, ↓reduceIte, Nat.reduceEqDiff, Nat.reduceAdd, Nat.reduceSub, Nat.reduceMul, Nat.reduceLT, Nat.reduceLeDiff, Int.reduceEq, Int.reduceNe, Int.reduceLT, Int.reduceLE, Int.reduceBEq, Int.reduceBNe, Int.reduceToNat]
  refine call_use (xrU32 hs hE) ?_
  rintro r h ⟨hr, hs⟩
  subst hr
  simp (disch := omega) only [go_sem, reduceCtorEq, ↓reduceIte, Nat.reduceEqDiff, Nat.reduceAdd, Nat.reduceSub, Nat.reduceMul, Nat.reduceLT, Nat.reduceLeDiff, Int.reduceEq, Int.reduceNe, Int.reduceLT, Int.reduceLE, Int.reduceBEq, Int.reduceBNe, Int.reduceToNat, k1]
  have ⟨g', hs'⟩ := Xr.iff.1 hs
  have hp := hs'.at
  have hv := hE _ hs.drop
  have hl := hv.len
  have ⟨g1', g2', g3'⟩ := g'
  have hb4 : (s.adv 4).b = s.b := rfl
  have g4 : (s.adv 4).a ≤ s.b.length := g1'
  have hno : (s.adv 4).ok s.txk = false → s.tx = [] ∧ ∀ h', h' = (h.set p (.row 3 [[v, .int .i64 s.a, .bool true]] 1)) → sat h' (Xr p v s.atx :: F) := by
    intro hk
    have e : s.atx = ⟨s.b, s.a, 8⟩ := by unfold RS.atx; rw [hk]; rfl
    refine ⟨by unfold RS.tx; rw [hk]; rfl, fun h' hh => ?_⟩
    subst hh
    rw [e]
    exact Xr.iff.2 ⟨⟨g1, g2, .inr rfl⟩, hs'.set⟩
  by_cases he : (s.adv 4).err = 0
  · have e1 : ((s.adv 4).err != 0) = false := by simp [he]
    simp (disch := omega) only [go_sem, reduceCtorEq, ↓reduceIte, Nat.reduceEqDiff, Nat.reduceAdd, Nat.reduceSub, Nat.reduceMul, Nat.reduceLT, Nat.reduceLeDiff, Int.reduceEq, Int.reduceNe, Int.reduceLT, Int.reduceLE, Int.reduceBEq, Int.reduceBNe, Int.reduceToNat, hp, hl, e1]
    refine cnd_dec (fun hc1 => ?_) (fun hc1 => ?_)
    · have hk : (s.adv 4).ok s.txk = false := by simp [RS.ok, he]; rw [hb4]; omega
      simp (disch := omega) only [go_sem, reduceCtorEq, ↓reduceIte, Nat.reduceEqDiff, Nat.reduceAdd, Nat.reduceSub, Nat.reduceMul, Nat.reduceLT, Nat.reduceLeDiff, Int.reduceEq, Int.reduceNe, Int.reduceLT, Int.reduceLE, Int.reduceBEq, Int.reduceBNe, Int.reduceToNat, hp]
      exact ⟨by rw [(hno hk).1], (hno hk).2 _ rfl⟩
    · have hk : (s.adv 4).ok s.txk = true := by simp [RS.ok, he]; rw [hb4]; omega
      have e4 : (((s.adv 4).a : Int) + s.txk) = (((s.adv 4).a + s.txk : Nat) : Int) := by omega
      have g5 : (s.adv 4).a + s.txk ≤ s.b.length := by
        have := (RS.ok_le hk).2
        rw [hb4] at this
        omega
      obtain ⟨x, hx1, hx2⟩ := els_slc hv .i64 .i64 (lo := (s.adv 4).a) (hi := (s.adv 4).a + s.txk) (by omega) (by simpa using g5) hc
      have h5 : (s.adv 4).a + s.txk - (s.adv 4).a = s.txk := by omega
      have h6 : List.take s.txk (List.drop (s.adv 4).a (List.map eb s.b)) = ((s.b.drop (s.adv 4).a).take s.txk).map eb := by simp
      rw [h5, h6] at hx2
      simp (disch := omega) only [go_sem, reduceCtorEq, ↓reduceIte, Nat.reduceEqDiff, Nat.reduceAdd, Nat.reduceSub, Nat.reduceMul, Nat.reduceLT, Nat.reduceLeDiff, Int.reduceEq, Int.reduceNe, Int.reduceLT, Int.reduceLE, Int.reduceBEq, Int.reduceBNe, Int.reduceToNat, hp, hl, e1, e4, hx1, Bts.bstr hx2]
      have e : s.atx = (s.adv 4).adv s.txk := by unfold RS.atx; rw [hk]; rfl
      refine ⟨by unfold RS.tx; rw [hk]; rfl, ?_⟩
      rw [e]
      refine Xr.iff.2 ⟨g'.adv _, ?_⟩
      have e8 : ((s.adv 4).adv s.txk).err = (s.adv 4).err := by
        show (if (s.adv 4).ok s.txk then _ else (8 : Int)) = _
        rw [hk]; rfl
      have e9 : ((s.adv 4).adv s.txk).a = (s.adv 4).a + s.txk := by
        show (if (s.adv 4).ok s.txk then _ else _) = _
        rw [hk]; rfl
      rw [e8, e9, e1]
      exact hs'.set
  · have e1 : ((s.adv 4).err != 0) = true := by simp [he]
    have hk : (s.adv 4).ok s.txk = false := by simp [RS.ok, he]
    simp (disch := omega) only [go_sem, reduceCtorEq, ↓reduceIte, Nat.reduceEqDiff, Nat.reduceAdd, Nat.reduceSub, Nat.reduceMul, Nat.reduceLT, Nat.reduceLeDiff, Int.reduceEq, Int.reduceNe, Int.reduceLT, Int.reduceLE, Int.reduceBEq, Int.reduceBNe, Int.reduceToNat, hp, hl, e1]
    exact ⟨by rw [(hno hk).1], (hno hk).2 _ rfl⟩
end
end Go.Proofs.Ytfbflmiipepmiaa
