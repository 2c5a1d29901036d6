/- The store: a write that begins; what it says of a key; a change laid down; Put. -/
import Derived.Test.YtaioncbpfckhaaaR4WatchApartLawPD
set_option linter.unusedSimpArgs false
set_option linter.unusedVariables false
set_option maxRecDepth 10000
namespace Go.Proofs.Ytaioncbpfckhaaa
open Go.Hz

abbrev WtP (w s : Nat) (A : Sto) (W : Wr) : Asr := WrP tp td w s A W
section
variable {h : Hp} {F : List Asr} {s w : Nat} {A : Sto} {o : AV} {W : Wr}

theorem mvWrite (hs : sat h (StP s A o :: F)) : Triple Try.prog 19 [.ptr s 7 0 0] h (fun r h => ∃ w, r = .ptr w 4 0 0 ∧ sat h (WtP w s A ⟨A.now, []⟩ :: StP s A (.ptr w 4 0 0) :: F)) := by
  obtain ⟨ix, vm, cv, L, X, hok, hs2⟩ := mvP.1 hs
  refine t19 (Nat.le_of_ble_eq_true rfl) ?_
  simp (disch := omega) only [F19, go_sem, simprocAttr]
  refine new_opq hs2 fun m h hs => ?_
  have hp := hs.p1.at
  simp (disch := omega) only [go_sem, simprocAttr, hp]
  refine new_opq hs fun w h hs => ?_
  have hp := hs.p2.at
  simp (disch := omega) only [go_sem, simprocAttr, hp]
  have hs3 : sat (h.set s (.row 7 [[.int .i64 A.rev, .int .i64 A.past, .int .i64 A.now.length, .ptr ix 2 0 0, .map vm, cv, .ptr w 4 0 0]] 1)) (pto s (.row 7 [[.int .i64 A.rev, .int .i64 A.past, .int .i64 A.now.length, .ptr ix 2 0 0, .map vm, cv, .ptr w 4 0 0]] 1) :: pto w (.row 4 [[.ptr s 7 0 0, .nils, .map m, .int .i64 A.now.length]] 1) :: pto m (.mp [] 0) :: IxP ix L :: Ow 2 cv (A.chs.map (verC tp td)) :: MpA (fun k : Key => AV.str k) Vn.key Vn.v vm X :: (X.map (VnP tp td) ++ F)) := hs.p2.set
  refine ⟨w, rfl, wrP.2 ⟨.nils, m, wrOK_nil A, ?_⟩⟩
  have hs4 := hs3.p2.p2
  exact hs4.tl fun _ h => (mpA_new (h.tl fun _ h => (mvP.2 ⟨ix, vm, cv, L, X, hok, h⟩ : sat _ (StP s A (.ptr w 4 0 0) :: F)))).add ow_nil
theorem mvClosed (hs : sat h (WtP w s A W :: StP s A (.ptr w 4 0 0) :: F)) : Triple Try.prog 35 [.ptr w 4 0 0] h (fun r h => r = .bool false ∧ sat h (WtP w s A W :: StP s A (.ptr w 4 0 0) :: F)) := by
  obtain ⟨lv, bm, hw, hs1⟩ := wrP.1 hs
  obtain ⟨ix, vm, cv, L, X, hok, hs2⟩ := mvP.1 hs1.p3
  have hp := hs2.at
  have hq := hs1.at
  refine t35 (Nat.le_of_ble_eq_true rfl) ?_
  simp (disch := omega) only [F35, hp, hq, go_sem, simprocAttr]
  exact hs
/-- What a write says of a key. -/
theorem mvNow {key : Key} (hs : sat h (WtP w s A W :: StP s A o :: F)) (hz : A.chs.length ≤ 100000000) : Triple Try.prog 37 [.ptr w 4 0 0, .str key] h (fun r h =>
    r = .tup [.agg (kvC ((kvget W.cur key).getD kv0)), .bool (kvget W.cur key).isSome] ∧ sat h (WtP w s A W :: StP s A o :: F)) := by
  have ok := MvP.ok hs.p1
  obtain ⟨lv, bm, hw, hs1⟩ := wrP.1 hs
  have mk : ∀ {h : Hp}, sat h (pto w (.row 4 [[.ptr s 7 0 0, lv, .map bm, .int .i64 W.cur.length]] 1) :: Ow 1 lv (W.l.map fun c => [chV tp td c]) :: MpA (fun k : Key => AV.str k) Ch.key (chV tp td) bm W.l :: StP s A o :: F) → sat h (WtP w s A W :: StP s A o :: F) := fun hs => wrP.2 ⟨lv, bm, hw, hs⟩
  refine t37 (Nat.le_of_ble_eq_true rfl) ?_
  simp (disch := omega) only [F37, go_sem, simprocAttr]
  refine new_opq hs1 fun a h hs => ?_
  have hp := hs.p1.at
  cases hc : wChg W key with
  | true =>
    obtain ⟨c, hcm, rfl⟩ := wChg_t hc
    have hl := lk_hit keyOK_str hs.p3 hw.nd hcm (ok := true) (z := .nili)
    have hnow := now_chg ok hw hcm
    rw [hnow]
    simp (disch := omega) only [go_sem, simprocAttr, hp, hl]
    cases c with
    | put kv =>
      simp (disch := omega) only [go_sem, simprocAttr, chV, taA, tp, td, kvC]
      refine new_opq hs fun y h hs => ?_
      have hy := hs.at
      have hs5 := hs.set (o' := .row 6 [kvC kv] 1)
      have hy5 := hs5.at
      have hb5 := hs5.p1.at
      simp only [kvC, kv0] at hy5 hb5 hs5
      simp (disch := omega) only [go_sem, simprocAttr, hy, hy5, hb5, kvC]
      exact ⟨rfl, mk hs5.p1.set.drop.drop⟩
    | del dk =>
      simp (disch := omega) only [go_sem, simprocAttr, chV, taA, tp, td, kvC]
      refine new_opq hs fun y h hs => ?_
      have hy := hs.at
      have hs5 := hs.set (o' := .row 6 [kvC kv0] 1)
      have hy5 := hs5.at
      have hb5 := hs5.p1.at
      simp only [kvC, kv0] at hy5 hb5 hs5
      simp (disch := omega) only [go_sem, simprocAttr, hy, hy5, hb5, kvC]
      exact ⟨rfl, mk hs5.p1.set.drop.drop⟩
  | false =>
    have hl := lk_miss keyOK_str hs.p3 (q := key) (wChg_f hc) (ok := true) (z := .nili)
    simp (disch := omega) only [go_sem, simprocAttr, hp, hl]
    obtain ⟨ix, vm, cv, L, X, hok, hs2⟩ := mvP.1 hs.p4
    have hq := hs2.at
    simp (disch := omega) only [go_sem, simprocAttr, hp, hq]
    refine call_use (mvAt (key := key) (rev := A.rev) hs.p4 hz) ?_
    rintro r h ⟨hr, hs⟩
    subst hr
    simp (disch := omega) only [go_sem, simprocAttr]
    have hv : vAt (A.vers key) A.rev = kvget W.cur key := by rw [vAt_at ok ok.rev, at_rev ok, now_same ok hw hc]
    rw [hv]
    have ha := hs.p1.at
    simp (disch := omega) only [go_sem, simprocAttr, ha, kvC]
    exact mk hs.p1.set.drop.p3.p3.p3
/-- A change, laid down. -/
theorem mvLay {c : Ch} {lv : AV} {bm : Nat} {n : Int} (hw : WrOK A W) (hs : sat h (pto w (.row 4 [[.ptr s 7 0 0, lv, .map bm, .int .i64 n]] 1) :: Ow 1 lv (W.l.map fun c => [chV tp td c]) :: MpA (fun k : Key => AV.str k) Ch.key (chV tp td) bm W.l :: F)) (hz : W.l.length ≤ 100000000) (hc : wChg W c.key = false) (hk : c.key ≠ [] ∧ c.key.length ≤ 100) (hd : c.kv = none → kvget W.cur c.key ≠ none) (hnum : ∀ kv, c = .put kv → kv.mod = A.rev + 1 ∧ KvIn (A.rev + 1) kv) : Triple Try.prog 38 [.ptr w 4 0 0, chV tp td c] h (fun r h =>
    ∃ lv, WrOK A ⟨done W.cur c, W.l ++ [c]⟩ ∧ sat h (pto w (.row 4 [[.ptr s 7 0 0, lv, .map bm, .int .i64 n]] 1) :: Ow 1 lv ((W.l ++ [c]).map fun c => [chV tp td c]) :: MpA (fun k : Key => AV.str k) Ch.key (chV tp td) bm (W.l ++ [c]) :: F)) := by
  have hp := hs.at
  have ca := chV_atom (tp := tp) (td := td) c
  have cc := chV_cells (tp := tp) (td := td) c
  refine t38 (Nat.le_of_ble_eq_true rfl) ?_
  simp (disch := omega) only [F38, hp, cc, ca, go_sem, simprocAttr]
  refine new_opq hs fun a h hs => ?_
  simp (disch := omega) only [go_sem, simprocAttr]
  refine app_sat hs.p2 (src_one hs.at) (atoms_one (by simp [ca])) (by simp; omega) fun v' h hs ca' aa => ?_
  have hp := hs.p2.at
  have hs2 := hs.p2.set (o' := .row 4 [[.ptr s 7 0 0, v', .map bm, .int .i64 n]] 1)
  have hp2 := hs2.at
  simp (disch := omega) only [go_sem, simprocAttr, hp, ca', aa, hp2]
  generalize Hp.set h w _ = h3 at hs2 hp2 ⊢
  refine inv_key hs2 c fun h hs => ?_
  have hp := hs.at
  simp (disch := omega) only [go_sem, simprocAttr, hp]
  refine mup_new keyOK_str hs.p3 (y := c) (wChg_f hc) fun h hs => ?_
  simp (disch := omega) only [go_sem, simprocAttr]
  refine ⟨v', hw.lay hc hk hd hnum, ?_⟩
  simpa using hs.p3.drop.p2.p2
theorem mvPut {key val : Key} {lease : Int} (hs : sat h (WtP w s A W :: StP s A (.ptr w 4 0 0) :: F)) (hz : A.chs.length ≤ 100000000) (hzl : W.l.length ≤ 100000000) (hzc : W.cur.length ≤ 200000000) (hr : A.rev ≤ 1000000000000000) :
    Triple Try.prog 21 [.ptr w 4 0 0, .str key, .str val, .int .i64 lease] h (fun r h => r = .int .i64 (wPut (A.rev + 1) W key val lease).1 ∧ sat h (WtP w s A (wPut (A.rev + 1) W key val lease).2 :: StP s A (.ptr w 4 0 0) :: F)) := by
  have ok := MvP.ok hs.p1
  have hw := WrP.ok hs
  have hpast := ok.past
  have hrev := ok.rev
  obtain ⟨lv, bm, _, hs1⟩ := wrP.1 hs
  have hp := hs1.at
  obtain ⟨tw, hl⟩ : ∃ v, lkA true true .nili h (.map bm) (.str key) = some (.tup [v, .bool (wChg W key)]) := by
    cases hc : wChg W key with
    | true =>
      obtain ⟨c, hcm, rfl⟩ := wChg_t hc
      exact ⟨_, lk_hit keyOK_str hs1.p2 hw.nd hcm⟩
    | false => exact ⟨_, lk_miss keyOK_str hs1.p2 (wChg_f hc)⟩
  refine t21 (Nat.le_of_ble_eq_true rfl) ?_
  simp (disch := omega) only [F21, hp, hl, go_sem, simprocAttr]
  refine call_use (mvNow (key := key) hs hz) ?_
  rintro r h ⟨hr, hs⟩
  subst hr
  simp (disch := omega) only [go_sem, simprocAttr]
  refine new_opq hs fun a h hs => ?_
  have ha := hs.at
  generalize hkv : (kvget W.cur key).getD kv0 = kv
  have hs2 := hs.set (o' := .row 6 [kvC kv] 1)
  have ha2 := hs2.at
  simp only [kvC] at hs2 ha2
  simp (disch := omega) only [go_sem, simprocAttr, ha, kvC]
  generalize Hp.set h a _ = h2 at hs2 ha2 ⊢
  by_cases k0 : key = []
  · subst k0
    have ef : wPut (A.rev + 1) W [] val lease = (1, W) := by simp [wPut]
    rw [ef]
    have e0 : (([] : List UInt8) == []) = true := rfl
    simp (disch := omega) only [go_sem, simprocAttr, e0]
    exact hs2.drop
  have e0 : (key == []) = false := by simpa using k0
  by_cases k1 : 100 < key.length
  · have ef : wPut (A.rev + 1) W key val lease = (1, W) := by simp [wPut, k1]
    rw [ef]
    simp (disch := omega) only [go_sem, simprocAttr, e0, show ((key.length : Int) > 100) = True by simp; omega]
    exact hs2.drop
  have e1 : ((key.length : Int) > 100) = False := by simp; omega
  by_cases k2 : lease < 0
  · have ef : wPut (A.rev + 1) W key val lease = (1, W) := by simp [wPut, k2]
    rw [ef]
    simp (disch := omega) only [go_sem, simprocAttr, e0, e1, k2]
    exact hs2.drop
  have hn1 : ¬ (key = [] ∨ 100 < key.length ∨ lease < 0) := by rintro (h | h | h); exact k0 h; exact k1 h; exact k2 h
  by_cases k3 : 4096 < val.length
  · have ef : wPut (A.rev + 1) W key val lease = (5, W) := by rw [wPut, if_neg hn1, if_pos k3]
    rw [ef]
    simp (disch := omega) only [go_sem, simprocAttr, e0, e1, k2, show ((val.length : Int) > 4096) = True by simp; omega]
    exact hs2.drop
  have e3 : ((val.length : Int) > 4096) = False := by simp; omega
  cases hchg : wChg W key with
  | true =>
    have ef : wPut (A.rev + 1) W key val lease = (18, W) := by rw [wPut, if_neg hn1, if_neg k3, if_pos hchg]
    rw [ef]
    simp (disch := omega) only [go_sem, simprocAttr, e0, e1, k2, e3, hchg]
    exact hs2.drop
  | false =>
  have hnc : ¬ wChg W key = true := by simp [hchg]
  obtain ⟨lv2, bm2, _, hs3⟩ := wrP.1 hs2.p1
  obtain ⟨ix, vm, cv, L, X, hok, hs4⟩ := mvP.1 hs2.p2
  have hp := hs3.at
  have hq := hs4.at
  cases hg : kvget W.cur key with
  | none =>
    rw [hg, Option.getD_none] at hkv
    subst hkv
    by_cases k4 : 4096 ≤ W.cur.length
    · have ef : wPut (A.rev + 1) W key val lease = (14, W) := by rw [wPut, if_neg hn1, if_neg k3, if_neg hnc, if_pos ⟨hg, k4⟩]
      rw [ef]
      simp (disch := omega) only [go_sem, simprocAttr, e0, e1, k2, e3, hchg, hg, Option.isSome_none, hp, show ((W.cur.length : Int) ≥ 4096) = True by simp; omega]
      exact hs2.drop
    have ef : wPut (A.rev + 1) W key val lease = (0, ⟨done W.cur (.put (wNew (A.rev + 1) W key val lease)), W.l ++ [.put (wNew (A.rev + 1) W key val lease)]⟩) := by rw [wPut, if_neg hn1, if_neg k3, if_neg hnc, if_neg (fun h => k4 h.2)]
    rw [ef]
    simp (disch := omega) only [go_sem, simprocAttr, e0, e1, k2, e3, hchg, hg, Option.isSome_none, hp, show ((W.cur.length : Int) ≥ 4096) = False by simp; omega]
    refine call_use (mvClosed hs2.p2.p2) ?_
    rintro r h ⟨hr, hs⟩
    subst hr
    simp (disch := omega) only [go_sem, simprocAttr, Option.isSome_none]
    obtain ⟨lv3, bm3, _, hs5⟩ := wrP.1 hs
    obtain ⟨ix, vm, cv, L, X, hok, hs6⟩ := mvP.1 hs5.p3
    have hp := hs5.at
    have hq := hs6.at
    have ha := hs5.p4.at
    simp (disch := omega) only [go_sem, simprocAttr, hp, hq, ha, Option.isSome_none]
    have hsA := hs5.p4.set (o' := .row 6 [[.str key, .str [], .int .i64 (A.rev + 1), .int .i64 0, .int .i64 0, .int .i64 0]] 1)
    have hwA := hsA.p1.at
    have haA := hsA.at
    generalize Hp.set h a _ = h4 at hsA hwA haA ⊢
    have hsB := hsA.p1.set (o' := .row 4 [[.ptr s 7 0 0, lv3, .map bm3, .int .i64 (W.cur.length + 1)]] 1)
    have haB := hsB.p1.at
    simp (disch := omega) only [go_sem, simprocAttr, hwA, haA, haB]
    generalize Hp.set h4 w _ = h5 at hsB haB ⊢
    have hsC := hsB.p1.set (o' := .row 6 [[.str key, .str val, .int .i64 (A.rev + 1), .int .i64 (A.rev + 1), .int .i64 1, .int .i64 lease]] 1)
    have hwn : wNew (A.rev + 1) W key val lease = ⟨key, val, A.rev + 1, A.rev + 1, 1, lease⟩ := by simp [wNew, hg]
    have hlay : Triple Try.prog 38 [.ptr w 4 0 0, chV tp td (.put ⟨key, val, A.rev + 1, A.rev + 1, 1, lease⟩)] _ _ := mvLay hw hsC.p4.p4.p4.p4 hzl (by rw [← hwn]; exact wNew_chg hchg) (by rw [← hwn]; exact wNew_len k0 (by omega)) (fun h => by cases h) (by rw [← hwn]; exact wNew_num ok hw hchg (by omega) (by omega))
    rw [hwn]
    refine call_use hlay ?_
    rintro r h ⟨lv4, hok', hs⟩
    simp (disch := omega) only [go_sem, simprocAttr]
    have hdl := done_len (c := .put ⟨key, val, A.rev + 1, A.rev + 1, 1, lease⟩) (hw.srt ok)
    rw [show (Ch.put ⟨key, val, A.rev + 1, A.rev + 1, 1, lease⟩).key = key from rfl, hg] at hdl
    have hdl2 : ((done W.cur (.put ⟨key, val, A.rev + 1, A.rev + 1, 1, lease⟩)).length : Int) = (W.cur.length : Int) + 1 := by rw [hdl]; simp [Ch.kv]
    refine wrP.2 ⟨lv4, bm3, hok', ?_⟩
    rw [hdl2]
    exact hs.p4.drop.p3.p3.p3.p3
  | some x =>
    rw [hg, Option.getD_some] at hkv
    subst hkv
    have ef : wPut (A.rev + 1) W key val lease = (0, ⟨done W.cur (.put (wNew (A.rev + 1) W key val lease)), W.l ++ [.put (wNew (A.rev + 1) W key val lease)]⟩) := by rw [wPut, if_neg hn1, if_neg k3, if_neg hnc, if_neg (fun h => by rw [hg] at h; cases h.1)]
    rw [ef]
    simp (disch := omega) only [go_sem, simprocAttr, e0, e1, k2, e3, hchg, hg, Option.isSome_some]
    refine call_use (mvClosed hs2.p2.p2) ?_
    rintro r h ⟨hr, hs⟩
    subst hr
    simp (disch := omega) only [go_sem, simprocAttr, Option.isSome_some]
    obtain ⟨lv3, bm3, _, hs5⟩ := wrP.1 hs
    obtain ⟨ix, vm, cv, L, X, hok, hs6⟩ := mvP.1 hs5.p3
    have hp := hs5.at
    have hq := hs6.at
    have ha := hs5.p4.at
    have hxm := cur_num ok hw x (kvget_some hg).1
    have hxk := (kvget_some hg).2
    unfold KvIn at hxm
    have hwn : wNew (A.rev + 1) W key val lease = ⟨key, val, x.create, A.rev + 1, x.ver + 1, lease⟩ := by simp [wNew, hg]
    simp (disch := omega) only [go_sem, simprocAttr, hp, hq, ha, Option.isSome_some]
    have hsC := hs5.p4.set (o' := .row 6 [[.str x.key, .str val, .int .i64 x.create, .int .i64 (A.rev + 1), .int .i64 (x.ver + 1), .int .i64 lease]] 1)
    rw [hxk] at hsC ⊢
    have hlay : Triple Try.prog 38 [.ptr w 4 0 0, chV tp td (.put ⟨key, val, x.create, A.rev + 1, x.ver + 1, lease⟩)] _ _ := mvLay hw hsC.p4.p4.p4.p4 hzl (by rw [← hwn]; exact wNew_chg hchg) (by rw [← hwn]; exact wNew_len k0 (by omega)) (fun h => by cases h) (by rw [← hwn]; exact wNew_num ok hw hchg (by omega) (by omega))
    rw [hwn]
    refine call_use hlay ?_
    rintro r h ⟨lv4, hok', hs⟩
    simp (disch := omega) only [go_sem, simprocAttr]
    have hdl := done_len (c := .put ⟨key, val, x.create, A.rev + 1, x.ver + 1, lease⟩) (hw.srt ok)
    rw [show (Ch.put ⟨key, val, x.create, A.rev + 1, x.ver + 1, lease⟩).key = key from rfl, hg] at hdl
    have hdl2 : (done W.cur (.put ⟨key, val, x.create, A.rev + 1, x.ver + 1, lease⟩)).length = W.cur.length := by rw [hdl]; simp [Ch.kv]
    refine wrP.2 ⟨lv4, bm3, hok', ?_⟩
    rw [hdl2]
    exact hs.p4.drop.p3.p3.p3.p3
end
end Go.Proofs.Ytaioncbpfckhaaa
/- slices: insertion sort. -/
set_option linter.unusedSimpArgs false
set_option linter.unusedVariables false
set_option maxRecDepth 10000
namespace Go.Proofs.Ytaioncbpfckhaaa
open Go.Hz Go.Sort

section
variable {h : Hp} {F : List Asr} {G : List AV → Prop} {lt : List AV → List AV → Bool}

end
end Go.Proofs.Ytaioncbpfckhaaa
/- slices: the pivot; reverseRange. -/
set_option linter.unusedSimpArgs false
set_option linter.unusedVariables false
set_option maxRecDepth 10000
namespace Go.Proofs.Ytaioncbpfckhaaa
open Go.Hz Go.Sort

section
variable {h : Hp} {F : List Asr} {G : List AV → Prop} {lt : List AV → List AV → Bool}

end
end Go.Proofs.Ytaioncbpfckhaaa
/- math/bits.Len, slices.nextPowerOfTwo, xorshift, breakPatterns. -/
set_option linter.unusedSimpArgs false
set_option linter.unusedVariables false
set_option maxRecDepth 10000
namespace Go.Proofs.Ytaioncbpfckhaaa
open Go.Hz Go.Sort

section
variable {h : Hp} {F : List Asr} {G : List AV → Prop} {lt : List AV → List AV → Bool}

end
end Go.Proofs.Ytaioncbpfckhaaa
/- slices: partial insertion sort, the partitions. -/
set_option linter.unusedSimpArgs false
set_option linter.unusedVariables false
set_option maxRecDepth 10000
namespace Go.Proofs.Ytaioncbpfckhaaa
open Go.Hz Go.Sort

section
variable {h : Hp} {F : List Asr} {G : List AV → Prop} {lt : List AV → List AV → Bool}

end
end Go.Proofs.Ytaioncbpfckhaaa
/- slices: the partitions. -/
set_option linter.unusedSimpArgs false
set_option linter.unusedVariables false
set_option maxRecDepth 10000
namespace Go.Proofs.Ytaioncbpfckhaaa
open Go.Hz Go.Sort

section
variable {h : Hp} {F : List Asr} {G : List AV → Prop} {lt : List AV → List AV → Bool}

end
end Go.Proofs.Ytaioncbpfckhaaa
/- slices: pdqsort. -/
set_option linter.unusedSimpArgs false
set_option linter.unusedVariables false
set_option maxRecDepth 10000
namespace Go.Proofs.Ytaioncbpfckhaaa
open Go.Hz Go.Sort

section
variable {h : Hp} {F : List Asr} {G : List AV → Prop} {lt : List AV → List AV → Bool}

end
end Go.Proofs.Ytaioncbpfckhaaa
/- slices.Sort, slices.Compact of strings. -/
set_option linter.unusedSimpArgs false
set_option linter.unusedVariables false
set_option maxRecDepth 10000
namespace Go.Proofs.Ytaioncbpfckhaaa
open Go.Hz Go.Sort

section
variable {h : Hp} {F : List Asr}
end
end Go.Proofs.Ytaioncbpfckhaaa
/- The store: the keys that a write sees. -/
set_option linter.unusedSimpArgs false
set_option linter.unusedVariables false
set_option maxRecDepth 10000
namespace Go.Proofs.Ytaioncbpfckhaaa
open Go.Hz

section
variable {h : Hp} {F : List Asr} {s w : Nat} {A : Sto} {o : AV} {W : Wr}
end
end Go.Proofs.Ytaioncbpfckhaaa
/- The store: a change is taken in; a write is done. -/
set_option linter.unusedSimpArgs false
set_option linter.unusedVariables false
set_option maxRecDepth 10000
namespace Go.Proofs.Ytaioncbpfckhaaa
open Go.Hz

section
variable {h : Hp} {F : List Asr} {s w : Nat} {A : Sto} {o : AV} {W : Wr} {n : Int}
theorem mvNoteG {v : Ver} (hs : sat h (MvN tp td s n A o :: F)) (hvr : inI v.rev) (hz : A.old.length + A.chs.length ≤ 90000000) : Triple Try.prog 39 [.ptr s 7 0 0, .agg (verC tp td v)] h (fun r h => ∃ ix vm cv L X, (StoOK (A.snoc v) → StoOK (A.snoc v) ∧ IxOK (A.snoc v) L ∧ VmOK (A.snoc v) X) ∧ sat h (MvLn tp td s ix vm cv o n (A.snoc v) L X ++ F)) := by
  obtain ⟨ix, vm, cv, L, X, hok, hs2⟩ := mvN.1 hs
  have hix := fun ok' : StoOK (A.snoc v) => ix_snoc ok' hok.2.1
  have ca := chV_atom (tp := tp) (td := td) v.c
  have cc := chV_cells (tp := tp) (td := td) v.c
  have e1 : (A.snoc v).rev = A.rev := rfl
  have e2 : (A.snoc v).past = A.past := rfl
  obtain ⟨kv, hta⟩ : ∃ kv : Kv, taA tp true (.agg [.str [], .str [], .int .i64 0, .int .i64 0, .int .i64 0, .int .i64 0]) (chV tp td v.c) = some (.tup [.agg (kvC kv), .bool v.c.kv.isSome]) := by
    cases v.c with
    | put kv => exact ⟨kv, rfl⟩
    | del k => exact ⟨kv0, rfl⟩
  have hta2 : taA 108 true (.agg [.str [], .str [], .int .i64 0, .int .i64 0, .int .i64 0, .int .i64 0]) (chV tp td v.c) = some (.tup [.agg (kvC kv), .bool v.c.kv.isSome]) := hta
  refine t39 (Nat.le_of_ble_eq_true rfl) ?_
  simp (disch := omega) only [F39, verC, ca, go_sem, simprocAttr]
  refine new_opq hs2 fun a h hs => ?_
  have ha := hs.at
  simp (disch := omega) only [go_sem, simprocAttr, ha, hta2, verC]
  refine new_opq hs fun b h hs => ?_
  have hb := hs.at
  have hs3 := hs.set (o' := .row 6 [kvC kv] 1)
  have ha := hs3.p1.at
  have hp := hs3.p2.at
  simp only [kvC, verC] at hs3 ha hp
  simp (disch := omega) only [go_sem, simprocAttr, hb, kvC, ha, hp]
  generalize Hp.set h b _ = h3 at hs3 ha hp ⊢
  refine inv_key hs3 v.c fun h hs => ?_
  have ha := hs.p1.at
  have hp := hs.p2.at
  simp (disch := omega) only [go_sem, simprocAttr, ha, hp]
  have hb1 : (!v.c.kv.isSome) = (mkV v).2 := by show _ = v.c.kv.isNone; cases v.c.kv <;> rfl
  rw [hb1]
  have hs4 : sat h (IxP ix L :: pto b (.row 6 [[.str kv.key, .str kv.val, .int .i64 kv.create, .int .i64 kv.mod, .int .i64 kv.ver, .int .i64 kv.lease]] 1) :: pto a (.row 2 [[.int .i64 v.rev, chV tp td v.c]] 1) :: pto s (.row 7 [[.int .i64 A.rev, .int .i64 A.past, .int .i64 n, .ptr ix 2 0 0, .map vm, cv, o]] 1) :: Ow 2 cv (A.chs.map (verC tp td)) :: MpA (fun k : Key => AV.str k) Vn.key Vn.v vm X :: (X.map (VnP tp td) ++ F)) := hs.p3
  have hLn := ix_num hok.2.1
  have hLl := ix_len hok.2.1
  refine call_use (ixPut (key := v.c.key) (m := mkV v) hs4 hok.2.1.1 (fun x hx => by have := hLl x hx; omega) (by omega) hvr) ?_
  rintro r h ⟨hr', hs⟩
  subst hr'
  have ha := hs.p2.at
  have hp := hs.p3.at
  simp (disch := omega) only [go_sem, simprocAttr, ha, hp]
  refine inv_key hs v.c fun h hs => ?_
  have ha := hs.p2.at
  have hp := hs.p3.at
  simp (disch := omega) only [go_sem, simprocAttr, ha, hp]
  refine inv_key hs v.c fun h hs => ?_
  have ha := hs.p2.at
  have hp := hs.p3.at
  by_cases hx : ∃ x ∈ X, x.key = v.c.key
  · obtain ⟨x, hx, hxk⟩ := hx
    have hl := lk_hit keyOK_str hs.p5 hok.2.2.1 hx (ok := false) (z := .nils)
    simp only [Bool.false_eq_true, if_false] at hl
    rw [hxk] at hl
    simp (disch := omega) only [go_sem, simprocAttr, ha, hp, hl, ca]
    refine new_opq hs fun n2 h hs => ?_
    obtain ⟨l1, l2, rfl⟩ := List.append_of_mem hx
    have hs5 : sat h ((pto n2 (.row 2 [[.int .i64 v.rev, chV tp td v.c]] 1) :: IxP ix (putL L v.c.key (mkV v)) :: pto b (.row 6 [[.str kv.key, .str kv.val, .int .i64 kv.create, .int .i64 kv.mod, .int .i64 kv.ver, .int .i64 kv.lease]] 1) :: pto a (.row 2 [[.int .i64 v.rev, chV tp td v.c]] 1) :: pto s (.row 7 [[.int .i64 A.rev, .int .i64 A.past, .int .i64 n, .ptr ix 2 0 0, .map vm, cv, o]] 1) :: Ow 2 cv (A.chs.map (verC tp td)) :: MpA (fun k : Key => AV.str k) Vn.key Vn.v vm (l1 ++ x :: l2) :: l1.map (VnP tp td)) ++ VnP tp td x :: (l2.map (VnP tp td) ++ F)) := by simpa using hs
    have hs6 : sat h (VnP tp td x :: pto n2 (.row 2 [[.int .i64 v.rev, chV tp td v.c]] 1) :: IxP ix (putL L v.c.key (mkV v)) :: pto b (.row 6 [[.str kv.key, .str kv.val, .int .i64 kv.create, .int .i64 kv.mod, .int .i64 kv.ver, .int .i64 kv.lease]] 1) :: pto a (.row 2 [[.int .i64 v.rev, chV tp td v.c]] 1) :: pto s (.row 7 [[.int .i64 A.rev, .int .i64 A.past, .int .i64 n, .ptr ix 2 0 0, .map vm, cv, o]] 1) :: Ow 2 cv (A.chs.map (verC tp td)) :: MpA (fun k : Key => AV.str k) Vn.key Vn.v vm (l1 ++ x :: l2) :: (l1.map (VnP tp td) ++ (l2.map (VnP tp td) ++ F))) := hs5.mid
    have hxv := (hok.2.2.2.1 x (by simp)).1
    have hxl := vers_le (A := A) x.key
    rw [← hxv] at hxl
    simp (disch := omega) only [go_sem, simprocAttr]
    refine app_satO (s := 2) hs6 (src_one hs6.p1.at) (atoms_one (by simp only [List.all_cons, List.all_nil, atom_int, ca, Bool.and_self])) (by simp; omega) fun v' h hs ca' aa => ?_
    have hp := hs.p5.at
    simp (disch := omega) only [go_sem, simprocAttr, hp, ca', aa]
    rw [← hxk]
    refine mup_set keyOK_str hs.p7 hok.2.2.1 (x := x) (y := (⟨x.key, v', x.vs ++ [v]⟩ : Vn)) (by simp) rfl fun h hs => ?_
    have hX' : ((l1 ++ x :: l2).map fun z => if z.key = x.key then (⟨x.key, v', x.vs ++ [v]⟩ : Vn) else z) = l1 ++ ⟨x.key, v', x.vs ++ [v]⟩ :: l2 := by
      have hnd := hok.2.2.1
      rw [List.map_append, List.map_cons, List.nodup_append, List.nodup_cons] at hnd
      rw [List.map_append, List.map_cons, if_pos rfl]
      congr 1
      · exact (List.map_congr_left fun z hz => if_neg fun e : z.key = x.key => hnd.2.2 _ (List.mem_map_of_mem hz) _ (by simp) e).trans (List.map_id _)
      · congr 1
        exact (List.map_congr_left fun z hz => if_neg fun e : z.key = x.key => hnd.2.1.1 (e ▸ List.mem_map_of_mem hz)).trans (List.map_id _)
    rw [hX'] at hs
    have ha := hs.p5.at
    have hp := hs.p6.at
    simp (disch := omega) only [go_sem, simprocAttr, ha, hp, ca]
    refine new_opq hs fun n3 h hs => ?_
    simp (disch := omega) only [go_sem, simprocAttr]
    refine app_sat hs.p8 (src_one hs.at) (atoms_one (by simp only [List.all_cons, List.all_nil, atom_int, ca, Bool.and_self])) (by simp; omega) fun cv' h hs ca2 aa2 => ?_
    have hp := hs.p8.at
    simp (disch := omega) only [go_sem, simprocAttr, hp, ca2, aa2]
    refine ⟨ix, vm, cv', putL L v.c.key (mkV v), l1 ++ ⟨x.key, v', x.vs ++ [v]⟩ :: l2, fun ok' => ⟨ok', hix ok', vmOK_old hok.2.2 hxk⟩, ?_⟩
    have hs7 := hs.p8.set (o' := .row 7 [[.int .i64 A.rev, .int .i64 A.past, .int .i64 n, .ptr ix 2 0 0, .map vm, cv', o]] 1)
    have t1 : (A.snoc v).chs.map (verC tp td) = A.chs.map (verC tp td) ++ [[.int .i64 v.rev, chV tp td v.c]] := by simp [Sto.snoc, verC]
    rw [← t1] at hs7
    have t2 : VnP tp td ⟨x.key, v', x.vs ++ [v]⟩ = Ow 2 v' (x.vs.map (verC tp td) ++ [[.int .i64 v.rev, chV tp td v.c]]) := by simp [VnP, verC]
    rw [← t2] at hs7
    have hs8 := hs7.p2.drop.p4.drop.p5.drop.p5.drop.p2.p2.p4.p3.p4
    have hs9 := sat.unmid (l1 := [pto s (.row 7 [[.int .i64 A.rev, .int .i64 A.past, .int .i64 n, .ptr ix 2 0 0, .map vm, cv', o]] 1), IxP ix (putL L v.c.key (mkV v)), Ow 2 cv' ((A.snoc v).chs.map (verC tp td)), MpA (fun k : Key => AV.str k) Vn.key Vn.v vm (l1 ++ ⟨x.key, v', x.vs ++ [v]⟩ :: l2)] ++ l1.map (VnP tp td)) (l2 := l2.map (VnP tp td) ++ F) hs8
    simpa [MvLn, e1, e2] using hs9
  · have hl := lk_miss keyOK_str hs.p5 (q := v.c.key) (fun x h1 h2 => hx ⟨x, h1, h2⟩) (ok := false) (z := .nils)
    simp only [Bool.false_eq_true, if_false] at hl
    simp (disch := omega) only [go_sem, simprocAttr, ha, hp, hl, ca]
    refine new_opq hs fun n2 h hs => ?_
    simp (disch := omega) only [go_sem, simprocAttr]
    have hs6 : sat h (Ow 2 .nils [] :: pto n2 (.row 2 [[.int .i64 v.rev, chV tp td v.c]] 1) :: _) := hs.add ow_nil
    refine app_satO (s := 2) hs6 (src_one hs6.p1.at) (atoms_one (by simp only [List.all_cons, List.all_nil, atom_int, ca, Bool.and_self])) (by simp) fun v' h hs ca' aa => ?_
    have hp := hs.p5.at
    simp (disch := omega) only [go_sem, simprocAttr, hp, ca', aa]
    refine mup_new keyOK_str hs.p7 (y := (⟨v.c.key, v', [v]⟩ : Vn)) (fun x h1 h2 => hx ⟨x, h1, h2⟩) fun h hs => ?_
    have ha := hs.p5.at
    have hp := hs.p6.at
    simp (disch := omega) only [go_sem, simprocAttr, ha, hp, ca]
    refine new_opq hs fun n3 h hs => ?_
    simp (disch := omega) only [go_sem, simprocAttr]
    refine app_sat hs.p8 (src_one hs.at) (atoms_one (by simp only [List.all_cons, List.all_nil, atom_int, ca, Bool.and_self])) (by simp; omega) fun cv' h hs ca2 aa2 => ?_
    have hp := hs.p8.at
    simp (disch := omega) only [go_sem, simprocAttr, hp, ca2, aa2]
    refine ⟨ix, vm, cv', putL L v.c.key (mkV v), X ++ [⟨v.c.key, v', [v]⟩], fun ok' => ⟨ok', hix ok', vmOK_new hok.2.2 (fun x h1 h2 => hx ⟨x, h1, h2⟩)⟩, ?_⟩
    have hs7 := hs.p8.set (o' := .row 7 [[.int .i64 A.rev, .int .i64 A.past, .int .i64 n, .ptr ix 2 0 0, .map vm, cv', o]] 1)
    have t1 : (A.snoc v).chs.map (verC tp td) = A.chs.map (verC tp td) ++ [[.int .i64 v.rev, chV tp td v.c]] := by simp [Sto.snoc, verC]
    rw [← t1] at hs7
    have t2 : VnP tp td ⟨v.c.key, v', [v]⟩ = Ow 2 v' ([] ++ [[.int .i64 v.rev, chV tp td v.c]]) := by simp [VnP, verC]
    rw [← t2] at hs7
    have hs8 := hs7.p2.drop.p4.drop.p5.drop.p5.drop.p2.p2.p4.p3.p4
    have hs9 := sat.unmid (l1 := [pto s (.row 7 [[.int .i64 A.rev, .int .i64 A.past, .int .i64 n, .ptr ix 2 0 0, .map vm, cv', o]] 1), IxP ix (putL L v.c.key (mkV v)), Ow 2 cv' ((A.snoc v).chs.map (verC tp td)), MpA (fun k : Key => AV.str k) Vn.key Vn.v vm (X ++ [⟨v.c.key, v', [v]⟩])] ++ X.map (VnP tp td)) (l2 := F) hs8
    simpa [MvLn, e1, e2] using hs9
theorem mvNote {v : Ver} (hs : sat h (MvN tp td s n A o :: F)) (ok' : StoOK (A.snoc v)) (hz : A.old.length + A.chs.length ≤ 90000000) (hr : A.rev ≤ 1000000000000000) : Triple Try.prog 39 [.ptr s 7 0 0, .agg (verC tp td v)] h (fun r h => sat h (MvN tp td s n (A.snoc v) o :: F)) := by
  have hvr := ok'.chr v (by simp [Sto.snoc])
  have hpa := ok'.past
  have e1 : (A.snoc v).rev = A.rev := rfl
  have e2 : (A.snoc v).past = A.past := rfl
  exact (mvNoteG hs (by unfold inI; omega) hz).mono fun r h ⟨ix, vm, cv, L, X, h1, h2⟩ => mvN.2 ⟨ix, vm, cv, L, X, h1 ok', h2⟩
end
end Go.Proofs.Ytaioncbpfckhaaa
/- The store: a write is done; keys are deleted. -/
set_option linter.unusedSimpArgs false
set_option linter.unusedVariables false
set_option maxRecDepth 10000
namespace Go.Proofs.Ytaioncbpfckhaaa
open Go.Hz

section
variable {h : Hp} {F : List Asr} {s w : Nat} {A : Sto} {o : AV} {W : Wr}
theorem mvDone (hs : sat h (WtP w s A W :: StP s A (.ptr w 4 0 0) :: F)) (hz : A.old.length + A.chs.length + W.l.length ≤ 80000000) (hr : A.rev ≤ 100000000000000) : Triple Try.prog 23 [.ptr w 4 0 0] h (fun r h => r = .int .i64 (stDone A W).rev ∧ sat h (StP s (stDone A W) .nilp :: F)) := by
  have ok := MvP.ok hs.p1
  have hpa := ok.past
  have hre := ok.rev
  obtain ⟨lv0, bm0, hw, hs0⟩ := wrP.1 hs
  have hp0 := hs0.at
  refine t23 (Nat.le_of_ble_eq_true rfl) ?_
  simp (disch := omega) only [F23, hp0, go_sem, simprocAttr]
  refine call_use (mvClosed hs) ?_
  rintro r h ⟨hr, hs⟩
  subst hr
  simp (disch := omega) only [go_sem, simprocAttr]
  obtain ⟨lv, bm, _, hs1⟩ := wrP.1 hs
  obtain ⟨ix, vm, cv, L, X, hok, hs2⟩ := mvP.1 hs1.p3
  have hq := hs2.at
  have hs3 : sat h (pto s (.row 7 [[.int .i64 A.rev, .int .i64 A.past, .int .i64 A.now.length, .ptr ix 2 0 0, .map vm, cv, .ptr w 4 0 0]] 1) :: IxP ix L :: Ow 2 cv (A.chs.map (verC tp td)) :: MpA (fun k : Key => AV.str k) Vn.key Vn.v vm X :: (X.map (VnP tp td) ++ (pto w (.row 4 [[.ptr s 7 0 0, lv, .map bm, .int .i64 W.cur.length]] 1) :: Ow 1 lv (W.l.map fun c => [chV tp td c]) :: MpA (fun k : Key => AV.str k) Ch.key (chV tp td) bm W.l :: F))) := hs2
  have hs4 := hs3.set (o' := .row 7 [[.int .i64 A.rev, .int .i64 A.past, .int .i64 A.now.length, .ptr ix 2 0 0, .map vm, cv, .nilp]] 1)
  have mk : ∀ {h : Hp}, sat h (pto s (.row 7 [[.int .i64 A.rev, .int .i64 A.past, .int .i64 A.now.length, .ptr ix 2 0 0, .map vm, cv, .nilp]] 1) :: IxP ix L :: Ow 2 cv (A.chs.map (verC tp td)) :: MpA (fun k : Key => AV.str k) Vn.key Vn.v vm X :: (X.map (VnP tp td) ++ (pto w (.row 4 [[.ptr s 7 0 0, lv, .map bm, .int .i64 W.cur.length]] 1) :: Ow 1 lv (W.l.map fun c => [chV tp td c]) :: MpA (fun k : Key => AV.str k) Ch.key (chV tp td) bm W.l :: F))) →
      sat h (StP s A .nilp :: pto w (.row 4 [[.ptr s 7 0 0, lv, .map bm, .int .i64 W.cur.length]] 1) :: Ow 1 lv (W.l.map fun c => [chV tp td c]) :: MpA (fun k : Key => AV.str k) Ch.key (chV tp td) bm W.l :: F) := fun hs => mvP.2 ⟨ix, vm, cv, L, X, hok, hs⟩
  have hs5 := mk hs4
  have hw5 := hs5.p1.at
  have hlv := hs5.p2.els.len
  rw [List.length_map] at hlv
  have hsq := hs4.at
  simp (disch := omega) only [go_sem, simprocAttr, hq, hw5, hlv]
  by_cases hl : W.l = []
  · have e0 : ((W.l.length : Int) == 0) = true := by rw [hl]; rfl
    have ef : stDone A W = A := by rw [stDone, if_pos hl]
    rw [ef]
    simp (disch := omega) only [go_sem, simprocAttr, e0, hsq]
    exact hs5.p1.drop.p1.drop.p1.drop
  have e0 : ((W.l.length : Int) == 0) = false := by
    have := List.length_pos_iff.2 hl
    simp; omega
  have okd := stDone_ok ok hw
  have ed : stDone A W = ⟨A.rev + 1, A.past, A.old, A.chs ++ W.l.map fun c => ⟨A.rev + 1, c⟩⟩ := by rw [stDone, if_neg hl]
  have hnow := stDone_now hw
  rw [ed] at okd hnow ⊢
  have ok0 : StoOK ⟨A.rev + 1, A.past, A.old, A.chs⟩ := stOK_front okd
  have mkN : ∀ {h : Hp} {n : Int}, sat h (pto s (.row 7 [[.int .i64 (A.rev + 1), .int .i64 A.past, .int .i64 n, .ptr ix 2 0 0, .map vm, cv, .nilp]] 1) :: IxP ix L :: Ow 2 cv (A.chs.map (verC tp td)) :: MpA (fun k : Key => AV.str k) Vn.key Vn.v vm X :: (X.map (VnP tp td) ++ (pto w (.row 4 [[.ptr s 7 0 0, lv, .map bm, .int .i64 W.cur.length]] 1) :: Ow 1 lv (W.l.map fun c => [chV tp td c]) :: MpA (fun k : Key => AV.str k) Ch.key (chV tp td) bm W.l :: F))) →
      sat h (MvN tp td s n ⟨A.rev + 1, A.past, A.old, A.chs⟩ .nilp :: pto w (.row 4 [[.ptr s 7 0 0, lv, .map bm, .int .i64 W.cur.length]] 1) :: Ow 1 lv (W.l.map fun c => [chV tp td c]) :: MpA (fun k : Key => AV.str k) Ch.key (chV tp td) bm W.l :: F) := fun hs => mvN.2 ⟨ix, vm, cv, L, X, ⟨ok0, hok.2.1, hok.2.2⟩, hs⟩
  generalize Hp.set h s _ = h4 at hs4 hs5 hw5 hsq ⊢
  have hs6 := hs4.set (o' := .row 7 [[.int .i64 (A.rev + 1), .int .i64 A.past, .int .i64 A.now.length, .ptr ix 2 0 0, .map vm, cv, .nilp]] 1)
  have hw6 := (mkN hs6).p1.at
  have hs7 := hs6.set (o' := .row 7 [[.int .i64 (A.rev + 1), .int .i64 A.past, .int .i64 W.cur.length, .ptr ix 2 0 0, .map vm, cv, .nilp]] 1)
  have hs8 := mkN hs7
  have hw8 := hs8.p1.at
  rw [Hp.set_set] at hs8 hw8
  simp (disch := omega) only [go_sem, simprocAttr, e0, hsq, hw6, hw8, hlv]
  generalize Hp.set h4 s _ = h5 at hs8 hw8 ⊢
  rcases hs8.p2.cases with ⟨_, hn0, _⟩ | ⟨b, cap, hv, hs9, hle⟩
  · exact absurd (List.map_eq_nil_iff.1 hn0) hl
  subst hv
  have hll : (W.l.map fun c => [chV tp td c]).length = W.l.length := by simp
  rw [hll] at hle
  simp only [hll]
  refine run_up (N := W.l.length) (fun i e h => sat h (MvN tp td s W.cur.length ⟨A.rev + 1, A.past, A.old, A.chs ++ (W.l.take i).map fun c => ⟨A.rev + 1, c⟩⟩ .nilp :: pto b (.row 1 (W.l.map fun c => [chV tp td c]) cap) :: F) ∧
    (e 3 = .ptr s 7 0 0 ∧ e 46 = .arr b 1 0 W.l.length cap ∧ e 47 = .int .i64 W.l.length ∧ e 48 = .int .i64 i)) ⟨?_, rfl, rfl, rfl, rfl⟩ ?_
  · have : A.chs ++ ((W.l.take 0).map fun c => (⟨A.rev + 1, c⟩ : Ver)) = A.chs := by simp
    rw [this]
    exact hs9.p2.drop.p2.drop.p1
  clear hs hs0 hs1 hs2 hs3 hs4 hs5 hs6 hs7 hs8 hs9 hp0 hw5 hw6 hw8 hsq hq
  rintro i e h hi ⟨hs, he⟩
  have m1 : (i : Int) + 1 = ((i + 1 : Nat) : Int) := by omega
  simp (disch := omega) only [go_sem, simprocAttr, he]
  refine cnd_dec (fun h1 => ?_) (fun h1 => ?_)
  · have hi : i < W.l.length := by omega
    have hb := hs.p1.at
    have hrow : (W.l.map fun c => [chV tp td c])[i]? = some [chV tp td W.l[i]] := by simp [hi]
    obtain ⟨ix', vm', cv', L', X', hok', hs2⟩ := mvN.1 hs
    have hq := hs2.at
    simp (disch := omega) only [go_sem, simprocAttr, he, hb, hrow, hq, Int.toNat_natCast]
    have hsn : (⟨A.rev + 1, A.past, A.old, A.chs ++ (W.l.take i).map fun c => ⟨A.rev + 1, c⟩⟩ : Sto).snoc ⟨A.rev + 1, W.l[i]⟩ = ⟨A.rev + 1, A.past, A.old, A.chs ++ (W.l.take (i + 1)).map fun c => ⟨A.rev + 1, c⟩⟩ := by
      unfold Sto.snoc
      rw [List.take_succ_eq_append_getElem hi]
      simp only [List.map_append, List.map_cons, List.map_nil, List.append_assoc]
    have hok2 : StoOK ⟨A.rev + 1, A.past, A.old, A.chs ++ (W.l.take (i + 1)).map fun c => ⟨A.rev + 1, c⟩⟩ := by
      have h2 : (A.chs ++ W.l.map fun c => (⟨A.rev + 1, c⟩ : Ver)) = (A.chs ++ (W.l.take (i + 1)).map fun c => (⟨A.rev + 1, c⟩ : Ver)) ++ (W.l.drop (i + 1)).map fun c => (⟨A.rev + 1, c⟩ : Ver) := by
        rw [List.append_assoc, ← List.map_append, List.take_append_drop]
      rw [h2] at okd
      exact stOK_front okd
    have hcc := chV_cells (tp := tp) (td := td) W.l[i]
    have hn := mvNote (v := ⟨A.rev + 1, W.l[i]⟩) hs (by rw [hsn]; exact hok2) (by simp only [List.length_append, List.length_map, List.length_take]; omega) (by show A.rev + 1 ≤ _; omega)
    rw [hsn] at hn
    have hca := chV_atom (tp := tp) (td := td) W.l[i]
    simp (disch := omega) only [go_sem, simprocAttr, hcc, hca]
    refine call_use hn ?_
    intro r h hs
    simp (disch := omega) only [go_sem, simprocAttr, he, m1]
    exact ⟨by omega, hs⟩
  · have hi : i = W.l.length := by omega
    subst hi
    rw [List.take_length] at hs
    obtain ⟨ix', vm', cv', L', X', hok', hs2⟩ := mvN.1 hs
    have hq := hs2.at
    simp (disch := omega) only [go_sem, simprocAttr, he, hq]
    rw [← hnow] at hs
    exact hs.d1
end
end Go.Proofs.Ytaioncbpfckhaaa
/- within, the chapter's example. -/
set_option linter.unusedSimpArgs false
set_option linter.unusedVariables false
set_option maxRecDepth 10000
namespace Go.Proofs.Ytaioncbpfckhaaa
open Go.Hz

def KA (i : Nat) : Sto := ⟨i, 0, [], (List.range i).map fun (j : Nat) => ⟨(j : Int) + 1, .put ⟨[97], [120], 1, (j : Int) + 1, (j : Int) + 1, 0⟩⟩⟩
theorem KA_step0 : stDone (KA 0) (wPut ((KA 0).rev + 1) ⟨(KA 0).now, []⟩ [97] [120] 0).2 = KA 1 := by rfl
theorem KA_step1 : stDone (KA 1) (wPut ((KA 1).rev + 1) ⟨(KA 1).now, []⟩ [97] [120] 0).2 = KA 2 := by rfl
section
variable {h : Hp} {F : List Asr}
end
end Go.Proofs.Ytaioncbpfckhaaa
/- Watchers: the chapter's example, a put of a key, within. -/
set_option linter.unusedSimpArgs false
set_option linter.unusedVariables false
set_option maxRecDepth 10000
namespace Go.Proofs.Ytaioncbpfckhaaa
open Go.Hz

/-- A number from 0 to n - 1. -/
theorem within13 {h : Hp} {F : List Asr} (hs : sat h F) {a : Int} {n : Nat} (h1 : -9223372036854775808 ≤ a) (h2 : a ≤ 9223372036854775807) (hn : 0 < n) (hn2 : n ≤ 4611686018427387904) :
    Triple Try.prog 12 [.int .i64 a, .int .i64 n] h (fun r h => ∃ k : Nat, r = .int .i64 k ∧ (k : Int) = a % n ∧ k < n ∧ sat h F) := by
  have m1 := Int.tmod_lt_of_pos a (b := n) (by omega)
  have m2 : -(n : Int) < a.tmod n := by
    have := Int.tmod_lt_of_pos (-a) (b := n) (by omega)
    rw [Int.neg_tmod] at this
    omega
  have hn0 : ¬ (n : Int) = 0 := by omega
  have e := Int.mul_tdiv_add_tmod a n
  have em : a % n = (a.tmod n) % n := by
    conv => lhs; rw [← e]
    rw [Int.mul_add_emod_self_left]
  refine t12 (Nat.le_of_ble_eq_true rfl) ?_
  simp (disch := omega) only [F12, hn0, go_sem, simprocAttr]
  refine cnd_dec (fun hc => ?_) (fun hc => ?_)
  · simp (disch := omega) only [go_sem, simprocAttr]
    refine ⟨(a.tmod n + n).toNat, by congr 1; omega, ?_, by omega, hs⟩
    rw [em, ← Int.add_emod_right, Int.emod_eq_of_lt (by omega) (by omega)]
    omega
  · simp (disch := omega) only [go_sem, simprocAttr]
    refine ⟨(a.tmod n).toNat, by congr 1; omega, ?_, by omega, hs⟩
    rw [em, Int.emod_eq_of_lt (by omega) (by omega)]
    omega
section
variable {h : Hp} {F : List Asr} {s : Nat} {A : Sto} {o : AV}
theorem put13 {k : Key} (hs : sat h (StP s A o :: F)) (hz : A.old.length + A.chs.length ≤ 40000000) (hr : A.rev ≤ 1000000000000) :
    Triple Try.prog 11 [.ptr s 7 0 0, .str k] h (fun r h => sat h (StP s (stDone A (wPut (A.rev + 1) ⟨A.now, []⟩ k [118] 0).2) .nilp :: F)) := by
  have hnl : A.now.length ≤ A.old.length + A.chs.length := by
    have := doneL_le (cs := A.chs.map Ver.c) (l := A.old)
    rw [List.length_map] at this
    exact this
  refine t11 (Nat.le_of_ble_eq_true rfl) ?_
  simp (disch := omega) only [F11, go_sem, simprocAttr]
  refine call_use (mvWrite hs) ?_
  rintro r h ⟨w, hr', hs⟩
  subst hr'
  simp (disch := omega) only [go_sem, simprocAttr]
  refine call_use (mvPut (key := k) (val := [118]) (lease := 0) hs (by omega) (by simp) (by show A.now.length ≤ _; omega) (by omega)) ?_
  rintro r h ⟨hr', hs⟩
  subst hr'
  simp (disch := omega) only [go_sem, simprocAttr]
  refine call_use (mvDone hs ?_ (by omega)) ?_
  · have : (wPut (A.rev + 1) ⟨A.now, []⟩ k [118] 0).2.l.length ≤ 1 := by
      unfold wPut; split <;> (try split) <;> (try split) <;> (try split) <;> simp
    omega
  rintro r h ⟨hr', hs⟩
  subst hr'
  simp (disch := omega) only [go_sem, simprocAttr]
  exact hs
def X1 : List Wc := [⟨1, [97], [], 1, .behind⟩]
theorem KA_poll : (hPoll (KA 2) X1 1 10).1 = ((KA 2).chs, 0) := by decide
theorem hbOK0 : HbOK 0 [] := ⟨List.nodup_nil, fun _ h => (by cases h), fun _ h => (by cases h), fun _ h => (by cases h)⟩
theorem known13 (hs : sat h F) : Triple Try.prog 7 [] h (fun r h => r = .bool true ∧ sat h F) := by
  refine t7 (Nat.le_of_ble_eq_true rfl) ?_
  simp (disch := omega) only [F7, go_sem, simprocAttr]
  refine call_use (mvNew hs) ?_
  rintro r h ⟨s, hr, hs⟩
  subst hr
  simp (disch := omega) only [go_sem, simprocAttr]
  refine call_use (hbNew (s := s) hs) ?_
  rintro r h ⟨hb, hr, hs⟩
  subst hr
  simp (disch := omega) only [go_sem, simprocAttr]
  refine blk_join (Q := fun e h => ∃ o, sat h (StP s (KA 2) o :: HbP hb s 0 [] :: F) ∧ (e 1 = .ptr s 7 0 0 ∧ e 2 = .ptr hb 3 0 0)) ?_ ?_
  · refine run_up (N := 2) (fun i e h => ∃ o, sat h (StP s (KA i) o :: HbP hb s 0 [] :: F) ∧ (e 1 = .ptr s 7 0 0 ∧ e 2 = .ptr hb 3 0 0 ∧ e 3 = .int .i64 i)) ⟨.nilp, hs.p1, rfl, rfl, rfl⟩ ?_
    clear hs
    rintro i e h hi ⟨o, hs, he⟩
    have m1 : (i : Int) + 1 = ((i + 1 : Nat) : Int) := by omega
    simp (disch := omega) only [go_sem, simprocAttr, he, m1]
    refine cnd_dec (fun h1 => ?_) (fun h1 => ?_)
    · have hi : i < 2 := by omega
      simp (disch := omega) only [go_sem, simprocAttr, he]
      refine call_use (mvWrite hs) ?_
      rintro r h ⟨w, hr, hs⟩
      subst hr
      simp (disch := omega) only [go_sem, simprocAttr, he]
      have hKl : (KA i).chs.length = i := by simp [KA]
      have hKn : (KA i).now.length ≤ i := by
        have := doneL_le (cs := (KA i).chs.map Ver.c) (l := (KA i).old)
        rw [List.length_map, hKl] at this
        simpa [Sto.now, KA] using this
      refine call_use (mvPut (key := [97]) (val := [120]) (lease := 0) hs (by omega) (by simp) (by show (KA i).now.length ≤ _; omega) (by show (i : Int) ≤ _; omega)) ?_
      rintro r h ⟨hr, hs⟩
      subst hr
      simp (disch := omega) only [go_sem, simprocAttr, he]
      refine call_use (mvDone hs ?_ (by show (i : Int) ≤ _; omega)) ?_
      · have : (wPut ((KA i).rev + 1) ⟨(KA i).now, []⟩ [97] [120] 0).2.l.length ≤ 1 := by
          unfold wPut; split <;> (try split) <;> (try split) <;> (try split) <;> simp
        have h0 : (KA i).old.length = 0 := rfl
        omega
      rintro r h ⟨hr, hs⟩
      subst hr
      simp (disch := omega) only [go_sem, simprocAttr, he, m1]
      refine ⟨by omega, .nilp, ?_⟩
      match i, hi, hs with
      | 0, _, hs => rw [KA_step0] at hs; exact hs
      | 1, _, hs => rw [KA_step1] at hs; exact hs
    · have hi : i = 2 := by omega
      subst hi
      simp (disch := omega) only [go_sem, simprocAttr, he]
      exact ⟨o, hs⟩
  clear hs
  rintro e h ⟨o, hs, he⟩
  have ok := MvP.ok hs
  simp (disch := omega) only [go_sem, simprocAttr, he]
  refine call_use (hbWatch (lo := [97]) (hi := []) (from_ := 1) hs.p1 hbOK0 (by omega) (by unfold i64; omega)) ?_
  rintro r h ⟨hr, hX, hs⟩
  subst hr
  simp (disch := omega) only [go_sem, simprocAttr, he]
  have hP := hbPoll (mo := 10) (id := 1) hs hX (by unfold i64; omega) (by decide) (by decide) ok
  refine call_use hP ?_
  rintro r h ⟨hr, hs⟩
  subst hr
  have e1 : (hPoll (KA 2) ([] ++ [⟨0 + 1, [97], [], max 1 1, .behind⟩]) 1 10).1 = ((KA 2).chs, 0) := KA_poll
  rw [e1]
  have ei : iaA 8 (evsV (KA 2).chs) (.int .i64 1) = some (.ro (evC ⟨2, .put ⟨[97], [120], 1, 2, 2, 0⟩⟩)) := by rfl
  have el : lenL (evsV (KA 2).chs) = some (.int .i64 2) := by rfl
  rw [evC_eq2] at ei
  simp (disch := omega) only [go_sem, simprocAttr, ei, el]
  exact hs.d1.drop
end
end Go.Proofs.Ytaioncbpfckhaaa
/- Events that are alike; the law WatchApart, walked. -/
set_option linter.unusedSimpArgs false
set_option linter.unusedVariables false
set_option maxRecDepth 10000
namespace Go.Proofs.Ytaioncbpfckhaaa
open Go.Hz

section
variable {h : Hp} {F : List Asr} {s : Nat} {A : Sto} {o : AV}
theorem ev_self2 (v : Ver) : eqsA [PK.i, PK.b, PK.s, PK.s, PK.i, PK.i, PK.i, PK.i] true (.agg (evC v)) (.agg (evC v)) = some (.bool false) := by
  simp [eqsA, eqCs, eqC, evC, kvC]
theorem sameEvs2 (hs : sat h F) {l : List Ver} (hl : l.length ≤ 9223372036854775807) : Triple Try.prog 15 [evsV l, evsV l] h (fun r h => r = .bool true ∧ sat h F) := by
  have len2 : lenL (evsV l) = some (.int .i64 l.length) := by simp [lenL]
  refine t15 (Nat.le_of_ble_eq_true rfl) ?_
  simp (disch := omega) only [F15, len2, go_sem, simprocAttr]
  refine run_up (N := l.length) (fun i e h => sat h F ∧ (e 0 = evsV l ∧ e 1 = evsV l ∧ e 5 = .int .i64 i)) ⟨hs, rfl, rfl, rfl⟩ ?_
  clear hs
  rintro i e h hi ⟨hs, he⟩
  have m1 : (i : Int) + 1 = ((i + 1 : Nat) : Int) := by omega
  simp (disch := omega) only [go_sem, simprocAttr, he, m1, len2]
  refine cnd_dec (fun h1 => ?_) (fun h1 => ?_)
  · have hi : i < l.length := by omega
    have ez := ia_lst (f := evC) (l := l) (i := i) (s := 8) (k := .i64) hi (fun _ => rfl)
    have ek := ev_self2 l[i]
    rw [evC_eq2] at ek ez
    simp (disch := omega) only [go_sem, simprocAttr, he, ez, ek, m1]
    exact ⟨by omega, hs⟩
  · simp (disch := omega) only [go_sem, simprocAttr, he]
    exact hs
theorem put_len {k : Key} : (stDone A (wPut (A.rev + 1) ⟨A.now, []⟩ k [118] 0).2).old = A.old ∧ (stDone A (wPut (A.rev + 1) ⟨A.now, []⟩ k [118] 0).2).chs.length ≤ A.chs.length + 1 ∧ (stDone A (wPut (A.rev + 1) ⟨A.now, []⟩ k [118] 0).2).rev ≤ A.rev + 1 := by
  have : (wPut (A.rev + 1) ⟨A.now, []⟩ k [118] 0).2.l.length ≤ 1 := by
    unfold wPut; split <;> (try split) <;> (try split) <;> (try split) <;> simp
  generalize (wPut (A.rev + 1) ⟨A.now, []⟩ k [118] 0).2 = W at *
  unfold stDone
  split
  · exact ⟨rfl, by omega, by omega⟩
  · refine ⟨rfl, ?_, by show A.rev + 1 ≤ _; omega⟩
    rw [List.length_append, List.length_map]; omega
theorem apart13 {ks ps : List Int} (hkl : ks.length ≤ 9223372036854775807) (hpl : ps.length ≤ 9223372036854775807) (hks : ∀ k ∈ ks, -9223372036854775808 ≤ k ∧ k ≤ 9223372036854775807) (hps : ∀ k ∈ ps, -9223372036854775808 ≤ k ∧ k ≤ 9223372036854775807) :
    Triple Try.prog 3 [nums ks, nums ps] Hp.emp (fun r _ => r = .bool true) := by
  have hs : sat Hp.emp [] := trivial
  have len1 : lenL (nums ks) = some (.int .i64 ks.length) := num_len
  have len2 : lenL (nums ps) = some (.int .i64 ps.length) := num_len
  refine t3 (Nat.le_of_ble_eq_true rfl) ?_
  simp (disch := omega) only [F3, go_sem, simprocAttr]
  refine call_use (known13 hs) ?_
  rintro r h ⟨hr, hs⟩
  subst hr
  simp (disch := omega) only [go_sem, simprocAttr]
  refine call_use (mvNew hs) ?_
  rintro r h ⟨s, hr, hs⟩
  subst hr
  simp (disch := omega) only [go_sem, simprocAttr]
  refine call_use (hbNew (s := s) hs) ?_
  rintro r h ⟨b1, hr, hs⟩
  subst hr
  simp (disch := omega) only [go_sem, simprocAttr]
  refine call_use (hbNew (s := s) hs) ?_
  rintro r h ⟨b2, hr, hs⟩
  subst hr
  simp (disch := omega) only [go_sem, simprocAttr]
  refine call_use (hbWatch (lo := [97]) (hi := []) (from_ := 1) hs.p1 hbOK0 (by omega) (by unfold i64; omega)) ?_
  rintro r h ⟨hr, hX, hs⟩
  subst hr
  simp (disch := omega) only [go_sem, simprocAttr]
  refine call_use (hbWatch (lo := [98]) (hi := [100]) (from_ := 1) hs hX (by omega) (by unfold i64; omega)) ?_
  rintro r h ⟨hr, hX, hs⟩
  subst hr
  simp (disch := omega) only [go_sem, simprocAttr]
  refine call_use (hbWatch (lo := [98]) (hi := [100]) (from_ := 1) hs.p1 hbOK0 (by omega) (by unfold i64; omega)) ?_
  rintro r h ⟨hr, hX2, hs⟩
  subst hr
  simp (disch := omega) only [go_sem, simprocAttr]
  refine run_loopN (fun t e h => ∃ (i : Nat) (A : Sto) (o : AV) (l1 : List Wc) (u : Option Wc), t = 40 - i ∧ i ≤ 40 ∧ A.old = [] ∧ A.chs.length ≤ i ∧ A.rev ≤ i ∧ (∀ x ∈ l1, x.id = 1) ∧ HbOK 2 (l1 ++ tl 2 u) ∧ HbOK 1 (tl 1 u) ∧ sat h [StP s A o, HbP b1 s 2 (l1 ++ tl 2 u), HbP b2 s 1 (tl 1 u)] ∧
    (e 0 = nums ks ∧ e 1 = nums ps ∧ e 5 = .ptr s 7 0 0 ∧ e 6 = .ptr b1 3 0 0 ∧ e 7 = .ptr b2 3 0 0 ∧ e 8 = .int .i64 1 ∧ e 9 = .int .i64 2 ∧ e 10 = .int .i64 1 ∧ e 11 = .int .i64 i)) 40
    ⟨0, ⟨0, 0, [], []⟩, .nilp, [⟨1, [97], [], 1, .behind⟩], some ⟨1, [98], [100], 1, .behind⟩, rfl, by omega, rfl, Nat.le_refl _, Int.le_refl _, by simp, hX, hX2, hs.p1.p2, rfl, rfl, rfl, rfl, rfl, rfl, rfl, rfl, rfl⟩ ?_
  clear hs hX hX2
  rintro t e h ⟨i, A, o, l1, u, rfl, hi40, ho, hcl, hrv, hid, hX, hX2, hs, he⟩
  have ok := MvP.ok hs
  have m1 : (i : Int) + 1 = ((i + 1 : Nat) : Int) := by omega
  by_cases hc : i < ks.length ∧ i < 40
  · obtain ⟨i1, c3⟩ := hc
    have c1 : (i : Int) < ks.length := by omega
    have c2 : (i : Int) < 40 := by omega
    have hia := num_at i1
    have hk := hks _ (List.getElem_mem i1)
    generalize ks[i] = k at hia hk
    simp (disch := omega) only [go_sem, simprocAttr, he, len1, c1, c2, hia]
    refine call_use (within13 (n := 4) hs (a := k) (by omega) (by omega) (by omega) (by omega)) ?_
    rintro r h ⟨j, hr, _, hj, hs⟩
    subst hr
    have mj : (97 : Int) + j = ((97 + j : Nat) : Int) := by omega
    simp (disch := omega) only [go_sem, simprocAttr, he, mj]
    refine new_opq hs fun c h hs => ?_
    rw [eb_wrap] at hs
    generalize UInt8.ofNat (IntKind.u8.wrap ((97 + j : Nat) : Int)).toNat = B at hs
    have hs1 : sat h (pto c (.row 1 ([B].map eb) 1) :: _) := hs
    have hbt := (hs1.ow (Nat.le_refl _)).bts.bstr
    have hbt : bstrA h (.arr c 1 0 1 1) = some (.str [B]) := hbt
    simp (disch := omega) only [go_sem, simprocAttr, hbt, he]
    refine call_use (put13 (k := [B]) hs.p1 (by rw [ho]; simp; omega) (by omega)) ?_
    intro r h hs
    obtain ⟨g1, g2, g3⟩ := put_len (A := A) (k := [B])
    generalize stDone A (wPut (A.rev + 1) ⟨A.now, []⟩ [B] [118] 0).2 = A' at *
    have ok' := MvP.ok hs
    clear ok
    simp (disch := omega) only [go_sem, simprocAttr, he]
    refine call_use (hbFeed (hs.p1.drop.p2.p1.p2) hX (by omega) (by omega) ok') ?_
    intro r h hs
    simp (disch := omega) only [go_sem, simprocAttr, he]
    refine call_use (hbFeed (hs.p1.p2) hX2 (by omega) (by omega) ok') ?_
    intro r h hs
    have hX := hX.feed ok' (by omega)
    have hX2 := hX2.feed ok' (by omega)
    rw [hFeed_app, tl_feed] at hs hX
    rw [tl_feed] at hs hX2
    have hid := hFeed_ids (A := A') hid
    generalize hFeed A' l1 = l1 at *
    generalize (u.map fun w => w.feed A') = u at *
    by_cases hi2 : i < ps.length
    · have c4 : ((i : Int) < ps.length) = True := by simp; omega
      have hia := num_at hi2
      have hp := hps _ (List.getElem_mem hi2)
      generalize ps[i] = p at hia hp
      simp (disch := omega) only [go_sem, simprocAttr, he, len2, c4, hia]
      refine call_use (within13 (n := 3) hs (a := p) (by omega) (by omega) (by omega) (by omega)) ?_
      rintro r h ⟨q, hr, _, hq, hs⟩
      subst hr
      have mq : (1 : Int) + q = ((q + 1 : Nat) : Int) := by omega
      simp (disch := omega) only [go_sem, simprocAttr, he, mq]
      have hP := hbPoll (mo := (q + 1 : Nat)) (id := 1) (hs.p1.p2) hX (by unfold i64; omega) (by omega) (by omega) ok'
      have hX' := hX.poll ok' (by omega) (id := 1) (most := (q + 1 : Nat))
      rw [hPoll_left (fun x hx => by rw [tl_id x hx]; decide)] at hP hX'
      have hid' := hPoll_ids (A := A') (i := 1) (m := (q + 1 : Nat)) hid
      refine call_use hP ?_
      rintro r h ⟨hr, hs⟩
      subst hr
      simp only [] at hs
      generalize (hPoll A' l1 1 ((q + 1 : Nat) : Int)).1 = R1 at *
      generalize (hPoll A' l1 1 ((q + 1 : Nat) : Int)).2 = l2 at *
      simp (disch := omega) only [go_sem, simprocAttr, he, hia]
      refine call_use (within13 (n := 5) hs (a := p) (by omega) (by omega) (by omega) (by omega)) ?_
      rintro r h ⟨q2, hr, hqe, hq2, hs⟩
      subst hr
      have mq : (1 : Int) + q2 = ((q2 + 1 : Nat) : Int) := by omega
      simp (disch := omega) only [go_sem, simprocAttr, he, mq]
      have hP := hbPoll (mo := (q2 + 1 : Nat)) (id := 2) hs hX' (by unfold i64; omega) (by omega) (by omega) ok'
      have hX'' := hX'.poll ok' (by omega) (id := 2) (most := (q2 + 1 : Nat))
      rw [hPoll_right (fun x hx => by rw [hid' x hx]; decide), tl_poll] at hP hX''
      refine call_use hP ?_
      rintro r h ⟨hr, hs⟩
      subst hr
      simp only [] at hs
      simp (disch := omega) only [go_sem, simprocAttr, he, hia]
      refine call_use (within13 (n := 5) hs (a := p) (by omega) (by omega) (by omega) (by omega)) ?_
      rintro r h ⟨q3, hr, hqe3, hq3, hs⟩
      have : q3 = q2 := by omega
      subst this
      subst hr
      simp (disch := omega) only [go_sem, simprocAttr, he, mq]
      have hP := hbPoll (mo := (q3 + 1 : Nat)) (id := 1) (hs.p1.p2) hX2 (by unfold i64; omega) (by omega) (by omega) ok'
      have hX2' := hX2.poll ok' (by omega) (id := 1) (most := (q3 + 1 : Nat))
      rw [tl_poll] at hP hX2'
      refine call_use hP ?_
      rintro r h ⟨hr, hs⟩
      subst hr
      simp only [] at hs hX2' hX''
      have hU : (pollU A' u ((q3 + 1 : Nat) : Int)).1.1.length ≤ 9223372036854775807 := Nat.le_trans (pollU_len hX2) (by omega)
      generalize (pollU A' u ((q3 + 1 : Nat) : Int)).1 = R2 at *
      generalize (pollU A' u ((q3 + 1 : Nat) : Int)).2 = u2 at *
      have c5 : (R2.2 != R2.2) = false := by simp
      simp (disch := omega) only [go_sem, simprocAttr, he, c5]
      refine call_use (sameEvs2 hs hU) ?_
      rintro r h ⟨hr, hs⟩
      subst hr
      simp (disch := omega) only [go_sem, simprocAttr, he, m1]
      exact ⟨40 - (i + 1), by omega, i + 1, A', _, l2, u2, rfl, by omega, by rw [g1, ho], by omega, by omega, hid', hX'', hX2', hs.p2.p2, rfl⟩
    · have c4 : ((i : Int) < ps.length) = False := by simp; omega
      simp (disch := omega) only [go_sem, simprocAttr, he, len2, c4, m1]
      exact ⟨40 - (i + 1), by omega, i + 1, A', _, l1, u, rfl, by omega, by rw [g1, ho], by omega, by omega, hid, hX, hX2, hs.p2.p2, rfl⟩
  · have hcase : (¬ (i : Int) < ks.length) ∨ ((i : Int) < ks.length ∧ ¬ (i : Int) < 40) := by omega
    rcases hcase with c1 | ⟨c1, c2⟩
    · simp (disch := omega) only [go_sem, simprocAttr, he, len1, c1]
    · simp (disch := omega) only [go_sem, simprocAttr, he, len1, c1, c2]
theorem watchApart_law (vs : List AV) (h : Ty.ones [.sl (.int .i64), .sl (.int .i64)] vs) : Triple Try.prog 3 vs Hp.emp (fun r _ => r = .bool true) := by
  obtain ⟨a, _, rfl, ha, h⟩ := ones_cons h
  obtain ⟨b, _, rfl, hb, h⟩ := ones_cons h
  obtain rfl := ones_nil h
  obtain ⟨ks, rfl, h1, h2⟩ := nums_of ha
  obtain ⟨ps, rfl, h3, h4⟩ := nums_of hb
  exact apart13 h1 h3 h2 h4
end
end Go.Proofs.Ytaioncbpfckhaaa
