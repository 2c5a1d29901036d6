/- slices.Sort, slices.Compact of strings. -/
import Derived.Test.YtaioncbpfckhaaaR4WatchOverLawPD
set_option linter.unusedSimpArgs false
set_option linter.unusedVariables false
set_option maxRecDepth 10000
namespace Go.Proofs.Ytaioncbpfckhaaa
open Go.Hz Go.Sort

section
variable {h : Hp} {F : List Asr}
end
end Go.Proofs.Ytaioncbpfckhaaa
/- The store: the keys that a write sees. -/
set_option linter.unusedSimpArgs false
set_option linter.unusedVariables false
set_option maxRecDepth 10000
namespace Go.Proofs.Ytaioncbpfckhaaa
open Go.Hz

section
variable {h : Hp} {F : List Asr} {s w : Nat} {A : Sto} {o : AV} {W : Wr}
end
end Go.Proofs.Ytaioncbpfckhaaa
/- The store: a change is taken in; a write is done. -/
set_option linter.unusedSimpArgs false
set_option linter.unusedVariables false
set_option maxRecDepth 10000
namespace Go.Proofs.Ytaioncbpfckhaaa
open Go.Hz

section
variable {h : Hp} {F : List Asr} {s w : Nat} {A : Sto} {o : AV} {W : Wr} {n : Int}
theorem mvNoteG {v : Ver} (hs : sat h (MvN tp td s n A o :: F)) (hvr : inI v.rev) (hz : A.old.length + A.chs.length ≤ 90000000) : Triple Try.prog 39 [.ptr s 7 0 0, .agg (verC tp td v)] h (fun r h => ∃ ix vm cv L X, (StoOK (A.snoc v) → StoOK (A.snoc v) ∧ IxOK (A.snoc v) L ∧ VmOK (A.snoc v) X) ∧ sat h (MvLn tp td s ix vm cv o n (A.snoc v) L X ++ F)) := by
  obtain ⟨ix, vm, cv, L, X, hok, hs2⟩ := mvN.1 hs
  have hix := fun ok' : StoOK (A.snoc v) => ix_snoc ok' hok.2.1
  have ca := chV_atom (tp := tp) (td := td) v.c
  have cc := chV_cells (tp := tp) (td := td) v.c
  have e1 : (A.snoc v).rev = A.rev := rfl
  have e2 : (A.snoc v).past = A.past := rfl
  obtain ⟨kv, hta⟩ : ∃ kv : Kv, taA tp true (.agg [.str [], .str [], .int .i64 0, .int .i64 0, .int .i64 0, .int .i64 0]) (chV tp td v.c) = some (.tup [.agg (kvC kv), .bool v.c.kv.isSome]) := by
    cases v.c with
    | put kv => exact ⟨kv, rfl⟩
    | del k => exact ⟨kv0, rfl⟩
  have hta2 : taA 108 true (.agg [.str [], .str [], .int .i64 0, .int .i64 0, .int .i64 0, .int .i64 0]) (chV tp td v.c) = some (.tup [.agg (kvC kv), .bool v.c.kv.isSome]) := hta
  refine t39 (Nat.le_of_ble_eq_true rfl) ?_
  simp (disch := omega) only [F39, verC, ca, go_sem, simprocAttr]
  refine new_opq hs2 fun a h hs => ?_
  have ha := hs.at
  simp (disch := omega) only [go_sem, simprocAttr, ha, hta2, verC]
  refine new_opq hs fun b h hs => ?_
  have hb := hs.at
  have hs3 := hs.set (o' := .row 6 [kvC kv] 1)
  have ha := hs3.p1.at
  have hp := hs3.p2.at
  simp only [kvC, verC] at hs3 ha hp
  simp (disch := omega) only [go_sem, simprocAttr, hb, kvC, ha, hp]
  generalize Hp.set h b _ = h3 at hs3 ha hp ⊢
  refine inv_key hs3 v.c fun h hs => ?_
  have ha := hs.p1.at
  have hp := hs.p2.at
  simp (disch := omega) only [go_sem, simprocAttr, ha, hp]
  have hb1 : (!v.c.kv.isSome) = (mkV v).2 := by show _ = v.c.kv.isNone; cases v.c.kv <;> rfl
  rw [hb1]
  have hs4 : sat h (IxP ix L :: pto b (.row 6 [[.str kv.key, .str kv.val, .int .i64 kv.create, .int .i64 kv.mod, .int .i64 kv.ver, .int .i64 kv.lease]] 1) :: pto a (.row 2 [[.int .i64 v.rev, chV tp td v.c]] 1) :: pto s (.row 7 [[.int .i64 A.rev, .int .i64 A.past, .int .i64 n, .ptr ix 2 0 0, .map vm, cv, o]] 1) :: Ow 2 cv (A.chs.map (verC tp td)) :: MpA (fun k : Key => AV.str k) Vn.key Vn.v vm X :: (X.map (VnP tp td) ++ F)) := hs.p3
  have hLn := ix_num hok.2.1
  have hLl := ix_len hok.2.1
  refine call_use (ixPut (key := v.c.key) (m := mkV v) hs4 hok.2.1.1 (fun x hx => by have := hLl x hx; omega) (by omega) hvr) ?_
  rintro r h ⟨hr', hs⟩
  subst hr'
  have ha := hs.p2.at
  have hp := hs.p3.at
  simp (disch := omega) only [go_sem, simprocAttr, ha, hp]
  refine inv_key hs v.c fun h hs => ?_
  have ha := hs.p2.at
  have hp := hs.p3.at
  simp (disch := omega) only [go_sem, simprocAttr, ha, hp]
  refine inv_key hs v.c fun h hs => ?_
  have ha := hs.p2.at
  have hp := hs.p3.at
  by_cases hx : ∃ x ∈ X, x.key = v.c.key
  · obtain ⟨x, hx, hxk⟩ := hx
    have hl := lk_hit keyOK_str hs.p5 hok.2.2.1 hx (ok := false) (z := .nils)
    simp only [Bool.false_eq_true, if_false] at hl
    rw [hxk] at hl
    simp (disch := omega) only [go_sem, simprocAttr, ha, hp, hl, ca]
    refine new_opq hs fun n2 h hs => ?_
    obtain ⟨l1, l2, rfl⟩ := List.append_of_mem hx
    have hs5 : sat h ((pto n2 (.row 2 [[.int .i64 v.rev, chV tp td v.c]] 1) :: IxP ix (putL L v.c.key (mkV v)) :: pto b (.row 6 [[.str kv.key, .str kv.val, .int .i64 kv.create, .int .i64 kv.mod, .int .i64 kv.ver, .int .i64 kv.lease]] 1) :: pto a (.row 2 [[.int .i64 v.rev, chV tp td v.c]] 1) :: pto s (.row 7 [[.int .i64 A.rev, .int .i64 A.past, .int .i64 n, .ptr ix 2 0 0, .map vm, cv, o]] 1) :: Ow 2 cv (A.chs.map (verC tp td)) :: MpA (fun k : Key => AV.str k) Vn.key Vn.v vm (l1 ++ x :: l2) :: l1.map (VnP tp td)) ++ VnP tp td x :: (l2.map (VnP tp td) ++ F)) := by simpa using hs
    have hs6 : sat h (VnP tp td x :: pto n2 (.row 2 [[.int .i64 v.rev, chV tp td v.c]] 1) :: IxP ix (putL L v.c.key (mkV v)) :: pto b (.row 6 [[.str kv.key, .str kv.val, .int .i64 kv.create, .int .i64 kv.mod, .int .i64 kv.ver, .int .i64 kv.lease]] 1) :: pto a (.row 2 [[.int .i64 v.rev, chV tp td v.c]] 1) :: pto s (.row 7 [[.int .i64 A.rev, .int .i64 A.past, .int .i64 n, .ptr ix 2 0 0, .map vm, cv, o]] 1) :: Ow 2 cv (A.chs.map (verC tp td)) :: MpA (fun k : Key => AV.str k) Vn.key Vn.v vm (l1 ++ x :: l2) :: (l1.map (VnP tp td) ++ (l2.map (VnP tp td) ++ F))) := hs5.mid
    have hxv := (hok.2.2.2.1 x (by simp)).1
    have hxl := vers_le (A := A) x.key
    rw [← hxv] at hxl
    simp (disch := omega) only [go_sem, simprocAttr]
    refine app_satO (s := 2) hs6 (src_one hs6.p1.at) (atoms_one (by simp only [List.all_cons, List.all_nil, atom_int, ca, Bool.and_self])) (by simp; omega) fun v' h hs ca' aa => ?_
    have hp := hs.p5.at
    simp (disch := omega) only [go_sem, simprocAttr, hp, ca', aa]
    rw [← hxk]
    refine mup_set keyOK_str hs.p7 hok.2.2.1 (x := x) (y := (⟨x.key, v', x.vs ++ [v]⟩ : Vn)) (by simp) rfl fun h hs => ?_
    have hX' : ((l1 ++ x :: l2).map fun z => if z.key = x.key then (⟨x.key, v', x.vs ++ [v]⟩ : Vn) else z) = l1 ++ ⟨x.key, v', x.vs ++ [v]⟩ :: l2 := by
      have hnd := hok.2.2.1
      rw [List.map_append, List.map_cons, List.nodup_append, List.nodup_cons] at hnd
      rw [List.map_append, List.map_cons, if_pos rfl]
      congr 1
      · exact (List.map_congr_left fun z hz => if_neg fun e : z.key = x.key => hnd.2.2 _ (List.mem_map_of_mem hz) _ (by simp) e).trans (List.map_id _)
      · congr 1
        exact (List.map_congr_left fun z hz => if_neg fun e : z.key = x.key => hnd.2.1.1 (e ▸ List.mem_map_of_mem hz)).trans (List.map_id _)
    rw [hX'] at hs
    have ha := hs.p5.at
    have hp := hs.p6.at
    simp (disch := omega) only [go_sem, simprocAttr, ha, hp, ca]
    refine new_opq hs fun n3 h hs => ?_
    simp (disch := omega) only [go_sem, simprocAttr]
    refine app_sat hs.p8 (src_one hs.at) (atoms_one (by simp only [List.all_cons, List.all_nil, atom_int, ca, Bool.and_self])) (by simp; omega) fun cv' h hs ca2 aa2 => ?_
    have hp := hs.p8.at
    simp (disch := omega) only [go_sem, simprocAttr, hp, ca2, aa2]
    refine ⟨ix, vm, cv', putL L v.c.key (mkV v), l1 ++ ⟨x.key, v', x.vs ++ [v]⟩ :: l2, fun ok' => ⟨ok', hix ok', vmOK_old hok.2.2 hxk⟩, ?_⟩
    have hs7 := hs.p8.set (o' := .row 7 [[.int .i64 A.rev, .int .i64 A.past, .int .i64 n, .ptr ix 2 0 0, .map vm, cv', o]] 1)
    have t1 : (A.snoc v).chs.map (verC tp td) = A.chs.map (verC tp td) ++ [[.int .i64 v.rev, chV tp td v.c]] := by simp [Sto.snoc, verC]
    rw [← t1] at hs7
    have t2 : VnP tp td ⟨x.key, v', x.vs ++ [v]⟩ = Ow 2 v' (x.vs.map (verC tp td) ++ [[.int .i64 v.rev, chV tp td v.c]]) := by simp [VnP, verC]
    rw [← t2] at hs7
    have hs8 := hs7.p2.drop.p4.drop.p5.drop.p5.drop.p2.p2.p4.p3.p4
    have hs9 := sat.unmid (l1 := [pto s (.row 7 [[.int .i64 A.rev, .int .i64 A.past, .int .i64 n, .ptr ix 2 0 0, .map vm, cv', o]] 1), IxP ix (putL L v.c.key (mkV v)), Ow 2 cv' ((A.snoc v).chs.map (verC tp td)), MpA (fun k : Key => AV.str k) Vn.key Vn.v vm (l1 ++ ⟨x.key, v', x.vs ++ [v]⟩ :: l2)] ++ l1.map (VnP tp td)) (l2 := l2.map (VnP tp td) ++ F) hs8
    simpa [MvLn, e1, e2] using hs9
  · have hl := lk_miss keyOK_str hs.p5 (q := v.c.key) (fun x h1 h2 => hx ⟨x, h1, h2⟩) (ok := false) (z := .nils)
    simp only [Bool.false_eq_true, if_false] at hl
    simp (disch := omega) only [go_sem, simprocAttr, ha, hp, hl, ca]
    refine new_opq hs fun n2 h hs => ?_
    simp (disch := omega) only [go_sem, simprocAttr]
    have hs6 : sat h (Ow 2 .nils [] :: pto n2 (.row 2 [[.int .i64 v.rev, chV tp td v.c]] 1) :: _) := hs.add ow_nil
    refine app_satO (s := 2) hs6 (src_one hs6.p1.at) (atoms_one (by simp only [List.all_cons, List.all_nil, atom_int, ca, Bool.and_self])) (by simp) fun v' h hs ca' aa => ?_
    have hp := hs.p5.at
    simp (disch := omega) only [go_sem, simprocAttr, hp, ca', aa]
    refine mup_new keyOK_str hs.p7 (y := (⟨v.c.key, v', [v]⟩ : Vn)) (fun x h1 h2 => hx ⟨x, h1, h2⟩) fun h hs => ?_
    have ha := hs.p5.at
    have hp := hs.p6.at
    simp (disch := omega) only [go_sem, simprocAttr, ha, hp, ca]
    refine new_opq hs fun n3 h hs => ?_
    simp (disch := omega) only [go_sem, simprocAttr]
    refine app_sat hs.p8 (src_one hs.at) (atoms_one (by simp only [List.all_cons, List.all_nil, atom_int, ca, Bool.and_self])) (by simp; omega) fun cv' h hs ca2 aa2 => ?_
    have hp := hs.p8.at
    simp (disch := omega) only [go_sem, simprocAttr, hp, ca2, aa2]
    refine ⟨ix, vm, cv', putL L v.c.key (mkV v), X ++ [⟨v.c.key, v', [v]⟩], fun ok' => ⟨ok', hix ok', vmOK_new hok.2.2 (fun x h1 h2 => hx ⟨x, h1, h2⟩)⟩, ?_⟩
    have hs7 := hs.p8.set (o' := .row 7 [[.int .i64 A.rev, .int .i64 A.past, .int .i64 n, .ptr ix 2 0 0, .map vm, cv', o]] 1)
    have t1 : (A.snoc v).chs.map (verC tp td) = A.chs.map (verC tp td) ++ [[.int .i64 v.rev, chV tp td v.c]] := by simp [Sto.snoc, verC]
    rw [← t1] at hs7
    have t2 : VnP tp td ⟨v.c.key, v', [v]⟩ = Ow 2 v' ([] ++ [[.int .i64 v.rev, chV tp td v.c]]) := by simp [VnP, verC]
    rw [← t2] at hs7
    have hs8 := hs7.p2.drop.p4.drop.p5.drop.p5.drop.p2.p2.p4.p3.p4
    have hs9 := sat.unmid (l1 := [pto s (.row 7 [[.int .i64 A.rev, .int .i64 A.past, .int .i64 n, .ptr ix 2 0 0, .map vm, cv', o]] 1), IxP ix (putL L v.c.key (mkV v)), Ow 2 cv' ((A.snoc v).chs.map (verC tp td)), MpA (fun k : Key => AV.str k) Vn.key Vn.v vm (X ++ [⟨v.c.key, v', [v]⟩])] ++ X.map (VnP tp td)) (l2 := F) hs8
    simpa [MvLn, e1, e2] using hs9
theorem mvNote {v : Ver} (hs : sat h (MvN tp td s n A o :: F)) (ok' : StoOK (A.snoc v)) (hz : A.old.length + A.chs.length ≤ 90000000) (hr : A.rev ≤ 1000000000000000) : Triple Try.prog 39 [.ptr s 7 0 0, .agg (verC tp td v)] h (fun r h => sat h (MvN tp td s n (A.snoc v) o :: F)) := by
  have hvr := ok'.chr v (by simp [Sto.snoc])
  have hpa := ok'.past
  have e1 : (A.snoc v).rev = A.rev := rfl
  have e2 : (A.snoc v).past = A.past := rfl
  exact (mvNoteG hs (by unfold inI; omega) hz).mono fun r h ⟨ix, vm, cv, L, X, h1, h2⟩ => mvN.2 ⟨ix, vm, cv, L, X, h1 ok', h2⟩
end
end Go.Proofs.Ytaioncbpfckhaaa
/- The store: a write is done; keys are deleted. -/
set_option linter.unusedSimpArgs false
set_option linter.unusedVariables false
set_option maxRecDepth 10000
namespace Go.Proofs.Ytaioncbpfckhaaa
open Go.Hz

section
variable {h : Hp} {F : List Asr} {s w : Nat} {A : Sto} {o : AV} {W : Wr}
theorem mvDone (hs : sat h (WtP w s A W :: StP s A (.ptr w 4 0 0) :: F)) (hz : A.old.length + A.chs.length + W.l.length ≤ 80000000) (hr : A.rev ≤ 100000000000000) : Triple Try.prog 23 [.ptr w 4 0 0] h (fun r h => r = .int .i64 (stDone A W).rev ∧ sat h (StP s (stDone A W) .nilp :: F)) := by
  have ok := MvP.ok hs.p1
  have hpa := ok.past
  have hre := ok.rev
  obtain ⟨lv0, bm0, hw, hs0⟩ := wrP.1 hs
  have hp0 := hs0.at
  refine t23 (Nat.le_of_ble_eq_true rfl) ?_
  simp (disch := omega) only [F23, hp0, go_sem, simprocAttr]
  refine call_use (mvClosed hs) ?_
  rintro r h ⟨hr, hs⟩
  subst hr
  simp (disch := omega) only [go_sem, simprocAttr]
  obtain ⟨lv, bm, _, hs1⟩ := wrP.1 hs
  obtain ⟨ix, vm, cv, L, X, hok, hs2⟩ := mvP.1 hs1.p3
  have hq := hs2.at
  have hs3 : sat h (pto s (.row 7 [[.int .i64 A.rev, .int .i64 A.past, .int .i64 A.now.length, .ptr ix 2 0 0, .map vm, cv, .ptr w 4 0 0]] 1) :: IxP ix L :: Ow 2 cv (A.chs.map (verC tp td)) :: MpA (fun k : Key => AV.str k) Vn.key Vn.v vm X :: (X.map (VnP tp td) ++ (pto w (.row 4 [[.ptr s 7 0 0, lv, .map bm, .int .i64 W.cur.length]] 1) :: Ow 1 lv (W.l.map fun c => [chV tp td c]) :: MpA (fun k : Key => AV.str k) Ch.key (chV tp td) bm W.l :: F))) := hs2
  have hs4 := hs3.set (o' := .row 7 [[.int .i64 A.rev, .int .i64 A.past, .int .i64 A.now.length, .ptr ix 2 0 0, .map vm, cv, .nilp]] 1)
  have mk : ∀ {h : Hp}, sat h (pto s (.row 7 [[.int .i64 A.rev, .int .i64 A.past, .int .i64 A.now.length, .ptr ix 2 0 0, .map vm, cv, .nilp]] 1) :: IxP ix L :: Ow 2 cv (A.chs.map (verC tp td)) :: MpA (fun k : Key => AV.str k) Vn.key Vn.v vm X :: (X.map (VnP tp td) ++ (pto w (.row 4 [[.ptr s 7 0 0, lv, .map bm, .int .i64 W.cur.length]] 1) :: Ow 1 lv (W.l.map fun c => [chV tp td c]) :: MpA (fun k : Key => AV.str k) Ch.key (chV tp td) bm W.l :: F))) →
      sat h (StP s A .nilp :: pto w (.row 4 [[.ptr s 7 0 0, lv, .map bm, .int .i64 W.cur.length]] 1) :: Ow 1 lv (W.l.map fun c => [chV tp td c]) :: MpA (fun k : Key => AV.str k) Ch.key (chV tp td) bm W.l :: F) := fun hs => mvP.2 ⟨ix, vm, cv, L, X, hok, hs⟩
  have hs5 := mk hs4
  have hw5 := hs5.p1.at
  have hlv := hs5.p2.els.len
  rw [List.length_map] at hlv
  have hsq := hs4.at
  simp (disch := omega) only [go_sem, simprocAttr, hq, hw5, hlv]
  by_cases hl : W.l = []
  · have e0 : ((W.l.length : Int) == 0) = true := by rw [hl]; rfl
    have ef : stDone A W = A := by rw [stDone, if_pos hl]
    rw [ef]
    simp (disch := omega) only [go_sem, simprocAttr, e0, hsq]
    exact hs5.p1.drop.p1.drop.p1.drop
  have e0 : ((W.l.length : Int) == 0) = false := by
    have := List.length_pos_iff.2 hl
    simp; omega
  have okd := stDone_ok ok hw
  have ed : stDone A W = ⟨A.rev + 1, A.past, A.old, A.chs ++ W.l.map fun c => ⟨A.rev + 1, c⟩⟩ := by rw [stDone, if_neg hl]
  have hnow := stDone_now hw
  rw [ed] at okd hnow ⊢
  have ok0 : StoOK ⟨A.rev + 1, A.past, A.old, A.chs⟩ := stOK_front okd
  have mkN : ∀ {h : Hp} {n : Int}, sat h (pto s (.row 7 [[.int .i64 (A.rev + 1), .int .i64 A.past, .int .i64 n, .ptr ix 2 0 0, .map vm, cv, .nilp]] 1) :: IxP ix L :: Ow 2 cv (A.chs.map (verC tp td)) :: MpA (fun k : Key => AV.str k) Vn.key Vn.v vm X :: (X.map (VnP tp td) ++ (pto w (.row 4 [[.ptr s 7 0 0, lv, .map bm, .int .i64 W.cur.length]] 1) :: Ow 1 lv (W.l.map fun c => [chV tp td c]) :: MpA (fun k : Key => AV.str k) Ch.key (chV tp td) bm W.l :: F))) →
      sat h (MvN tp td s n ⟨A.rev + 1, A.past, A.old, A.chs⟩ .nilp :: pto w (.row 4 [[.ptr s 7 0 0, lv, .map bm, .int .i64 W.cur.length]] 1) :: Ow 1 lv (W.l.map fun c => [chV tp td c]) :: MpA (fun k : Key => AV.str k) Ch.key (chV tp td) bm W.l :: F) := fun hs => mvN.2 ⟨ix, vm, cv, L, X, ⟨ok0, hok.2.1, hok.2.2⟩, hs⟩
  generalize Hp.set h s _ = h4 at hs4 hs5 hw5 hsq ⊢
  have hs6 := hs4.set (o' := .row 7 [[.int .i64 (A.rev + 1), .int .i64 A.past, .int .i64 A.now.length, .ptr ix 2 0 0, .map vm, cv, .nilp]] 1)
  have hw6 := (mkN hs6).p1.at
  have hs7 := hs6.set (o' := .row 7 [[.int .i64 (A.rev + 1), .int .i64 A.past, .int .i64 W.cur.length, .ptr ix 2 0 0, .map vm, cv, .nilp]] 1)
  have hs8 := mkN hs7
  have hw8 := hs8.p1.at
  rw [Hp.set_set] at hs8 hw8
  simp (disch := omega) only [go_sem, simprocAttr, e0, hsq, hw6, hw8, hlv]
  generalize Hp.set h4 s _ = h5 at hs8 hw8 ⊢
  rcases hs8.p2.cases with ⟨_, hn0, _⟩ | ⟨b, cap, hv, hs9, hle⟩
  · exact absurd (List.map_eq_nil_iff.1 hn0) hl
  subst hv
  have hll : (W.l.map fun c => [chV tp td c]).length = W.l.length := by simp
  rw [hll] at hle
  simp only [hll]
  refine run_up (N := W.l.length) (fun i e h => sat h (MvN tp td s W.cur.length ⟨A.rev + 1, A.past, A.old, A.chs ++ (W.l.take i).map fun c => ⟨A.rev + 1, c⟩⟩ .nilp :: pto b (.row 1 (W.l.map fun c => [chV tp td c]) cap) :: F) ∧
    (e 3 = .ptr s 7 0 0 ∧ e 46 = .arr b 1 0 W.l.length cap ∧ e 47 = .int .i64 W.l.length ∧ e 48 = .int .i64 i)) ⟨?_, rfl, rfl, rfl, rfl⟩ ?_
  · have : A.chs ++ ((W.l.take 0).map fun c => (⟨A.rev + 1, c⟩ : Ver)) = A.chs := by simp
    rw [this]
    exact hs9.p2.drop.p2.drop.p1
  clear hs hs0 hs1 hs2 hs3 hs4 hs5 hs6 hs7 hs8 hs9 hp0 hw5 hw6 hw8 hsq hq
  rintro i e h hi ⟨hs, he⟩
  have m1 : (i : Int) + 1 = ((i + 1 : Nat) : Int) := by omega
  simp (disch := omega) only [go_sem, simprocAttr, he]
  refine cnd_dec (fun h1 => ?_) (fun h1 => ?_)
  · have hi : i < W.l.length := by omega
    have hb := hs.p1.at
    have hrow : (W.l.map fun c => [chV tp td c])[i]? = some [chV tp td W.l[i]] := by simp [hi]
    obtain ⟨ix', vm', cv', L', X', hok', hs2⟩ := mvN.1 hs
    have hq := hs2.at
    simp (disch := omega) only [go_sem, simprocAttr, he, hb, hrow, hq, Int.toNat_natCast]
    have hsn : (⟨A.rev + 1, A.past, A.old, A.chs ++ (W.l.take i).map fun c => ⟨A.rev + 1, c⟩⟩ : Sto).snoc ⟨A.rev + 1, W.l[i]⟩ = ⟨A.rev + 1, A.past, A.old, A.chs ++ (W.l.take (i + 1)).map fun c => ⟨A.rev + 1, c⟩⟩ := by
      unfold Sto.snoc
      rw [List.take_succ_eq_append_getElem hi]
      simp only [List.map_append, List.map_cons, List.map_nil, List.append_assoc]
    have hok2 : StoOK ⟨A.rev + 1, A.past, A.old, A.chs ++ (W.l.take (i + 1)).map fun c => ⟨A.rev + 1, c⟩⟩ := by
      have h2 : (A.chs ++ W.l.map fun c => (⟨A.rev + 1, c⟩ : Ver)) = (A.chs ++ (W.l.take (i + 1)).map fun c => (⟨A.rev + 1, c⟩ : Ver)) ++ (W.l.drop (i + 1)).map fun c => (⟨A.rev + 1, c⟩ : Ver) := by
        rw [List.append_assoc, ← List.map_append, List.take_append_drop]
      rw [h2] at okd
      exact stOK_front okd
    have hcc := chV_cells (tp := tp) (td := td) W.l[i]
    have hn := mvNote (v := ⟨A.rev + 1, W.l[i]⟩) hs (by rw [hsn]; exact hok2) (by simp only [List.length_append, List.length_map, List.length_take]; omega) (by show A.rev + 1 ≤ _; omega)
    rw [hsn] at hn
    have hca := chV_atom (tp := tp) (td := td) W.l[i]
    simp (disch := omega) only [go_sem, simprocAttr, hcc, hca]
    refine call_use hn ?_
    intro r h hs
    simp (disch := omega) only [go_sem, simprocAttr, he, m1]
    exact ⟨by omega, hs⟩
  · have hi : i = W.l.length := by omega
    subst hi
    rw [List.take_length] at hs
    obtain ⟨ix', vm', cv', L', X', hok', hs2⟩ := mvN.1 hs
    have hq := hs2.at
    simp (disch := omega) only [go_sem, simprocAttr, he, hq]
    rw [← hnow] at hs
    exact hs.d1
end
end Go.Proofs.Ytaioncbpfckhaaa
/- within, the chapter's example. -/
set_option linter.unusedSimpArgs false
set_option linter.unusedVariables false
set_option maxRecDepth 10000
namespace Go.Proofs.Ytaioncbpfckhaaa
open Go.Hz

def KA (i : Nat) : Sto := ⟨i, 0, [], (List.range i).map fun (j : Nat) => ⟨(j : Int) + 1, .put ⟨[97], [120], 1, (j : Int) + 1, (j : Int) + 1, 0⟩⟩⟩
theorem KA_step0 : stDone (KA 0) (wPut ((KA 0).rev + 1) ⟨(KA 0).now, []⟩ [97] [120] 0).2 = KA 1 := by rfl
theorem KA_step1 : stDone (KA 1) (wPut ((KA 1).rev + 1) ⟨(KA 1).now, []⟩ [97] [120] 0).2 = KA 2 := by rfl
section
variable {h : Hp} {F : List Asr}
end
end Go.Proofs.Ytaioncbpfckhaaa
/- Watchers: the chapter's example, a put of a key, within. -/
set_option linter.unusedSimpArgs false
set_option linter.unusedVariables false
set_option maxRecDepth 10000
namespace Go.Proofs.Ytaioncbpfckhaaa
open Go.Hz

/-- A number from 0 to n - 1. -/
theorem within13 {h : Hp} {F : List Asr} (hs : sat h F) {a : Int} {n : Nat} (h1 : -9223372036854775808 ≤ a) (h2 : a ≤ 9223372036854775807) (hn : 0 < n) (hn2 : n ≤ 4611686018427387904) :
    Triple Try.prog 12 [.int .i64 a, .int .i64 n] h (fun r h => ∃ k : Nat, r = .int .i64 k ∧ (k : Int) = a % n ∧ k < n ∧ sat h F) := by
  have m1 := Int.tmod_lt_of_pos a (b := n) (by omega)
  have m2 : -(n : Int) < a.tmod n := by
    have := Int.tmod_lt_of_pos (-a) (b := n) (by omega)
    rw [Int.neg_tmod] at this
    omega
  have hn0 : ¬ (n : Int) = 0 := by omega
  have e := Int.mul_tdiv_add_tmod a n
  have em : a % n = (a.tmod n) % n := by
    conv => lhs; rw [← e]
    rw [Int.mul_add_emod_self_left]
  refine t12 (Nat.le_of_ble_eq_true rfl) ?_
  simp (disch := omega) only [F12, hn0, go_sem, simprocAttr]
  refine cnd_dec (fun hc => ?_) (fun hc => ?_)
  · simp (disch := omega) only [go_sem, simprocAttr]
    refine ⟨(a.tmod n + n).toNat, by congr 1; omega, ?_, by omega, hs⟩
    rw [em, ← Int.add_emod_right, Int.emod_eq_of_lt (by omega) (by omega)]
    omega
  · simp (disch := omega) only [go_sem, simprocAttr]
    refine ⟨(a.tmod n).toNat, by congr 1; omega, ?_, by omega, hs⟩
    rw [em, Int.emod_eq_of_lt (by omega) (by omega)]
    omega
section
variable {h : Hp} {F : List Asr} {s : Nat} {A : Sto} {o : AV}
theorem put13 {k : Key} (hs : sat h (StP s A o :: F)) (hz : A.old.length + A.chs.length ≤ 40000000) (hr : A.rev ≤ 1000000000000) :
    Triple Try.prog 11 [.ptr s 7 0 0, .str k] h (fun r h => sat h (StP s (stDone A (wPut (A.rev + 1) ⟨A.now, []⟩ k [118] 0).2) .nilp :: F)) := by
  have hnl : A.now.length ≤ A.old.length + A.chs.length := by
    have := doneL_le (cs := A.chs.map Ver.c) (l := A.old)
    rw [List.length_map] at this
    exact this
  refine t11 (Nat.le_of_ble_eq_true rfl) ?_
  simp (disch := omega) only [F11, go_sem, simprocAttr]
  refine call_use (mvWrite hs) ?_
  rintro r h ⟨w, hr', hs⟩
  subst hr'
  simp (disch := omega) only [go_sem, simprocAttr]
  refine call_use (mvPut (key := k) (val := [118]) (lease := 0) hs (by omega) (by simp) (by show A.now.length ≤ _; omega) (by omega)) ?_
  rintro r h ⟨hr', hs⟩
  subst hr'
  simp (disch := omega) only [go_sem, simprocAttr]
  refine call_use (mvDone hs ?_ (by omega)) ?_
  · have : (wPut (A.rev + 1) ⟨A.now, []⟩ k [118] 0).2.l.length ≤ 1 := by
      unfold wPut; split <;> (try split) <;> (try split) <;> (try split) <;> simp
    omega
  rintro r h ⟨hr', hs⟩
  subst hr'
  simp (disch := omega) only [go_sem, simprocAttr]
  exact hs
def X1 : List Wc := [⟨1, [97], [], 1, .behind⟩]
theorem KA_poll : (hPoll (KA 2) X1 1 10).1 = ((KA 2).chs, 0) := by decide
theorem hbOK0 : HbOK 0 [] := ⟨List.nodup_nil, fun _ h => (by cases h), fun _ h => (by cases h), fun _ h => (by cases h)⟩
theorem known13 (hs : sat h F) : Triple Try.prog 7 [] h (fun r h => r = .bool true ∧ sat h F) := by
  refine t7 (Nat.le_of_ble_eq_true rfl) ?_
  simp (disch := omega) only [F7, go_sem, simprocAttr]
  refine call_use (mvNew hs) ?_
  rintro r h ⟨s, hr, hs⟩
  subst hr
  simp (disch := omega) only [go_sem, simprocAttr]
  refine call_use (hbNew (s := s) hs) ?_
  rintro r h ⟨hb, hr, hs⟩
  subst hr
  simp (disch := omega) only [go_sem, simprocAttr]
  refine blk_join (Q := fun e h => ∃ o, sat h (StP s (KA 2) o :: HbP hb s 0 [] :: F) ∧ (e 1 = .ptr s 7 0 0 ∧ e 2 = .ptr hb 3 0 0)) ?_ ?_
  · refine run_up (N := 2) (fun i e h => ∃ o, sat h (StP s (KA i) o :: HbP hb s 0 [] :: F) ∧ (e 1 = .ptr s 7 0 0 ∧ e 2 = .ptr hb 3 0 0 ∧ e 3 = .int .i64 i)) ⟨.nilp, hs.p1, rfl, rfl, rfl⟩ ?_
    clear hs
    rintro i e h hi ⟨o, hs, he⟩
    have m1 : (i : Int) + 1 = ((i + 1 : Nat) : Int) := by omega
    simp (disch := omega) only [go_sem, simprocAttr, he, m1]
    refine cnd_dec (fun h1 => ?_) (fun h1 => ?_)
    · have hi : i < 2 := by omega
      simp (disch := omega) only [go_sem, simprocAttr, he]
      refine call_use (mvWrite hs) ?_
      rintro r h ⟨w, hr, hs⟩
      subst hr
      simp (disch := omega) only [go_sem, simprocAttr, he]
      have hKl : (KA i).chs.length = i := by simp [KA]
      have hKn : (KA i).now.length ≤ i := by
        have := doneL_le (cs := (KA i).chs.map Ver.c) (l := (KA i).old)
        rw [List.length_map, hKl] at this
        simpa [Sto.now, KA] using this
      refine call_use (mvPut (key := [97]) (val := [120]) (lease := 0) hs (by omega) (by simp) (by show (KA i).now.length ≤ _; omega) (by show (i : Int) ≤ _; omega)) ?_
      rintro r h ⟨hr, hs⟩
      subst hr
      simp (disch := omega) only [go_sem, simprocAttr, he]
      refine call_use (mvDone hs ?_ (by show (i : Int) ≤ _; omega)) ?_
      · have : (wPut ((KA i).rev + 1) ⟨(KA i).now, []⟩ [97] [120] 0).2.l.length ≤ 1 := by
          unfold wPut; split <;> (try split) <;> (try split) <;> (try split) <;> simp
        have h0 : (KA i).old.length = 0 := rfl
        omega
      rintro r h ⟨hr, hs⟩
      subst hr
      simp (disch := omega) only [go_sem, simprocAttr, he, m1]
      refine ⟨by omega, .nilp, ?_⟩
      match i, hi, hs with
      | 0, _, hs => rw [KA_step0] at hs; exact hs
      | 1, _, hs => rw [KA_step1] at hs; exact hs
    · have hi : i = 2 := by omega
      subst hi
      simp (disch := omega) only [go_sem, simprocAttr, he]
      exact ⟨o, hs⟩
  clear hs
  rintro e h ⟨o, hs, he⟩
  have ok := MvP.ok hs
  simp (disch := omega) only [go_sem, simprocAttr, he]
  refine call_use (hbWatch (lo := [97]) (hi := []) (from_ := 1) hs.p1 hbOK0 (by omega) (by unfold i64; omega)) ?_
  rintro r h ⟨hr, hX, hs⟩
  subst hr
  simp (disch := omega) only [go_sem, simprocAttr, he]
  have hP := hbPoll (mo := 10) (id := 1) hs hX (by unfold i64; omega) (by decide) (by decide) ok
  refine call_use hP ?_
  rintro r h ⟨hr, hs⟩
  subst hr
  have e1 : (hPoll (KA 2) ([] ++ [⟨0 + 1, [97], [], max 1 1, .behind⟩]) 1 10).1 = ((KA 2).chs, 0) := KA_poll
  rw [e1]
  have ei : iaA 8 (evsV (KA 2).chs) (.int .i64 1) = some (.ro (evC ⟨2, .put ⟨[97], [120], 1, 2, 2, 0⟩⟩)) := by rfl
  have el : lenL (evsV (KA 2).chs) = some (.int .i64 2) := by rfl
  rw [evC_eq2] at ei
  simp (disch := omega) only [go_sem, simprocAttr, ei, el]
  exact hs.d1.drop
end
end Go.Proofs.Ytaioncbpfckhaaa
/- The law WatchOver, walked. -/
set_option linter.unusedSimpArgs false
set_option linter.unusedVariables false
set_option maxRecDepth 10000
namespace Go.Proofs.Ytaioncbpfckhaaa
open Go.Hz

section
theorem over13 {n0 m0 : Int} (hn0 : i64 n0) (hm0 : i64 m0) : Triple Try.prog 4 [.int .i64 n0, .int .i64 m0] Hp.emp (fun r _ => r = .bool true) := by
  have hs : sat Hp.emp [] := trivial
  unfold i64 at hn0 hm0
  refine t4 (Nat.le_of_ble_eq_true rfl) ?_
  simp (disch := omega) only [F4, go_sem, simprocAttr]
  refine call_use (known13 hs) ?_
  rintro r h ⟨hr, hs⟩
  subst hr
  simp (disch := omega) only [go_sem, simprocAttr]
  refine call_use (mvNew hs) ?_
  rintro r h ⟨s, hr, hs⟩
  subst hr
  simp (disch := omega) only [go_sem, simprocAttr]
  refine call_use (hbNew (s := s) hs) ?_
  rintro r h ⟨hb, hr, hs⟩
  subst hr
  simp (disch := omega) only [go_sem, simprocAttr]
  refine call_use (hbWatch (lo := [107]) (hi := []) (from_ := 1) hs hbOK0 (by omega) (by unfold i64; omega)) ?_
  rintro r h ⟨hr, hX, hs⟩
  subst hr
  simp (disch := omega) only [go_sem, simprocAttr]
  have hP := hbPoll (mo := 5) (id := 1) hs hX (by unfold i64; omega) (by decide) (by decide) (MvP.ok hs.p1)
  have e1 : hPoll ⟨0, 0, [], []⟩ ([] ++ [⟨0 + 1, [107], [], max 1 1, .behind⟩]) 1 5 = (([], 0), [wO 0 0]) := wO_start
  rw [e1] at hP
  refine call_use hP ?_
  rintro r h ⟨hr, hs⟩
  subst hr
  have l0 : lenL (evsV []) = some (.int .i64 0) := rfl
  simp (disch := omega) only [go_sem, simprocAttr, l0]
  refine call_use (within13 (n := 40) hs (a := n0) (by omega) (by omega) (by omega) (by omega)) ?_
  rintro r h ⟨n, hr, _, hn, hs⟩
  subst hr
  simp (disch := omega) only [go_sem, simprocAttr]
  refine call_use (within13 (n := 20) hs (a := m0) (by omega) (by omega) (by omega) (by omega)) ?_
  rintro r h ⟨m, hr, _, hm, hs⟩
  subst hr
  have m1 : (1 : Int) + m = ((m + 1 : Nat) : Int) := by omega
  simp (disch := omega) only [go_sem, simprocAttr, m1]
  refine blk_join (Q := fun e h => ∃ o, sat h [HbP hb s 1 [wO n 0], StP s (KP n) o] ∧ (e 0 = .int .i64 n ∧ e 1 = .int .i64 (m + 1 : Nat) ∧ e 6 = .ptr hb 3 0 0 ∧ e 7 = .int .i64 1)) ?_ ?_
  · refine run_up (N := n) (fun i e h => ∃ o, sat h [HbP hb s 1 [wO i 0], StP s (KP i) o] ∧ (e 0 = .int .i64 n ∧ e 1 = .int .i64 (m + 1 : Nat) ∧ e 5 = .ptr s 7 0 0 ∧ e 6 = .ptr hb 3 0 0 ∧ e 7 = .int .i64 1 ∧ e 10 = .int .i64 i)) ⟨.nilp, hs, rfl, rfl, rfl, rfl, rfl, rfl⟩ ?_
    clear hs hP hX
    rintro i e h hi ⟨o, hs, he⟩
    have m1 : (i : Int) + 1 = ((i + 1 : Nat) : Int) := by omega
    simp (disch := omega) only [go_sem, simprocAttr, he, m1]
    refine cnd_dec (fun h1 => ?_) (fun h1 => ?_)
    · simp (disch := omega) only [go_sem, simprocAttr, he]
      have hKl : (KP i).chs.length = i := chP_len
      refine call_use (put13 (k := [107]) hs.p1 (by show 0 + (KP i).chs.length ≤ _; omega) (by show (i : Int) ≤ _; omega)) ?_
      rintro r h hs
      rw [KP_put2] at hs
      have hKl : (KP (i + 1)).chs.length = i + 1 := chP_len
      simp (disch := omega) only [go_sem, simprocAttr, he]
      refine call_use (hbFeed hs.p1 (wO_ok (by omega)) (by omega) (by show ((i + 1 : Nat) : Int) ≤ _; omega) (MvP.ok hs)) ?_
      intro r h hs
      rw [wO_feed] at hs
      simp (disch := omega) only [go_sem, simprocAttr, he, m1]
      exact ⟨by omega, _, hs⟩
    · have hi : i = n := by omega
      subst hi
      simp (disch := omega) only [go_sem, simprocAttr, he]
      exact ⟨o, hs⟩
  clear hs hP hX
  rintro e h ⟨o, hs, he⟩
  have ok := MvP.ok hs.p1
  have hKl : (KP n).chs.length = n := chP_len
  simp (disch := omega) only [go_sem, simprocAttr, he]
  obtain ⟨N, hN⟩ : ∃ N, min n 16 = N := ⟨_, rfl⟩
  refine blk_join (Q := fun e h => sat h [HbP hb s 1 (if n ≤ 16 then [wO n N] else []), StP s (KP n) o] ∧ (e 0 = .int .i64 n ∧ e 6 = .ptr hb 3 0 0 ∧ e 7 = .int .i64 1 ∧ e 9 = .int .i64 (if n ≤ 16 then 0 else 14) ∧ e 11 = .int .i64 N)) ?_ ?_
  · refine run_loopN (fun t e h => ∃ g k : Nat, t = N - g ∧ g ≤ N ∧ k ≤ g ∧ sat h [HbP hb s 1 [wO n g], StP s (KP n) o] ∧ (e 0 = .int .i64 n ∧ e 1 = .int .i64 (m + 1 : Nat) ∧ e 6 = .ptr hb 3 0 0 ∧ e 7 = .int .i64 1 ∧ e 11 = .int .i64 g ∧ e 12 = .int .i64 k)) N ⟨0, 0, rfl, Nat.zero_le _, Nat.le_refl _, hs, he.1, he.2.1, he.2.2.1, he.2.2.2, rfl, rfl⟩ ?_
    clear hs he
    rintro t e h ⟨g, k, rfl, hg, hk, hs, he⟩
    have c1 : ((k : Int) < 60) = True := by simp; omega
    have m1 : (k : Int) + 1 = ((k + 1 : Nat) : Int) := by omega
    have hP := hbPoll (mo := (m + 1 : Nat)) (id := 1) hs (wO_ok (by omega)) (by unfold i64; omega) (by omega) (by show (n : Int) ≤ _; omega) ok
    simp (disch := omega) only [go_sem, simprocAttr, he, c1]
    by_cases hgN : g < N
    · rw [wO_poll (by omega) (by omega), hN] at hP
      have hlen : (((chP N).drop g).take (min (m + 1) (N - g))).length = min (m + 1) (N - g) := by
        rw [List.length_take, List.length_drop, chP_len]; omega
      obtain ⟨j, hj⟩ : ∃ j, min (m + 1) (N - g) = j := ⟨_, rfl⟩
      rw [hj] at hP hlen
      refine call_use hP ?_
      rintro r h ⟨hr, hs⟩
      subst hr
      have l1 : lenL (evsV (((chP N).drop g).take j)) = some (.int .i64 j) := by show some (AV.int .i64 ((((chP N).drop g).take j).map evC).length) = _; rw [List.length_map, hlen]
      have c2 : ((j : Int) == 0) = false := by simp; omega
      simp (disch := omega) only [go_sem, simprocAttr, l1, c2, he]
      refine blk_join (Q := fun e h => sat h [HbP hb s 1 [wO n (g + j)], StP s (KP n) o] ∧ (e 0 = .int .i64 n ∧ e 1 = .int .i64 (m + 1 : Nat) ∧ e 6 = .ptr hb 3 0 0 ∧ e 7 = .int .i64 1 ∧ e 11 = .int .i64 (g + j : Nat) ∧ e 12 = .int .i64 k)) ?_ ?_
      · refine run_up (N := j) (fun i e h => sat h [HbP hb s 1 [wO n (g + j)], StP s (KP n) o] ∧ (e 0 = .int .i64 n ∧ e 1 = .int .i64 (m + 1 : Nat) ∧ e 6 = .ptr hb 3 0 0 ∧ e 7 = .int .i64 1 ∧ e 8 = evsV (((chP N).drop g).take j) ∧ e 11 = .int .i64 (g + i : Nat) ∧ e 12 = .int .i64 k ∧ e 13 = .int .i64 i)) ⟨hs, by simp [Env.upd_apply, he]⟩ ?_
        clear hs he
        rintro i e h hi ⟨hs, he⟩
        have m2 : (i : Int) + 1 = ((i + 1 : Nat) : Int) := by omega
        have m3 : ((g + i : Nat) : Int) + 1 = ((g + (i + 1) : Nat) : Int) := by omega
        simp (disch := omega) only [go_sem, simprocAttr, he, l1, m2]
        refine cnd_dec (fun h1 => ?_) (fun h1 => ?_)
        · have hi2 : i < j := by omega
          have hat : (((chP N).drop g).take j)[i]'(by rw [hlen]; exact hi2) = vP (g + i) := by
            rw [List.getElem_take, List.getElem_drop, chP_at]
          have hia : iaA 8 (evsV (((chP N).drop g).take j)) (.int .i64 (i : Int)) = some (.ro (evC (vP (g + i)))) := by
            rw [← hat]
            exact ia_lst (f := evC) (by rw [hlen]; exact hi2) fun _ => by rw [evC_eq2]; rfl
          rw [evC_eq2] at hia
          have hrv : (vP (g + i)).rev = ((g + (i + 1) : Nat) : Int) := by show ((g + i : Nat) : Int) + 1 = _; omega
          rw [hrv] at hia
          simp (disch := omega) only [go_sem, simprocAttr, he, hia, m2, m3]
          exact ⟨by omega, hs⟩
        · have hi : i = j := by omega
          subst hi
          simp (disch := omega) only [go_sem, simprocAttr, he]
          exact hs
      clear hs he
      rintro e h ⟨hs, he⟩
      simp (disch := omega) only [go_sem, simprocAttr, he, m1]
      exact ⟨N - (g + j), by omega, g + j, k + 1, rfl, by omega, by omega, hs, rfl, rfl⟩
    · have hgN : g = N := by omega
      subst hgN
      by_cases h16 : n ≤ 16
      · rw [← hN, wO_end1 h16, hN] at hP
        refine call_use hP ?_
        rintro r h ⟨hr, hs⟩
        subst hr
        simp (disch := omega) only [go_sem, simprocAttr, he, l0]
        rw [if_pos h16]
        exact ⟨hs, by rw [if_pos h16]⟩
      · rw [← hN, wO_end2 h16] at hP
        refine call_use hP ?_
        rintro r h ⟨hr, hs⟩
        subst hr
        simp (disch := omega) only [go_sem, simprocAttr, he, l0]
        rw [if_neg h16]
        exact ⟨hs, by rw [if_neg h16]⟩
  clear hs he
  rintro e h ⟨hs, he⟩
  have em1 : (if (16 : Int) < n then (16 : Int) else n) = N := by split <;> omega
  have em2 : (if (n : Int) < 16 then (n : Int) else 16) = N := by split <;> omega
  by_cases h16 : n ≤ 16
  · rw [if_pos h16] at hs he
    have c3 : ((n : Int) ≤ 16) = True := by simp; omega
    simp (disch := omega) only [go_sem, simprocAttr, he, em1, em2, c3]
    refine call_use (hbLen hs) ?_
    rintro r h ⟨hr, hs⟩
    subst hr
    simp (disch := omega) only [go_sem, simprocAttr]
  · rw [if_neg h16] at hs he
    have c3 : ((n : Int) ≤ 16) = False := by simp; omega
    simp (disch := omega) only [go_sem, simprocAttr, he, em1, em2, c3]
    have hP := hbPoll (mo := 1) (id := 1) hs (last := 1) ⟨List.nodup_nil, fun _ h => (by cases h), fun _ h => (by cases h), fun _ h => (by cases h)⟩ (by unfold i64; omega) (by omega) (by show (n : Int) ≤ _; omega) ok
    rw [hPoll_none (fun x hx => by cases hx)] at hP
    refine call_use hP ?_
    rintro r h ⟨hr, hs⟩
    subst hr
    simp (disch := omega) only [go_sem, simprocAttr, he]
    refine call_use (hbLen hs) ?_
    rintro r h ⟨hr, hs⟩
    subst hr
    simp (disch := omega) only [go_sem, simprocAttr]
theorem watchOver_law (vs : List AV) (h : Ty.ones [.int .i64, .int .i64] vs) : Triple Try.prog 4 vs Hp.emp (fun r _ => r = .bool true) := by
  obtain ⟨a, _, rfl, ha, h⟩ := ones_cons h
  obtain ⟨b, _, rfl, hb, h⟩ := ones_cons h
  obtain rfl := ones_nil h
  obtain ⟨n, rfl, hn⟩ := int_of ha
  obtain ⟨m, rfl, hm⟩ := int_of hb
  exact over13 hn hm
end
end Go.Proofs.Ytaioncbpfckhaaa
