/- find, Marks, Put, by what the index says. -/
import Derived.Test.YtnojalihnajkbaaR9IndexPlaysLawPD
set_option linter.unusedSimpArgs false
set_option linter.unusedVariables false
set_option maxRecDepth 10000
namespace Go.Proofs.Ytnojalihnajkbaa
open Go.Hz

section
variable {h : Hp} {F : List Asr}
theorem ixFind {b : Nat} {its : List Ixt} {key : Key} (hs : sat h (IxQ b its :: F)) (hS : SrtI its) :
    Triple Try.prog 23 [.ptr b 2 0 0, .str key] h (fun r h => r = findV (its.map Ixt.kp) key ∧ sat h (IxQ b its :: F)) := by
  obtain ⟨r, hok, g⟩ := sat_ixq.1 hs
  refine (find g (fun h hs => hs.at) (l := its.map Ixt.kp) ?_ hS).mono ?_
  · cases r with
    | none => exact .inl ⟨rfl, hok⟩
    | some dt =>
      obtain ⟨d, t⟩ := dt
      refine .inr ⟨d, t, rfl, hok.2, hok.1, fun h hs => RT.of d t hok.1 hs.drop ?_⟩
      rw [hok.2]; exact IR.of hs.drop.drop
  · rintro r' h ⟨hr, hs⟩
    exact ⟨hr, sat_ixq.2 ⟨r, hok, hs⟩⟩
theorem findV_mid {l1 l2 : List Ixt} {x : Ixt} (hS : SrtI (l1 ++ x :: l2)) : findV ((l1 ++ x :: l2).map Ixt.kp) x.key = .ptr x.a 2 0 0 := by
  unfold findV
  have := findKp_mem (x := x.kp) hS (by simp)
  have h2 : findKp x.key ((l1 ++ x :: l2).map Ixt.kp) = some x.kp := this
  rw [h2]; rfl
theorem findV_none {its : List Ixt} {key : Key} (h : ∀ y ∈ its, y.key ≠ key) : findV (its.map Ixt.kp) key = .nilp := by
  unfold findV
  rw [findKp_none fun x hx => by
    obtain ⟨y, hy, rfl⟩ := List.mem_map.1 hx
    exact h y hy]

theorem ixMarks {b : Nat} {L : IL} {key : Key} (hs : sat h (IxP b L :: F)) (hw : WfL L) (hl : ∀ x ∈ L, x.2.length ≤ 1000000000) :
    Triple Try.prog 13 [.ptr b 2 0 0, .str key] h (fun r h => r = .lst ((getL L key).map mkE) ∧ sat h (IxP b L :: F)) := by
  refine Triple.lst 2 ?_
  obtain ⟨its, rfl, hq⟩ := sat_ixp.1 hs
  clear hs
  have hS := SrtI.kv.2 hw.1
  refine t13 (Nat.le_of_ble_eq_true rfl) ?_
  simp (disch := omega) only [F13, go_sem, reduceCtorEq, ↓reduceIte, Nat.reduceEqDiff, Nat.reduceAdd, Nat.reduceSub, Nat.reduceMul, Nat.reduceLT, Nat.reduceLeDiff, Int.reduceEq, Int.reduceNe, Int.reduceLT, Int.reduceLE, Int.reduceBEq, Int.reduceBNe, Int.reduceToNat]
  refine call_use (ixFind (key := key) hq hS) ?_
  rintro r h ⟨hr, hs⟩
  subst hr
  rcases kv_cut (its := its) key with ⟨l1, x, l2, rfl, rfl⟩ | hn
  · rw [findV_mid hS]
    obtain ⟨R, g, back⟩ := ixq_open hs
    have g := sat_it.1 g
    have hlen := g.drop.owr.len
    have hxl : x.ms.length ≤ 1000000000 := hl (x.key, x.ms) (by simp [Ixt.kv])
    rw [List.length_map] at hlen
    simp (disch := omega) only [go_sem, reduceCtorEq, ↓reduceIte, Nat.reduceEqDiff, Nat.reduceAdd, Nat.reduceSub, Nat.reduceMul, Nat.reduceLT, Nat.reduceLeDiff, Int.reduceEq, Int.reduceNe, Int.reduceLT, Int.reduceLE, Int.reduceBEq, Int.reduceBNe, Int.reduceToNat, g.at, hlen]
    refine msl_use g (by omega) (by omega) fun bb h hs => ?_
    simp (disch := omega) only [go_sem, reduceCtorEq, ↓reduceIte, Nat.reduceEqDiff, Nat.reduceAdd, Nat.reduceSub, Nat.reduceMul, Nat.reduceLT, Nat.reduceLeDiff, Int.reduceEq, Int.reduceNe, Int.reduceLT, Int.reduceLE, Int.reduceBEq, Int.reduceBNe, Int.reduceToNat, hs.p1.at]
    have hy := hs.p1.p1.p2.els
    refine cp_use hs (Nat.zero_le _) (by omega) (Nat.le_refl _) (n := x.ms.length) (ys := x.ms.map mkE) (by rw [hy.lenN]; simp) ?_ (atoms_mkE x.ms) fun h hs => ?_
    · rw [Nat.min_self]
      have := srcN_of (n := x.ms.length) hy.1 (by simp)
      rw [List.take_of_length_le (by simp)] at this
      exact this
    simp (disch := omega) only [go_sem, reduceCtorEq, ↓reduceIte, Nat.reduceEqDiff, Nat.reduceAdd, Nat.reduceSub, Nat.reduceMul, Nat.reduceLT, Nat.reduceLeDiff, Int.reduceEq, Int.reduceNe, Int.reduceLT, Int.reduceLE, Int.reduceBEq, Int.reduceBNe, Int.reduceToNat]
    simp only [List.take_zero, List.nil_append, Nat.min_self, Nat.zero_add] at hs
    rw [List.drop_eq_nil_of_le (by simp), List.append_nil] at hs
    have g2 := hs.ow (by simp)
    rw [List.length_map] at g2
    refine ⟨x.ms.map mkE, _, g2, fun h hs => ⟨?_, sat_ixp.2 ⟨l1 ++ x :: l2, rfl, back x h F rfl rfl (sat_it.2 hs)⟩⟩⟩
    have e : (l1 ++ x :: l2).map Ixt.kv = l1.map Ixt.kv ++ (x.key, x.ms) :: l2.map Ixt.kv := by simp [Ixt.kv]
    rw [e, getL_mid (by rw [← e]; exact hw.1)]
  · rw [findV_none hn]
    simp (disch := omega) only [go_sem, reduceCtorEq, ↓reduceIte, Nat.reduceEqDiff, Nat.reduceAdd, Nat.reduceSub, Nat.reduceMul, Nat.reduceLT, Nat.reduceLeDiff, Int.reduceEq, Int.reduceNe, Int.reduceLT, Int.reduceLE, Int.reduceBEq, Int.reduceBNe, Int.reduceToNat]
    refine ⟨[], _, hs.add (A := Ow 2 .nils []) ow_nil, fun h hs => ⟨?_, sat_ixp.2 ⟨its, rfl, hs⟩⟩⟩
    have := getL_none (L := its.map Ixt.kv) (k := key) (fun x hx => by
      obtain ⟨y, hy, rfl⟩ := List.mem_map.1 hx
      exact hn y hy)
    rw [this]; rfl

theorem putE_in {L : IL} {key : Key} {m : Mk} (c1 : key ≠ []) (c2 : key.length ≤ 100) (c3 : 1 ≤ m.1) {l : Mk} (hg : lastM (getL L key) = l) :
    putE L key m = if m.1 ≤ l.1 then 15 else if m.2 = true ∧ l.2 = true then 2 else 0 := by
  unfold putE
  rw [if_neg (by rintro (h | h | h) <;> first | exact c1 h | omega), hg]

theorem ixPut {b : Nat} {L : IL} {key : Key} {m : Mk} (hs : sat h (IxP b L :: F)) (hw : WfL L) (hl : ∀ x ∈ L, x.2.length ≤ 1000000000) (hn : L.length ≤ 1000000000) (hm : inI m.1) :
    Triple Try.prog 10 [.ptr b 2 0 0, .str key, .agg [.int .i64 m.1, .bool m.2]] h (fun r h => r = .int .i64 (putE L key m) ∧ sat h (IxP b (putL L key m) :: F)) := by
  refine t10 (Nat.le_of_ble_eq_true rfl) ?_
  simp (disch := omega) only [F10, go_sem, reduceCtorEq, ↓reduceIte, Nat.reduceEqDiff, Nat.reduceAdd, Nat.reduceSub, Nat.reduceMul, Nat.reduceLT, Nat.reduceLeDiff, Int.reduceEq, Int.reduceNe, Int.reduceLT, Int.reduceLE, Int.reduceBEq, Int.reduceBNe, Int.reduceToNat]
  refine new_opq hs fun b5 h hs => ?_
  simp (disch := omega) only [go_sem, reduceCtorEq, ↓reduceIte, Nat.reduceEqDiff, Nat.reduceAdd, Nat.reduceSub, Nat.reduceMul, Nat.reduceLT, Nat.reduceLeDiff, Int.reduceEq, Int.reduceNe, Int.reduceLT, Int.reduceLE, Int.reduceBEq, Int.reduceBNe, Int.reduceToNat, hs.at]
  have fin1 : putE L key m ≠ 0 → putL L key m = L := fun h => by simp [putL, h]
  by_cases c1 : key = []
  · subst c1
    have e : putE L [] m = 1 := by simp [putE]
    simp (disch := omega) only [go_sem, reduceCtorEq, ↓reduceIte, Nat.reduceEqDiff, Nat.reduceAdd, Nat.reduceSub, Nat.reduceMul, Nat.reduceLT, Nat.reduceLeDiff, Int.reduceEq, Int.reduceNe, Int.reduceLT, Int.reduceLE, Int.reduceBEq, Int.reduceBNe, Int.reduceToNat]
    rw [e, fin1 (by rw [e]; decide)]
    exact ⟨rfl, hs.drop⟩
  have c1' : (key == ([] : List UInt8)) = false := by rw [beq_eq_false_iff_ne]; exact c1
  by_cases c2 : 100 < key.length
  · have e : putE L key m = 1 := by simp [putE, c2]
    have c2' : decide ((100 : Int) < (key.length : Int)) = true := by simp; omega
    simp (disch := omega) only [go_sem, reduceCtorEq, ↓reduceIte, Nat.reduceEqDiff, Nat.reduceAdd, Nat.reduceSub, Nat.reduceMul, Nat.reduceLT, Nat.reduceLeDiff, Int.reduceEq, Int.reduceNe, Int.reduceLT, Int.reduceLE, Int.reduceBEq, Int.reduceBNe, Int.reduceToNat, c1', c2']
    rw [e, fin1 (by rw [e]; decide)]
    exact ⟨rfl, hs.drop⟩
  have c2' : decide ((100 : Int) < (key.length : Int)) = false := by simp; omega
  by_cases c3 : m.1 < 1
  · have e : putE L key m = 1 := by simp [putE, c3]
    have c3' : decide (m.1 < 1) = true := by simpa using c3
    simp (disch := omega) only [go_sem, reduceCtorEq, ↓reduceIte, Nat.reduceEqDiff, Nat.reduceAdd, Nat.reduceSub, Nat.reduceMul, Nat.reduceLT, Nat.reduceLeDiff, Int.reduceEq, Int.reduceNe, Int.reduceLT, Int.reduceLE, Int.reduceBEq, Int.reduceBNe, Int.reduceToNat, c1', c2', c3', hs.at]
    rw [e, fin1 (by rw [e]; decide)]
    exact ⟨rfl, hs.drop⟩
  have c3' : decide (m.1 < 1) = false := by simpa using c3
  simp (disch := omega) only [go_sem, reduceCtorEq, ↓reduceIte, Nat.reduceEqDiff, Nat.reduceAdd, Nat.reduceSub, Nat.reduceMul, Nat.reduceLT, Nat.reduceLeDiff, Int.reduceEq, Int.reduceNe, Int.reduceLT, Int.reduceLE, Int.reduceBEq, Int.reduceBNe, Int.reduceToNat, c1', c2', c3', hs.at]
  obtain ⟨its, hL, hq⟩ := sat_ixp.1 hs.p1
  have hS := SrtI.kv.2 (hL ▸ hw.1)
  refine call_use (ixFind (key := key) hq hS) ?_
  rintro r h ⟨hr, hs⟩
  subst hr
  rcases kv_cut (its := its) key with ⟨l1, x, l2, rfl, rfl⟩ | hnk
  · rw [findV_mid hS]
    have hLe : L = l1.map Ixt.kv ++ (x.key, x.ms) :: l2.map Ixt.kv := by rw [← hL]; simp [Ixt.kv]
    have hg : getL L x.key = x.ms := by rw [hLe, getL_mid (by rw [← hLe]; exact hw.1)]
    have hne : x.ms ≠ [] := (hw.2 (x.key, x.ms) (by rw [hLe]; simp)).1
    have hxl : x.ms.length ≤ 1000000000 := hl (x.key, x.ms) (by rw [hLe]; simp)
    obtain ⟨R, g, back⟩ := ixq_open hs
    have hs := sat_it.1 g
    have hpos : 0 < x.ms.length := List.length_pos_iff.2 hne
    have hlast : (x.ms.map mkE)[x.ms.length - 1]? = some (mkE (x.ms.getLast hne)) := by
      rw [List.getElem?_map, List.getLast_eq_getElem, List.getElem?_eq_getElem (by omega)]; rfl
    have hlm : lastM (getL L x.key) = x.ms.getLast hne := by rw [hg, lastM, List.getLast?_eq_some_getLast hne]; rfl
    have hE := putE_in (m := m) c1 (by omega) (by omega) hlm
    generalize x.ms.getLast hne = la at hlast hlm hE
    obtain ⟨bm, cm, hmv, hbm, hcm⟩ := hs.drop.owr.row hlast
    rw [List.length_map] at hmv
    have hlen := hs.drop.owr.len
    rw [List.length_map] at hlen
    have e1 : ((x.ms.length : Int) - 1) = ((x.ms.length - 1 : Nat) : Int) := by omega
    have hia : iaA 2 (.arr bm 2 0 x.ms.length cm) (.int .i64 ((x.ms.length - 1 : Nat) : Int)) = some (.ptr bm 2 (x.ms.length - 1) 0) := by
      rw [iaA_go (by omega) (by omega)]; simp
    simp (disch := omega) only [go_sem, reduceCtorEq, ↓reduceIte, Nat.reduceEqDiff, Nat.reduceAdd, Nat.reduceSub, Nat.reduceMul, Nat.reduceLT, Nat.reduceLeDiff, Int.reduceEq, Int.reduceNe, Int.reduceLT, Int.reduceLE, Int.reduceBEq, Int.reduceBNe, Int.reduceToNat]
    refine new_opq hs fun b8 h hs => ?_
    simp (disch := omega) only [go_sem, reduceCtorEq, ↓reduceIte, Nat.reduceEqDiff, Nat.reduceAdd, Nat.reduceSub, Nat.reduceMul, Nat.reduceLT, Nat.reduceLeDiff, Int.reduceEq, Int.reduceNe, Int.reduceLT, Int.reduceLE, Int.reduceBEq, Int.reduceBNe, Int.reduceToNat, hs.at]
    have hsB := hs.set (o' := .row 2 [[.int .i64 la.1, .bool la.2]] 1)
    have hs := hs.set (o' := .row 2 [[.int .i64 0, .bool true]] 1)
    have hbm2 := (hs.p1.p1.p2)
    rw [show x.m = Ow 2 (.arr bm 2 0 x.ms.length cm) (x.ms.map mkE) by unfold Ixt.m; rw [hmv]] at hbm2
    have hbm3 := (hbm2.arr).1.at
    simp (disch := omega) only [go_sem, reduceCtorEq, ↓reduceIte, Nat.reduceEqDiff, Nat.reduceAdd, Nat.reduceSub, Nat.reduceMul, Nat.reduceLT, Nat.reduceLeDiff, Int.reduceEq, Int.reduceNe, Int.reduceLT, Int.reduceLE, Int.reduceBEq, Int.reduceBNe, Int.reduceToNat, hs.p1.at, hlen, hmv, e1, hia, hbm3, hlast, mkE, hs.at]
    have hb5 := (hsB.p3.p3.p3.p3.p4).at
    simp (disch := omega) only [go_sem, reduceCtorEq, ↓reduceIte, Nat.reduceEqDiff, Nat.reduceAdd, Nat.reduceSub, Nat.reduceMul, Nat.reduceLT, Nat.reduceLeDiff, Int.reduceEq, Int.reduceNe, Int.reduceLT, Int.reduceLE, Int.reduceBEq, Int.reduceBNe, Int.reduceToNat, hb5]
    by_cases t1 : m.1 ≤ la.1
    · have t1' : decide (m.1 ≤ la.1) = true := by simpa using t1
      have e : putE L x.key m = 15 := by rw [hE, if_pos t1]
      simp (disch := omega) only [go_sem, reduceCtorEq, ↓reduceIte, Nat.reduceEqDiff, Nat.reduceAdd, Nat.reduceSub, Nat.reduceMul, Nat.reduceLT, Nat.reduceLeDiff, Int.reduceEq, Int.reduceNe, Int.reduceLT, Int.reduceLE, Int.reduceBEq, Int.reduceBNe, Int.reduceToNat, t1']
      rw [e, fin1 (by rw [e]; decide)]
      refine ⟨rfl, ?_⟩
      have g := (hsB.drop.p3.p3.p3.p3).d3
      exact sat_ixp.2 ⟨_, hL, back x _ F rfl rfl (sat_it.2 g)⟩
    have t1' : decide (m.1 ≤ la.1) = false := by simpa using t1
    simp (disch := omega) only [go_sem, reduceCtorEq, ↓reduceIte, Nat.reduceEqDiff, Nat.reduceAdd, Nat.reduceSub, Nat.reduceMul, Nat.reduceLT, Nat.reduceLeDiff, Int.reduceEq, Int.reduceNe, Int.reduceLT, Int.reduceLE, Int.reduceBEq, Int.reduceBNe, Int.reduceToNat, t1', hb5]
    by_cases t2 : m.2 = true ∧ la.2 = true
    · have e : putE L x.key m = 2 := by rw [hE, if_neg t1, if_pos t2]
      simp (disch := omega) only [go_sem, reduceCtorEq, ↓reduceIte, Nat.reduceEqDiff, Nat.reduceAdd, Nat.reduceSub, Nat.reduceMul, Nat.reduceLT, Nat.reduceLeDiff, Int.reduceEq, Int.reduceNe, Int.reduceLT, Int.reduceLE, Int.reduceBEq, Int.reduceBNe, Int.reduceToNat, t2.1, t2.2, hsB.at]
      rw [e, fin1 (by rw [e]; decide)]
      refine ⟨rfl, ?_⟩
      have g := (hsB.drop.p3.p3.p3.p3).d3
      rw [t2.2] at g
      exact sat_ixp.2 ⟨_, hL, back x _ F rfl rfl (sat_it.2 g)⟩
    have e : putE L x.key m = 0 := by rw [hE, if_neg t1, if_neg t2]
    have hput : putL L x.key m = (l1 ++ ⟨x.a, x.key, x.mv, x.ms ++ [m]⟩ :: l2).map Ixt.kv := by
      rw [putL, if_pos e, hg, hLe, layL_mid (by rw [← hLe]; exact hw.1)]; simp [Ixt.kv]
    rw [e, hput]
    have hy2 : ∀ h bn, h bn = some (.row 2 [mkE m] 1) → srcA 2 h (.arr bn 2 0 1 1) = some [mkE m] := fun h bn hh => src_one hh
    have hxk : x.k = pto x.a (.row 2 [[.str x.key, x.mv]] 1) := rfl
    have hxm : x.m = Ow 2 x.mv (x.ms.map mkE) := rfl
    obtain ⟨mr, md⟩ := m
    obtain ⟨lr, ld⟩ := la
    have t3 : md = false ∨ (md = true ∧ ld = false) := by
      cases md
      · exact .inl rfl
      · right; refine ⟨rfl, ?_⟩
        cases ld
        · rfl
        · exact absurd ⟨rfl, rfl⟩ t2
    rcases t3 with rfl | ⟨rfl, rfl⟩
    · simp (disch := omega) only [go_sem, reduceCtorEq, ↓reduceIte, Nat.reduceEqDiff, Nat.reduceAdd, Nat.reduceSub, Nat.reduceMul, Nat.reduceLT, Nat.reduceLeDiff, Int.reduceEq, Int.reduceNe, Int.reduceLT, Int.reduceLE, Int.reduceBEq, Int.reduceBNe, Int.reduceToNat, hb5, hsB.p1.at, hsB.at]
      have hs := hsB.p3.p3.p3.p3.p4
      refine new_opq hs fun bn h hs => ?_
      simp (disch := omega) only [go_sem, reduceCtorEq, ↓reduceIte, Nat.reduceEqDiff, Nat.reduceAdd, Nat.reduceSub, Nat.reduceMul, Nat.reduceLT, Nat.reduceLeDiff, Int.reduceEq, Int.reduceNe, Int.reduceLT, Int.reduceLE, Int.reduceBEq, Int.reduceBNe, Int.reduceToNat, hs.at]
      refine app_sat (es := x.ms.map mkE) (s := 2) (v := x.mv) (F := x.k :: R :: F) (hs.drop.drop.drop.p2.p1.p2.imp fun _ g => g) (hy2 _ bn hs.at) (atoms_mkE [_]) (by simp; omega) fun v' h hs hc' ha' => ?_
      simp (disch := omega) only [go_sem, reduceCtorEq, ↓reduceIte, Nat.reduceEqDiff, Nat.reduceAdd, Nat.reduceSub, Nat.reduceMul, Nat.reduceLT, Nat.reduceLeDiff, Int.reduceEq, Int.reduceNe, Int.reduceLT, Int.reduceLE, Int.reduceBEq, Int.reduceBNe, Int.reduceToNat, hc', ha', hs.p1.at]
      have g := hs.p1.set (o' := .row 2 [[.str x.key, v']] 1)
      refine sat_ixp.2 ⟨l1 ++ ⟨x.a, x.key, v', x.ms ++ [(mr, false)]⟩ :: l2, by simp [Ixt.kv], back ⟨x.a, x.key, v', x.ms ++ [(mr, false)]⟩ _ F rfl rfl (sat_it.2 ?_)⟩
      simpa [Ixt.k, Ixt.m, mkE] using g
    · simp (disch := omega) only [go_sem, reduceCtorEq, ↓reduceIte, Nat.reduceEqDiff, Nat.reduceAdd, Nat.reduceSub, Nat.reduceMul, Nat.reduceLT, Nat.reduceLeDiff, Int.reduceEq, Int.reduceNe, Int.reduceLT, Int.reduceLE, Int.reduceBEq, Int.reduceBNe, Int.reduceToNat, hb5, hsB.p1.at, hsB.at]
      have hs := hsB.p3.p3.p3.p3.p4
      refine new_opq hs fun bn h hs => ?_
      simp (disch := omega) only [go_sem, reduceCtorEq, ↓reduceIte, Nat.reduceEqDiff, Nat.reduceAdd, Nat.reduceSub, Nat.reduceMul, Nat.reduceLT, Nat.reduceLeDiff, Int.reduceEq, Int.reduceNe, Int.reduceLT, Int.reduceLE, Int.reduceBEq, Int.reduceBNe, Int.reduceToNat, hs.at]
      refine app_sat (es := x.ms.map mkE) (s := 2) (v := x.mv) (F := x.k :: R :: F) (hs.drop.drop.drop.p2.p1.p2.imp fun _ g => g) (hy2 _ bn hs.at) (atoms_mkE [_]) (by simp; omega) fun v' h hs hc' ha' => ?_
      simp (disch := omega) only [go_sem, reduceCtorEq, ↓reduceIte, Nat.reduceEqDiff, Nat.reduceAdd, Nat.reduceSub, Nat.reduceMul, Nat.reduceLT, Nat.reduceLeDiff, Int.reduceEq, Int.reduceNe, Int.reduceLT, Int.reduceLE, Int.reduceBEq, Int.reduceBNe, Int.reduceToNat, hc', ha', hs.p1.at]
      have g := hs.p1.set (o' := .row 2 [[.str x.key, v']] 1)
      refine sat_ixp.2 ⟨l1 ++ ⟨x.a, x.key, v', x.ms ++ [(mr, true)]⟩ :: l2, by simp [Ixt.kv], back ⟨x.a, x.key, v', x.ms ++ [(mr, true)]⟩ _ F rfl rfl (sat_it.2 ?_)⟩
      simpa [Ixt.k, Ixt.m, mkE] using g
  · rw [findV_none hnk]
    have hLk : ∀ y ∈ L, y.1 ≠ key := fun y hy => by
      rw [← hL] at hy
      obtain ⟨z, hz, rfl⟩ := List.mem_map.1 hy
      exact hnk z hz
    have hg : getL L key = [] := getL_none hLk
    have hlm : lastM (getL L key) = (0, true) := by rw [hg]; rfl
    have hE := putE_in (m := m) c1 (by omega) (by omega) hlm
    obtain ⟨mr, md⟩ := m
    simp (disch := omega) only [go_sem, reduceCtorEq, ↓reduceIte, Nat.reduceEqDiff, Nat.reduceAdd, Nat.reduceSub, Nat.reduceMul, Nat.reduceLT, Nat.reduceLeDiff, Int.reduceEq, Int.reduceNe, Int.reduceLT, Int.reduceLE, Int.reduceBEq, Int.reduceBNe, Int.reduceToNat]
    refine new_opq hs fun b8 h hs => ?_
    simp (disch := omega) only [go_sem, reduceCtorEq, ↓reduceIte, Nat.reduceEqDiff, Nat.reduceAdd, Nat.reduceSub, Nat.reduceMul, Nat.reduceLT, Nat.reduceLeDiff, Int.reduceEq, Int.reduceNe, Int.reduceLT, Int.reduceLE, Int.reduceBEq, Int.reduceBNe, Int.reduceToNat, hs.at]
    have hsB := hs.set (o' := .row 2 [[.int .i64 0, .bool true]] 1)
    have hb5 := (hsB.p1.p1.p2).at
    have t1' : decide (mr ≤ 0) = false := by simp at c3 ⊢; omega
    simp (disch := omega) only [go_sem, reduceCtorEq, ↓reduceIte, Nat.reduceEqDiff, Nat.reduceAdd, Nat.reduceSub, Nat.reduceMul, Nat.reduceLT, Nat.reduceLeDiff, Int.reduceEq, Int.reduceNe, Int.reduceLT, Int.reduceLE, Int.reduceBEq, Int.reduceBNe, Int.reduceToNat, hb5, t1']
    have t1 : ¬ mr ≤ 0 := by simpa using t1'
    cases md
    · have e : putE L key (mr, false) = 0 := by rw [hE, if_neg t1, if_neg (by simp)]
      simp (disch := omega) only [go_sem, reduceCtorEq, ↓reduceIte, Nat.reduceEqDiff, Nat.reduceAdd, Nat.reduceSub, Nat.reduceMul, Nat.reduceLT, Nat.reduceLeDiff, Int.reduceEq, Int.reduceNe, Int.reduceLT, Int.reduceLE, Int.reduceBEq, Int.reduceBNe, Int.reduceToNat, hb5]
      have hs := hsB.p1.p1.p2
      refine new_opq hs fun bn h hs => ?_
      simp (disch := omega) only [go_sem, reduceCtorEq, ↓reduceIte, Nat.reduceEqDiff, Nat.reduceAdd, Nat.reduceSub, Nat.reduceMul, Nat.reduceLT, Nat.reduceLeDiff, Int.reduceEq, Int.reduceNe, Int.reduceLT, Int.reduceLE, Int.reduceBEq, Int.reduceBNe, Int.reduceToNat, hs.at]
      refine new_opq hs fun ba h hs => ?_
      simp (disch := omega) only [go_sem, reduceCtorEq, ↓reduceIte, Nat.reduceEqDiff, Nat.reduceAdd, Nat.reduceSub, Nat.reduceMul, Nat.reduceLT, Nat.reduceLeDiff, Int.reduceEq, Int.reduceNe, Int.reduceLT, Int.reduceLE, Int.reduceBEq, Int.reduceBNe, Int.reduceToNat, hs.at]
      have hs := hs.p2.drop.p2.drop.p1.p1.p2
      have hx : ∀ y ∈ its, y.key ≠ (Ixt.mk ba key (.arr bn 2 0 1 1) [(mr, false)]).key := hnk
      have hq : sat h (IxQ b its :: (Ixt.mk ba key (.arr bn 2 0 1 1) [(mr, false)]).p :: F) :=
        hs.tl fun h g => sat_it.2 (g.tl fun h g => g.ow (by simp))
      refine call_use (ixAdd hq hS hx (by rw [← hL, List.length_map] at hn; exact hn)) ?_
      intro r h hs
      simp (disch := omega) only [go_sem, reduceCtorEq, ↓reduceIte, Nat.reduceEqDiff, Nat.reduceAdd, Nat.reduceSub, Nat.reduceMul, Nat.reduceLT, Nat.reduceLeDiff, Int.reduceEq, Int.reduceNe, Int.reduceLT, Int.reduceLE, Int.reduceBEq, Int.reduceBNe, Int.reduceToNat]
      rw [e]
      refine ⟨rfl, sat_ixp.2 ⟨_, ?_, hs⟩⟩
      rw [putL, if_pos e, ← hL, ← layL_new hS hx, hL, hg]; rfl
    · have e : putE L key (mr, true) = 2 := by rw [hE, if_neg t1, if_pos ⟨rfl, rfl⟩]
      simp (disch := omega) only [go_sem, reduceCtorEq, ↓reduceIte, Nat.reduceEqDiff, Nat.reduceAdd, Nat.reduceSub, Nat.reduceMul, Nat.reduceLT, Nat.reduceLeDiff, Int.reduceEq, Int.reduceNe, Int.reduceLT, Int.reduceLE, Int.reduceBEq, Int.reduceBNe, Int.reduceToNat, hsB.at]
      rw [e, fin1 (by rw [e]; decide)]
      exact ⟨rfl, sat_ixp.2 ⟨_, hL, (hsB.p1).d1.d1⟩⟩
end
end Go.Proofs.Ytnojalihnajkbaa
/- Keys; trimmed. -/
set_option linter.unusedSimpArgs false
set_option linter.unusedVariables false
set_option maxRecDepth 10000
namespace Go.Proofs.Ytnojalihnajkbaa
open Go.Hz

section
variable {h : Hp} {F : List Asr}
theorem atoms_str (l : List Key) : AtomsL (l.map fun k => [AV.str k]) := by
  intro e he v hv
  obtain ⟨k, _, rfl⟩ := List.mem_map.1 he
  simp only [List.mem_cons, List.not_mem_nil, or_false] at hv
  subst hv; rfl
theorem keys_filter {its : List Ixt} {lo hi : Key} : ((its.map Ixt.kp).filter (rngK lo hi)).map (fun x => x.2) = keysL (its.map Ixt.kv) lo hi := by
  unfold keysL
  rw [List.filter_map, List.map_map, List.map_map, List.filter_map]
  rfl

/-- The values of strings. -/
def strsV (l : List Key) : AV := .lst (l.map fun k => [.str k])

/-- What is added to a list, key by key. -/
def outA (bo : Nat) (pre : List Key) (done : List Kp) : Asr := fun h => ∃ ov, sat h [pto bo (.row 1 [[ov]] 1), Ow 1 ov ((pre ++ done.map fun x => x.2).map fun k => [.str k])]
theorem sat_outA {bo : Nat} {pre : List Key} {done : List Kp} : sat h (outA bo pre done :: F) ↔ ∃ ov, sat h (pto bo (.row 1 [[ov]] 1) :: Ow 1 ov ((pre ++ done.map fun x => x.2).map fun k => [.str k]) :: F) := by
  unfold outA
  rw [sat_ex]
  exact ⟨fun ⟨r, hs⟩ => ⟨r, sat_sl.1 hs⟩, fun ⟨r, hs⟩ => ⟨r, sat_sl (l1 := [_, _]) |>.2 hs⟩⟩

theorem ixKeys {b : Nat} {L : IL} {lo hi : Key} (hs : sat h (IxP b L :: F)) (hw : WfL L) (hn : L.length ≤ 1000000000) :
    Triple Try.prog 19 [.ptr b 2 0 0, .str lo, .str hi] h (fun r h => r = strsV (keysL L lo hi) ∧ sat h (IxP b L :: F)) := by
  refine Triple.lst 1 ?_
  obtain ⟨its, hL, hq⟩ := sat_ixp.1 hs
  have hS := SrtI.kv.2 (hL ▸ hw.1)
  have hn2 : its.length ≤ 1000000000 := by rw [← hL, List.length_map] at hn; exact hn
  obtain ⟨r, hok, g⟩ := sat_ixq.1 hq
  clear hs hq
  refine t19 (Nat.le_of_ble_eq_true rfl) ?_
  simp (disch := omega) only [F19, go_sem, reduceCtorEq, ↓reduceIte, Nat.reduceEqDiff, Nat.reduceAdd, Nat.reduceSub, Nat.reduceMul, Nat.reduceLT, Nat.reduceLeDiff, Int.reduceEq, Int.reduceNe, Int.reduceLT, Int.reduceLE, Int.reduceBEq, Int.reduceBNe, Int.reduceToNat]
  have hs := g
  refine new_opq hs fun bo h hs => ?_
  simp (disch := omega) only [go_sem, reduceCtorEq, ↓reduceIte, Nat.reduceEqDiff, Nat.reduceAdd, Nat.reduceSub, Nat.reduceMul, Nat.reduceLT, Nat.reduceLeDiff, Int.reduceEq, Int.reduceNe, Int.reduceLT, Int.reduceLE, Int.reduceBEq, Int.reduceBNe, Int.reduceToNat, hs.at]
  have hb := hs.p1.at
  simp (disch := omega) only [go_sem, reduceCtorEq, ↓reduceIte, Nat.reduceEqDiff, Nat.reduceAdd, Nat.reduceSub, Nat.reduceMul, Nat.reduceLT, Nat.reduceLeDiff, Int.reduceEq, Int.reduceNe, Int.reduceLT, Int.reduceLE, Int.reduceBEq, Int.reduceBNe, Int.reduceToNat, hb]
  have hs0 : sat h (outA bo [] [] :: pto b (.row 2 [[rootV r, .int .i64 its.length]] 1) :: rootA r :: (its.map Ixt.p ++ F)) := sat_outA.2 ⟨.nils, hs.tl fun _ g => g.add ow_nil⟩
  have fin : ∀ h, sat h (outA bo [] ((its.map Ixt.kp).filter (rngK lo hi)) :: pto b (.row 2 [[rootV r, .int .i64 its.length]] 1) :: rootA r :: (its.map Ixt.p ++ F)) →
      ∃ ov, sat h (pto bo (.row 1 [[ov]] 1) :: Ow 1 ov ((keysL L lo hi).map fun k => [.str k]) :: IxP b L :: F) := by
    intro h hs
    obtain ⟨ov, hs⟩ := sat_outA.1 hs
    rw [List.nil_append, keys_filter, hL] at hs
    exact ⟨ov, hs.tl fun _ g => g.tl fun _ g => sat_ixp.2 ⟨its, hL, sat_ixq.2 ⟨r, hok, g⟩⟩⟩
  cases r with
  | none =>
    have h0 : its.map Ixt.kp = [] := hok
    refine call_use (walk0 hs0 lo hi _) ?_
    intro r h hs
    obtain ⟨ov, hs⟩ := fin h (by rw [h0]; exact hs)
    simp (disch := omega) only [go_sem, reduceCtorEq, ↓reduceIte, Nat.reduceEqDiff, Nat.reduceAdd, Nat.reduceSub, Nat.reduceMul, Nat.reduceLT, Nat.reduceLeDiff, Int.reduceEq, Int.reduceNe, Int.reduceLT, Int.reduceLE, Int.reduceBEq, Int.reduceBNe, Int.reduceToNat, hs.at]
    exact ⟨_, _, hs.drop, fun h hs => ⟨rfl, hs⟩⟩
  | some dt =>
    obtain ⟨d, t⟩ := dt
    have hlf : ((its.map Ixt.kp).filter (rngK lo hi)).length ≤ 1000000000 := Nat.le_trans (List.length_filter_le _ _) (by simpa using hn2)
    refine call_use (walk (A := outA bo []) (full := (its.map Ixt.kp).filter (rngK lo hi)) (f := 29) (caps := [.ptr bo 1 0 0]) rfl ?_ d t [] h hok.1 (by rw [hok.2]; exact hS) (fun h hs => ?_) (by rw [hok.2, List.nil_append]; exact List.prefix_refl _) hs0) ?_
    · intro done x h hpre hs
      obtain ⟨ov, hs⟩ := sat_outA.1 hs
      have hx : x ∈ its.map Ixt.kp := (List.mem_filter.1 (hpre.subset (by simp))).1
      have hdl := hpre.length_le
      simp only [List.length_append, List.length_cons, List.length_nil] at hdl
      obtain ⟨mv, hm⟩ := IR.of (hs.drop.drop.drop.drop) x hx
      refine t29 (Nat.le_of_ble_eq_true rfl) ?_
      simp (disch := omega) only [F29, go_sem, reduceCtorEq, ↓reduceIte, Nat.reduceEqDiff, Nat.reduceAdd, Nat.reduceSub, Nat.reduceMul, Nat.reduceLT, Nat.reduceLeDiff, Int.reduceEq, Int.reduceNe, Int.reduceLT, Int.reduceLE, Int.reduceBEq, Int.reduceBNe, Int.reduceToNat]
      simp (disch := omega) only [go_sem, reduceCtorEq, ↓reduceIte, Nat.reduceEqDiff, Nat.reduceAdd, Nat.reduceSub, Nat.reduceMul, Nat.reduceLT, Nat.reduceLeDiff, Int.reduceEq, Int.reduceNe, Int.reduceLT, Int.reduceLE, Int.reduceBEq, Int.reduceBNe, Int.reduceToNat, hs.at, hm]
      refine new_opq hs fun bn h hs => ?_
      simp (disch := omega) only [go_sem, reduceCtorEq, ↓reduceIte, Nat.reduceEqDiff, Nat.reduceAdd, Nat.reduceSub, Nat.reduceMul, Nat.reduceLT, Nat.reduceLeDiff, Int.reduceEq, Int.reduceNe, Int.reduceLT, Int.reduceLE, Int.reduceBEq, Int.reduceBNe, Int.reduceToNat, hs.at]
      refine app_sat (hs.drop.p1) (src_one hs.at) (atoms_str [x.2]) (by simp; omega) fun v' h hs hc' ha' => ?_
      simp (disch := omega) only [go_sem, reduceCtorEq, ↓reduceIte, Nat.reduceEqDiff, Nat.reduceAdd, Nat.reduceSub, Nat.reduceMul, Nat.reduceLT, Nat.reduceLeDiff, Int.reduceEq, Int.reduceNe, Int.reduceLT, Int.reduceLE, Int.reduceBEq, Int.reduceBNe, Int.reduceToNat, hs.p1.at, hc', ha']
      have := hs.p1.set (o' := .row 1 [[v']] 1)
      refine sat_outA.2 ⟨v', ?_⟩
      simpa using this
    · exact RT.of d t hok.1 hs.drop (by rw [hok.2]; exact IR.of hs.drop.drop)
    · intro r h hs
      rw [hok.2, List.nil_append] at hs
      obtain ⟨ov, hs⟩ := fin h hs
      simp (disch := omega) only [go_sem, reduceCtorEq, ↓reduceIte, Nat.reduceEqDiff, Nat.reduceAdd, Nat.reduceSub, Nat.reduceMul, Nat.reduceLT, Nat.reduceLeDiff, Int.reduceEq, Int.reduceNe, Int.reduceLT, Int.reduceLE, Int.reduceBEq, Int.reduceBNe, Int.reduceToNat, hs.at]
      exact ⟨_, _, hs.drop, fun h hs => ⟨rfl, hs⟩⟩

theorem clone_mark {b off len cap rc : Nat} {ms : List Mk} (hs : sat h (pto b (.row 2 (ms.map mkE) rc) :: F)) (h1 : off + len ≤ ms.length) (h2 : ms.length ≤ 1000000000) :
    Triple Try.prog 35 [.arr b 2 off len cap] h (fun r h => sat h (Ow 2 r (((ms.drop off).take len).map mkE) :: pto b (.row 2 (ms.map mkE) rc) :: F)) := by
  refine t35 (Nat.le_of_ble_eq_true rfl) ?_
  simp (disch := omega) only [F35, go_sem, reduceCtorEq, ↓reduceIte, Nat.reduceEqDiff, Nat.reduceAdd, Nat.reduceSub, Nat.reduceMul, Nat.reduceLT, Nat.reduceLeDiff, Int.reduceEq, Int.reduceNe, Int.reduceLT, Int.reduceLE, Int.reduceBEq, Int.reduceBNe, Int.reduceToNat]
  refine new_opq hs fun n h hs => ?_
  simp (disch := omega) only [go_sem, reduceCtorEq, ↓reduceIte, Nat.reduceEqDiff, Nat.reduceAdd, Nat.reduceSub, Nat.reduceMul, Nat.reduceLT, Nat.reduceLeDiff, Int.reduceEq, Int.reduceNe, Int.reduceLT, Int.reduceLE, Int.reduceBEq, Int.reduceBNe, Int.reduceToNat, hs.at]
  have hy : srcA 2 h (.arr b 2 off len cap) = some (((ms.drop off).take len).map mkE) := by
    have := src_part (c := cap) hs.p1 (off := off) (len := len) (by simpa using h1)
    rw [this]; simp
  refine app_sat (hs.ow (by simp)) hy (atoms_mkE _) (by simp; omega) fun v' h hs hc' ha' => ?_
  simp (disch := omega) only [go_sem, reduceCtorEq, ↓reduceIte, Nat.reduceEqDiff, Nat.reduceAdd, Nat.reduceSub, Nat.reduceMul, Nat.reduceLT, Nat.reduceLeDiff, Int.reduceEq, Int.reduceNe, Int.reduceLT, Int.reduceLE, Int.reduceBEq, Int.reduceBNe, Int.reduceToNat]
  simpa using hs
end
end Go.Proofs.Ytnojalihnajkbaa
/- trimmed, Trim, Height. -/
set_option linter.unusedSimpArgs false
set_option linter.unusedVariables false
set_option maxRecDepth 10000
namespace Go.Proofs.Ytnojalihnajkbaa
open Go.Hz

section
variable {h : Hp} {F : List Asr}
theorem trimmed {mv : AV} {ms : List Mk} {rev : Int} (hs : sat h (Ow 2 mv (ms.map mkE) :: F)) (hne : ms ≠ []) (hr : RisM ms) (hl : ms.length ≤ 1000000000) :
    Triple Try.prog 27 [mv, .int .i64 rev] h (fun r h => sat h (Ow 2 r ((trimM ms rev).map mkE) :: F)) := by
  obtain ⟨m0, hm0⟩ : ∃ m, ms[0]? = some m := ⟨_, List.getElem?_eq_getElem (List.length_pos_iff.2 hne)⟩
  obtain ⟨b, cap, rfl, g, hc⟩ : ∃ b cap, mv = .arr b 2 0 ms.length cap ∧ sat h (pto b (.row 2 (ms.map mkE) cap) :: F) ∧ ms.length ≤ cap := by
    rcases hs.cases with ⟨_, h0, _⟩ | ⟨b, cap, hv, g, hc⟩
    · exact absurd (by simpa using h0) hne
    · rw [List.length_map] at hv hc; exact ⟨b, cap, hv, g, hc⟩
  clear hs
  refine t27 (Nat.le_of_ble_eq_true rfl) ?_
  simp (disch := omega) only [F27, go_sem, reduceCtorEq, ↓reduceIte, Nat.reduceEqDiff, Nat.reduceAdd, Nat.reduceSub, Nat.reduceMul, Nat.reduceLT, Nat.reduceLeDiff, Int.reduceEq, Int.reduceNe, Int.reduceLT, Int.reduceLE, Int.reduceBEq, Int.reduceBNe, Int.reduceToNat]
  have hs := g
  refine new_opq hs fun b2 h hs => ?_
  simp (disch := omega) only [go_sem, reduceCtorEq, ↓reduceIte, Nat.reduceEqDiff, Nat.reduceAdd, Nat.reduceSub, Nat.reduceMul, Nat.reduceLT, Nat.reduceLeDiff, Int.reduceEq, Int.reduceNe, Int.reduceLT, Int.reduceLE, Int.reduceBEq, Int.reduceBNe, Int.reduceToNat, hs.at]
  refine new_opq hs fun b3 h hs => ?_
  simp (disch := omega) only [go_sem, reduceCtorEq, ↓reduceIte, Nat.reduceEqDiff, Nat.reduceAdd, Nat.reduceSub, Nat.reduceMul, Nat.reduceLT, Nat.reduceLeDiff, Int.reduceEq, Int.reduceNe, Int.reduceLT, Int.reduceLE, Int.reduceBEq, Int.reduceBNe, Int.reduceToNat, hs.at]
  have hb2 := hs.p1.at
  simp (disch := omega) only [go_sem, reduceCtorEq, ↓reduceIte, Nat.reduceEqDiff, Nat.reduceAdd, Nat.reduceSub, Nat.reduceMul, Nat.reduceLT, Nat.reduceLeDiff, Int.reduceEq, Int.reduceNe, Int.reduceLT, Int.reduceLE, Int.reduceBEq, Int.reduceBNe, Int.reduceToNat, hb2]
  refine call_use (search (N := ms.length) (f := 34) (caps := [.ptr b2 1 0 0, .ptr b3 1 0 0]) (pr := fun i => match ms[i]? with | some m => decide (rev < m.1) | none => true) hs (by omega) rfl ?_ ?_) ?_
  · intro i j hij hj hp
    have hx := List.getElem?_eq_getElem hj
    have hy := List.getElem?_eq_getElem (Nat.lt_of_le_of_lt hij hj)
    simp only [hx, hy, decide_eq_true_eq] at hp ⊢
    by_cases hij' : i = j
    · subst hij'; exact hp
    · have := hr.mono (by omega) hy hx
      omega
  · intro i h hi hs
    have hx := List.getElem?_eq_getElem hi
    have hrow : (ms.map mkE)[i]? = some (mkE ms[i]) := by simp [hx]
    have hia : iaA 2 (.arr b 2 0 ms.length cap) (.int .i64 i) = some (.ptr b 2 i 0) := by rw [iaA_go (by omega) (by omega)]; simp
    refine t34 (Nat.le_of_ble_eq_true rfl) ?_
    simp (disch := omega) only [F34, go_sem, reduceCtorEq, ↓reduceIte, Nat.reduceEqDiff, Nat.reduceAdd, Nat.reduceSub, Nat.reduceMul, Nat.reduceLT, Nat.reduceLeDiff, Int.reduceEq, Int.reduceNe, Int.reduceLT, Int.reduceLE, Int.reduceBEq, Int.reduceBNe, Int.reduceToNat]
    have hb3 := hs.at
    have hb2 := hs.p1.at
    have hb := hs.p2.at
    simp (disch := omega) only [go_sem, reduceCtorEq, ↓reduceIte, Nat.reduceEqDiff, Nat.reduceAdd, Nat.reduceSub, Nat.reduceMul, Nat.reduceLT, Nat.reduceLeDiff, Int.reduceEq, Int.reduceNe, Int.reduceLT, Int.reduceLE, Int.reduceBEq, Int.reduceBNe, Int.reduceToNat, hb2, hb3, hia, hb, hrow, mkE]
    simp only [hx]
    exact ⟨trivial, hs⟩
  · rintro r h ⟨k, rfl, hk, hlo, hhi, hs⟩
    have hcnt : cntM ms rev = k := cntM_eq hk (fun i m hi hik => by
      have := hlo i hik
      simp only [hi, decide_eq_false_iff_not] at this; omega) (fun i m hi hik => by
      have := hhi i hik (List.getElem?_eq_some_iff.1 hi).1
      simpa [hi] using this)
    have hb2 := hs.p1.at
    simp (disch := omega) only [go_sem, reduceCtorEq, ↓reduceIte, Nat.reduceEqDiff, Nat.reduceAdd, Nat.reduceSub, Nat.reduceMul, Nat.reduceLT, Nat.reduceLeDiff, Int.reduceEq, Int.reduceNe, Int.reduceLT, Int.reduceLE, Int.reduceBEq, Int.reduceBNe, Int.reduceToNat, hb2]
    by_cases hk0 : k = 0
    · have c1 : decide ((k : Int) - 1 < 0) = true := by simp; omega
      simp (disch := omega) only [go_sem, reduceCtorEq, ↓reduceIte, Nat.reduceEqDiff, Nat.reduceAdd, Nat.reduceSub, Nat.reduceMul, Nat.reduceLT, Nat.reduceLeDiff, Int.reduceEq, Int.reduceNe, Int.reduceLT, Int.reduceLE, Int.reduceBEq, Int.reduceBNe, Int.reduceToNat, c1, hb2]
      rw [trimM, if_pos (by rw [hcnt, hk0])]
      have := (hs.drop.drop).ow (by simpa using hc)
      rw [List.length_map] at this
      exact this
    · have c1 : decide (((k - 1 : Nat) : Int) < 0) = false := by simp
      have e1 : ((k : Int) - 1) = ((k - 1 : Nat) : Int) := by omega
      have hx := List.getElem?_eq_getElem (l := ms) (i := k - 1) (by omega)
      have hrow : (ms.map mkE)[k - 1]? = some (mkE ms[k - 1]) := by simp [hx]
      have hia : iaA 2 (.arr b 2 0 ms.length cap) (.int .i64 ((k - 1 : Nat) : Int)) = some (.ptr b 2 (k - 1) 0) := by rw [iaA_go (by omega) (by omega)]; simp
      have hb := hs.p2.at
      simp (disch := omega) only [go_sem, reduceCtorEq, ↓reduceIte, Nat.reduceEqDiff, Nat.reduceAdd, Nat.reduceSub, Nat.reduceMul, Nat.reduceLT, Nat.reduceLeDiff, Int.reduceEq, Int.reduceNe, Int.reduceLT, Int.reduceLE, Int.reduceBEq, Int.reduceBNe, Int.reduceToNat, c1, hb2, e1, hia, hb, hrow, mkE]
      have ht : trimM ms rev = ms.drop (if ms[k - 1].2 = true then k else k - 1) := by
        rw [trimM, if_neg (by rw [hcnt]; exact hk0), hcnt, List.getD_eq_getElem?_getD, hx]; rfl
      generalize ha : (if ms[k - 1].2 = true then k else k - 1) = a at ht
      have hal : a ≤ ms.length := by subst ha; split <;> omega
      refine cnd_join (Q := fun e' h' => h' = h ∧ (e' 2 = .ptr b2 1 0 0 ∧ e' 5 = .int .i64 (a : Nat))) ?_ ?_
      · cases hd : ms[k - 1].2
        · rw [hd] at ha
          subst ha
          simp (disch := omega) only [go_sem, reduceCtorEq, ↓reduceIte, Nat.reduceEqDiff, Nat.reduceAdd, Nat.reduceSub, Nat.reduceMul, Nat.reduceLT, Nat.reduceLeDiff, Int.reduceEq, Int.reduceNe, Int.reduceLT, Int.reduceLE, Int.reduceBEq, Int.reduceBNe, Int.reduceToNat]
        · rw [hd] at ha
          subst ha
          have e2 : ((k - 1 : Nat) : Int) + 1 = (k : Int) := by omega
          simp (disch := omega) only [go_sem, reduceCtorEq, ↓reduceIte, Nat.reduceEqDiff, Nat.reduceAdd, Nat.reduceSub, Nat.reduceMul, Nat.reduceLT, Nat.reduceLeDiff, Int.reduceEq, Int.reduceNe, Int.reduceLT, Int.reduceLE, Int.reduceBEq, Int.reduceBNe, Int.reduceToNat, e2]
      · rintro e h' ⟨rfl, he⟩
        simp (disch := omega) only [go_sem, reduceCtorEq, ↓reduceIte, Nat.reduceEqDiff, Nat.reduceAdd, Nat.reduceSub, Nat.reduceMul, Nat.reduceLT, Nat.reduceLeDiff, Int.reduceEq, Int.reduceNe, Int.reduceLT, Int.reduceLE, Int.reduceBEq, Int.reduceBNe, Int.reduceToNat, he, hb2, slcL_lo]
        refine call_use (clone_mark (off := a) (len := ms.length - a) (hs.drop.drop) (by omega) hl) ?_
        intro r h hs
        simp (disch := omega) only [go_sem, reduceCtorEq, ↓reduceIte, Nat.reduceEqDiff, Nat.reduceAdd, Nat.reduceSub, Nat.reduceMul, Nat.reduceLT, Nat.reduceLeDiff, Int.reduceEq, Int.reduceNe, Int.reduceLT, Int.reduceLE, Int.reduceBEq, Int.reduceBNe, Int.reduceToNat]
        rw [ht]
        have := hs.d1
        rw [List.take_of_length_le (by simp)] at this
        exact this

def trimA (bp bn : Nat) (its : List Ixt) (rev : Int) (done : List Kp) : Asr := fun h => ∃ its', its'.map Ixt.kv = trimL ((its.take done.length).map Ixt.kv) rev ∧ sat h (pto bp (.row 1 [[.ptr bn 2 0 0]] 1) :: IxQ bn its' :: (its.drop done.length).map Ixt.m)
theorem sat_trimA {bp bn : Nat} {its : List Ixt} {rev : Int} {done : List Kp} : sat h (trimA bp bn its rev done :: F) ↔ ∃ its', its'.map Ixt.kv = trimL ((its.take done.length).map Ixt.kv) rev ∧ sat h (pto bp (.row 1 [[.ptr bn 2 0 0]] 1) :: IxQ bn its' :: ((its.drop done.length).map Ixt.m ++ F)) := by
  unfold trimA
  rw [sat_ex]
  exact ⟨fun ⟨r, hs⟩ => ⟨r, (sat_and.1 hs).1, sat_sl.1 (sat_and.1 hs).2⟩, fun ⟨r, h1, hs⟩ => ⟨r, sat_and.2 ⟨h1, sat_sl.2 hs⟩⟩⟩

theorem trim1 {bp bn b3 : Nat} {its : List Ixt} {rev : Int} {done : List Kp} {x : Kp} {G : List Asr} (hS : SrtI its) (hms : ∀ x ∈ its, x.ms ≠ [] ∧ RisM x.ms ∧ x.ms.length ≤ 1000000000) (hn : its.length ≤ 1000000000)
    (hpre : (done ++ [x]) <+: its.map Ixt.kp) (hs : sat h (trimA bp bn its rev done :: pto b3 (.row 1 [[.int .i64 rev]] 1) :: (its.map Ixt.k ++ G))) :
    Triple Try.prog 26 [.ptr x.1 2 0 0, .ptr b3 1 0 0, .ptr bp 1 0 0] h (fun r h => sat h (trimA bp bn its rev (done ++ [x]) :: pto b3 (.row 1 [[.int .i64 rev]] 1) :: (its.map Ixt.k ++ G))) := by
  have hi : done.length < its.length := by
    have := hpre.length_le
    simp at this; omega
  have hxe : x = its[done.length].kp := by
    obtain ⟨t, ht⟩ := hpre
    have := congrArg (fun l => l[done.length]?) ht
    simpa [List.getElem?_append, hi] using this
  have hd : its.drop done.length = its[done.length] :: its.drop (done.length + 1) := List.drop_eq_getElem_cons hi
  generalize hy : its[done.length] = y at hd hxe
  have hym : y ∈ its := by rw [← hy]; exact List.getElem_mem _
  obtain ⟨y1, y2, y3⟩ := hms y hym
  subst hxe
  obtain ⟨its', hkv, hs⟩ := sat_trimA.1 hs
  rw [hd, List.map_cons, List.cons_append] at hs
  have hk : ∀ {h : Hp}, sat h (pto b3 (.row 1 [[.int .i64 rev]] 1) :: (its.map Ixt.k ++ G)) → h y.a = some (.row 2 [[.str y.key, y.mv]] 1) := by
    intro h hs
    obtain ⟨l1, l2, rfl⟩ := List.append_of_mem hym
    have g := hs.drop
    rw [List.map_append, List.map_cons, List.append_assoc] at g
    exact g.mid.at
  have hti : its.take (done ++ [y.kp]).length = its.take done.length ++ [y] := by
    rw [List.length_append, List.length_singleton, List.take_succ_eq_append_getElem hi, hy]
  have hdi : its.drop (done ++ [y.kp]).length = its.drop (done.length + 1) := by simp
  have hts : trimL ((its.take (done ++ [y.kp]).length).map Ixt.kv) rev = trimL ((its.take done.length).map Ixt.kv) rev ++ (if (trimM y.ms rev).isEmpty then [] else [(y.key, trimM y.ms rev)]) := by
    rw [hti, List.map_append]; exact trimL_snoc _ _ _ _
  have hkl : ∀ z ∈ its', ltK z.key y.key = true := by
    intro z hz
    have h1 : z.kv ∈ trimL ((its.take done.length).map Ixt.kv) rev := by rw [← hkv]; exact List.mem_map_of_mem hz
    obtain ⟨w, hw, hwz⟩ := List.mem_map.1 (List.mem_filter.1 h1).1
    obtain ⟨v, hv, rfl⟩ := List.mem_map.1 hw
    have e : v.key = z.key := by
      have := congrArg Prod.fst hwz
      simpa [Ixt.kv] using this
    have hS2 := hS
    unfold SrtI at hS2
    rw [← List.take_append_drop done.length its, List.map_append, hd] at hS2
    have := (Srt.app.1 hS2).2.2 v.kp (List.mem_map_of_mem hv) y.kp (by simp)
    rw [← e]; exact this
  have hS' : SrtI its' := by
    rw [SrtI.kv, hkv]
    have : SrtL ((its.take done.length).map Ixt.kv) := SrtI.kv.1 (hS.take _)
    refine List.Pairwise.filter _ ?_
    rw [List.pairwise_map]; exact this
  have hl' : its'.length ≤ 1000000000 := by
    have e1 := congrArg List.length hkv
    rw [List.length_map] at e1
    have e2 : (trimL ((its.take done.length).map Ixt.kv) rev).length ≤ its.length := by
      unfold trimL
      refine Nat.le_trans (List.length_filter_le _ _) ?_
      simp; omega
    omega
  change Triple Try.prog 26 [.ptr y.a 2 0 0, .ptr b3 1 0 0, .ptr bp 1 0 0] h _
  refine t26 (Nat.le_of_ble_eq_true rfl) ?_
  simp (disch := omega) only [F26, go_sem, reduceCtorEq, ↓reduceIte, Nat.reduceEqDiff, Nat.reduceAdd, Nat.reduceSub, Nat.reduceMul, Nat.reduceLT, Nat.reduceLeDiff, Int.reduceEq, Int.reduceNe, Int.reduceLT, Int.reduceLE, Int.reduceBEq, Int.reduceBNe, Int.reduceToNat]
  have hb3 := (hs.drop.drop.drop.right).at
  have hya := hk hs.drop.drop.drop.right
  simp (disch := omega) only [go_sem, reduceCtorEq, ↓reduceIte, Nat.reduceEqDiff, Nat.reduceAdd, Nat.reduceSub, Nat.reduceMul, Nat.reduceLT, Nat.reduceLeDiff, Int.reduceEq, Int.reduceNe, Int.reduceLT, Int.reduceLE, Int.reduceBEq, Int.reduceBNe, Int.reduceToNat, hya, hb3]
  have hq : sat h (Ow 2 y.mv (y.ms.map mkE) :: pto bp (.row 1 [[.ptr bn 2 0 0]] 1) :: IxQ bn its' :: ((its.drop (done.length + 1)).map Ixt.m ++ pto b3 (.row 1 [[.int .i64 rev]] 1) :: (its.map Ixt.k ++ G))) := hs.p1.p1.p2
  refine call_use (trimmed hq y1 y2 y3) ?_
  intro r h hs
  have hrl := hs.owr.len
  rw [List.length_map] at hrl
  have hrc := hs.els.cells
  have hra := hs.els.atom
  simp (disch := omega) only [go_sem, reduceCtorEq, ↓reduceIte, Nat.reduceEqDiff, Nat.reduceAdd, Nat.reduceSub, Nat.reduceMul, Nat.reduceLT, Nat.reduceLeDiff, Int.reduceEq, Int.reduceNe, Int.reduceLT, Int.reduceLE, Int.reduceBEq, Int.reduceBNe, Int.reduceToNat, hrl]
  by_cases he : trimM y.ms rev = []
  · have c : decide ((0 : Int) < ((trimM y.ms rev).length : Int)) = false := by rw [he]; rfl
    simp (disch := omega) only [go_sem, reduceCtorEq, ↓reduceIte, Nat.reduceEqDiff, Nat.reduceAdd, Nat.reduceSub, Nat.reduceMul, Nat.reduceLT, Nat.reduceLeDiff, Int.reduceEq, Int.reduceNe, Int.reduceLT, Int.reduceLE, Int.reduceBEq, Int.reduceBNe, Int.reduceToNat, c]
    refine sat_trimA.2 ⟨its', ?_, ?_⟩
    · rw [hts, he, hkv]; simp
    · rw [hdi]; exact hs.drop
  · have c : decide ((0 : Int) < ((trimM y.ms rev).length : Int)) = true := by
      have := List.length_pos_iff.2 he
      simp; omega
    have hbp := hs.p1.at
    have hya := hk hs.drop.drop.drop.right
    simp (disch := omega) only [go_sem, reduceCtorEq, ↓reduceIte, Nat.reduceEqDiff, Nat.reduceAdd, Nat.reduceSub, Nat.reduceMul, Nat.reduceLT, Nat.reduceLeDiff, Int.reduceEq, Int.reduceNe, Int.reduceLT, Int.reduceLE, Int.reduceBEq, Int.reduceBNe, Int.reduceToNat, c, hbp, hya, hrc, hra]
    refine new_opq hs fun ba h hs => ?_
    simp (disch := omega) only [go_sem, reduceCtorEq, ↓reduceIte, Nat.reduceEqDiff, Nat.reduceAdd, Nat.reduceSub, Nat.reduceMul, Nat.reduceLT, Nat.reduceLeDiff, Int.reduceEq, Int.reduceNe, Int.reduceLT, Int.reduceLE, Int.reduceBEq, Int.reduceBNe, Int.reduceToNat, hs.at]
    have hx : insIt (Ixt.mk ba y.key r (trimM y.ms rev)) its' = its' ++ [Ixt.mk ba y.key r (trimM y.ms rev)] := insIt_last hkl
    have hq2 : sat h (IxQ bn its' :: (Ixt.mk ba y.key r (trimM y.ms rev)).p :: pto bp (.row 1 [[.ptr bn 2 0 0]] 1) :: ((its.drop (done.length + 1)).map Ixt.m ++ pto b3 (.row 1 [[.int .i64 rev]] 1) :: (its.map Ixt.k ++ G))) :=
      (hs.p2.p2.p2.p3).tl fun h g => sat_it.2 g
    refine call_use (ixAdd hq2 hS' (fun z hz e => ?_) hl') ?_
    · have := hkl z hz
      rw [e, ltK_irrefl] at this; cases this
    · intro r2 h hs
      simp (disch := omega) only [go_sem, reduceCtorEq, ↓reduceIte, Nat.reduceEqDiff, Nat.reduceAdd, Nat.reduceSub, Nat.reduceMul, Nat.reduceLT, Nat.reduceLeDiff, Int.reduceEq, Int.reduceNe, Int.reduceLT, Int.reduceLE, Int.reduceBEq, Int.reduceBNe, Int.reduceToNat]
      rw [hx] at hs
      refine sat_trimA.2 ⟨its' ++ [Ixt.mk ba y.key r (trimM y.ms rev)], ?_, ?_⟩
      rotate_left
      · rw [hdi]; exact hs.p1
      · have : (trimM y.ms rev).isEmpty = false := by simpa using he
        rw [hts, List.map_append, hkv, this]
        simp [Ixt.kv]

theorem ixTrim {b : Nat} {L : IL} {rev : Int} (hs : sat h (IxP b L :: F)) (hw : WfL L) (hl : ∀ x ∈ L, x.2.length ≤ 1000000000) (hn : L.length ≤ 1000000000) :
    Triple Try.prog 14 [.ptr b 2 0 0, .int .i64 rev] h (fun r h => sat h (IxP b (trimL L rev) :: F)) := by
  obtain ⟨its, hL, hq⟩ := sat_ixp.1 hs
  have hS := SrtI.kv.2 (hL ▸ hw.1)
  have hn2 : its.length ≤ 1000000000 := by rw [← hL, List.length_map] at hn; exact hn
  have hms : ∀ x ∈ its, x.ms ≠ [] ∧ RisM x.ms ∧ x.ms.length ≤ 1000000000 := fun x hx => by
    have hm : x.kv ∈ L := by rw [← hL]; exact List.mem_map_of_mem hx
    exact ⟨(hw.2 _ hm).1, (hw.2 _ hm).2, hl _ hm⟩
  obtain ⟨r, hok, g⟩ := sat_ixq.1 hq
  clear hs hq
  refine t14 (Nat.le_of_ble_eq_true rfl) ?_
  simp (disch := omega) only [F14, go_sem, reduceCtorEq, ↓reduceIte, Nat.reduceEqDiff, Nat.reduceAdd, Nat.reduceSub, Nat.reduceMul, Nat.reduceLT, Nat.reduceLeDiff, Int.reduceEq, Int.reduceNe, Int.reduceLT, Int.reduceLE, Int.reduceBEq, Int.reduceBNe, Int.reduceToNat]
  have hs := g
  refine new_opq hs fun b3 h hs => ?_
  simp (disch := omega) only [go_sem, reduceCtorEq, ↓reduceIte, Nat.reduceEqDiff, Nat.reduceAdd, Nat.reduceSub, Nat.reduceMul, Nat.reduceLT, Nat.reduceLeDiff, Int.reduceEq, Int.reduceNe, Int.reduceLT, Int.reduceLE, Int.reduceBEq, Int.reduceBNe, Int.reduceToNat, hs.at]
  refine new_opq hs fun bn h hs => ?_
  simp (disch := omega) only [go_sem, reduceCtorEq, ↓reduceIte, Nat.reduceEqDiff, Nat.reduceAdd, Nat.reduceSub, Nat.reduceMul, Nat.reduceLT, Nat.reduceLeDiff, Int.reduceEq, Int.reduceNe, Int.reduceLT, Int.reduceLE, Int.reduceBEq, Int.reduceBNe, Int.reduceToNat, hs.at]
  refine new_opq hs fun bp h hs => ?_
  simp (disch := omega) only [go_sem, reduceCtorEq, ↓reduceIte, Nat.reduceEqDiff, Nat.reduceAdd, Nat.reduceSub, Nat.reduceMul, Nat.reduceLT, Nat.reduceLeDiff, Int.reduceEq, Int.reduceNe, Int.reduceLT, Int.reduceLE, Int.reduceBEq, Int.reduceBNe, Int.reduceToNat, hs.at]
  have hs := hs.set (o' := .row 1 [[.ptr bn 2 0 0]] 1)
  have hb := hs.p2.p2.p2.p3.at
  simp (disch := omega) only [go_sem, reduceCtorEq, ↓reduceIte, Nat.reduceEqDiff, Nat.reduceAdd, Nat.reduceSub, Nat.reduceMul, Nat.reduceLT, Nat.reduceLeDiff, Int.reduceEq, Int.reduceNe, Int.reduceLT, Int.reduceLE, Int.reduceBEq, Int.reduceBNe, Int.reduceToNat, hb]
  generalize hhh : Hp.set _ bp (.row 1 [[.ptr bn 2 0 0]] 1) = h2 at hs hb ⊢
  have hs0 : sat h2 (trimA bp bn its rev [] :: pto b3 (.row 1 [[.int .i64 rev]] 1) :: (its.map Ixt.k ++ (pto b (.row 2 [[rootV r, .int .i64 its.length]] 1) :: rootA r :: F))) := by
    refine sat_trimA.2 ⟨[], rfl, ?_⟩
    have g1 : sat h2 ([pto bp (.row 1 [[.ptr bn 2 0 0]] 1), pto bn (.row 2 [[.nilp, .int .i64 0]] 1), pto b3 (.row 1 [[.int .i64 rev]] 1), pto b (.row 2 [[rootV r, .int .i64 its.length]] 1), rootA r] ++ (its.map Ixt.k ++ (its.map Ixt.m ++ F))) :=
      sat.tls (l1 := [_, _, _, _, _]) hs fun h g => (sat_km its).1 g
    have g2 : sat h2 (pto bp (.row 1 [[.ptr bn 2 0 0]] 1) :: IxQ bn [] :: pto b3 (.row 1 [[.int .i64 rev]] 1) :: pto b (.row 2 [[rootV r, .int .i64 its.length]] 1) :: rootA r :: (its.map Ixt.k ++ (its.map Ixt.m ++ F))) :=
      g1.tl fun h g => sat_ixq.2 ⟨none, rfl, g.tl fun h g => g.add trivial⟩
    refine g2.tl fun h g => g.tl fun h g => ?_
    have g3 : sat h ([pto b3 (.row 1 [[.int .i64 rev]] 1), pto b (.row 2 [[rootV r, .int .i64 its.length]] 1), rootA r] ++ (its.map Ixt.m ++ (its.map Ixt.k ++ F))) := g.tls (l1 := [_, _, _]) fun h g => g.swapl
    have g4 := g3.swapl
    refine g4.tls fun h g => g.tl fun h g => ?_
    exact sat.swapl (l1 := [_, _]) g
  have fin : ∀ h, sat h (trimA bp bn its rev (its.map Ixt.kp) :: pto b3 (.row 1 [[.int .i64 rev]] 1) :: (its.map Ixt.k ++ (pto b (.row 2 [[rootV r, .int .i64 its.length]] 1) :: rootA r :: F))) →
      ∃ (its' : List Ixt) (r' : Option (Nat × Tr)), its'.map Ixt.kv = trimL L rev ∧ rootOK (its'.map Ixt.kp) r' ∧ sat h (pto b (.row 2 [[rootV r, .int .i64 its.length]] 1) :: pto bp (.row 1 [[.ptr bn 2 0 0]] 1) :: pto bn (.row 2 [[rootV r', .int .i64 its'.length]] 1) :: rootA r' :: (its'.map Ixt.p ++ F)) := by
    intro h hs
    obtain ⟨its', hkv, hs⟩ := sat_trimA.1 hs
    rw [List.length_map, List.take_length, hL] at hkv
    have g := hs.p1
    obtain ⟨r', hok', g⟩ := sat_ixq.1 g
    refine ⟨its', r', hkv, hok', ?_⟩
    have e : (its.drop (its.map Ixt.kp).length).map Ixt.m = [] := by simp
    rw [e, List.nil_append] at g
    have g2 : sat h ([pto bn (.row 2 [[rootV r', .int .i64 its'.length]] 1), rootA r'] ++ (its'.map Ixt.p ++ (pto bp (.row 1 [[.ptr bn 2 0 0]] 1) :: pto b (.row 2 [[rootV r, .int .i64 its.length]] 1) :: F))) := by
      refine sat.tls (l1 := [_, _]) g fun h g => g.tls fun h g => g.tl fun h g => ?_
      have g3 := g.drop.right
      exact g3.tl fun h g => g.drop
    have g3 := sat.swapl (l1 := its'.map Ixt.p) (l2 := [pto bp (.row 1 [[.ptr bn 2 0 0]] 1), pto b (.row 2 [[rootV r, .int .i64 its.length]] 1)]) (g2.drop.drop)
    have g4 : sat h ([pto bn (.row 2 [[rootV r', .int .i64 its'.length]] 1), rootA r'] ++ ([pto bp (.row 1 [[.ptr bn 2 0 0]] 1), pto b (.row 2 [[rootV r, .int .i64 its.length]] 1)] ++ (its'.map Ixt.p ++ F))) :=
      g2.tls fun h g => sat.swapl (l1 := its'.map Ixt.p) (l2 := [_, _]) g
    exact g4.p1.p1.p2.p3
  cases r with
  | none =>
    have h0 : its = [] := by
      have : its.map Ixt.kp = [] := hok
      simpa using this
    refine call_use (walk0 hs0 [] [] _) ?_
    intro r h hs
    obtain ⟨its', r', hkv, hok', hs⟩ := fin h (by rw [h0] at hs ⊢; exact hs)
    have h1 := hs.at
    have h2 := hs.p1.at
    have h3 := hs.p2.at
    have hrc := root_cells r'
    have hra := root_atom r'
    simp (disch := omega) only [go_sem, reduceCtorEq, ↓reduceIte, Nat.reduceEqDiff, Nat.reduceAdd, Nat.reduceSub, Nat.reduceMul, Nat.reduceLT, Nat.reduceLeDiff, Int.reduceEq, Int.reduceNe, Int.reduceLT, Int.reduceLE, Int.reduceBEq, Int.reduceBNe, Int.reduceToNat, h1, h2, h3, hrc, hra]
    have g := (hs.set (o' := .row 2 [[rootV r', .int .i64 its'.length]] 1)).d1.d1
    exact sat_ixp.2 ⟨its', hkv, sat_ixq.2 ⟨r', hok', g⟩⟩
  | some dt =>
    obtain ⟨d, t⟩ := dt
    have hfl : (its.map Ixt.kp).filter (rngK [] []) = its.map Ixt.kp := List.filter_eq_self.2 fun x hx => by
      have : ltK x.2 [] = false := by cases x.2 <;> rfl
      simp [rngK, this]
    refine call_use (walk (lo := []) (hi := []) (A := trimA bp bn its rev) (full := its.map Ixt.kp) (f := 26) (caps := [.ptr b3 1 0 0, .ptr bp 1 0 0]) rfl ?_ d t [] h2 hok.1 (by rw [hok.2]; exact hS) (fun h hs => ?_) (by rw [hok.2, hfl, List.nil_append]; exact List.prefix_refl _) hs0) ?_
    · intro done x h hpre hs
      exact trim1 hS hms hn2 hpre hs
    · have g := hs.drop.right.drop
      refine RT.of d t hok.1 g ?_
      rw [hok.2]
      intro y hy
      obtain ⟨x, hx, rfl⟩ := List.mem_map.1 hy
      obtain ⟨l1, l2, rfl⟩ := List.append_of_mem hx
      have g := hs.drop
      rw [List.map_append, List.map_cons, List.append_assoc] at g
      exact ⟨x.mv, g.mid.at⟩
    · intro r h hs
      rw [hok.2, hfl, List.nil_append] at hs
      obtain ⟨its', r', hkv, hok', hs⟩ := fin h hs
      have h1 := hs.at
      have h2 := hs.p1.at
      have h3 := hs.p2.at
      have hrc := root_cells r'
      have hra := root_atom r'
      simp (disch := omega) only [go_sem, reduceCtorEq, ↓reduceIte, Nat.reduceEqDiff, Nat.reduceAdd, Nat.reduceSub, Nat.reduceMul, Nat.reduceLT, Nat.reduceLeDiff, Int.reduceEq, Int.reduceNe, Int.reduceLT, Int.reduceLE, Int.reduceBEq, Int.reduceBNe, Int.reduceToNat, h1, h2, h3, hrc, hra]
      have g := (hs.set (o' := .row 2 [[rootV r', .int .i64 its'.length]] 1)).d1.d1
      exact sat_ixp.2 ⟨its', hkv, sat_ixq.2 ⟨r', hok', g⟩⟩
end
end Go.Proofs.Ytnojalihnajkbaa
/- Height. -/
set_option linter.unusedSimpArgs false
set_option linter.unusedVariables false
set_option maxRecDepth 10000
namespace Go.Proofs.Ytnojalihnajkbaa
open Go.Hz

section
variable {h : Hp} {F : List Asr}
theorem ixHeight {b : Nat} {L : IL} (hs : sat h (IxP b L :: F)) (hn : L.length ≤ 1000000000) :
    Triple Try.prog 30 [.ptr b 2 0 0] h (fun r h => ∃ q : Nat, r = .int .i64 q ∧ (L = [] → q = 0) ∧ (L ≠ [] → 1 ≤ q ∧ 2 ^ q ≤ L.length + 1) ∧ sat h (IxP b L :: F)) := by
  obtain ⟨its, hL, hq⟩ := sat_ixp.1 hs
  have hn2 : its.length ≤ 1000000000 := by rw [← hL, List.length_map] at hn; exact hn
  obtain ⟨r, hok, g⟩ := sat_ixq.1 hq
  clear hs hq
  have back : ∀ h, sat h (pto b (.row 2 [[rootV r, .int .i64 its.length]] 1) :: rootA r :: (its.map Ixt.p ++ F)) → sat h (IxP b L :: F) := fun h hs => sat_ixp.2 ⟨its, hL, sat_ixq.2 ⟨r, hok, hs⟩⟩
  by_cases h0 : L = []
  · have h0' : its = [] := by rw [h0] at hL; simpa using hL
    refine t30 (Nat.le_of_ble_eq_true rfl) ?_
    simp (disch := omega) only [F30, go_sem, reduceCtorEq, ↓reduceIte, Nat.reduceEqDiff, Nat.reduceAdd, Nat.reduceSub, Nat.reduceMul, Nat.reduceLT, Nat.reduceLeDiff, Int.reduceEq, Int.reduceNe, Int.reduceLT, Int.reduceLE, Int.reduceBEq, Int.reduceBNe, Int.reduceToNat]
    have hb := g.at
    simp (disch := omega) only [go_sem, reduceCtorEq, ↓reduceIte, Nat.reduceEqDiff, Nat.reduceAdd, Nat.reduceSub, Nat.reduceMul, Nat.reduceLT, Nat.reduceLeDiff, Int.reduceEq, Int.reduceNe, Int.reduceLT, Int.reduceLE, Int.reduceBEq, Int.reduceBNe, Int.reduceToNat, hb]
    refine run_loopN (fun m e h => sat h (pto b (.row 2 [[rootV r, .int .i64 its.length]] 1) :: rootA r :: (its.map Ixt.p ++ F)) ∧ (e 3 = .int .i64 0 ∧ e 4 = rootV r)) 0 ⟨g, rfl, rfl⟩ ?_
    rintro m e h ⟨hs, he⟩
    cases r with
    | none =>
      simp (disch := omega) only [go_sem, reduceCtorEq, ↓reduceIte, Nat.reduceEqDiff, Nat.reduceAdd, Nat.reduceSub, Nat.reduceMul, Nat.reduceLT, Nat.reduceLeDiff, Int.reduceEq, Int.reduceNe, Int.reduceLT, Int.reduceLE, Int.reduceBEq, Int.reduceBNe, Int.reduceToNat, he, rootV]
      exact ⟨0, rfl, fun _ => rfl, fun hh => absurd h0 hh, back h hs⟩
    | some dt =>
      obtain ⟨d, ⟨p, iv, kv, is, ks⟩⟩ := dt
      have hfl : weave (ks.map Tr.flat) is = [] := by rw [← Tr.flat_nd (p := p) (iv := iv) (kv := kv), hok.2, h0']; rfl
      have hi0 : is = [] := by
        by_cases h1 : 1 ≤ is.length
        · exact absurd hfl (weave_ne h1)
        · exact List.length_eq_zero_iff.1 (by omega)
      have hnr := (RT.of d _ hok.1 hs.drop (by rw [hok.2, h0']; intro x hx; cases hx)).nr
      have hll := hnr.len
      rw [hi0] at hll
      have he4 : e 4 = .ptr p 2 0 0 := he.2
      have he3 := he.1
      have hnd := hnr.nd
      simp (disch := omega) only [go_sem, reduceCtorEq, ↓reduceIte, Nat.reduceEqDiff, Nat.reduceAdd, Nat.reduceSub, Nat.reduceMul, Nat.reduceLT, Nat.reduceLeDiff, Int.reduceEq, Int.reduceNe, Int.reduceLT, Int.reduceLE, Int.reduceBEq, Int.reduceBNe, Int.reduceToNat, he3, he4, hnd, hll]
      exact ⟨0, rfl, fun _ => rfl, fun hh => absurd h0 hh, back h hs⟩
  · cases r with
    | none =>
      have : its.map Ixt.kp = [] := hok
      have : its = [] := by simpa using this
      subst this
      exact absurd hL.symm h0
    | some dt =>
      obtain ⟨D, t0⟩ := dt
      have hne0 : t0.flat ≠ [] := by
        rw [hok.2]; intro hh
        have : its = [] := by simpa using hh
        subst this; exact h0 hL.symm
      have hlen : t0.flat.length = L.length := by rw [hok.2, ← hL]; simp
      have hsz := okd_size D t0 hok.1 hne0
      have hD : D ≤ 100 := by
        by_cases hD : D ≤ 100
        · exact hD
        · have : 2 ^ 101 ≤ 2 ^ (D + 1) := Nat.pow_le_pow_right (by omega) (by omega)
          omega
      refine t30 (Nat.le_of_ble_eq_true rfl) ?_
      simp (disch := omega) only [F30, go_sem, reduceCtorEq, ↓reduceIte, Nat.reduceEqDiff, Nat.reduceAdd, Nat.reduceSub, Nat.reduceMul, Nat.reduceLT, Nat.reduceLeDiff, Int.reduceEq, Int.reduceNe, Int.reduceLT, Int.reduceLE, Int.reduceBEq, Int.reduceBNe, Int.reduceToNat]
      have hb := g.at
      have hR : ∀ h, sat h (pto b (.row 2 [[rootV (some (D, t0)), .int .i64 its.length]] 1) :: rootA (some (D, t0)) :: (its.map Ixt.p ++ F)) → RT D t0 h := fun h hs => RT.of D t0 hok.1 hs.drop (by rw [hok.2]; exact IR.of hs.drop.drop)
      simp (disch := omega) only [go_sem, reduceCtorEq, ↓reduceIte, Nat.reduceEqDiff, Nat.reduceAdd, Nat.reduceSub, Nat.reduceMul, Nat.reduceLT, Nat.reduceLeDiff, Int.reduceEq, Int.reduceNe, Int.reduceLT, Int.reduceLE, Int.reduceBEq, Int.reduceBNe, Int.reduceToNat, hb]
      refine run_loopN (fun m e h => sat h (pto b (.row 2 [[rootV (some (D, t0)), .int .i64 its.length]] 1) :: rootA (some (D, t0)) :: (its.map Ixt.p ++ F)) ∧
        ∃ t, m ≤ D ∧ OKd m t ∧ t.flat ≠ [] ∧ (∀ h, sat h (pto b (.row 2 [[rootV (some (D, t0)), .int .i64 its.length]] 1) :: rootA (some (D, t0)) :: (its.map Ixt.p ++ F)) → RT m t h) ∧ (e 3 = .int .i64 ((D - m : Nat) : Int) ∧ e 4 = .ptr t.root 2 0 0)) D
        ⟨g, t0, Nat.le_refl _, hok.1, hne0, hR, by rw [Nat.sub_self]; rfl, rfl⟩ ?_
      rintro m e h ⟨hs, ⟨p, iv, kv, is, ks⟩, hmD, ok, hne, hR, he3, he4⟩
      replace he4 : e 4 = .ptr p 2 0 0 := he4
      have hnd := (hR h hs).nr.nd
      have hil := (hR h hs).nr.len
      have hkl := (hR h hs).kv.len
      rw [List.length_map] at hkl
      have hi1 : 1 ≤ is.length := by
        cases m with
        | zero =>
          rw [Tr.flat_nd, ok.2] at hne
          exact List.length_pos_iff.2 hne
        | succ m => exact ok.1
      have hc : decide ((0 : Int) < (is.length : Int)) = true := by simp; omega
      simp (disch := omega) only [go_sem, reduceCtorEq, ↓reduceIte, Nat.reduceEqDiff, Nat.reduceAdd, Nat.reduceSub, Nat.reduceMul, Nat.reduceLT, Nat.reduceLeDiff, Int.reduceEq, Int.reduceNe, Int.reduceLT, Int.reduceLE, Int.reduceBEq, Int.reduceBNe, Int.reduceToNat, he3, he4, hnd, hil, hc, hkl]
      cases m with
      | zero =>
        obtain ⟨o1, rfl⟩ := ok
        simp (disch := omega) only [go_sem, reduceCtorEq, ↓reduceIte, Nat.reduceEqDiff, Nat.reduceAdd, Nat.reduceSub, Nat.reduceMul, Nat.reduceLT, Nat.reduceLeDiff, Int.reduceEq, Int.reduceNe, Int.reduceLT, Int.reduceLE, Int.reduceBEq, Int.reduceBNe, Int.reduceToNat, he3, he4]
        refine ⟨D + 1, ?_, fun hh => absurd hh h0, fun _ => ⟨by omega, by rw [← hlen]; exact hsz⟩, back h hs⟩
        simp
      | succ m =>
        obtain ⟨o0, o1, o2, o3⟩ := ok
        have hk0 : 0 < ks.length := by omega
        have hk := List.getElem?_eq_getElem hk0
        obtain ⟨bk, cap, hkv, hb, _⟩ := (hR h hs).kv.row (pt_get' hk)
        have hlk : (ks.map fun k => pt k.root).length = ks.length := by simp
        rw [hlk] at hkv
        have hz : ((ks.length : Int) == 0) = false := by rw [beq_eq_false_iff_ne]; omega
        have hg := pt_get' hk
        have hia : iaA 1 (.arr bk 1 0 ks.length cap) (.int .i64 0) = some (.ptr bk 1 0 0) := by rw [iaA_go (by omega) (by omega)]; rfl
        simp (disch := omega) only [go_sem, reduceCtorEq, ↓reduceIte, Nat.reduceEqDiff, Nat.reduceAdd, Nat.reduceSub, Nat.reduceMul, Nat.reduceLT, Nat.reduceLeDiff, Int.reduceEq, Int.reduceNe, Int.reduceLT, Int.reduceLE, Int.reduceBEq, Int.reduceBNe, Int.reduceToNat, he3, he4, hz, hnd, hkv, hia, hb, hg]
        refine ⟨m, by omega, hs, ks[0], by omega, (o3 _ (List.getElem_mem hk0)).1, (o3 _ (List.getElem_mem hk0)).2, fun h hs => (hR h hs).2.2 _ (List.getElem_mem hk0), ?_, rfl⟩
        congr 1; omega
end
end Go.Proofs.Ytnojalihnajkbaa
/- The document's index. -/
set_option linter.unusedSimpArgs false
set_option linter.unusedVariables false
set_option maxRecDepth 10000
namespace Go.Proofs.Ytnojalihnajkbaa
open Go.Hz

/-- A row of the document's index. -/
def rrow (x : Ixt) : List AV := [.str x.key, x.mv]
def RfQ (y : Nat) (its : List Ixt) : Asr := fun h => ∃ rv, sat h (pto y (.row 1 [[rv]] 1) :: Ow 2 rv (its.map rrow) :: its.map Ixt.m)
def RfP (y : Nat) (L : IL) : Asr := fun h => ∃ its, its.map Ixt.kv = L ∧ RfQ y its h

section
variable {h : Hp} {F : List Asr}
theorem sat_rfq {y : Nat} {its : List Ixt} : sat h (RfQ y its :: F) ↔ ∃ rv, sat h (pto y (.row 1 [[rv]] 1) :: Ow 2 rv (its.map rrow) :: (its.map Ixt.m ++ F)) := by
  unfold RfQ
  rw [sat_ex]
  exact ⟨fun ⟨r, hs⟩ => ⟨r, sat_sl.1 hs⟩, fun ⟨r, hs⟩ => ⟨r, sat_sl.2 hs⟩⟩
theorem sat_rfp {y : Nat} {L : IL} : sat h (RfP y L :: F) ↔ ∃ its, its.map Ixt.kv = L ∧ sat h (RfQ y its :: F) := by
  unfold RfP
  rw [sat_ex]
  exact ⟨fun ⟨r, hs⟩ => ⟨r, (sat_and.1 hs).1, (sat_and.1 hs).2⟩, fun ⟨r, h1, hs⟩ => ⟨r, sat_and.2 ⟨h1, hs⟩⟩⟩
theorem rrow_get {its : List Ixt} {i : Nat} {x : Ixt} (hi : its[i]? = some x) : (its.map rrow)[i]? = some [.str x.key, x.mv] := by simp [hi, rrow]
theorem ia2_go {b off len c i : Nat} (hi : i < len) : iaA 2 (.arr b 2 off len c) (.int .i64 i) = some (.ptr b 2 (off + i) 0) := by rw [iaA_go (by omega) (by omega)]; simp

def posI (its : List Ixt) (key : Key) : Nat := (its.takeWhile fun x => ltK x.key key).length
theorem posI_le {its : List Ixt} {key : Key} : posI its key ≤ its.length := (List.takeWhile_sublist _).length_le
theorem posI_stop {its : List Ixt} {key : Key} {i : Nat} (h1 : ∀ j x, j < i → its[j]? = some x → ltK x.key key = true) (h2 : ∀ x, its[i]? = some x → ltK x.key key = false) (hi : i ≤ its.length) : posI its key = i := by
  induction its generalizing i with
  | nil => simp at hi; subst hi; rfl
  | cons x its ih =>
    unfold posI at *
    cases i with
    | zero => rw [List.takeWhile_cons, h2 x rfl]; rfl
    | succ i =>
      rw [List.takeWhile_cons, h1 0 x (by omega) rfl]
      simp only [if_true, List.length_cons]
      rw [ih (fun j x hj hx => h1 (j + 1) x (by omega) hx) (fun x hx => h2 x hx) (by simpa using hi)]

theorem rAt {y : Nat} {its : List Ixt} {key : Key} (hs : sat h (RfQ y its :: F)) (hn : its.length ≤ 1000000000) :
    Triple Try.prog 28 [.ptr y 1 0 0, .str key] h (fun r h => r = .int .i64 (posI its key) ∧ sat h (RfQ y its :: F)) := by
  obtain ⟨rv, hs⟩ := sat_rfq.1 hs
  refine t28 (Nat.le_of_ble_eq_true rfl) ?_
  simp (disch := omega) only [F28, go_sem, reduceCtorEq, ↓reduceIte, Nat.reduceEqDiff, Nat.reduceAdd, Nat.reduceSub, Nat.reduceMul, Nat.reduceLT, Nat.reduceLeDiff, Int.reduceEq, Int.reduceNe, Int.reduceLT, Int.reduceLE, Int.reduceBEq, Int.reduceBNe, Int.reduceToNat]
  refine run_up (N := its.length) (fun i e h => sat h (pto y (.row 1 [[rv]] 1) :: Ow 2 rv (its.map rrow) :: (its.map Ixt.m ++ F)) ∧ (∀ j x, j < i → its[j]? = some x → ltK x.key key = true) ∧ (e 0 = .ptr y 1 0 0 ∧ e 1 = .str key ∧ e 5 = .int .i64 i))
    ⟨hs, fun j x hj => by omega, rfl, rfl, rfl⟩ ?_
  rintro i e h hi ⟨hs, hlo, he⟩
  have hl := hs.drop.owr.len
  rw [List.length_map] at hl
  have hy := hs.at
  simp (disch := omega) only [go_sem, reduceCtorEq, ↓reduceIte, Nat.reduceEqDiff, Nat.reduceAdd, Nat.reduceSub, Nat.reduceMul, Nat.reduceLT, Nat.reduceLeDiff, Int.reduceEq, Int.reduceNe, Int.reduceLT, Int.reduceLE, Int.reduceBEq, Int.reduceBNe, Int.reduceToNat, he, hy, hl]
  refine cnd_dec (fun hlt => ?_) (fun hge => ?_)
  · have hlt : i < its.length := by omega
    have hx := List.getElem?_eq_getElem hlt
    obtain ⟨b, cap, rfl, hb, _⟩ := hs.drop.owr.row (rrow_get hx)
    have hd : decide ((i : Int) < (its.length : Int)) = true := by simpa using hlt
    have hll : (its.map rrow).length = its.length := by simp
    simp (disch := omega) only [go_sem, reduceCtorEq, ↓reduceIte, Nat.reduceEqDiff, Nat.reduceAdd, Nat.reduceSub, Nat.reduceMul, Nat.reduceLT, Nat.reduceLeDiff, Int.reduceEq, Int.reduceNe, Int.reduceLT, Int.reduceLE, Int.reduceBEq, Int.reduceBNe, Int.reduceToNat, he, hy, hl, hd, hll, ia2_go hlt, hb, rrow_get hx]
    cases hk : Op.bytesLess its[i].key key
    · simp (disch := omega) only [go_sem, reduceCtorEq, ↓reduceIte, Nat.reduceEqDiff, Nat.reduceAdd, Nat.reduceSub, Nat.reduceMul, Nat.reduceLT, Nat.reduceLeDiff, Int.reduceEq, Int.reduceNe, Int.reduceLT, Int.reduceLE, Int.reduceBEq, Int.reduceBNe, Int.reduceToNat, he]
      refine ⟨?_, sat_rfq.2 ⟨_, hll ▸ hs⟩⟩
      rw [posI_stop hlo (fun x hx' => by rw [hx] at hx'; cases hx'; exact hk) hi]
    · simp (disch := omega) only [go_sem, reduceCtorEq, ↓reduceIte, Nat.reduceEqDiff, Nat.reduceAdd, Nat.reduceSub, Nat.reduceMul, Nat.reduceLT, Nat.reduceLeDiff, Int.reduceEq, Int.reduceNe, Int.reduceLT, Int.reduceLE, Int.reduceBEq, Int.reduceBNe, Int.reduceToNat, he]
      refine ⟨hlt, hll ▸ hs, fun j x hj hx' => ?_, rfl⟩
      by_cases hji : j = i
      · subst hji; rw [hx] at hx'; cases hx'; exact hk
      · exact hlo j x (by omega) hx'
  · have hii : i = its.length := by omega
    have hd : decide ((i : Int) < (its.length : Int)) = false := by simpa using hge
    simp (disch := omega) only [go_sem, reduceCtorEq, ↓reduceIte, Nat.reduceEqDiff, Nat.reduceAdd, Nat.reduceSub, Nat.reduceMul, Nat.reduceLT, Nat.reduceLeDiff, Int.reduceEq, Int.reduceNe, Int.reduceLT, Int.reduceLE, Int.reduceBEq, Int.reduceBNe, Int.reduceToNat, he, hd]
    refine ⟨?_, sat_rfq.2 ⟨_, hs⟩⟩
    rw [posI_stop hlo (fun x hx' => by rw [hii] at hx'; simp at hx') hi]

theorem posI_get {its : List Ixt} {key : Key} (hS : SrtI its) : (∃ l1 x l2, its = l1 ++ x :: l2 ∧ x.key = key ∧ posI its key = l1.length) ∨
    ((∀ y ∈ its, y.key ≠ key) ∧ ∀ x, its[posI its key]? = some x → x.key ≠ key) := by
  rcases kv_cut (its := its) key with ⟨l1, x, l2, rfl, rfl⟩ | hn
  · refine .inl ⟨l1, x, l2, rfl, rfl, ?_⟩
    have h1 := (Srt.app.1 (show Srt (l1.map Ixt.kp ++ (x :: l2).map Ixt.kp) by rw [← List.map_append]; exact hS)).2.2
    refine posI_stop (fun j y hj hy => ?_) (fun y hy => ?_) (by simp)
    · rw [List.getElem?_append_left hj] at hy
      exact h1 y.kp (List.mem_map_of_mem (List.mem_of_getElem? hy)) x.kp (by simp)
    · rw [List.getElem?_append_right (Nat.le_refl _)] at hy
      simp at hy; subst hy; exact ltK_irrefl _
  · exact .inr ⟨hn, fun x hx => hn x (List.mem_of_getElem? hx)⟩

theorem rfq_m {l1 l2 : List Ixt} {x : Ixt} {A B : Asr} : sat h (A :: B :: ((l1 ++ x :: l2).map Ixt.m ++ F)) ↔ sat h (A :: B :: x.m :: ((l1 ++ l2).map Ixt.m ++ F)) := by
  have e : (l1 ++ x :: l2).map Ixt.m ++ F = l1.map Ixt.m ++ x.m :: (l2.map Ixt.m ++ F) := by simp
  have e2 : (l1 ++ l2).map Ixt.m ++ F = l1.map Ixt.m ++ (l2.map Ixt.m ++ F) := by simp
  rw [e, e2]
  exact ⟨fun hs => hs.tl fun _ g => g.tl fun _ g => g.mid, fun hs => hs.tl fun _ g => g.tl fun _ g => g.unmid⟩

theorem m_els {its : List Ixt} {x : Ixt} (hx : x ∈ its) (hs : sat h (its.map Ixt.m ++ F)) : Els h 2 x.mv (x.ms.map mkE) := by
  obtain ⟨l1, l2, rfl⟩ := List.append_of_mem hx
  rw [List.map_append, List.map_cons, List.append_assoc] at hs
  exact (hs.mid (A := x.m)).els

theorem rMarks {y : Nat} {its : List Ixt} {key : Key} (hs : sat h (RfQ y its :: F)) (hS : SrtI its) (hn : its.length ≤ 1000000000) (hl : ∀ x ∈ its, x.ms.length ≤ 1000000000) :
    Triple Try.prog 18 [.ptr y 1 0 0, .str key] h (fun r h => r = .lst ((getL (its.map Ixt.kv) key).map mkE) ∧ sat h (RfQ y its :: F)) := by
  refine Triple.lst 2 ?_
  refine t18 (Nat.le_of_ble_eq_true rfl) ?_
  simp (disch := omega) only [F18, go_sem, reduceCtorEq, ↓reduceIte, Nat.reduceEqDiff, Nat.reduceAdd, Nat.reduceSub, Nat.reduceMul, Nat.reduceLT, Nat.reduceLeDiff, Int.reduceEq, Int.reduceNe, Int.reduceLT, Int.reduceLE, Int.reduceBEq, Int.reduceBNe, Int.reduceToNat]
  refine call_use (rAt (key := key) hs hn) ?_
  rintro r h ⟨hr, hs⟩
  subst hr
  simp (disch := omega) only [go_sem, reduceCtorEq, ↓reduceIte, Nat.reduceEqDiff, Nat.reduceAdd, Nat.reduceSub, Nat.reduceMul, Nat.reduceLT, Nat.reduceLeDiff, Int.reduceEq, Int.reduceNe, Int.reduceLT, Int.reduceLE, Int.reduceBEq, Int.reduceBNe, Int.reduceToNat]
  obtain ⟨rv, hs⟩ := sat_rfq.1 hs
  have hll := hs.drop.owr.len
  rw [List.length_map] at hll
  have hy := hs.at
  have hll2 : (its.map rrow).length = its.length := by simp
  simp (disch := omega) only [go_sem, reduceCtorEq, ↓reduceIte, Nat.reduceEqDiff, Nat.reduceAdd, Nat.reduceSub, Nat.reduceMul, Nat.reduceLT, Nat.reduceLeDiff, Int.reduceEq, Int.reduceNe, Int.reduceLT, Int.reduceLE, Int.reduceBEq, Int.reduceBNe, Int.reduceToNat, hy, hll]
  rcases posI_get (key := key) hS with ⟨l1, x, l2, hits, hxk, hp⟩ | ⟨hnk, hne⟩
  · have hx : its[posI its key]? = some x := by rw [hp, hits]; simp
    have hlt := (List.getElem?_eq_some_iff.1 hx).1
    have hd : decide (((posI its key : Nat) : Int) < (its.length : Int)) = true := by simpa using hlt
    obtain ⟨b, cap, rfl, hb, _⟩ := hs.drop.owr.row (rrow_get hx)
    rw [hll2] at hy hs
    have hkk : (x.key == key) = true := by simpa using hxk
    simp (disch := omega) only [go_sem, reduceCtorEq, ↓reduceIte, Nat.reduceEqDiff, Nat.reduceAdd, Nat.reduceSub, Nat.reduceMul, Nat.reduceLT, Nat.reduceLeDiff, Int.reduceEq, Int.reduceNe, Int.reduceLT, Int.reduceLE, Int.reduceBEq, Int.reduceBNe, Int.reduceToNat, hd, hy, hll2, ia2_go hlt, hb, rrow_get hx, hkk]
    refine new_opq hs fun bn h hs => ?_
    simp (disch := omega) only [go_sem, reduceCtorEq, ↓reduceIte, Nat.reduceEqDiff, Nat.reduceAdd, Nat.reduceSub, Nat.reduceMul, Nat.reduceLT, Nat.reduceLeDiff, Int.reduceEq, Int.reduceNe, Int.reduceLT, Int.reduceLE, Int.reduceBEq, Int.reduceBNe, Int.reduceToNat, hs.at]
    have hs2 := hs.p2.p2
    have hy2 := hs2.at
    have hb2 := (hs.p1.p1.p2.arr).1.at
    have hg : getL (its.map Ixt.kv) key = x.ms := by
      have e : its.map Ixt.kv = l1.map Ixt.kv ++ (key, x.ms) :: l2.map Ixt.kv := by rw [hits, ← hxk]; simp [Ixt.kv]
      rw [e, getL_mid (by rw [← e]; exact SrtI.kv.1 hS)]
    rw [hg]
    have hia := ia2_go (b := b) (off := 0) (len := its.length) (c := cap) hlt
    rw [Nat.zero_add] at hia
    have hgt := rrow_get hx
    simp (disch := omega) only [go_sem, reduceCtorEq, ↓reduceIte, Nat.reduceEqDiff, Nat.reduceAdd, Nat.reduceSub, Nat.reduceMul, Nat.reduceLT, Nat.reduceLeDiff, Int.reduceEq, Int.reduceNe, Int.reduceLT, Int.reduceLE, Int.reduceBEq, Int.reduceBNe, Int.reduceToNat, hy2, hia, hb2, hgt]
    have hE := m_els (List.mem_of_getElem? hx) hs.drop.drop.drop
    refine app_sat (hs.ow (by simp)) hE.1 (atoms_mkE _) (by have := hl x (List.mem_of_getElem? hx); simp; omega) fun v' h hs hc' ha' => ?_
    simp (disch := omega) only [go_sem, reduceCtorEq, ↓reduceIte, Nat.reduceEqDiff, Nat.reduceAdd, Nat.reduceSub, Nat.reduceMul, Nat.reduceLT, Nat.reduceLeDiff, Int.reduceEq, Int.reduceNe, Int.reduceLT, Int.reduceLE, Int.reduceBEq, Int.reduceBNe, Int.reduceToNat]
    rw [List.nil_append] at hs
    exact ⟨_, _, hs, fun h hs => ⟨rfl, sat_rfq.2 ⟨_, hs⟩⟩⟩
  · have hg := getL_none (L := its.map Ixt.kv) (k := key) (fun x hx => by
      obtain ⟨z, hz, rfl⟩ := List.mem_map.1 hx
      exact hnk z hz)
    rw [hg]
    have fin : ∀ (r : AV) h, r = .nils → sat h (pto y (.row 1 [[rv]] 1) :: Ow 2 rv (its.map rrow) :: (its.map Ixt.m ++ F)) → ∃ es F', sat h (Ow 2 r es :: F') ∧ ∀ h'', sat h'' F' → (AV.lst es = .lst (([] : List Mk).map mkE) ∧ sat h'' (RfQ y its :: F)) := by
      rintro r h rfl hs
      exact ⟨[], _, hs.add ow_nil, fun h hs => ⟨rfl, sat_rfq.2 ⟨rv, hs⟩⟩⟩
    by_cases hlt : posI its key < its.length
    · have hx := List.getElem?_eq_getElem hlt
      have hd : decide (((posI its key : Nat) : Int) < (its.length : Int)) = true := by simpa using hlt
      obtain ⟨b, cap, hrv, hb, _⟩ := hs.drop.owr.row (rrow_get hx)
      rw [hll2] at hrv
      have hkk : (its[posI its key].key == key) = false := by rw [beq_eq_false_iff_ne]; exact hne _ hx
      simp (disch := omega) only [go_sem, reduceCtorEq, ↓reduceIte, Nat.reduceEqDiff, Nat.reduceAdd, Nat.reduceSub, Nat.reduceMul, Nat.reduceLT, Nat.reduceLeDiff, Int.reduceEq, Int.reduceNe, Int.reduceLT, Int.reduceLE, Int.reduceBEq, Int.reduceBNe, Int.reduceToNat, hd, hy, hrv, ia2_go hlt, hb, rrow_get hx, hkk]
      exact fin _ _ rfl hs
    · have hd : decide (((posI its key : Nat) : Int) < (its.length : Int)) = false := by simpa using hlt
      simp (disch := omega) only [go_sem, reduceCtorEq, ↓reduceIte, Nat.reduceEqDiff, Nat.reduceAdd, Nat.reduceSub, Nat.reduceMul, Nat.reduceLT, Nat.reduceLeDiff, Int.reduceEq, Int.reduceNe, Int.reduceLT, Int.reduceLE, Int.reduceBEq, Int.reduceBNe, Int.reduceToNat, hd]
      exact fin _ _ rfl hs
end
end Go.Proofs.Ytnojalihnajkbaa
/- The document's index: Keys, Trim. -/
set_option linter.unusedSimpArgs false
set_option linter.unusedVariables false
set_option maxRecDepth 10000
namespace Go.Proofs.Ytnojalihnajkbaa
open Go.Hz

section
variable {h : Hp} {F : List Asr}
theorem take_kv {its : List Ixt} {i : Nat} {x : Ixt} (hx : its[i]? = some x) : (its.take (i + 1)).map Ixt.kv = (its.take i).map Ixt.kv ++ [(x.key, x.ms)] := by
  obtain ⟨hi, rfl⟩ := List.getElem?_eq_some_iff.1 hx
  rw [List.take_succ_eq_append_getElem hi, List.map_append]; rfl

theorem rKeys {y : Nat} {its : List Ixt} {lo hi : Key} (hs : sat h (RfQ y its :: F)) (hn : its.length ≤ 1000000000) :
    Triple Try.prog 20 [.ptr y 1 0 0, .str lo, .str hi] h (fun r h => r = strsV (keysL (its.map Ixt.kv) lo hi) ∧ sat h (RfQ y its :: F)) := by
  refine Triple.lst 1 ?_
  obtain ⟨rv, hs⟩ := sat_rfq.1 hs
  refine t20 (Nat.le_of_ble_eq_true rfl) ?_
  simp (disch := omega) only [F20, go_sem, reduceCtorEq, ↓reduceIte, Nat.reduceEqDiff, Nat.reduceAdd, Nat.reduceSub, Nat.reduceMul, Nat.reduceLT, Nat.reduceLeDiff, Int.reduceEq, Int.reduceNe, Int.reduceLT, Int.reduceLE, Int.reduceBEq, Int.reduceBNe, Int.reduceToNat]
  refine run_up (N := its.length) (fun i e h => ∃ ov, sat h (pto y (.row 1 [[rv]] 1) :: Ow 2 rv (its.map rrow) :: Ow 1 ov ((keysL ((its.take i).map Ixt.kv) lo hi).map fun k => [.str k]) :: (its.map Ixt.m ++ F)) ∧
    (e 0 = .ptr y 1 0 0 ∧ e 1 = .str lo ∧ e 2 = .str hi ∧ e 8 = .int .i64 i ∧ e 7 = ov)) ⟨.nils, hs.tl fun _ g => g.tl fun _ g => g.add ow_nil, rfl, rfl, rfl, rfl, rfl⟩ ?_
  rintro i e h hi2 ⟨ov, hs, he⟩
  have hl := hs.drop.owr.len
  rw [List.length_map] at hl
  have hy := hs.at
  simp (disch := omega) only [go_sem, reduceCtorEq, ↓reduceIte, Nat.reduceEqDiff, Nat.reduceAdd, Nat.reduceSub, Nat.reduceMul, Nat.reduceLT, Nat.reduceLeDiff, Int.reduceEq, Int.reduceNe, Int.reduceLT, Int.reduceLE, Int.reduceBEq, Int.reduceBNe, Int.reduceToNat, he, hy, hl]
  refine cnd_dec (fun hlt => ?_) (fun hge => ?_)
  · have hlt : i < its.length := by omega
    have hx := List.getElem?_eq_getElem hlt
    obtain ⟨b, cap, hrv, hb, _⟩ := hs.drop.owr.row (rrow_get hx)
    have hll2 : (its.map rrow).length = its.length := by simp
    rw [hll2] at hrv
    subst hrv
    have hia := ia2_go (b := b) (off := 0) (len := its.length) (c := cap) hlt
    rw [Nat.zero_add] at hia
    have hgt := rrow_get hx
    have htk := take_kv hx
    have hkl : (keysL ((its.take i).map Ixt.kv) lo hi).length ≤ 1000000000 := by
      unfold keysL
      refine Nat.le_trans (List.length_filter_le _ _) ?_
      simp; omega
    simp (disch := omega) only [go_sem, reduceCtorEq, ↓reduceIte, Nat.reduceEqDiff, Nat.reduceAdd, Nat.reduceSub, Nat.reduceMul, Nat.reduceLT, Nat.reduceLeDiff, Int.reduceEq, Int.reduceNe, Int.reduceLT, Int.reduceLE, Int.reduceBEq, Int.reduceBNe, Int.reduceToNat, he, hy, hia, hb, hgt]
    have hout : ∀ v' h, inR lo hi its[i].key = true → sat h (pto y (.row 1 [[.arr b 2 0 its.length cap]] 1) :: Ow 2 (.arr b 2 0 its.length cap) (its.map rrow) :: Ow 1 v' ((keysL ((its.take i).map Ixt.kv) lo hi).map (fun k => [AV.str k]) ++ [[.str its[i].key]]) :: (its.map Ixt.m ++ F)) →
        sat h (pto y (.row 1 [[.arr b 2 0 its.length cap]] 1) :: Ow 2 (.arr b 2 0 its.length cap) (its.map rrow) :: Ow 1 v' ((keysL ((its.take (i + 1)).map Ixt.kv) lo hi).map fun k => [.str k]) :: (its.map Ixt.m ++ F)) := by
      intro v' h hin hs
      rw [htk, keysL_snoc, hin, if_pos rfl, List.map_append]
      exact hs
    have hskip : inR lo hi its[i].key = false → (keysL ((its.take (i + 1)).map Ixt.kv) lo hi) = keysL ((its.take i).map Ixt.kv) lo hi := by
      intro hin
      rw [htk, keysL_snoc, hin]; simp
    cases h1 : Op.bytesLess its[i].key lo
    · by_cases h2 : hi = []
      · subst h2
        have hin : inR lo [] its[i].key = true := by simp [inR, ltK, h1]
        have hbe : (([] : List UInt8) == []) = true := rfl
        simp (disch := omega) only [go_sem, reduceCtorEq, ↓reduceIte, Nat.reduceEqDiff, Nat.reduceAdd, Nat.reduceSub, Nat.reduceMul, Nat.reduceLT, Nat.reduceLeDiff, Int.reduceEq, Int.reduceNe, Int.reduceLT, Int.reduceLE, Int.reduceBEq, Int.reduceBNe, Int.reduceToNat, he, hbe, hy, hia, hb, hgt]
        refine new_opq hs fun bn h hs => ?_
        simp (disch := omega) only [go_sem, reduceCtorEq, ↓reduceIte, Nat.reduceEqDiff, Nat.reduceAdd, Nat.reduceSub, Nat.reduceMul, Nat.reduceLT, Nat.reduceLeDiff, Int.reduceEq, Int.reduceNe, Int.reduceLT, Int.reduceLE, Int.reduceBEq, Int.reduceBNe, Int.reduceToNat, hs.at, he]
        have hs2 := hs.drop.p1.p1.p2
        refine app_sat hs2 (src_one hs.at) (atoms_str [its[i].key]) (by simp only [List.length_map, List.length_cons, List.length_nil]; omega) fun v' h hs hc' ha' => ?_
        simp (disch := omega) only [go_sem, reduceCtorEq, ↓reduceIte, Nat.reduceEqDiff, Nat.reduceAdd, Nat.reduceSub, Nat.reduceMul, Nat.reduceLT, Nat.reduceLeDiff, Int.reduceEq, Int.reduceNe, Int.reduceLT, Int.reduceLE, Int.reduceBEq, Int.reduceBNe, Int.reduceToNat, he]
        exact ⟨hlt, v', hout _ _ hin (hs.p2.p2), rfl, rfl⟩
      · have h2' : (hi == ([] : List UInt8)) = false := by rw [beq_eq_false_iff_ne]; exact h2
        simp (disch := omega) only [go_sem, reduceCtorEq, ↓reduceIte, Nat.reduceEqDiff, Nat.reduceAdd, Nat.reduceSub, Nat.reduceMul, Nat.reduceLT, Nat.reduceLeDiff, Int.reduceEq, Int.reduceNe, Int.reduceLT, Int.reduceLE, Int.reduceBEq, Int.reduceBNe, Int.reduceToNat, he, h2', hy, hia, hb, hgt]
        cases h3 : Op.bytesLess its[i].key hi
        · have hin : inR lo hi its[i].key = false := by simp [inR, ltK, h1, h2, h3]
          simp (disch := omega) only [go_sem, reduceCtorEq, ↓reduceIte, Nat.reduceEqDiff, Nat.reduceAdd, Nat.reduceSub, Nat.reduceMul, Nat.reduceLT, Nat.reduceLeDiff, Int.reduceEq, Int.reduceNe, Int.reduceLT, Int.reduceLE, Int.reduceBEq, Int.reduceBNe, Int.reduceToNat, he]
          exact ⟨hlt, ov, by rw [hskip hin]; exact hs, rfl, rfl⟩
        · have hin : inR lo hi its[i].key = true := by simp [inR, ltK, h1, h3]
          simp (disch := omega) only [go_sem, reduceCtorEq, ↓reduceIte, Nat.reduceEqDiff, Nat.reduceAdd, Nat.reduceSub, Nat.reduceMul, Nat.reduceLT, Nat.reduceLeDiff, Int.reduceEq, Int.reduceNe, Int.reduceLT, Int.reduceLE, Int.reduceBEq, Int.reduceBNe, Int.reduceToNat, he, hy, hia, hb, hgt]
          refine new_opq hs fun bn h hs => ?_
          simp (disch := omega) only [go_sem, reduceCtorEq, ↓reduceIte, Nat.reduceEqDiff, Nat.reduceAdd, Nat.reduceSub, Nat.reduceMul, Nat.reduceLT, Nat.reduceLeDiff, Int.reduceEq, Int.reduceNe, Int.reduceLT, Int.reduceLE, Int.reduceBEq, Int.reduceBNe, Int.reduceToNat, hs.at, he]
          have hs2 := hs.drop.p1.p1.p2
          refine app_sat hs2 (src_one hs.at) (atoms_str [its[i].key]) (by simp only [List.length_map, List.length_cons, List.length_nil]; omega) fun v' h hs hc' ha' => ?_
          simp (disch := omega) only [go_sem, reduceCtorEq, ↓reduceIte, Nat.reduceEqDiff, Nat.reduceAdd, Nat.reduceSub, Nat.reduceMul, Nat.reduceLT, Nat.reduceLeDiff, Int.reduceEq, Int.reduceNe, Int.reduceLT, Int.reduceLE, Int.reduceBEq, Int.reduceBNe, Int.reduceToNat, he]
          exact ⟨hlt, v', hout _ _ hin (hs.p2.p2), rfl, rfl⟩
    · have hin : inR lo hi its[i].key = false := by simp [inR, ltK, h1]
      simp (disch := omega) only [go_sem, reduceCtorEq, ↓reduceIte, Nat.reduceEqDiff, Nat.reduceAdd, Nat.reduceSub, Nat.reduceMul, Nat.reduceLT, Nat.reduceLeDiff, Int.reduceEq, Int.reduceNe, Int.reduceLT, Int.reduceLE, Int.reduceBEq, Int.reduceBNe, Int.reduceToNat, he]
      exact ⟨hlt, ov, by rw [hskip hin]; exact hs, rfl, rfl⟩
  · have hii : i = its.length := by omega
    subst hii
    simp (disch := omega) only [go_sem, reduceCtorEq, ↓reduceIte, Nat.reduceEqDiff, Nat.reduceAdd, Nat.reduceSub, Nat.reduceMul, Nat.reduceLT, Nat.reduceLeDiff, Int.reduceEq, Int.reduceNe, Int.reduceLT, Int.reduceLE, Int.reduceBEq, Int.reduceBNe, Int.reduceToNat, he]
    rw [List.take_length] at hs
    exact ⟨_, _, hs.p1.p1.p2, fun h hs => ⟨rfl, sat_rfq.2 ⟨rv, hs⟩⟩⟩
end
end Go.Proofs.Ytnojalihnajkbaa
/- The document's index: Trim, Put. -/
set_option linter.unusedSimpArgs false
set_option linter.unusedVariables false
set_option maxRecDepth 10000
namespace Go.Proofs.Ytnojalihnajkbaa
open Go.Hz

section
variable {h : Hp} {F : List Asr}
theorem atoms_rrow (l : List Ixt) (hl : ∀ x ∈ l, x.mv.isAtom = true) : AtomsL (l.map rrow) := by
  intro e he v hv
  obtain ⟨k, hk, rfl⟩ := List.mem_map.1 he
  simp only [rrow, List.mem_cons, List.not_mem_nil, or_false] at hv
  rcases hv with rfl | rfl
  · rfl
  · exact hl k hk
theorem m_atoms {its : List Ixt} (hs : sat h (its.map Ixt.m ++ F)) : ∀ x ∈ its, x.mv.isAtom = true := fun x hx => (m_els hx hs).atom

theorem rTrim {y : Nat} {its : List Ixt} {rev : Int} (hs : sat h (RfQ y its :: F)) (hn : its.length ≤ 1000000000) (hl : ∀ x ∈ its, x.ms.length ≤ 1000000000 ∧ RisM x.ms) :
    Triple Try.prog 17 [.ptr y 1 0 0, .int .i64 rev] h (fun r h => sat h (RfP y (trimL (its.map Ixt.kv) rev) :: F)) := by
  obtain ⟨rv, hs⟩ := sat_rfq.1 hs
  refine t17 (Nat.le_of_ble_eq_true rfl) ?_
  simp (disch := omega) only [F17, go_sem, reduceCtorEq, ↓reduceIte, Nat.reduceEqDiff, Nat.reduceAdd, Nat.reduceSub, Nat.reduceMul, Nat.reduceLT, Nat.reduceLeDiff, Int.reduceEq, Int.reduceNe, Int.reduceLT, Int.reduceLE, Int.reduceBEq, Int.reduceBNe, Int.reduceToNat]
  refine run_up (N := its.length) (fun i e h => ∃ nv its', its'.map Ixt.kv = trimL ((its.take i).map Ixt.kv) rev ∧ sat h (pto y (.row 1 [[rv]] 1) :: Ow 2 rv (its.map rrow) :: Ow 2 nv (its'.map rrow) :: ((its.drop i).map Ixt.m ++ (its'.map Ixt.m ++ F))) ∧
    (e 0 = .ptr y 1 0 0 ∧ e 1 = .int .i64 rev ∧ e 5 = .int .i64 i ∧ e 4 = nv)) ⟨.nils, [], rfl, hs.tl fun _ g => g.tl fun _ g => g.add ow_nil, rfl, rfl, rfl, rfl⟩ ?_
  rintro i e h hi2 ⟨nv, its', hkv, hs, he⟩
  have hlen := hs.drop.owr.len
  rw [List.length_map] at hlen
  have hy := hs.at
  simp (disch := omega) only [go_sem, reduceCtorEq, ↓reduceIte, Nat.reduceEqDiff, Nat.reduceAdd, Nat.reduceSub, Nat.reduceMul, Nat.reduceLT, Nat.reduceLeDiff, Int.reduceEq, Int.reduceNe, Int.reduceLT, Int.reduceLE, Int.reduceBEq, Int.reduceBNe, Int.reduceToNat, he, hy, hlen]
  refine cnd_dec (fun hlt => ?_) (fun hge => ?_)
  · have hlt : i < its.length := by omega
    have hx := List.getElem?_eq_getElem hlt
    obtain ⟨b, cap, hrv, hb, _⟩ := hs.drop.owr.row (rrow_get hx)
    have hll2 : (its.map rrow).length = its.length := by simp
    rw [hll2] at hrv
    have hia := ia2_go (b := b) (off := 0) (len := its.length) (c := cap) hlt
    rw [Nat.zero_add, ← hrv] at hia
    have hgt := rrow_get hx
    have hd : its.drop i = its[i] :: its.drop (i + 1) := List.drop_eq_getElem_cons hlt
    obtain ⟨hxl, hxr⟩ := hl its[i] (List.getElem_mem hlt)
    have htk := take_kv hx
    generalize its[i] = x at hx hgt hd hxl hxr htk
    have hts : trimL ((its.take (i + 1)).map Ixt.kv) rev = trimL ((its.take i).map Ixt.kv) rev ++ (if (trimM x.ms rev).isEmpty then [] else [(x.key, trimM x.ms rev)]) := by
      rw [htk]; exact trimL_snoc _ _ _ _
    have hl' : its'.length ≤ 1000000000 := by
      have e1 := congrArg List.length hkv
      rw [List.length_map] at e1
      have e2 : (trimL ((its.take i).map Ixt.kv) rev).length ≤ its.length := by
        unfold trimL
        refine Nat.le_trans (List.length_filter_le _ _) ?_
        simp; omega
      omega
    rw [hd, List.map_cons, List.cons_append] at hs
    have hm := hs.p2.p2.p2.p3.owr
    have hml := hm.len
    rw [List.length_map] at hml
    have hy := hs.at
    have he4 := he.2.2.2
    simp (disch := omega) only [go_sem, reduceCtorEq, ↓reduceIte, Nat.reduceEqDiff, Nat.reduceAdd, Nat.reduceSub, Nat.reduceMul, Nat.reduceLT, Nat.reduceLeDiff, Int.reduceEq, Int.reduceNe, Int.reduceLT, Int.reduceLE, Int.reduceBEq, Int.reduceBNe, Int.reduceToNat, he, hy, hia, hb, hgt]
    refine run_up (N := x.ms.length) (fun n e h => sat h (pto y (.row 1 [[rv]] 1) :: Ow 2 rv (its.map rrow) :: Ow 2 nv (its'.map rrow) :: x.m :: ((its.drop (i + 1)).map Ixt.m ++ (its'.map Ixt.m ++ F))) ∧
      (e 0 = .ptr y 1 0 0 ∧ e 1 = .int .i64 rev ∧ e 5 = .int .i64 i ∧ e 4 = nv ∧ e 6 = x.mv ∧ e 7 = .int .i64 ((min n (cntM x.ms rev) : Nat) - 1 : Int) ∧ e 8 = .int .i64 n))
      ⟨hs, by simp only [Env.upd_apply, ↓reduceIte, he]; simp⟩ ?_
    clear he he4
    rintro n e h hn2 ⟨hs, he⟩
    have hm := hs.p2.p2.p2.p3.owr
    simp (disch := omega) only [go_sem, reduceCtorEq, ↓reduceIte, Nat.reduceEqDiff, Nat.reduceAdd, Nat.reduceSub, Nat.reduceMul, Nat.reduceLT, Nat.reduceLeDiff, Int.reduceEq, Int.reduceNe, Int.reduceLT, Int.reduceLE, Int.reduceBEq, Int.reduceBNe, Int.reduceToNat, he, hml]
    refine cnd_dec (fun hlt2 => ?_) (fun hge2 => ?_)
    · have hlt2 : n < x.ms.length := by omega
      have hmn := List.getElem?_eq_getElem hlt2
      have hmg : (x.ms.map mkE)[n]? = some (mkE x.ms[n]) := by simp [hmn]
      obtain ⟨b2, cap2, hmv, hb2, _⟩ := hm.row hmg
      rw [List.length_map] at hmv
      have hia2 := ia2_go (b := b2) (off := 0) (len := x.ms.length) (c := cap2) hlt2
      rw [Nat.zero_add] at hia2
      have hcl := cntM_lt hxr hmn (rev := rev)
      simp (disch := omega) only [go_sem, reduceCtorEq, ↓reduceIte, Nat.reduceEqDiff, Nat.reduceAdd, Nat.reduceSub, Nat.reduceMul, Nat.reduceLT, Nat.reduceLeDiff, Int.reduceEq, Int.reduceNe, Int.reduceLT, Int.reduceLE, Int.reduceBEq, Int.reduceBNe, Int.reduceToNat, he, hmv, hia2, hb2, hmg, mkE]
      refine cnd_dec (fun hle => ?_) (fun hgt2 => ?_)
      · have := hcl.2 hle
        simp (disch := omega) only [go_sem, reduceCtorEq, ↓reduceIte, Nat.reduceEqDiff, Nat.reduceAdd, Nat.reduceSub, Nat.reduceMul, Nat.reduceLT, Nat.reduceLeDiff, Int.reduceEq, Int.reduceNe, Int.reduceLT, Int.reduceLE, Int.reduceBEq, Int.reduceBNe, Int.reduceToNat, he]
        refine ⟨hlt2, hs, hmv, ?_, rfl⟩
        congr 1; omega
      · have : ¬ n < cntM x.ms rev := fun h => hgt2 (hcl.1 h)
        simp (disch := omega) only [go_sem, reduceCtorEq, ↓reduceIte, Nat.reduceEqDiff, Nat.reduceAdd, Nat.reduceSub, Nat.reduceMul, Nat.reduceLT, Nat.reduceLeDiff, Int.reduceEq, Int.reduceNe, Int.reduceLT, Int.reduceLE, Int.reduceBEq, Int.reduceBNe, Int.reduceToNat, he]
        refine ⟨hlt2, hs, hmv, ?_, rfl⟩
        congr 1; omega
    · have hnn : n = x.ms.length := by omega
      subst hnn
      have hcle := cntM_le (l := x.ms) (rev := rev)
      rw [Nat.min_eq_right hcle] at he
      simp (disch := omega) only [go_sem, reduceCtorEq, ↓reduceIte, Nat.reduceEqDiff, Nat.reduceAdd, Nat.reduceSub, Nat.reduceMul, Nat.reduceLT, Nat.reduceLeDiff, Int.reduceEq, Int.reduceNe, Int.reduceLT, Int.reduceLE, Int.reduceBEq, Int.reduceBNe, Int.reduceToNat, he]
      refine cnd_join (Q := fun e' h' => ∃ lv, sat h' (pto y (.row 1 [[rv]] 1) :: Ow 2 rv (its.map rrow) :: Ow 2 nv (its'.map rrow) :: Ow 2 lv ((trimM x.ms rev).map mkE) :: ((its.drop (i + 1)).map Ixt.m ++ (its'.map Ixt.m ++ F))) ∧
        (e' 0 = .ptr y 1 0 0 ∧ e' 1 = .int .i64 rev ∧ e' 5 = .int .i64 i ∧ e' 4 = nv ∧ e' 6 = lv)) ?_ ?_
      · by_cases hc0 : cntM x.ms rev = 0
        · have hd : decide ((0 : Int) ≤ ((cntM x.ms rev : Nat) : Int) - 1) = false := by simp; omega
          simp (disch := omega) only [go_sem, reduceCtorEq, ↓reduceIte, Nat.reduceEqDiff, Nat.reduceAdd, Nat.reduceSub, Nat.reduceMul, Nat.reduceLT, Nat.reduceLeDiff, Int.reduceEq, Int.reduceNe, Int.reduceLT, Int.reduceLE, Int.reduceBEq, Int.reduceBNe, Int.reduceToNat, hd, he]
          refine ⟨_, ?_, rfl⟩
          rw [trimM, if_pos hc0]; exact hs
        · have hd : decide ((0 : Int) ≤ ((cntM x.ms rev : Nat) : Int) - 1) = true := by simp; omega
          have e1 : ((cntM x.ms rev : Nat) : Int) - 1 = ((cntM x.ms rev - 1 : Nat) : Int) := by omega
          have hmn := List.getElem?_eq_getElem (l := x.ms) (i := cntM x.ms rev - 1) (by omega)
          have hmg : (x.ms.map mkE)[cntM x.ms rev - 1]? = some (mkE x.ms[cntM x.ms rev - 1]) := by simp [hmn]
          obtain ⟨b2, cap2, hmv, hb2, hcp2⟩ := hm.row hmg
          rw [List.length_map] at hmv hcp2
          have hia2 := ia2_go (b := b2) (off := 0) (len := x.ms.length) (c := cap2) (i := cntM x.ms rev - 1) (by omega)
          rw [Nat.zero_add] at hia2
          have ht : trimM x.ms rev = x.ms.drop (if x.ms[cntM x.ms rev - 1].2 = true then cntM x.ms rev else cntM x.ms rev - 1) := by
            rw [trimM, if_neg hc0, List.getD_eq_getElem?_getD, hmn]; rfl
          have hd' : decide ((0 : Int) ≤ ((cntM x.ms rev - 1 : Nat) : Int)) = true := by simp
          generalize ha : (if x.ms[cntM x.ms rev - 1].2 = true then cntM x.ms rev else cntM x.ms rev - 1) = a at ht
          have hal : a ≤ x.ms.length := by subst ha; split <;> omega
          simp (disch := omega) only [go_sem, reduceCtorEq, ↓reduceIte, Nat.reduceEqDiff, Nat.reduceAdd, Nat.reduceSub, Nat.reduceMul, Nat.reduceLT, Nat.reduceLeDiff, Int.reduceEq, Int.reduceNe, Int.reduceLT, Int.reduceLE, Int.reduceBEq, Int.reduceBNe, Int.reduceToNat, hd', he, e1, hmv, hia2, hb2, hmg, mkE]
          refine cnd_join (Q := fun e' h' => h' = h ∧ (e' 0 = .ptr y 1 0 0 ∧ e' 1 = .int .i64 rev ∧ e' 5 = .int .i64 i ∧ e' 4 = nv ∧ e' 6 = .arr b2 2 0 x.ms.length cap2 ∧ e' 7 = .int .i64 (a : Nat))) ?_ ?_
          · cases hdd : x.ms[cntM x.ms rev - 1].2
            · rw [hdd] at ha
              subst ha
              simp (disch := omega) only [go_sem, reduceCtorEq, ↓reduceIte, Nat.reduceEqDiff, Nat.reduceAdd, Nat.reduceSub, Nat.reduceMul, Nat.reduceLT, Nat.reduceLeDiff, Int.reduceEq, Int.reduceNe, Int.reduceLT, Int.reduceLE, Int.reduceBEq, Int.reduceBNe, Int.reduceToNat, he, hmv]
              congr 1 <;> omega
            · rw [hdd] at ha
              subst ha
              have e2 : ((cntM x.ms rev - 1 : Nat) : Int) + 1 = ((cntM x.ms rev : Nat) : Int) := by omega
              simp (disch := omega) only [go_sem, reduceCtorEq, ↓reduceIte, Nat.reduceEqDiff, Nat.reduceAdd, Nat.reduceSub, Nat.reduceMul, Nat.reduceLT, Nat.reduceLeDiff, Int.reduceEq, Int.reduceNe, Int.reduceLT, Int.reduceLE, Int.reduceBEq, Int.reduceBNe, Int.reduceToNat, he, hmv]
              congr 1 <;> omega
          · rintro e h' ⟨rfl, he⟩
            simp (disch := omega) only [go_sem, reduceCtorEq, ↓reduceIte, Nat.reduceEqDiff, Nat.reduceAdd, Nat.reduceSub, Nat.reduceMul, Nat.reduceLT, Nat.reduceLeDiff, Int.reduceEq, Int.reduceNe, Int.reduceLT, Int.reduceLE, Int.reduceBEq, Int.reduceBNe, Int.reduceToNat, he]
            have hs := hs
            refine new_opq hs fun bn h hs => ?_
            simp (disch := omega) only [go_sem, reduceCtorEq, ↓reduceIte, Nat.reduceEqDiff, Nat.reduceAdd, Nat.reduceSub, Nat.reduceMul, Nat.reduceLT, Nat.reduceLeDiff, Int.reduceEq, Int.reduceNe, Int.reduceLT, Int.reduceLE, Int.reduceBEq, Int.reduceBNe, Int.reduceToNat, hs.at, he, slcL_lo]
            have hs2 := hs.p3.p3.p3.p4.p4
            have hxx : x.m = Ow 2 (.arr b2 2 0 x.ms.length cap2) (x.ms.map mkE) := by unfold Ixt.m; rw [hmv]
            rw [hxx] at hs2
            have hpart := src_part (c := cap2 - a) (off := a) (len := x.ms.length - a) (hs2.p1.arr).1 (by simp; omega)
            have hdrop : ((x.ms.map mkE).drop a).take (x.ms.length - a) = (x.ms.drop a).map mkE := by
              rw [List.take_of_length_le (by simp), List.map_drop]
            rw [hdrop] at hpart
            have hs3 := (hs.p3.p3.p3.p4.p4).d1
            refine app_sat (hs3.ow (by simp)) hpart (atoms_mkE _) (by simp; omega) fun v' h hs hc' ha' => ?_
            simp (disch := omega) only [go_sem, reduceCtorEq, ↓reduceIte, Nat.reduceEqDiff, Nat.reduceAdd, Nat.reduceSub, Nat.reduceMul, Nat.reduceLT, Nat.reduceLeDiff, Int.reduceEq, Int.reduceNe, Int.reduceLT, Int.reduceLE, Int.reduceBEq, Int.reduceBNe, Int.reduceToNat, he]
            refine ⟨v', ?_, rfl⟩
            rw [ht]
            exact hs.p3.p3.p3
      · rintro e h ⟨lv, hs, he⟩
        have hll := hs.p2.p2.p2.p3.owr.len
        rw [List.length_map] at hll
        have hlc := hs.p2.p2.p2.p3.els.cells
        have hla := hs.p2.p2.p2.p3.els.atom
        simp (disch := omega) only [go_sem, reduceCtorEq, ↓reduceIte, Nat.reduceEqDiff, Nat.reduceAdd, Nat.reduceSub, Nat.reduceMul, Nat.reduceLT, Nat.reduceLeDiff, Int.reduceEq, Int.reduceNe, Int.reduceLT, Int.reduceLE, Int.reduceBEq, Int.reduceBNe, Int.reduceToNat, he, hll]
        by_cases hte : trimM x.ms rev = []
        · have hd0 : decide ((0 : Int) < ((trimM x.ms rev).length : Int)) = false := by rw [hte]; rfl
          simp (disch := omega) only [go_sem, reduceCtorEq, ↓reduceIte, Nat.reduceEqDiff, Nat.reduceAdd, Nat.reduceSub, Nat.reduceMul, Nat.reduceLT, Nat.reduceLeDiff, Int.reduceEq, Int.reduceNe, Int.reduceLT, Int.reduceLE, Int.reduceBEq, Int.reduceBNe, Int.reduceToNat, hd0, he]
          refine ⟨hlt, nv, its', ?_, hs.p3.drop.p2.p2.p2, rfl, rfl⟩
          rw [hts, hte, hkv]; simp
        · have hd0 : decide ((0 : Int) < ((trimM x.ms rev).length : Int)) = true := by
            have := List.length_pos_iff.2 hte
            simp; omega
          have hy := hs.at
          obtain ⟨b, cap, hrv, hb, _⟩ := hs.drop.owr.row (rrow_get hx)
          rw [hll2] at hrv
          have hia := ia2_go (b := b) (off := 0) (len := its.length) (c := cap) hlt
          rw [Nat.zero_add, ← hrv] at hia
          simp (disch := omega) only [go_sem, reduceCtorEq, ↓reduceIte, Nat.reduceEqDiff, Nat.reduceAdd, Nat.reduceSub, Nat.reduceMul, Nat.reduceLT, Nat.reduceLeDiff, Int.reduceEq, Int.reduceNe, Int.reduceLT, Int.reduceLE, Int.reduceBEq, Int.reduceBNe, Int.reduceToNat, hd0, he, hy, hia, hb, hgt, hlc, hla]
          refine new_opq hs fun bn h hs => ?_
          simp (disch := omega) only [go_sem, reduceCtorEq, ↓reduceIte, Nat.reduceEqDiff, Nat.reduceAdd, Nat.reduceSub, Nat.reduceMul, Nat.reduceLT, Nat.reduceLeDiff, Int.reduceEq, Int.reduceNe, Int.reduceLT, Int.reduceLE, Int.reduceBEq, Int.reduceBNe, Int.reduceToNat, hs.at, he, hlc, hla]
          have hs2 := hs.drop.p3.p2.p2.p3
          refine app_sat hs2 (src_one hs.at) (atoms_one (by show (AV.isAtom (.str x.key) && (lv.isAtom && true)) = true; rw [hla]; rfl)) (by simp; omega) fun v' h hs hc' ha' => ?_
          simp (disch := omega) only [go_sem, reduceCtorEq, ↓reduceIte, Nat.reduceEqDiff, Nat.reduceAdd, Nat.reduceSub, Nat.reduceMul, Nat.reduceLT, Nat.reduceLeDiff, Int.reduceEq, Int.reduceNe, Int.reduceLT, Int.reduceLE, Int.reduceBEq, Int.reduceBNe, Int.reduceToNat, he]
          refine ⟨hlt, v', its' ++ [⟨0, x.key, lv, trimM x.ms rev⟩], ?_, ?_, rfl, rfl⟩
          · have : (trimM x.ms rev).isEmpty = false := by simpa using hte
            rw [hts, List.map_append, hkv, this]
            simp [Ixt.kv]
          · have g := hs.p3.p1.p3.p3
            rw [List.map_append (f := rrow), List.map_append (f := Ixt.m), List.append_assoc]
            refine g.tl fun h g => g.tl fun h g => g.tl fun h g => ?_
            exact (sat.swapl (l1 := [_]) g).tls fun h g => sat.swapl (l1 := [_]) g
  · have hii : i = its.length := by omega
    subst hii
    have hnc := hs.p1.p1.p2.els.cells
    have hna := hs.p1.p1.p2.els.atom
    simp (disch := omega) only [go_sem, reduceCtorEq, ↓reduceIte, Nat.reduceEqDiff, Nat.reduceAdd, Nat.reduceSub, Nat.reduceMul, Nat.reduceLT, Nat.reduceLeDiff, Int.reduceEq, Int.reduceNe, Int.reduceLT, Int.reduceLE, Int.reduceBEq, Int.reduceBNe, Int.reduceToNat, he, hy, hnc, hna]
    rw [List.drop_length, List.map_nil, List.nil_append] at hs
    rw [List.take_length] at hkv
    have g := (hs.set (o' := .row 1 [[nv]] 1)).d1
    exact sat_rfp.2 ⟨its', hkv, sat_rfq.2 ⟨nv, g⟩⟩

/-- The rows with a new one among them, its marks laid. -/
theorem rPut {y : Nat} {its : List Ixt} {key : Key} {m : Mk} (hs : sat h (RfQ y its :: F)) (hw : WfL (its.map Ixt.kv)) (hn : its.length ≤ 1000000000) (hl : ∀ x ∈ its, x.ms.length ≤ 1000000000) (hm : inI m.1) :
    Triple Try.prog 16 [.ptr y 1 0 0, .str key, .agg [.int .i64 m.1, .bool m.2]] h (fun r h => r = .int .i64 (putE (its.map Ixt.kv) key m) ∧ sat h (RfP y (putL (its.map Ixt.kv) key m) :: F)) := by
  obtain ⟨L, hL⟩ : ∃ L, its.map Ixt.kv = L := ⟨_, rfl⟩
  rw [hL] at hw ⊢
  have hS := SrtI.kv.2 (hL ▸ hw.1)
  refine t16 (Nat.le_of_ble_eq_true rfl) ?_
  simp (disch := omega) only [F16, go_sem, reduceCtorEq, ↓reduceIte, Nat.reduceEqDiff, Nat.reduceAdd, Nat.reduceSub, Nat.reduceMul, Nat.reduceLT, Nat.reduceLeDiff, Int.reduceEq, Int.reduceNe, Int.reduceLT, Int.reduceLE, Int.reduceBEq, Int.reduceBNe, Int.reduceToNat]
  refine new_opq hs fun b5 h hs => ?_
  simp (disch := omega) only [go_sem, reduceCtorEq, ↓reduceIte, Nat.reduceEqDiff, Nat.reduceAdd, Nat.reduceSub, Nat.reduceMul, Nat.reduceLT, Nat.reduceLeDiff, Int.reduceEq, Int.reduceNe, Int.reduceLT, Int.reduceLE, Int.reduceBEq, Int.reduceBNe, Int.reduceToNat, hs.at]
  have fin1 : putE L key m ≠ 0 → putL L key m = L := fun h => by simp [putL, h]
  have same : ∀ h, sat h (RfQ y its :: F) → sat h (RfP y L :: F) := fun h hs => sat_rfp.2 ⟨its, hL, hs⟩
  by_cases c1 : key = []
  · subst c1
    have e : putE L [] m = 1 := by simp [putE]
    simp (disch := omega) only [go_sem, reduceCtorEq, ↓reduceIte, Nat.reduceEqDiff, Nat.reduceAdd, Nat.reduceSub, Nat.reduceMul, Nat.reduceLT, Nat.reduceLeDiff, Int.reduceEq, Int.reduceNe, Int.reduceLT, Int.reduceLE, Int.reduceBEq, Int.reduceBNe, Int.reduceToNat]
    rw [e, fin1 (by rw [e]; decide)]
    exact ⟨rfl, same _ hs.drop⟩
  have c1' : (key == ([] : List UInt8)) = false := by rw [beq_eq_false_iff_ne]; exact c1
  by_cases c2 : 100 < key.length
  · have e : putE L key m = 1 := by simp [putE, c2]
    have c2' : decide ((100 : Int) < (key.length : Int)) = true := by simp; omega
    simp (disch := omega) only [go_sem, reduceCtorEq, ↓reduceIte, Nat.reduceEqDiff, Nat.reduceAdd, Nat.reduceSub, Nat.reduceMul, Nat.reduceLT, Nat.reduceLeDiff, Int.reduceEq, Int.reduceNe, Int.reduceLT, Int.reduceLE, Int.reduceBEq, Int.reduceBNe, Int.reduceToNat, c1', c2']
    rw [e, fin1 (by rw [e]; decide)]
    exact ⟨rfl, same _ hs.drop⟩
  have c2' : decide ((100 : Int) < (key.length : Int)) = false := by simp; omega
  by_cases c3 : m.1 < 1
  · have e : putE L key m = 1 := by simp [putE, c3]
    have c3' : decide (m.1 < 1) = true := by simpa using c3
    simp (disch := omega) only [go_sem, reduceCtorEq, ↓reduceIte, Nat.reduceEqDiff, Nat.reduceAdd, Nat.reduceSub, Nat.reduceMul, Nat.reduceLT, Nat.reduceLeDiff, Int.reduceEq, Int.reduceNe, Int.reduceLT, Int.reduceLE, Int.reduceBEq, Int.reduceBNe, Int.reduceToNat, c1', c2', c3', hs.at]
    rw [e, fin1 (by rw [e]; decide)]
    exact ⟨rfl, same _ hs.drop⟩
  have c3' : decide (m.1 < 1) = false := by simpa using c3
  simp (disch := omega) only [go_sem, reduceCtorEq, ↓reduceIte, Nat.reduceEqDiff, Nat.reduceAdd, Nat.reduceSub, Nat.reduceMul, Nat.reduceLT, Nat.reduceLeDiff, Int.reduceEq, Int.reduceNe, Int.reduceLT, Int.reduceLE, Int.reduceBEq, Int.reduceBNe, Int.reduceToNat, c1', c2', c3', hs.at]
  refine call_use (rMarks (key := key) hs.p1 hS hn hl) ?_
  rintro r h ⟨hr, hs⟩
  subst hr
  simp (disch := omega) only [go_sem, reduceCtorEq, ↓reduceIte, Nat.reduceEqDiff, Nat.reduceAdd, Nat.reduceSub, Nat.reduceMul, Nat.reduceLT, Nat.reduceLeDiff, Int.reduceEq, Int.reduceNe, Int.reduceLT, Int.reduceLE, Int.reduceBEq, Int.reduceBNe, Int.reduceToNat]
  have hb5 := hs.p1.at
  rw [hL]
  rcases posI_get (key := key) hS with ⟨l1, x, l2, hits, hxk, hp⟩ | ⟨hnk, hne⟩
  · have hLe : L = l1.map Ixt.kv ++ (key, x.ms) :: l2.map Ixt.kv := by rw [← hL, hits, ← hxk]; simp [Ixt.kv]
    have hg : getL L key = x.ms := by rw [hLe, getL_mid (by rw [← hLe]; exact hw.1)]
    have hne : x.ms ≠ [] := (hw.2 (key, x.ms) (by rw [hLe]; simp)).1
    have hxm : x ∈ its := by rw [hits]; simp
    have hxl := hl x hxm
    have hpos : 0 < x.ms.length := List.length_pos_iff.2 hne
    have hlm : lastM (getL L key) = x.ms.getLast hne := by rw [hg, lastM, List.getLast?_eq_some_getLast hne]; rfl
    have hE := putE_in (m := m) c1 (by omega) (by omega) hlm
    have hia : iaA 2 (.lst (x.ms.map mkE)) (.int .i64 ((x.ms.length - 1 : Nat) : Int)) = some (.ro (mkE (x.ms.getLast hne))) := by
      have := ia_lst (f := mkE) (l := x.ms) (s := 2) (i := x.ms.length - 1) (k := .i64) (by omega) mkE_len
      rw [this, List.getLast_eq_getElem]
    generalize x.ms.getLast hne = la at hlm hE hia
    have e1 : ((x.ms.length : Int) - 1) = ((x.ms.length - 1 : Nat) : Int) := by omega
    have hp0 : decide ((0 : Int) < (x.ms.length : Int)) = true := by simp; omega
    have hz0 : ((x.ms.length : Int) == 0) = false := by rw [beq_eq_false_iff_ne]; omega
    obtain ⟨mr, md⟩ := m
    obtain ⟨lr, ld⟩ := la
    simp only [mkE] at hia
    rw [hg]
    simp (disch := omega) only [go_sem, reduceCtorEq, ↓reduceIte, Nat.reduceEqDiff, Nat.reduceAdd, Nat.reduceSub, Nat.reduceMul, Nat.reduceLT, Nat.reduceLeDiff, Int.reduceEq, Int.reduceNe, Int.reduceLT, Int.reduceLE, Int.reduceBEq, Int.reduceBNe, Int.reduceToNat, hp0, e1, hia, hb5]
    by_cases t1 : mr ≤ lr
    · have t1' : decide (mr ≤ lr) = true := by simpa using t1
      have e : putE L key (mr, md) = 15 := by rw [hE, if_pos t1]
      simp (disch := omega) only [go_sem, reduceCtorEq, ↓reduceIte, Nat.reduceEqDiff, Nat.reduceAdd, Nat.reduceSub, Nat.reduceMul, Nat.reduceLT, Nat.reduceLeDiff, Int.reduceEq, Int.reduceNe, Int.reduceLT, Int.reduceLE, Int.reduceBEq, Int.reduceBNe, Int.reduceToNat, t1']
      rw [e, fin1 (by rw [e]; decide)]
      exact ⟨rfl, same _ hs.d1⟩
    have t1' : decide (mr ≤ lr) = false := by simpa using t1
    by_cases t2 : md = true ∧ ld = true
    · obtain ⟨rfl, rfl⟩ := t2
      have e : putE L key (mr, true) = 2 := by rw [hE, if_neg t1, if_pos ⟨rfl, rfl⟩]
      simp (disch := omega) only [go_sem, reduceCtorEq, ↓reduceIte, Nat.reduceEqDiff, Nat.reduceAdd, Nat.reduceSub, Nat.reduceMul, Nat.reduceLT, Nat.reduceLeDiff, Int.reduceEq, Int.reduceNe, Int.reduceLT, Int.reduceLE, Int.reduceBEq, Int.reduceBNe, Int.reduceToNat, t1', hb5, hz0, e1, hia]
      rw [e, fin1 (by rw [e]; decide)]
      exact ⟨rfl, same _ hs.d1⟩
    have e : putE L key (mr, md) = 0 := by rw [hE, if_neg t1, if_neg t2]
    have hput : ∀ v, putL L key (mr, md) = (l1 ++ ⟨x.a, x.key, v, x.ms ++ [(mr, md)]⟩ :: l2).map Ixt.kv := by
      intro v
      rw [putL, if_pos e, hg, hLe, layL_mid (by rw [← hLe]; exact hw.1), ← hxk]; simp [Ixt.kv]
    have hx : its[posI its key]? = some x := by rw [hp, hits]; simp
    have hlt := (List.getElem?_eq_some_iff.1 hx).1
    have t3 : md = false ∨ (md = true ∧ ld = false) := by
      cases md
      · exact .inl rfl
      · right; refine ⟨rfl, ?_⟩
        cases ld
        · rfl
        · exact absurd ⟨rfl, rfl⟩ t2
    have hset : ∀ v, (its.map rrow).set (posI its key) [.str x.key, v] = (l1 ++ ⟨x.a, x.key, v, x.ms ++ [(mr, md)]⟩ :: l2).map rrow := by
      intro v
      rw [hp, hits, List.map_append, List.map_cons, List.set_append_right _ _ (by simp)]
      simp [rrow]
    have hll2 : (its.map rrow).length = its.length := by simp
    have hmx : ∀ {h : Hp} {v G}, sat h (Ow 2 v ((x.ms ++ [(mr, md)]).map mkE) :: (its.map Ixt.m ++ G)) → sat h ((l1 ++ ⟨x.a, x.key, v, x.ms ++ [(mr, md)]⟩ :: l2).map Ixt.m ++ G) := by
      intro h v G hs
      rw [hits, List.map_append (f := Ixt.m), List.map_cons (f := Ixt.m), List.append_assoc, List.cons_append] at hs
      rw [List.map_append (f := Ixt.m), List.map_cons (f := Ixt.m), List.append_assoc, List.cons_append]
      refine sat.unmid (hs.tl fun h g => ?_)
      exact g.mid.drop
    rw [e]
    rcases t3 with rfl | ⟨rfl, rfl⟩
    · simp (disch := omega) only [go_sem, reduceCtorEq, ↓reduceIte, Nat.reduceEqDiff, Nat.reduceAdd, Nat.reduceSub, Nat.reduceMul, Nat.reduceLT, Nat.reduceLeDiff, Int.reduceEq, Int.reduceNe, Int.reduceLT, Int.reduceLE, Int.reduceBEq, Int.reduceBNe, Int.reduceToNat, t1', hb5, hz0, e1, hia]
      refine call_use (rAt (key := key) hs hn) ?_
      rintro r h ⟨hr, hs⟩
      subst hr
      obtain ⟨rv, hs⟩ := sat_rfq.1 hs
      obtain ⟨b, cap, hrv, hb, hcap⟩ := hs.drop.owr.row (rrow_get hx)
      rw [hll2] at hrv hcap
      have hia2 := ia2_go (b := b) (off := 0) (len := its.length) (c := cap) hlt
      rw [Nat.zero_add, ← hrv] at hia2
      have hgt := rrow_get hx
      have hb5 := (hs.drop.drop.right).at
      simp (disch := omega) only [go_sem, reduceCtorEq, ↓reduceIte, Nat.reduceEqDiff, Nat.reduceAdd, Nat.reduceSub, Nat.reduceMul, Nat.reduceLT, Nat.reduceLeDiff, Int.reduceEq, Int.reduceNe, Int.reduceLT, Int.reduceLE, Int.reduceBEq, Int.reduceBNe, Int.reduceToNat, hz0, hs.at, hia2, hb, hgt, hb5]
      refine new_opq hs fun bn h hs => ?_
      simp (disch := omega) only [go_sem, reduceCtorEq, ↓reduceIte, Nat.reduceEqDiff, Nat.reduceAdd, Nat.reduceSub, Nat.reduceMul, Nat.reduceLT, Nat.reduceLeDiff, Int.reduceEq, Int.reduceNe, Int.reduceLT, Int.reduceLE, Int.reduceBEq, Int.reduceBNe, Int.reduceToNat, hs.at]
      have hyE := (m_els hxm hs.drop.drop.drop).1
      refine app_satO (hs.ow (by simp)) hyE (atoms_mkE _) (by simp; omega) fun v' h hs hc' ha' => ?_
      have hb5 := (hs.drop.drop.drop.right).at
      simp (disch := omega) only [go_sem, reduceCtorEq, ↓reduceIte, Nat.reduceEqDiff, Nat.reduceAdd, Nat.reduceSub, Nat.reduceMul, Nat.reduceLT, Nat.reduceLeDiff, Int.reduceEq, Int.reduceNe, Int.reduceLT, Int.reduceLE, Int.reduceBEq, Int.reduceBNe, Int.reduceToNat, hs.p1.at, hb5]
      refine new_opq hs fun b2 h hs => ?_
      simp (disch := omega) only [go_sem, reduceCtorEq, ↓reduceIte, Nat.reduceEqDiff, Nat.reduceAdd, Nat.reduceSub, Nat.reduceMul, Nat.reduceLT, Nat.reduceLeDiff, Int.reduceEq, Int.reduceNe, Int.reduceLT, Int.reduceLE, Int.reduceBEq, Int.reduceBNe, Int.reduceToNat, hs.at]
      refine app_satO (es := x.ms.map mkE) (hs.p3.p3.p2.p3.imp fun h g => by simpa using g) (src_one hs.at) (atoms_mkE [(mr, false)]) (by simp; omega) fun v2 h hs hc2 ha2 => ?_
      have hb3 := ((hs.p2.p2.p2.p3).imp (B := Ow 2 (.arr b 2 0 its.length cap) (its.map rrow)) fun _ g => hrv ▸ g).arr.1.at
      simp (disch := omega) only [go_sem, reduceCtorEq, ↓reduceIte, Nat.reduceEqDiff, Nat.reduceAdd, Nat.reduceSub, Nat.reduceMul, Nat.reduceLT, Nat.reduceLeDiff, Int.reduceEq, Int.reduceNe, Int.reduceLT, Int.reduceLE, Int.reduceBEq, Int.reduceBNe, Int.reduceToNat, hs.p2.at, hia2, hb3, hgt, hc2, ha2]
      have g := ((hs.p1.drop.p1.p1.p2).imp (B := Ow 2 (.arr b 2 0 its.length cap) (its.map rrow)) fun _ g => hrv ▸ g).arr.1.set (o' := .row 2 ((its.map rrow).set (posI its key) [.str x.key, v2]) cap)
      rw [hput v2]
      refine sat_rfp.2 ⟨_, rfl, sat_rfq.2 ⟨rv, ?_⟩⟩
      have hnl : ((its.map rrow).set (posI its key) [.str x.key, v2]).length = its.length := by simp
      have g2 := g.ow (by rw [hnl]; exact hcap)
      rw [hnl, ← hrv, hset] at g2
      rw [hset]
      exact (g2.p1.p1.p2).tl fun h g => g.tl fun h g => (hmx (by simpa [mkE] using g)).tls fun h g => g.drop
    · simp (disch := omega) only [go_sem, reduceCtorEq, ↓reduceIte, Nat.reduceEqDiff, Nat.reduceAdd, Nat.reduceSub, Nat.reduceMul, Nat.reduceLT, Nat.reduceLeDiff, Int.reduceEq, Int.reduceNe, Int.reduceLT, Int.reduceLE, Int.reduceBEq, Int.reduceBNe, Int.reduceToNat, t1', hb5, hz0, e1, hia]
      refine call_use (rAt (key := key) hs hn) ?_
      rintro r h ⟨hr, hs⟩
      subst hr
      obtain ⟨rv, hs⟩ := sat_rfq.1 hs
      obtain ⟨b, cap, hrv, hb, hcap⟩ := hs.drop.owr.row (rrow_get hx)
      rw [hll2] at hrv hcap
      have hia2 := ia2_go (b := b) (off := 0) (len := its.length) (c := cap) hlt
      rw [Nat.zero_add, ← hrv] at hia2
      have hgt := rrow_get hx
      have hb5 := (hs.drop.drop.right).at
      simp (disch := omega) only [go_sem, reduceCtorEq, ↓reduceIte, Nat.reduceEqDiff, Nat.reduceAdd, Nat.reduceSub, Nat.reduceMul, Nat.reduceLT, Nat.reduceLeDiff, Int.reduceEq, Int.reduceNe, Int.reduceLT, Int.reduceLE, Int.reduceBEq, Int.reduceBNe, Int.reduceToNat, hz0, hs.at, hia2, hb, hgt, hb5]
      refine new_opq hs fun bn h hs => ?_
      simp (disch := omega) only [go_sem, reduceCtorEq, ↓reduceIte, Nat.reduceEqDiff, Nat.reduceAdd, Nat.reduceSub, Nat.reduceMul, Nat.reduceLT, Nat.reduceLeDiff, Int.reduceEq, Int.reduceNe, Int.reduceLT, Int.reduceLE, Int.reduceBEq, Int.reduceBNe, Int.reduceToNat, hs.at]
      have hyE := (m_els hxm hs.drop.drop.drop).1
      refine app_satO (hs.ow (by simp)) hyE (atoms_mkE _) (by simp; omega) fun v' h hs hc' ha' => ?_
      have hb5 := (hs.drop.drop.drop.right).at
      simp (disch := omega) only [go_sem, reduceCtorEq, ↓reduceIte, Nat.reduceEqDiff, Nat.reduceAdd, Nat.reduceSub, Nat.reduceMul, Nat.reduceLT, Nat.reduceLeDiff, Int.reduceEq, Int.reduceNe, Int.reduceLT, Int.reduceLE, Int.reduceBEq, Int.reduceBNe, Int.reduceToNat, hs.p1.at, hb5]
      refine new_opq hs fun b2 h hs => ?_
      simp (disch := omega) only [go_sem, reduceCtorEq, ↓reduceIte, Nat.reduceEqDiff, Nat.reduceAdd, Nat.reduceSub, Nat.reduceMul, Nat.reduceLT, Nat.reduceLeDiff, Int.reduceEq, Int.reduceNe, Int.reduceLT, Int.reduceLE, Int.reduceBEq, Int.reduceBNe, Int.reduceToNat, hs.at]
      refine app_satO (es := x.ms.map mkE) (hs.p3.p3.p2.p3.imp fun h g => by simpa using g) (src_one hs.at) (atoms_mkE [(mr, true)]) (by simp; omega) fun v2 h hs hc2 ha2 => ?_
      have hb3 := ((hs.p2.p2.p2.p3).imp (B := Ow 2 (.arr b 2 0 its.length cap) (its.map rrow)) fun _ g => hrv ▸ g).arr.1.at
      simp (disch := omega) only [go_sem, reduceCtorEq, ↓reduceIte, Nat.reduceEqDiff, Nat.reduceAdd, Nat.reduceSub, Nat.reduceMul, Nat.reduceLT, Nat.reduceLeDiff, Int.reduceEq, Int.reduceNe, Int.reduceLT, Int.reduceLE, Int.reduceBEq, Int.reduceBNe, Int.reduceToNat, hs.p2.at, hia2, hb3, hgt, hc2, ha2]
      have g := ((hs.p1.drop.p1.p1.p2).imp (B := Ow 2 (.arr b 2 0 its.length cap) (its.map rrow)) fun _ g => hrv ▸ g).arr.1.set (o' := .row 2 ((its.map rrow).set (posI its key) [.str x.key, v2]) cap)
      rw [hput v2]
      refine sat_rfp.2 ⟨_, rfl, sat_rfq.2 ⟨rv, ?_⟩⟩
      have hnl : ((its.map rrow).set (posI its key) [.str x.key, v2]).length = its.length := by simp
      have g2 := g.ow (by rw [hnl]; exact hcap)
      rw [hnl, ← hrv, hset] at g2
      rw [hset]
      exact (g2.p1.p1.p2).tl fun h g => g.tl fun h g => (hmx (by simpa [mkE] using g)).tls fun h g => g.drop
  · have hLk : ∀ z ∈ L, z.1 ≠ key := fun z hz => by
      rw [← hL] at hz
      obtain ⟨w, hw, rfl⟩ := List.mem_map.1 hz
      exact hnk w hw
    have hg : getL L key = [] := getL_none hLk
    have hlm : lastM (getL L key) = (0, true) := by rw [hg]; rfl
    have hE := putE_in (m := m) c1 (by omega) (by omega) hlm
    obtain ⟨mr, md⟩ := m
    have t1 : ¬ mr ≤ 0 := by simp at c3 ⊢; omega
    have e0 : ((0 : Nat) : Int) = 0 := rfl
    rw [hg]
    simp (disch := omega) only [go_sem, reduceCtorEq, ↓reduceIte, Nat.reduceEqDiff, Nat.reduceAdd, Nat.reduceSub, Nat.reduceMul, Nat.reduceLT, Nat.reduceLeDiff, Int.reduceEq, Int.reduceNe, Int.reduceLT, Int.reduceLE, Int.reduceBEq, Int.reduceBNe, Int.reduceToNat, e0, hb5]
    cases md
    · have e : putE L key (mr, false) = 0 := by rw [hE, if_neg t1, if_neg (by simp)]
      have hput : ∀ v, putL L key (mr, false) = (insIt ⟨0, key, v, [(mr, false)]⟩ its).map Ixt.kv := by
        intro v
        rw [putL, if_pos e, ← layL_new (x := ⟨0, key, v, [(mr, false)]⟩) hS hnk, hL, hg]; rfl
      have hins : ∀ v, insIt ⟨0, key, v, [(mr, false)]⟩ its = its.take (posI its key) ++ ⟨0, key, v, [(mr, false)]⟩ :: its.drop (posI its key) := by
        intro v
        have h1 : its.takeWhile (fun y => ltK y.key key) = its.take (posI its key) := by
          have := List.prefix_iff_eq_take.1 (List.takeWhile_prefix (l := its) fun y => ltK y.key key)
          exact this
        have h2 : its.dropWhile (fun y => ltK y.key key) = its.drop (posI its key) := by
          have h3 : its.takeWhile (fun y => ltK y.key key) ++ its.dropWhile (fun y => ltK y.key key) = its := List.takeWhile_append_dropWhile
          have h4 : (its.takeWhile (fun y => ltK y.key key) ++ its.dropWhile (fun y => ltK y.key key)).drop (its.takeWhile fun y => ltK y.key key).length = its.dropWhile (fun y => ltK y.key key) := List.drop_left
          rw [h3] at h4
          exact h4.symm
        unfold insIt
        rw [h1, h2]
      rw [e]
      simp (disch := omega) only [go_sem, reduceCtorEq, ↓reduceIte, Nat.reduceEqDiff, Nat.reduceAdd, Nat.reduceSub, Nat.reduceMul, Nat.reduceLT, Nat.reduceLeDiff, Int.reduceEq, Int.reduceNe, Int.reduceLT, Int.reduceLE, Int.reduceBEq, Int.reduceBNe, Int.reduceToNat, e0, hb5]
      refine call_use (rAt (key := key) hs hn) ?_
      rintro r h ⟨hr, hs⟩
      subst hr
      obtain ⟨rv, hs⟩ := sat_rfq.1 hs
      have hpl := posI_le (its := its) (key := key)
      have hll2 : (its.map rrow).length = its.length := by simp
      have hrl := hs.drop.owr.len
      rw [hll2] at hrl
      obtain ⟨x1, hx1, hE1, hc1⟩ := ow_slc (k := .i64) (k' := .i64) (lo := 0) (hi := posI its key) (Nat.zero_le _) (by rw [hll2]; exact hpl) (hs.p1)
      obtain ⟨x2, hx2, hE2, hc2⟩ := ow_slc (k := .i64) (k' := .i64) (lo := posI its key) (hi := its.length) hpl (by rw [hll2]; omega) (hs.p1)
      rw [show ((0 : Nat) : Int) = 0 from rfl, ← slc_lo] at hx1
      rw [← slc_hi hrl] at hx2
      have hat := m_atoms hs.drop.drop
      have htk : ((its.map rrow).drop 0).take (posI its key - 0) = (its.take (posI its key)).map rrow := by simp
      have hdk : ((its.map rrow).drop (posI its key)).take (its.length - posI its key) = (its.drop (posI its key)).map rrow := by
        rw [List.take_of_length_le (by simp), List.map_drop]
      simp (disch := omega) only [go_sem, reduceCtorEq, ↓reduceIte, Nat.reduceEqDiff, Nat.reduceAdd, Nat.reduceSub, Nat.reduceMul, Nat.reduceLT, Nat.reduceLeDiff, Int.reduceEq, Int.reduceNe, Int.reduceLT, Int.reduceLE, Int.reduceBEq, Int.reduceBNe, Int.reduceToNat, e0, hs.at, hx1]
      have hy1 := (hE1 _ _ (hs.p1)).1
      rw [htk] at hy1
      refine app_sat (es := []) (hs.add ow_nil) hy1 (atoms_rrow _ fun z hz => hat z (List.mem_of_mem_take hz)) (by simp; omega) fun v1 h hs hc1' ha1 => ?_
      simp (disch := omega) only [go_sem, reduceCtorEq, ↓reduceIte, Nat.reduceEqDiff, Nat.reduceAdd, Nat.reduceSub, Nat.reduceMul, Nat.reduceLT, Nat.reduceLeDiff, Int.reduceEq, Int.reduceNe, Int.reduceLT, Int.reduceLE, Int.reduceBEq, Int.reduceBNe, Int.reduceToNat]
      refine new_opq hs fun bn h hs => ?_
      simp (disch := omega) only [go_sem, reduceCtorEq, ↓reduceIte, Nat.reduceEqDiff, Nat.reduceAdd, Nat.reduceSub, Nat.reduceMul, Nat.reduceLT, Nat.reduceLeDiff, Int.reduceEq, Int.reduceNe, Int.reduceLT, Int.reduceLE, Int.reduceBEq, Int.reduceBNe, Int.reduceToNat, hs.at]
      refine app_sat (hs.drop.p2.p2.p2) (src_one hs.at) (atoms_one rfl) (by simp; omega) fun v2 h hs hc2' ha2 => ?_
      simp (disch := omega) only [go_sem, reduceCtorEq, ↓reduceIte, Nat.reduceEqDiff, Nat.reduceAdd, Nat.reduceSub, Nat.reduceMul, Nat.reduceLT, Nat.reduceLeDiff, Int.reduceEq, Int.reduceNe, Int.reduceLT, Int.reduceLE, Int.reduceBEq, Int.reduceBNe, Int.reduceToNat, hs.p1.at, hx2]
      have hy2 := (hE2 _ _ (hs.p1.p1.p2)).1
      rw [hdk] at hy2
      refine app_sat hs hy2 (atoms_rrow _ fun z hz => hat z (List.mem_of_mem_drop hz)) (by simp; omega) fun v3 h hs hc3 ha3 => ?_
      have hrows : ([] ++ (its.take (posI its key)).map rrow ++ [[AV.str key, .nils]] ++ (its.drop (posI its key)).map rrow) = (insIt ⟨0, key, .nils, [(mr, false)]⟩ its).map rrow := by
        rw [hins]; simp [rrow]
      rw [hrows] at hs
      have g := ((hs.p2.p1.p2).set (o' := .row 1 [[v3]] 1))
      simp (disch := omega) only [go_sem, reduceCtorEq, ↓reduceIte, Nat.reduceEqDiff, Nat.reduceAdd, Nat.reduceSub, Nat.reduceMul, Nat.reduceLT, Nat.reduceLeDiff, Int.reduceEq, Int.reduceNe, Int.reduceLT, Int.reduceLE, Int.reduceBEq, Int.reduceBNe, Int.reduceToNat, hs.p1.at, hc3, ha3]
      have hNl : (insIt ⟨0, key, .nils, [(mr, false)]⟩ its).length = its.length + 1 := insIt_len _ _
      have hgN : ((insIt ⟨0, key, .nils, [(mr, false)]⟩ its).map rrow)[posI its key]? = some [.str key, .nils] := by
        rw [hins, List.map_append, List.map_cons, List.getElem?_append_right (by simp; omega)]
        have : posI its key - ((its.take (posI its key)).map rrow).length = 0 := by simp; omega
        rw [this]; rfl
      have hset : ∀ v, ((insIt ⟨0, key, .nils, [(mr, false)]⟩ its).map rrow).set (posI its key) [.str key, v] = (insIt ⟨0, key, v, [(mr, false)]⟩ its).map rrow := by
        intro v
        have e3 : posI its key - (its.take (posI its key)).length = 0 := by simp; omega
        rw [hins, hins, List.map_append, List.map_cons, List.set_append_right _ _ (by simp; omega), List.length_map, e3]
        simp [rrow]
      obtain ⟨b, cap, hv3, hb, hcap⟩ := (g.p2.p1.p2).owr.row hgN
      rw [List.length_map, hNl] at hv3 hcap
      have hia := ia2_go (b := b) (off := 0) (len := its.length + 1) (c := cap) (i := posI its key) (by omega)
      rw [Nat.zero_add, ← hv3] at hia
      have hb5 := (g.drop.drop.drop.right).at
      simp (disch := omega) only [go_sem, reduceCtorEq, ↓reduceIte, Nat.reduceEqDiff, Nat.reduceAdd, Nat.reduceSub, Nat.reduceMul, Nat.reduceLT, Nat.reduceLeDiff, Int.reduceEq, Int.reduceNe, Int.reduceLT, Int.reduceLE, Int.reduceBEq, Int.reduceBNe, Int.reduceToNat, hia, hb, hgN, hb5]
      have hs := g.p2.drop.p1.p1
      refine new_opq hs fun n h hs => ?_
      simp (disch := omega) only [go_sem, reduceCtorEq, ↓reduceIte, Nat.reduceEqDiff, Nat.reduceAdd, Nat.reduceSub, Nat.reduceMul, Nat.reduceLT, Nat.reduceLeDiff, Int.reduceEq, Int.reduceNe, Int.reduceLT, Int.reduceLE, Int.reduceBEq, Int.reduceBNe, Int.reduceToNat, hs.at]
      refine app_satO (hs.ow (by simp)) (ys := []) rfl (fun e he => by cases he) (by simp) fun v4 h hs hc4 ha4 => ?_
      have hb5 := (hs.drop.drop.drop.right).at
      simp (disch := omega) only [go_sem, reduceCtorEq, ↓reduceIte, Nat.reduceEqDiff, Nat.reduceAdd, Nat.reduceSub, Nat.reduceMul, Nat.reduceLT, Nat.reduceLeDiff, Int.reduceEq, Int.reduceNe, Int.reduceLT, Int.reduceLE, Int.reduceBEq, Int.reduceBNe, Int.reduceToNat, hs.p1.at, hb5]
      refine new_opq hs fun n2 h hs => ?_
      simp (disch := omega) only [go_sem, reduceCtorEq, ↓reduceIte, Nat.reduceEqDiff, Nat.reduceAdd, Nat.reduceSub, Nat.reduceMul, Nat.reduceLT, Nat.reduceLeDiff, Int.reduceEq, Int.reduceNe, Int.reduceLT, Int.reduceLE, Int.reduceBEq, Int.reduceBNe, Int.reduceToNat, hs.at]
      refine app_satO (hs.p3.p3.p2.p3) (src_one hs.at) (atoms_mkE [(mr, false)]) (by simp) fun v5 h hs hc5 ha5 => ?_
      have hvv := hs.p1.drop.p1.p1.p2.imp (B := Ow 2 (.arr b 2 0 (its.length + 1) cap) ((insIt ⟨0, key, .nils, [(mr, false)]⟩ its).map rrow)) fun _ g => hv3 ▸ g
      have hb3 := hvv.arr.1.at
      simp (disch := omega) only [go_sem, reduceCtorEq, ↓reduceIte, Nat.reduceEqDiff, Nat.reduceAdd, Nat.reduceSub, Nat.reduceMul, Nat.reduceLT, Nat.reduceLeDiff, Int.reduceEq, Int.reduceNe, Int.reduceLT, Int.reduceLE, Int.reduceBEq, Int.reduceBNe, Int.reduceToNat, hs.p2.at, hia, hb3, hgN, hc5, ha5]
      have g2 := hvv.arr.1.set (o' := .row 2 (((insIt ⟨0, key, .nils, [(mr, false)]⟩ its).map rrow).set (posI its key) [.str key, v5]) cap)
      rw [hput v5]
      refine sat_rfp.2 ⟨_, rfl, sat_rfq.2 ⟨v3, ?_⟩⟩
      have hnl : (((insIt ⟨0, key, .nils, [(mr, false)]⟩ its).map rrow).set (posI its key) [.str key, v5]).length = its.length + 1 := by rw [List.length_set, List.length_map, hNl]
      have g3 := g2.ow (by rw [hnl]; exact hcap)
      rw [hnl, ← hv3, hset] at g3
      rw [hset]
      refine (g3.p1.p1.p2).tl fun h g => g.tl fun h g => ?_
      have g4 := sat.tls (l1 := (Ixt.mk 0 key v5 [(mr, false)] :: its).map Ixt.m) (l' := F) (by simpa [Ixt.m, mkE] using g) fun h g => g.drop
      exact sat.permMap (insIt_perm _ _).symm g4
    · have e : putE L key (mr, true) = 2 := by rw [hE, if_neg t1, if_pos ⟨rfl, rfl⟩]
      simp (disch := omega) only [go_sem, reduceCtorEq, ↓reduceIte, Nat.reduceEqDiff, Nat.reduceAdd, Nat.reduceSub, Nat.reduceMul, Nat.reduceLT, Nat.reduceLeDiff, Int.reduceEq, Int.reduceNe, Int.reduceLT, Int.reduceLE, Int.reduceBEq, Int.reduceBNe, Int.reduceToNat, e0, hb5]
      rw [e, fin1 (by rw [e]; decide)]
      exact ⟨rfl, same _ hs.d1⟩
end
end Go.Proofs.Ytnojalihnajkbaa
/- within, the chapter's example; the law IndexMarks, walked. -/
set_option linter.unusedSimpArgs false
set_option linter.unusedVariables false
set_option maxRecDepth 10000
namespace Go.Proofs.Ytnojalihnajkbaa
open Go.Hz

/-- A number from 0 to n - 1. -/
theorem within {h : Hp} {F : List Asr} (hs : sat h F) {a : Int} {n : Nat} (h1 : -9223372036854775808 ≤ a) (h2 : a ≤ 9223372036854775807) (hn : 0 < n) (hn2 : n ≤ 4611686018427387904) :
    Triple Try.prog 11 [.int .i64 a, .int .i64 n] h (fun r h => ∃ k : Nat, r = .int .i64 k ∧ (k : Int) = a % n ∧ k < n ∧ sat h F) := by
  have m1 := Int.tmod_lt_of_pos a (b := n) (by omega)
  have m2 : -(n : Int) < a.tmod n := by
    have := Int.tmod_lt_of_pos (-a) (b := n) (by omega)
    rw [Int.neg_tmod] at this
    omega
  have hn0 : ¬ (n : Int) = 0 := by omega
  have e := Int.mul_tdiv_add_tmod a n
  have em : a % n = (a.tmod n) % n := by
    conv => lhs; rw [← e]
    rw [Int.mul_add_emod_self_left]
  refine t11 (Nat.le_of_ble_eq_true rfl) ?_
  simp (disch := omega) only [F11, hn0, go_sem, reduceCtorEq, ↓reduceIte, Nat.reduceEqDiff, Nat.reduceAdd, Nat.reduceSub, Nat.reduceMul, Nat.reduceLT, Nat.reduceLeDiff, Int.reduceEq, Int.reduceNe, Int.reduceLT, Int.reduceLE, Int.reduceBEq, Int.reduceBNe, Int.reduceToNat]
  refine cnd_dec (fun hc => ?_) (fun hc => ?_)
  · simp (disch := omega) only [go_sem, reduceCtorEq, ↓reduceIte, Nat.reduceEqDiff, Nat.reduceAdd, Nat.reduceSub, Nat.reduceMul, Nat.reduceLT, Nat.reduceLeDiff, Int.reduceEq, Int.reduceNe, Int.reduceLT, Int.reduceLE, Int.reduceBEq, Int.reduceBNe, Int.reduceToNat]
    refine ⟨(a.tmod n + n).toNat, by congr 1; omega, ?_, by omega, hs⟩
    rw [em, ← Int.add_emod_right, Int.emod_eq_of_lt (by omega) (by omega)]
    omega
  · simp (disch := omega) only [go_sem, reduceCtorEq, ↓reduceIte, Nat.reduceEqDiff, Nat.reduceAdd, Nat.reduceSub, Nat.reduceMul, Nat.reduceLT, Nat.reduceLeDiff, Int.reduceEq, Int.reduceNe, Int.reduceLT, Int.reduceLE, Int.reduceBEq, Int.reduceBNe, Int.reduceToNat]
    refine ⟨(a.tmod n).toNat, by congr 1; omega, ?_, by omega, hs⟩
    rw [em, Int.emod_eq_of_lt (by omega) (by omega)]
    omega

theorem known {h : Hp} {F : List Asr} (hs : sat h F) : Triple Try.prog 8 [] h (fun r h => r = .bool true ∧ sat h F) := by
  refine t8 (Nat.le_of_ble_eq_true rfl) ?_
  simp (disch := omega) only [F8, go_sem, reduceCtorEq, ↓reduceIte, Nat.reduceEqDiff, Nat.reduceAdd, Nat.reduceSub, Nat.reduceMul, Nat.reduceLT, Nat.reduceLeDiff, Int.reduceEq, Int.reduceNe, Int.reduceLT, Int.reduceLE, Int.reduceBEq, Int.reduceBNe, Int.reduceToNat]
  refine call_use (ixNew hs) ?_
  rintro r h ⟨b, rfl, hs⟩
  have hs : sat h (IxP b [] :: F) := sat_ixp.2 ⟨[], rfl, hs⟩
  simp (disch := omega) only [go_sem, reduceCtorEq, ↓reduceIte, Nat.reduceEqDiff, Nat.reduceAdd, Nat.reduceSub, Nat.reduceMul, Nat.reduceLT, Nat.reduceLeDiff, Int.reduceEq, Int.reduceNe, Int.reduceLT, Int.reduceLE, Int.reduceBEq, Int.reduceBNe, Int.reduceToNat]
  refine call_use (ixPut (key := [97]) (m := (1, false)) hs WfL.nil (by simp) (by simp) ⟨by simp, by simp⟩) ?_
  rintro r h ⟨rfl, hs⟩
  have w1 := putL_wf (k := [97]) (m := (1, false)) WfL.nil
  have e1 : putL [] [97] (1, false) = [([97], [(1, false)])] := by decide
  rw [e1] at hs w1
  simp (disch := omega) only [go_sem, reduceCtorEq, ↓reduceIte, Nat.reduceEqDiff, Nat.reduceAdd, Nat.reduceSub, Nat.reduceMul, Nat.reduceLT, Nat.reduceLeDiff, Int.reduceEq, Int.reduceNe, Int.reduceLT, Int.reduceLE, Int.reduceBEq, Int.reduceBNe, Int.reduceToNat]
  refine call_use (ixPut (key := [97]) (m := (3, true)) hs w1 (by simp) (by simp) ⟨by simp, by simp⟩) ?_
  rintro r h ⟨rfl, hs⟩
  have w2 := putL_wf (k := [97]) (m := (3, true)) w1
  have e2 : putL [([97], [(1, false)])] [97] (3, true) = [([97], [(1, false), (3, true)])] := by decide
  rw [e2] at hs w2
  simp (disch := omega) only [go_sem, reduceCtorEq, ↓reduceIte, Nat.reduceEqDiff, Nat.reduceAdd, Nat.reduceSub, Nat.reduceMul, Nat.reduceLT, Nat.reduceLeDiff, Int.reduceEq, Int.reduceNe, Int.reduceLT, Int.reduceLE, Int.reduceBEq, Int.reduceBNe, Int.reduceToNat]
  obtain ⟨its, hL, hq⟩ := sat_ixp.1 hs
  refine call_use (ixLen hq) ?_
  rintro r h ⟨rfl, hs⟩
  have hl : its.length = 1 := by have := congrArg List.length hL; simpa using this
  have hs := sat_ixp.2 ⟨its, hL, hs⟩
  rw [hl]
  simp (disch := omega) only [go_sem, reduceCtorEq, ↓reduceIte, Nat.reduceEqDiff, Nat.reduceAdd, Nat.reduceSub, Nat.reduceMul, Nat.reduceLT, Nat.reduceLeDiff, Int.reduceEq, Int.reduceNe, Int.reduceLT, Int.reduceLE, Int.reduceBEq, Int.reduceBNe, Int.reduceToNat]
  refine call_use (ixTrim (rev := 3) hs w2 (by simp) (by simp)) ?_
  intro r h hs
  have e3 : trimL [([97], [(1, false), (3, true)])] 3 = [] := by decide
  rw [e3] at hs
  have o1 : ((1 : Nat) : Int) = 1 := rfl
  simp (disch := omega) only [go_sem, reduceCtorEq, ↓reduceIte, Nat.reduceEqDiff, Nat.reduceAdd, Nat.reduceSub, Nat.reduceMul, Nat.reduceLT, Nat.reduceLeDiff, Int.reduceEq, Int.reduceNe, Int.reduceLT, Int.reduceLE, Int.reduceBEq, Int.reduceBNe, Int.reduceToNat, o1]
  obtain ⟨its, hL, hq⟩ := sat_ixp.1 hs
  have hl : its = [] := by simpa using hL
  subst hl
  refine call_use (ixLen hq) ?_
  rintro r h ⟨rfl, hs⟩
  have o0 : ((0 : Nat) : Int) = 0 := rfl
  simp (disch := omega) only [go_sem, reduceCtorEq, ↓reduceIte, Nat.reduceEqDiff, Nat.reduceAdd, Nat.reduceSub, Nat.reduceMul, Nat.reduceLT, Nat.reduceLeDiff, Int.reduceEq, Int.reduceNe, Int.reduceLT, Int.reduceLE, Int.reduceBEq, Int.reduceBNe, Int.reduceToNat, o0]
  exact hs.drop

theorem strs_of {a : AV} (h : (Ty.sl .str).one a) : ∃ l : List Key, a = strsV l ∧ l.length ≤ 9223372036854775807 := by
  obtain ⟨es, h0, hl, hes⟩ := h
  cases h0
  have : ∃ l : List Key, es = l.map fun b => [AV.str b] := by
    clear hl
    induction es with
    | nil => exact ⟨[], rfl⟩
    | cons e es ih =>
      obtain ⟨l, rfl⟩ := ih fun x hx => hes x (List.mem_cons_of_mem _ hx)
      obtain ⟨b, rfl, _⟩ := hes e (List.mem_cons_self ..)
      exact ⟨b :: l, rfl⟩
  obtain ⟨l, rfl⟩ := this
  exact ⟨l, rfl, by have : (l.map fun b => [AV.str b]).length ≤ 9223372036854775807 := Nat.le_trans hl (by decide); simpa using this⟩
theorem strs_len {l : List Key} : lenL (strsV l) = some (.int .i64 l.length) := by simp [strsV, lenL]
theorem strs_at {l : List Key} {i : Nat} (hi : i < l.length) : iaA 1 (strsV l) (.int .i64 (i : Int)) = some (.ro [.str l[i]]) := ia_lst (f := fun b => [AV.str b]) hi fun _ => rfl
/-- Rising keys. -/
def SrtK (l : List Key) : Prop := l.Pairwise fun x y => ltK x y = true
theorem keysL_srt {L : IL} {lo hi : Key} (hs : SrtL L) : SrtK (keysL L lo hi) := by
  refine List.Pairwise.filter _ ?_
  rw [List.pairwise_map]; exact hs
theorem keysL_all (L : IL) : keysL L [] [] = L.map fun x => x.1 := by
  unfold keysL
  refine List.filter_eq_self.2 fun x _ => ?_
  have : ltK x [] = false := by cases x <;> rfl
  simp [inR, this]
theorem keysL_sub (L : IL) (lo hi : Key) : keysL L lo hi = (keysL L [] []).filter (inR lo hi) := by
  rw [keysL_all]; rfl
theorem srtK_at {l : List Key} (hs : SrtK l) {i j : Nat} (hj : j < l.length) (hij : i < j) : ltK (l[i]'(by omega)) l[j] = true := List.pairwise_iff_getElem.1 hs i j (by omega) hj hij
theorem leq_no {a b : Key} (h : ltK a b = true) : (Op.bytesLess b a || b == a) = false := by
  have h1 := ltK_asymm h
  have h2 : (b == a) = false := by
    rw [beq_eq_false_iff_ne]; intro e; subst e; rw [ltK_irrefl] at h; cases h
  simp only [ltK] at h1
  rw [h1, h2]; rfl

def tyC : Ty := .fcons (.int .i64) (.fcons (.int .i64) (.fcons .str (.fcons .str (.fcons .bool .fnil))))
/-- A call. -/
structure Cl where
  kind : Int
  rev : Int
  key : Key
  hi : Key
  del : Bool
def Cl.row (c : Cl) : List AV := [.int .i64 c.kind, .int .i64 c.rev, .str c.key, .str c.hi, .bool c.del]
theorem cls_of {a : AV} (h : (Ty.sl (.st tyC)).one a) : ∃ l : List Cl, a = .lst (l.map Cl.row) ∧ l.length ≤ 9223372036854775807 ∧ ∀ c ∈ l, inI c.rev := by
  obtain ⟨es, h0, hl, hes⟩ := h
  cases h0
  have : ∃ l : List Cl, es = l.map Cl.row ∧ ∀ c ∈ l, inI c.rev := by
    clear hl
    induction es with
    | nil => exact ⟨[], rfl, by simp⟩
    | cons x es ih =>
      obtain ⟨l, rfl, hl⟩ := ih fun y hy => hes y (List.mem_cons_of_mem _ hy)
      obtain ⟨x1, _, rfl, ⟨a, rfl, ha⟩, x2, _, rfl, ⟨b, rfl, hb2⟩, x3, _, rfl, ⟨s1, rfl, hs1⟩, x4, _, rfl, ⟨s2, rfl, hs2⟩, x5, _, rfl, ⟨d, rfl⟩, rfl⟩ := hes x (List.mem_cons_self ..)
      refine ⟨⟨a, b, s1, s2, d⟩ :: l, rfl, fun c hc => ?_⟩
      rcases List.mem_cons.1 hc with rfl | hc
      · exact int_in hb2
      · exact hl c hc
  obtain ⟨l, rfl, h2⟩ := this
  exact ⟨l, rfl, by have : (l.map Cl.row).length ≤ 9223372036854775807 := Nat.le_trans hl (by decide); simpa using this, h2⟩


section
variable {h : Hp} {F : List Asr}
theorem kv_max {its : List Ixt} {L : IL} (hL : its.map Ixt.kv = L) (hl : ∀ x ∈ L, x.2.length ≤ 1000000000) : ∀ x ∈ its, x.ms.length ≤ 1000000000 := fun x hx => hl (x.kv) (by rw [← hL]; exact List.mem_map_of_mem hx)
theorem rfPut {y : Nat} {L : IL} {key : Key} {m : Mk} (hs : sat h (RfP y L :: F)) (hw : WfL L) (hl : ∀ x ∈ L, x.2.length ≤ 1000000000) (hn : L.length ≤ 1000000000) (hm : inI m.1) :
    Triple Try.prog 16 [.ptr y 1 0 0, .str key, .agg [.int .i64 m.1, .bool m.2]] h (fun r h => r = .int .i64 (putE L key m) ∧ sat h (RfP y (putL L key m) :: F)) := by
  obtain ⟨its, hL, hq⟩ := sat_rfp.1 hs
  have := rPut (key := key) (m := m) hq (by rw [hL]; exact hw) (by rw [← hL, List.length_map] at hn; exact hn) (kv_max hL hl) hm
  rw [hL] at this
  exact this
theorem rfTrim {y : Nat} {L : IL} {rev : Int} (hs : sat h (RfP y L :: F)) (hw : WfL L) (hl : ∀ x ∈ L, x.2.length ≤ 1000000000) (hn : L.length ≤ 1000000000) :
    Triple Try.prog 17 [.ptr y 1 0 0, .int .i64 rev] h (fun r h => sat h (RfP y (trimL L rev) :: F)) := by
  obtain ⟨its, hL, hq⟩ := sat_rfp.1 hs
  have := rTrim (rev := rev) hq (by rw [← hL, List.length_map] at hn; exact hn) (fun x hx => ⟨kv_max hL hl x hx, (hw.2 (x.kv) (by rw [← hL]; exact List.mem_map_of_mem hx)).2⟩)
  rw [hL] at this
  exact this
theorem rfMarks {y : Nat} {L : IL} {key : Key} (hs : sat h (RfP y L :: F)) (hw : WfL L) (hl : ∀ x ∈ L, x.2.length ≤ 1000000000) (hn : L.length ≤ 1000000000) :
    Triple Try.prog 18 [.ptr y 1 0 0, .str key] h (fun r h => r = .lst ((getL L key).map mkE) ∧ sat h (RfP y L :: F)) := by
  obtain ⟨its, hL, hq⟩ := sat_rfp.1 hs
  refine (rMarks (key := key) hq (SrtI.kv.2 (hL ▸ hw.1)) (by rw [← hL, List.length_map] at hn; exact hn) (kv_max hL hl)).mono ?_
  rintro r h ⟨hr, hs⟩
  rw [hL] at hr
  exact ⟨hr, sat_rfp.2 ⟨its, hL, hs⟩⟩
theorem rfKeys {y : Nat} {L : IL} {lo hi : Key} (hs : sat h (RfP y L :: F)) (hn : L.length ≤ 1000000000) :
    Triple Try.prog 20 [.ptr y 1 0 0, .str lo, .str hi] h (fun r h => r = strsV (keysL L lo hi) ∧ sat h (RfP y L :: F)) := by
  obtain ⟨its, hL, hq⟩ := sat_rfp.1 hs
  refine (rKeys (lo := lo) (hi := hi) hq (by rw [← hL, List.length_map] at hn; exact hn)).mono ?_
  rintro r h ⟨hr, hs⟩
  rw [hL] at hr
  exact ⟨hr, sat_rfp.2 ⟨its, hL, hs⟩⟩
theorem rfLen {y : Nat} {L : IL} (hs : sat h (RfP y L :: F)) : ∃ rv, h y = some (.row 1 [[rv]] 1) ∧ lenL rv = some (.int .i64 L.length) := by
  obtain ⟨its, hL, hq⟩ := sat_rfp.1 hs
  obtain ⟨rv, g⟩ := sat_rfq.1 hq
  refine ⟨rv, g.at, ?_⟩
  rw [g.drop.owr.len, List.length_map, ← hL, List.length_map]
theorem rfp_open {y : Nat} {L : IL} (hs : sat h (RfP y L :: F)) : ∃ (rv : AV) (R : Asr), lenL rv = some (.int .i64 L.length) ∧ sat h (pto y (.row 1 [[rv]] 1) :: R :: F) ∧ ∀ h' F', sat h' (pto y (.row 1 [[rv]] 1) :: R :: F') → sat h' (RfP y L :: F') := by
  obtain ⟨its, hL, hq⟩ := sat_rfp.1 hs
  obtain ⟨rv, g⟩ := sat_rfq.1 hq
  refine ⟨rv, fun h => sat h (Ow 2 rv (its.map rrow) :: its.map Ixt.m), ?_, g.tl fun h g => sat_sl.2 g, fun h' F' g => sat_rfp.2 ⟨its, hL, sat_rfq.2 ⟨rv, g.tl fun h g => sat_sl.1 g⟩⟩⟩
  rw [g.drop.owr.len, List.length_map, ← hL, List.length_map]
theorem ixLen' {b : Nat} {L : IL} (hs : sat h (IxP b L :: F)) : Triple Try.prog 15 [.ptr b 2 0 0] h (fun r h => r = .int .i64 L.length ∧ sat h (IxP b L :: F)) := by
  obtain ⟨its, hL, hq⟩ := sat_ixp.1 hs
  refine (ixLen hq).mono ?_
  rintro r h ⟨hr, hs⟩
  refine ⟨?_, sat_ixp.2 ⟨its, hL, hs⟩⟩
  rw [hr, ← hL, List.length_map]
end
end Go.Proofs.Ytnojalihnajkbaa
/- The law IndexPlays, walked. -/
set_option linter.unusedSimpArgs false
set_option linter.unusedVariables false
set_option maxRecDepth 10000
namespace Go.Proofs.Ytnojalihnajkbaa
open Go.Hz

theorem indexPlays {cs : List Cl} (h1 : cs.length ≤ 9223372036854775807) (hc : ∀ c ∈ cs, inI c.rev) :
    Triple Try.prog 5 [.lst (cs.map Cl.row)] Hp.emp (fun r _ => r = .bool true) := by
  have hs : sat Hp.emp [] := trivial
  refine t5 (Nat.le_of_ble_eq_true rfl) ?_
  simp (disch := omega) only [F5, go_sem, reduceCtorEq, ↓reduceIte, Nat.reduceEqDiff, Nat.reduceAdd, Nat.reduceSub, Nat.reduceMul, Nat.reduceLT, Nat.reduceLeDiff, Int.reduceEq, Int.reduceNe, Int.reduceLT, Int.reduceLE, Int.reduceBEq, Int.reduceBNe, Int.reduceToNat]
  refine call_use (known hs) ?_
  rintro r h ⟨hr, hs⟩
  subst hr
  simp (disch := omega) only [go_sem, reduceCtorEq, ↓reduceIte, Nat.reduceEqDiff, Nat.reduceAdd, Nat.reduceSub, Nat.reduceMul, Nat.reduceLT, Nat.reduceLeDiff, Int.reduceEq, Int.reduceNe, Int.reduceLT, Int.reduceLE, Int.reduceBEq, Int.reduceBNe, Int.reduceToNat]
  have len1 : lenL (.lst (cs.map Cl.row)) = some (.int .i64 cs.length) := by simp [lenL]
  refine call_use (ixNew hs) ?_
  rintro r h ⟨b, hr', hs⟩
  subst hr'
  have hs : sat h [IxP b []] := sat_ixp.2 ⟨[], rfl, hs⟩
  simp (disch := omega) only [go_sem, reduceCtorEq, ↓reduceIte, Nat.reduceEqDiff, Nat.reduceAdd, Nat.reduceSub, Nat.reduceMul, Nat.reduceLT, Nat.reduceLeDiff, Int.reduceEq, Int.reduceNe, Int.reduceLT, Int.reduceLE, Int.reduceBEq, Int.reduceBNe, Int.reduceToNat]
  refine new_opq hs fun y h hs => ?_
  simp (disch := omega) only [go_sem, reduceCtorEq, ↓reduceIte, Nat.reduceEqDiff, Nat.reduceAdd, Nat.reduceSub, Nat.reduceMul, Nat.reduceLT, Nat.reduceLeDiff, Int.reduceEq, Int.reduceNe, Int.reduceLT, Int.reduceLE, Int.reduceBEq, Int.reduceBNe, Int.reduceToNat, hs.at]
  have hs : sat h [IxP b [], RfP y []] := hs.p1.tl fun h g => sat_rfp.2 ⟨[], rfl, sat_rfq.2 ⟨.nils, g.tl fun h g => g.add ow_nil⟩⟩
  refine blk_join (Q := fun e h => ∃ (L : IL), WfL L ∧ L.length ≤ 200 ∧ sat h [IxP b L, RfP y L] ∧ (e 3 = .ptr b 2 0 0 ∧ e 4 = .ptr y 1 0 0)) ?_ ?_
  rotate_left
  · rintro e h ⟨L, hw, hLl, hs, he⟩
    obtain ⟨rv, R, hrl, g, _⟩ := rfp_open hs.p1
    have hs := g.p1.p1.p2
    simp (disch := omega) only [go_sem, reduceCtorEq, ↓reduceIte, Nat.reduceEqDiff, Nat.reduceAdd, Nat.reduceSub, Nat.reduceMul, Nat.reduceLT, Nat.reduceLeDiff, Int.reduceEq, Int.reduceNe, Int.reduceLT, Int.reduceLE, Int.reduceBEq, Int.reduceBNe, Int.reduceToNat, he, hs.p1.at, hrl]
    refine call_use' (ixKeys (lo := []) (hi := []) hs hw (by omega)) ?_
    rintro r h ⟨hr', hs⟩
    subst hr'
    have lenK := strs_len (l := keysL L [] [])
    have hkn : (keysL L [] []).length = L.length := by rw [keysL_all]; simp
    rw [hkn] at lenK
    simp (disch := omega) only [go_sem, reduceCtorEq, ↓reduceIte, Nat.reduceEqDiff, Nat.reduceAdd, Nat.reduceSub, Nat.reduceMul, Nat.reduceLT, Nat.reduceLeDiff, Int.reduceEq, Int.reduceNe, Int.reduceLT, Int.reduceLE, Int.reduceBEq, Int.reduceBNe, Int.reduceToNat, he, hs.p1.at, hrl, lenK]
  refine run_up (N := cs.length) (fun i e h => ∃ (L : IL), i ≤ 200 ∧ WfL L ∧ L.length ≤ i ∧ MaxM L i ∧ sat h [IxP b L, RfP y L] ∧
    (e 0 = .lst (cs.map Cl.row) ∧ e 3 = .ptr b 2 0 0 ∧ e 4 = .ptr y 1 0 0 ∧ e 5 = .int .i64 i))
    ⟨[], by omega, WfL.nil, by simp, (fun x hx => by cases hx), hs, rfl, rfl, rfl, rfl⟩ ?_
  rintro i e h hi2 ⟨L, hi100, hw, hLl, hmm, hs, he⟩
  have hmx := hmm.le (k := 1000000000) (by omega)
  have hm1 : ∀ n, i ≤ n → MaxM L n := fun n hn x hx => Nat.le_trans (hmm x hx) hn
  simp (disch := omega) only [go_sem, reduceCtorEq, ↓reduceIte, Nat.reduceEqDiff, Nat.reduceAdd, Nat.reduceSub, Nat.reduceMul, Nat.reduceLT, Nat.reduceLeDiff, Int.reduceEq, Int.reduceNe, Int.reduceLT, Int.reduceLE, Int.reduceBEq, Int.reduceBNe, Int.reduceToNat, he, len1]
  by_cases c1 : (i : Int) < cs.length
  · by_cases c2 : (i : Int) < 200
    · have hlt : i < cs.length := by omega
      have hia : iaA 5 (.lst (cs.map Cl.row)) (.int .i64 (i : Int)) = some (.ro cs[i].row) := ia_lst hlt fun _ => rfl
      have hcr := hc _ (List.getElem_mem hlt)
      generalize cs[i] = c at hia hcr
      obtain ⟨ck, cr, key, chi, del⟩ := c
      simp only [Cl.row] at hia hcr
      simp (disch := omega) only [go_sem, reduceCtorEq, ↓reduceIte, Nat.reduceEqDiff, Nat.reduceAdd, Nat.reduceSub, Nat.reduceMul, Nat.reduceLT, Nat.reduceLeDiff, Int.reduceEq, Int.reduceNe, Int.reduceLT, Int.reduceLE, Int.reduceBEq, Int.reduceBNe, Int.reduceToNat, he, len1, c1, c2, hia]
      refine new_opq hs fun n6 h hs => ?_
      simp (disch := omega) only [go_sem, reduceCtorEq, ↓reduceIte, Nat.reduceEqDiff, Nat.reduceAdd, Nat.reduceSub, Nat.reduceMul, Nat.reduceLT, Nat.reduceLeDiff, Int.reduceEq, Int.reduceNe, Int.reduceLT, Int.reduceLE, Int.reduceBEq, Int.reduceBNe, Int.reduceToNat, hs.at, he]
      have hs := hs.set (o' := .row 5 [[.int .i64 ck, .int .i64 cr, .str key, .str chi, .bool del]] 1)
      refine cnd_dec (fun hbig => ?_) (fun hsm => ?_)
      · simp (disch := omega) only [go_sem, reduceCtorEq, ↓reduceIte, Nat.reduceEqDiff, Nat.reduceAdd, Nat.reduceSub, Nat.reduceMul, Nat.reduceLT, Nat.reduceLeDiff, Int.reduceEq, Int.reduceNe, Int.reduceLT, Int.reduceLE, Int.reduceBEq, Int.reduceBNe, Int.reduceToNat, he]
        exact ⟨hlt, L, by omega, hw, by omega, hm1 _ (by omega), hs.drop, rfl⟩
      simp (disch := omega) only [go_sem, reduceCtorEq, ↓reduceIte, Nat.reduceEqDiff, Nat.reduceAdd, Nat.reduceSub, Nat.reduceMul, Nat.reduceLT, Nat.reduceLeDiff, Int.reduceEq, Int.reduceNe, Int.reduceLT, Int.reduceLE, Int.reduceBEq, Int.reduceBNe, Int.reduceToNat, he, hs.at]
      refine cnd_join (Q := fun e' h' => ∃ (L' : IL) (ev : Int), WfL L' ∧ L'.length ≤ i + 1 ∧ MaxM L' (i + 1) ∧ sat h' [IxP b L', RfP y L', pto n6 (.row 5 [[.int .i64 ck, .int .i64 cr, .str key, .str chi, .bool del]] 1)] ∧
        (e' 0 = .lst (cs.map Cl.row) ∧ e' 3 = .ptr b 2 0 0 ∧ e' 4 = .ptr y 1 0 0 ∧ e' 5 = .int .i64 i ∧ e' 6 = .ptr n6 5 0 0 ∧ e' 7 = .int .i64 ev ∧ e' 8 = .int .i64 ev)) ?_ ?_
      · by_cases k0 : ck = 0
        · have k0' : (ck == 0) = true := by simpa using k0
          simp (disch := omega) only [go_sem, reduceCtorEq, ↓reduceIte, Nat.reduceEqDiff, Nat.reduceAdd, Nat.reduceSub, Nat.reduceMul, Nat.reduceLT, Nat.reduceLeDiff, Int.reduceEq, Int.reduceNe, Int.reduceLT, Int.reduceLE, Int.reduceBEq, Int.reduceBNe, Int.reduceToNat, he, k0', hs.at]
          have hw' := putL_wf (k := key) (m := (cr, del)) hw
          have hl' := putL_len (k := key) (m := (cr, del)) hw
          have hm' := MaxM.put (k := key) (m := (cr, del)) hw hmm
          refine call_use' (ixPut (key := key) (m := (cr, del)) (hs.p2.p2) hw hmx (by omega) hcr) ?_
          rintro r h ⟨hr', hs⟩
          subst hr'
          have hn6 := (hs.p1.p1.p2).at
          simp (disch := omega) only [go_sem, reduceCtorEq, ↓reduceIte, Nat.reduceEqDiff, Nat.reduceAdd, Nat.reduceSub, Nat.reduceMul, Nat.reduceLT, Nat.reduceLeDiff, Int.reduceEq, Int.reduceNe, Int.reduceLT, Int.reduceLE, Int.reduceBEq, Int.reduceBNe, Int.reduceToNat, he, hn6]
          refine call_use (rfPut (key := key) (m := (cr, del)) (hs.p2.p1.p2) hw hmx (by omega) hcr) ?_
          rintro r h ⟨hr', hs⟩
          subst hr'
          simp (disch := omega) only [go_sem, reduceCtorEq, ↓reduceIte, Nat.reduceEqDiff, Nat.reduceAdd, Nat.reduceSub, Nat.reduceMul, Nat.reduceLT, Nat.reduceLeDiff, Int.reduceEq, Int.reduceNe, Int.reduceLT, Int.reduceLE, Int.reduceBEq, Int.reduceBNe, Int.reduceToNat, he]
          exact ⟨putL L key (cr, del), putE L key (cr, del), hw', by omega, hm', hs.p2.p1.p2, by simp⟩
        · have k0' : (ck == 0) = false := by rw [beq_eq_false_iff_ne]; exact k0
          by_cases k1 : ck = 1
          · have k1' : (ck == 1) = true := by simpa using k1
            simp (disch := omega) only [go_sem, reduceCtorEq, ↓reduceIte, Nat.reduceEqDiff, Nat.reduceAdd, Nat.reduceSub, Nat.reduceMul, Nat.reduceLT, Nat.reduceLeDiff, Int.reduceEq, Int.reduceNe, Int.reduceLT, Int.reduceLE, Int.reduceBEq, Int.reduceBNe, Int.reduceToNat, he, k0', k1', hs.at]
            have hw' := trimL_wf (rev := cr) hw
            have hl' := trimL_len (L := L) (rev := cr)
            have hm' := hmm.trim (rev := cr)
            refine call_use (ixTrim (rev := cr) (hs.p2.p2) hw hmx (by omega)) ?_
            intro r h hs
            have hn6 := (hs.p1.p1.p2).at
            simp (disch := omega) only [go_sem, reduceCtorEq, ↓reduceIte, Nat.reduceEqDiff, Nat.reduceAdd, Nat.reduceSub, Nat.reduceMul, Nat.reduceLT, Nat.reduceLeDiff, Int.reduceEq, Int.reduceNe, Int.reduceLT, Int.reduceLE, Int.reduceBEq, Int.reduceBNe, Int.reduceToNat, he, hn6]
            refine call_use (rfTrim (rev := cr) (hs.p2.p1.p2) hw hmx (by omega)) ?_
            intro r h hs
            simp (disch := omega) only [go_sem, reduceCtorEq, ↓reduceIte, Nat.reduceEqDiff, Nat.reduceAdd, Nat.reduceSub, Nat.reduceMul, Nat.reduceLT, Nat.reduceLeDiff, Int.reduceEq, Int.reduceNe, Int.reduceLT, Int.reduceLE, Int.reduceBEq, Int.reduceBNe, Int.reduceToNat, he]
            exact ⟨trimL L cr, 0, hw', by omega, (fun x hx => Nat.le_trans (hm' x hx) (by omega)), hs.p2.p1.p2, by simp⟩
          · have k1' : (ck == 1) = false := by rw [beq_eq_false_iff_ne]; exact k1
            simp (disch := omega) only [go_sem, reduceCtorEq, ↓reduceIte, Nat.reduceEqDiff, Nat.reduceAdd, Nat.reduceSub, Nat.reduceMul, Nat.reduceLT, Nat.reduceLeDiff, Int.reduceEq, Int.reduceNe, Int.reduceLT, Int.reduceLE, Int.reduceBEq, Int.reduceBNe, Int.reduceToNat, he, k0', k1']
            exact ⟨L, 0, hw, by omega, hm1 _ (by omega), hs.p2.p2, by simp⟩
      · clear he hs hw hLl hmm hmx hm1
        rintro e h ⟨L, ev, hw, hLl, hmm, hs, he⟩
        have hmx := hmm.le (k := 1000000000) (by omega)
        have hn6 : ∀ {h : Hp}, sat h [IxP b L, RfP y L, pto n6 (.row 5 [[.int .i64 ck, .int .i64 cr, .str key, .str chi, .bool del]] 1)] → h n6 = some (.row 5 [[.int .i64 ck, .int .i64 cr, .str key, .str chi, .bool del]] 1) := fun hs => hs.p1.p1.p2.at
        simp (disch := omega) only [go_sem, reduceCtorEq, ↓reduceIte, Nat.reduceEqDiff, Nat.reduceAdd, Nat.reduceSub, Nat.reduceMul, Nat.reduceLT, Nat.reduceLeDiff, Int.reduceEq, Int.reduceNe, Int.reduceLT, Int.reduceLE, Int.reduceBEq, Int.reduceBNe, Int.reduceToNat, he, hn6 hs]
        refine call_use' (ixMarks (key := key) hs hw hmx) ?_
        rintro r h ⟨hr', hs⟩
        subst hr'
        simp (disch := omega) only [go_sem, reduceCtorEq, ↓reduceIte, Nat.reduceEqDiff, Nat.reduceAdd, Nat.reduceSub, Nat.reduceMul, Nat.reduceLT, Nat.reduceLeDiff, Int.reduceEq, Int.reduceNe, Int.reduceLT, Int.reduceLE, Int.reduceBEq, Int.reduceBNe, Int.reduceToNat, he, hn6 hs]
        refine call_use (rfMarks (key := key) (hs.p2.p1.p2) hw hmx (by omega)) ?_
        rintro r h ⟨hr', hs⟩
        subst hr'
        have hs := hs.p2.p1.p2
        simp (disch := omega) only [go_sem, reduceCtorEq, ↓reduceIte, Nat.reduceEqDiff, Nat.reduceAdd, Nat.reduceSub, Nat.reduceMul, Nat.reduceLT, Nat.reduceLeDiff, Int.reduceEq, Int.reduceNe, Int.reduceLT, Int.reduceLE, Int.reduceBEq, Int.reduceBNe, Int.reduceToNat, he, hn6 hs]
        refine call_use' (ixKeys (lo := key) (hi := chi) hs hw (by omega)) ?_
        rintro r h ⟨hr', hs⟩
        subst hr'
        simp (disch := omega) only [go_sem, reduceCtorEq, ↓reduceIte, Nat.reduceEqDiff, Nat.reduceAdd, Nat.reduceSub, Nat.reduceMul, Nat.reduceLT, Nat.reduceLeDiff, Int.reduceEq, Int.reduceNe, Int.reduceLT, Int.reduceLE, Int.reduceBEq, Int.reduceBNe, Int.reduceToNat, he, hn6 hs]
        refine call_use (rfKeys (lo := key) (hi := chi) (hs.p2.p1.p2) (by omega)) ?_
        rintro r h ⟨hr', hs⟩
        subst hr'
        have hs := hs.p2.p1.p2
        have hgl : (getL L key).length ≤ 1000000000 := by
          rcases getL_mem (L := L) (k := key) with h1 | h1
          · exact hmx _ h1
          · rw [h1]; simp
        have hkl : (keysL L key chi).length ≤ 1000000000 := by
          unfold keysL
          refine Nat.le_trans (List.length_filter_le _ _) ?_
          simp; omega
        have lenM : lenL (.lst ((getL L key).map mkE)) = some (.int .i64 (getL L key).length) := by simp [lenL]
        have lenK := strs_len (l := keysL L key chi)
        obtain ⟨rv, R, hrl, g, back⟩ := rfp_open hs.p1
        have hs := g.p3.p2.p2.p3
        simp (disch := omega) only [go_sem, reduceCtorEq, ↓reduceIte, Nat.reduceEqDiff, Nat.reduceAdd, Nat.reduceSub, Nat.reduceMul, Nat.reduceLT, Nat.reduceLeDiff, Int.reduceEq, Int.reduceNe, Int.reduceLT, Int.reduceLE, Int.reduceBEq, Int.reduceBNe, Int.reduceToNat, he, lenM, lenK, hs.p1.at, hrl]
        refine call_use' (ixLen' hs) ?_
        rintro r h ⟨hr', hs⟩
        subst hr'
        simp (disch := omega) only [go_sem, reduceCtorEq, ↓reduceIte, Nat.reduceEqDiff, Nat.reduceAdd, Nat.reduceSub, Nat.reduceMul, Nat.reduceLT, Nat.reduceLeDiff, Int.reduceEq, Int.reduceNe, Int.reduceLT, Int.reduceLE, Int.reduceBEq, Int.reduceBNe, Int.reduceToNat, he, lenM, lenK, hs.p1.at, hrl]
        have hs : sat h [IxP b L, RfP y L] := (hs.p3.drop.p2.p2.p2).tl fun h g => back h [] g
        refine blk_join (Q := fun e h => sat h [IxP b L, RfP y L] ∧ (e 0 = .lst (cs.map Cl.row) ∧ e 3 = .ptr b 2 0 0 ∧ e 4 = .ptr y 1 0 0 ∧ e 5 = .int .i64 i ∧ e 11 = strsV (keysL L key chi) ∧ e 12 = strsV (keysL L key chi))) ?_ ?_
        · refine run_up (N := (getL L key).length) (fun j e h => sat h [IxP b L, RfP y L] ∧ (e 0 = .lst (cs.map Cl.row) ∧ e 3 = .ptr b 2 0 0 ∧ e 4 = .ptr y 1 0 0 ∧ e 5 = .int .i64 i ∧ e 9 = .lst ((getL L key).map mkE) ∧ e 10 = .lst ((getL L key).map mkE) ∧ e 11 = strsV (keysL L key chi) ∧ e 12 = strsV (keysL L key chi) ∧ e 13 = .int .i64 j))
            ⟨hs, by simp [Env.upd_apply, he]⟩ ?_
          clear he hs
          rintro j e h hj ⟨hs, he⟩
          simp (disch := omega) only [go_sem, reduceCtorEq, ↓reduceIte, Nat.reduceEqDiff, Nat.reduceAdd, Nat.reduceSub, Nat.reduceMul, Nat.reduceLT, Nat.reduceLeDiff, Int.reduceEq, Int.reduceNe, Int.reduceLT, Int.reduceLE, Int.reduceBEq, Int.reduceBNe, Int.reduceToNat, he, lenM]
          refine cnd_dec (fun hlt2 => ?_) (fun hge => ?_)
          · have hlt2 : j < (getL L key).length := by omega
            have hja := ia_lst (f := mkE) (l := getL L key) (s := 2) (i := j) (k := .i64) hlt2 mkE_len
            generalize (getL L key)[j] = m at hja
            obtain ⟨mr, md⟩ := m
            simp only [mkE] at hja
            cases md
            · simp (disch := omega) only [go_sem, reduceCtorEq, ↓reduceIte, Nat.reduceEqDiff, Nat.reduceAdd, Nat.reduceSub, Nat.reduceMul, Nat.reduceLT, Nat.reduceLeDiff, Int.reduceEq, Int.reduceNe, Int.reduceLT, Int.reduceLE, Int.reduceBEq, Int.reduceBNe, Int.reduceToNat, he, hja]
              exact ⟨hlt2, hs, rfl⟩
            · simp (disch := omega) only [go_sem, reduceCtorEq, ↓reduceIte, Nat.reduceEqDiff, Nat.reduceAdd, Nat.reduceSub, Nat.reduceMul, Nat.reduceLT, Nat.reduceLeDiff, Int.reduceEq, Int.reduceNe, Int.reduceLT, Int.reduceLE, Int.reduceBEq, Int.reduceBNe, Int.reduceToNat, he, hja]
              exact ⟨hlt2, hs, rfl⟩
          · simp (disch := omega) only [go_sem, reduceCtorEq, ↓reduceIte, Nat.reduceEqDiff, Nat.reduceAdd, Nat.reduceSub, Nat.reduceMul, Nat.reduceLT, Nat.reduceLeDiff, Int.reduceEq, Int.reduceNe, Int.reduceLT, Int.reduceLE, Int.reduceBEq, Int.reduceBNe, Int.reduceToNat, he]
            exact hs
        · clear he hs
          rintro e h ⟨hs, he⟩
          simp (disch := omega) only [go_sem, reduceCtorEq, ↓reduceIte, Nat.reduceEqDiff, Nat.reduceAdd, Nat.reduceSub, Nat.reduceMul, Nat.reduceLT, Nat.reduceLeDiff, Int.reduceEq, Int.reduceNe, Int.reduceLT, Int.reduceLE, Int.reduceBEq, Int.reduceBNe, Int.reduceToNat, he]
          refine run_up (N := (keysL L key chi).length) (fun j e h => sat h [IxP b L, RfP y L] ∧ (e 0 = .lst (cs.map Cl.row) ∧ e 3 = .ptr b 2 0 0 ∧ e 4 = .ptr y 1 0 0 ∧ e 5 = .int .i64 i ∧ e 11 = strsV (keysL L key chi) ∧ e 12 = strsV (keysL L key chi) ∧ e 14 = .int .i64 j))
            ⟨hs, by simp [Env.upd_apply, he]⟩ ?_
          clear he hs
          rintro j e h hj ⟨hs, he⟩
          simp (disch := omega) only [go_sem, reduceCtorEq, ↓reduceIte, Nat.reduceEqDiff, Nat.reduceAdd, Nat.reduceSub, Nat.reduceMul, Nat.reduceLT, Nat.reduceLeDiff, Int.reduceEq, Int.reduceNe, Int.reduceLT, Int.reduceLE, Int.reduceBEq, Int.reduceBNe, Int.reduceToNat, he, lenK]
          refine cnd_dec (fun hlt2 => ?_) (fun hge => ?_)
          · have hlt2 : j < (keysL L key chi).length := by omega
            have hja := strs_at hlt2
            simp (disch := omega) only [go_sem, reduceCtorEq, ↓reduceIte, Nat.reduceEqDiff, Nat.reduceAdd, Nat.reduceSub, Nat.reduceMul, Nat.reduceLT, Nat.reduceLeDiff, Int.reduceEq, Int.reduceNe, Int.reduceLT, Int.reduceLE, Int.reduceBEq, Int.reduceBNe, Int.reduceToNat, he, hja]
            exact ⟨hlt2, hs, rfl⟩
          · simp (disch := omega) only [go_sem, reduceCtorEq, ↓reduceIte, Nat.reduceEqDiff, Nat.reduceAdd, Nat.reduceSub, Nat.reduceMul, Nat.reduceLT, Nat.reduceLeDiff, Int.reduceEq, Int.reduceNe, Int.reduceLT, Int.reduceLE, Int.reduceBEq, Int.reduceBNe, Int.reduceToNat, he]
            exact ⟨hlt, L, by omega, hw, by omega, hmm, hs, rfl⟩
    · simp (disch := omega) only [go_sem, reduceCtorEq, ↓reduceIte, Nat.reduceEqDiff, Nat.reduceAdd, Nat.reduceSub, Nat.reduceMul, Nat.reduceLT, Nat.reduceLeDiff, Int.reduceEq, Int.reduceNe, Int.reduceLT, Int.reduceLE, Int.reduceBEq, Int.reduceBNe, Int.reduceToNat, he, len1, c1, c2]
      exact ⟨L, hw, by omega, hs⟩
  · simp (disch := omega) only [go_sem, reduceCtorEq, ↓reduceIte, Nat.reduceEqDiff, Nat.reduceAdd, Nat.reduceSub, Nat.reduceMul, Nat.reduceLT, Nat.reduceLeDiff, Int.reduceEq, Int.reduceNe, Int.reduceLT, Int.reduceLE, Int.reduceBEq, Int.reduceBNe, Int.reduceToNat, he, len1, c1]
    exact ⟨L, hw, by omega, hs⟩
theorem indexPlays_law (vs : List AV) (h : Ty.ones [.sl (.st tyC)] vs) : Triple Try.prog 5 vs Hp.emp (fun r _ => r = .bool true) := by
  obtain ⟨a, _, rfl, ha, h⟩ := ones_cons h
  obtain rfl := ones_nil h
  obtain ⟨l, rfl, hl, hc⟩ := cls_of ha
  exact indexPlays hl hc
end Go.Proofs.Ytnojalihnajkbaa
