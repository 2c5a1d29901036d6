/- split, insert. -/
import Derived.Test.YtkclojjeepomfaaR5MvccFullLawPD
set_option linter.unusedSimpArgs false
set_option linter.unusedVariables false
set_option maxRecDepth 10000
namespace Go.Proofs.Ytkclojjeepomfaa
open Go.Hz

section
variable {h : Hp} {F : List Asr}
theorem split_no {p : Nat} {iv kv : AV} {es : List (List AV)} (hs : sat h (pto p (.row 2 [[iv, kv]] 1) :: Ow 1 iv es :: F)) (h5 : es.length ≤ 5) :
    Triple Try.prog 108 [.ptr p 2 0 0] h (fun r h => r = .tup [.nilp, .nilp] ∧ sat h (pto p (.row 2 [[iv, kv]] 1) :: Ow 1 iv es :: F)) := by
  refine t108 (Nat.le_of_ble_eq_true rfl) ?_
  simp (disch := omega) only [F108, go_sem, reduceCtorEq, ↓reduceIte, Nat.reduceEqDiff, Nat.reduceAdd, Nat.reduceSub, Nat.reduceMul, Nat.reduceLT, Nat.reduceLeDiff, Int.reduceEq, Int.reduceNe, Int.reduceLT, Int.reduceLE, Int.reduceBEq, Int.reduceBNe, Int.reduceToNat]
  have hl := hs.drop.owr.len
  have hd : decide ((es.length : Int) ≤ 5) = true := by simp; omega
  simp (disch := omega) only [go_sem, reduceCtorEq, ↓reduceIte, Nat.reduceEqDiff, Nat.reduceAdd, Nat.reduceSub, Nat.reduceMul, Nat.reduceLT, Nat.reduceLeDiff, Int.reduceEq, Int.reduceNe, Int.reduceLT, Int.reduceLE, Int.reduceBEq, Int.reduceBNe, Int.reduceToNat, hs.at, hl, hd]
  exact hs

theorem split_yes {p : Nat} {iv kv : AV} {ps qs : List Nat} (hs : sat h (pto p (.row 2 [[iv, kv]] 1) :: Ow 1 iv (ps.map pt) :: Ow 1 kv (qs.map pt) :: F)) (h6 : ps.length = 6) (h7 : qs = [] ∨ qs.length = 7) {x : Nat} (hx : ps[3]? = some x) :
    Triple Try.prog 108 [.ptr p 2 0 0] h (fun r h => ∃ p2 iv1 kv1 iv2 kv2, r = .tup [.ptr x 2 0 0, .ptr p2 2 0 0] ∧
      sat h (pto p (.row 2 [[iv1, kv1]] 1) :: Ow 1 iv1 ((ps.take 3).map pt) :: Ow 1 kv1 ((qs.take 4).map pt) :: pto p2 (.row 2 [[iv2, kv2]] 1) :: Ow 1 iv2 ((ps.drop 4).map pt) :: Ow 1 kv2 ((qs.drop 4).map pt) :: F)) := by
  refine Triple.view ?_
  refine t108 (Nat.le_of_ble_eq_true rfl) ?_
  simp (disch := omega) only [F108, go_sem, reduceCtorEq, ↓reduceIte, Nat.reduceEqDiff, Nat.reduceAdd, Nat.reduceSub, Nat.reduceMul, Nat.reduceLT, Nat.reduceLeDiff, Int.reduceEq, Int.reduceNe, Int.reduceLT, Int.reduceLE, Int.reduceBEq, Int.reduceBNe, Int.reduceToNat]
  obtain ⟨b, cap, hiv, hb, hcap⟩ := hs.drop.owr.row (pt_get hx)
  rw [List.length_map, h6] at hiv hcap
  subst hiv
  have hl := hs.drop.drop.owr.len
  rw [List.length_map] at hl
  have g1 := (hs.p1.arr).1
  have e1 : (6 : Int).tdiv 2 = 3 := rfl
  have e2 : ((6 : Nat) : Int) = 6 := rfl
  have e3 : decide ((6 : Int) ≤ 5) = false := rfl
  have hia : iaA 1 (.arr b 1 0 6 cap) (.int .i64 3) = some (.ptr b 1 3 0) := by rw [iaA_go (by omega) (by omega)]; rfl
  have hw : IntKind.i64.wrap 3 = 3 := rfl
  have hw4 : IntKind.i64.wrap 4 = 4 := rfl
  have e5 : (3 : Int) + 1 = 4 := rfl
  simp (disch := omega) only [go_sem, reduceCtorEq, ↓reduceIte, Nat.reduceEqDiff, Nat.reduceAdd, Nat.reduceSub, Nat.reduceMul, Nat.reduceLT, Nat.reduceLeDiff, Int.reduceEq, Int.reduceNe, Int.reduceLT, Int.reduceLE, Int.reduceBEq, Int.reduceBNe, Int.reduceToNat, hs.at, e1, e2, e3, hia, hb, pt_get hx, slcL_lo, hw, hw4, e5]
  refine call_use (clone_item g1 (by omega) (by omega)) ?_
  intro iv2 h hs
  have ht : ((ps.drop (0 + 4)).take (6 - 4)) = ps.drop 4 := by rw [List.take_of_length_le (by simp; omega)]
  rw [ht] at hs
  have hc := hs.owr.len
  have hcl : iv2.cells = [iv2] := hs.els.cells
  have hca : iv2.isAtom = true := hs.els.atom
  simp (disch := omega) only [go_sem, reduceCtorEq, ↓reduceIte, Nat.reduceEqDiff, Nat.reduceAdd, Nat.reduceSub, Nat.reduceMul, Nat.reduceLT, Nat.reduceLeDiff, Int.reduceEq, Int.reduceNe, Int.reduceLT, Int.reduceLE, Int.reduceBEq, Int.reduceBNe, Int.reduceToNat, hcl, hca]
  refine new_opq hs fun p2 h hs => ?_
  simp (disch := omega) only [go_sem, reduceCtorEq, ↓reduceIte, Nat.reduceEqDiff, Nat.reduceAdd, Nat.reduceSub, Nat.reduceMul, Nat.reduceLT, Nat.reduceLeDiff, Int.reduceEq, Int.reduceNe, Int.reduceLT, Int.reduceLE, Int.reduceBEq, Int.reduceBNe, Int.reduceToNat, hs.at, hcl, hca]
  have hp := hs.p3.at
  have hia3 : slcL 1 (.arr b 1 0 6 cap) none (some (.int .i64 3)) = some (.arr b 1 0 3 cap) := by rw [slcL_hi (by omega) (by omega) (by omega)]; rfl
  rcases h7 with rfl | h7
  · have hl : lenL kv = some (.int .i64 0) := hl
    simp (disch := omega) only [go_sem, reduceCtorEq, ↓reduceIte, Nat.reduceEqDiff, Nat.reduceAdd, Nat.reduceSub, Nat.reduceMul, Nat.reduceLT, Nat.reduceLeDiff, Int.reduceEq, Int.reduceNe, Int.reduceLT, Int.reduceLE, Int.reduceBEq, Int.reduceBNe, Int.reduceToNat, hp, hl, hia3]
    have g := hs.p3.set (o' := .row 2 [[.arr b 1 0 3 cap, kv]] 1)
    have gb := g.p3
    refine ⟨_, _, GV.trim _ 3 gb.at, ⟨p2, .arr b 1 0 3 cap, kv, iv2, .nils, rfl, ?_⟩⟩
    have g2 := (gb.set (o' := .row 1 ((ps.map pt).take 3) cap))
    have g3 := g2.ow (by simp; omega)
    have e6 : ((ps.map pt).take 3).length = 3 := by simp; omega
    rw [e6] at g3
    rw [show (ps.take 3).map pt = (ps.map pt).take 3 by simp]
    have g4 := (g3.add (A := Ow 1 .nils ((([] : List Nat).drop 4).map pt)) ow_nil)
    exact g4.p4.p4.p5.p4.p5
  · obtain ⟨y, hy⟩ : ∃ y, qs[0]? = some y := ⟨_, List.getElem?_eq_getElem (by omega)⟩
    have g5 := hs.p3.p3.p3.p3.p4
    obtain ⟨bk, ck, hkv, hbk, hck⟩ := g5.owr.row (pt_get hy)
    rw [List.length_map, h7] at hkv hck
    subst hkv
    have gk := (g5.arr).1
    have hp := gk.p3.p3.p3.p4.at
    have hl7 : decide ((0 : Int) < ((7 : Nat) : Int)) = true := rfl
    have hk3 : slcL 1 (.arr bk 1 0 7 ck) (some (.int .i64 4)) none = some (.arr bk 1 4 3 (ck - 4)) := by rw [slcL_lo (by omega) (by omega) (by omega)]; rfl
    have hk4 : slcL 1 (.arr bk 1 0 7 ck) none (some (.int .i64 4)) = some (.arr bk 1 0 4 ck) := by rw [slcL_hi (by omega) (by omega) (by omega)]; rfl
    simp (disch := omega) only [go_sem, reduceCtorEq, ↓reduceIte, Nat.reduceEqDiff, Nat.reduceAdd, Nat.reduceSub, Nat.reduceMul, Nat.reduceLT, Nat.reduceLeDiff, Int.reduceEq, Int.reduceNe, Int.reduceLT, Int.reduceLE, Int.reduceBEq, Int.reduceBNe, Int.reduceToNat, hp, hl7, hk3, hw4, e5]
    refine call_use (clone_node gk (by omega) (by omega)) ?_
    intro kv2 h hs
    have ht : ((qs.drop 4).take 3) = qs.drop 4 := by rw [List.take_of_length_le (by simp; omega)]
    rw [ht] at hs
    have hcl2 : kv2.cells = [kv2] := hs.els.cells
    have hca2 : kv2.isAtom = true := hs.els.atom
    have g6 := hs.p5.p5.p5.p4.p4.p5
    have g7 := (g6.set (o' := .row 2 [[iv2, kv2]] 1))
    have hp := g7.drop.p1.drop.p1.drop.p1.drop.p1.at
    simp (disch := omega) only [go_sem, reduceCtorEq, ↓reduceIte, Nat.reduceEqDiff, Nat.reduceAdd, Nat.reduceSub, Nat.reduceMul, Nat.reduceLT, Nat.reduceLeDiff, Int.reduceEq, Int.reduceNe, Int.reduceLT, Int.reduceLE, Int.reduceBEq, Int.reduceBNe, Int.reduceToNat, g6.at, hcl2, hca2, hp, hk4, hw4, e5]
    have g8 := (g7.p4.p4.p4.p4.p4.p5).set (o' := .row 2 [[.arr b 1 0 6 cap, .arr bk 1 0 4 ck]] 1)
    simp (disch := omega) only [go_sem, reduceCtorEq, ↓reduceIte, Nat.reduceEqDiff, Nat.reduceAdd, Nat.reduceSub, Nat.reduceMul, Nat.reduceLT, Nat.reduceLeDiff, Int.reduceEq, Int.reduceNe, Int.reduceLT, Int.reduceLE, Int.reduceBEq, Int.reduceBNe, Int.reduceToNat, g8.at, hia3]
    have g9 := (g7.p4.p4.p4.p4.p4.p5).set (o' := .row 2 [[.arr b 1 0 3 cap, .arr bk 1 0 4 ck]] 1)
    have gb := g9.p4.p4.p4.p4.p4.p5
    have gk2 := (gb.set (o' := .row 1 ((ps.map pt).take 3) cap)).p5.p4.p4.p4.p4.p5
    refine ⟨_, _, (GV.trim _ 3 gb.at).trans (GV.trim _ 4 gk2.at), ⟨p2, .arr b 1 0 3 cap, .arr bk 1 0 4 ck, iv2, kv2, rfl, ?_⟩⟩
    have ga := (gk2.set (o' := .row 1 ((qs.map pt).take 4) ck)).ow (by simp; omega)
    have gc := (ga.p5.p5.p5.p5.p4.p5).ow (by simp; omega)
    have e6 : ((ps.map pt).take 3).length = 3 := by simp; omega
    have e7 : ((qs.map pt).take 4).length = 4 := by simp; omega
    rw [e6, e7] at gc
    rw [show (ps.take 3).map pt = (ps.map pt).take 3 by simp, show (qs.take 4).map pt = (qs.map pt).take 4 by simp]
    exact gc.p4.p5.p5.p4.p4.p5

/-- How 'insert' answers for a tree that holds an item more. -/
def InsR (d : Nat) (root : Nat) (l : List Kp) (F : List Asr) (r : AV) (h : Hp) : Prop :=
  (∃ t', r = .tup [.nilp, .nilp] ∧ OKd d t' ∧ t'.root = root ∧ t'.flat = l ∧ sat h (t'.asr :: F)) ∨
  ∃ t1 m t2, r = .tup [.ptr (m : Kp).1 2 0 0, .ptr (Tr.root t2) 2 0 0] ∧ OKd d t1 ∧ OKd d t2 ∧ Tr.root t1 = root ∧ t1.flat ++ m :: t2.flat = l ∧ t1.flat ≠ [] ∧ t2.flat ≠ [] ∧ sat h (t1.asr :: t2.asr :: F)

theorem finish {d p : Nat} {iv kv : AV} {is : List Kp} {ks : List Tr} (h6 : is.length ≤ 6) (ok : OKs d is ks) (hs : sat h (Tr.parts p iv kv is ks ++ F)) :
    Triple Try.prog 108 [.ptr p 2 0 0] h (InsR d p (weave (ks.map Tr.flat) is) F) := by
  by_cases h5 : is.length ≤ 5
  · refine (split_no (iv := iv) (kv := kv) (es := is.map kpt) hs (by simpa using h5)).mono ?_
    rintro r h ⟨rfl, hs⟩
    exact .inl ⟨.nd p iv kv is ks, rfl, okd_nd.2 ⟨h5, ok⟩, rfl, Tr.flat_nd, sat_nd.2 hs⟩
  · have h6 : is.length = 6 := by omega
    have hx := List.getElem?_eq_getElem (l := is) (i := 3) (by omega)
    have h7 : ks.map Tr.root = [] ∨ (ks.map Tr.root).length = 7 := by
      cases d with
      | zero => left; rw [show ks = [] from ok]; rfl
      | succ d => right; rw [List.length_map, ok.2.1, h6]
    unfold Tr.parts at hs
    rw [kpt_pt, rt_pt] at hs
    refine (split_yes (x := is[3].1) hs (by simpa using h6) h7 (by simp [hx])).mono ?_
    rintro r h ⟨p2, iv1, kv1, iv2, kv2, rfl, hs⟩
    have hks : ks.map Tr.asr ++ F = (ks.take 4).map Tr.asr ++ ((ks.drop 4).map Tr.asr ++ F) := by
      rw [← List.append_assoc, ← List.map_append, List.take_append_drop]
    have e3 : is = is.take 3 ++ is[3] :: is.drop 4 := by
      rw [← List.drop_eq_getElem_cons, List.take_append_drop]
    refine .inr ⟨.nd p iv1 kv1 (is.take 3) (ks.take 4), is[3], .nd p2 iv2 kv2 (is.drop 4) (ks.drop 4), rfl, ?_, ?_, rfl, ?_, ?_, ?_, ?_⟩
    · refine okd_nd.2 ⟨by simp; omega, ?_⟩
      cases d with
      | zero => simp only [OKs] at ok ⊢; simp [ok]
      | succ d => exact ⟨by simp; omega, by have := ok.2.1; simp; omega, fun k hk => ok.2.2 k (List.mem_of_mem_take hk)⟩
    · refine okd_nd.2 ⟨by simp; omega, ?_⟩
      cases d with
      | zero => simp only [OKs] at ok ⊢; simp [ok]
      | succ d => exact ⟨by simp; omega, by have := ok.2.1; simp; omega, fun k hk => ok.2.2 k (List.mem_of_mem_drop hk)⟩
    · rw [Tr.flat_nd, Tr.flat_nd]
      cases d with
      | zero =>
        have hk : ks = [] := ok
        subst hk
        simp only [List.take_nil, List.drop_nil, List.map_nil, weave_nil]
        exact e3.symm
      | succ d =>
        have := weave_cut ((ks.take 4).map Tr.flat) ((ks.drop 4).map Tr.flat) (is.take 3) (is.drop 4) is[3] (by have := ok.2.1; simp; omega)
        rw [← this, ← List.map_append, List.take_append_drop, ← e3]
    · rw [Tr.flat_nd]; exact weave_ne (by simp; omega)
    · rw [Tr.flat_nd]; exact weave_ne (by simp; omega)
    · refine sat_nd.2 ?_
      have hq : sat h ([pto p (.row 2 [[iv1, kv1]] 1), Ow 1 iv1 ((is.take 3).map kpt), Ow 1 kv1 ((ks.take 4).map fun k => pt k.root)] ++ ((ks.take 4).map Tr.asr ++ (Tr.parts p2 iv2 kv2 (is.drop 4) (ks.drop 4) ++ F))) := by
        have g := hs
        rw [show (((is.map fun x => x.1).take 3).map pt) = (is.take 3).map kpt by rw [kpt_pt]; simp, show (((is.map fun x => x.1).drop 4).map pt) = (is.drop 4).map kpt by rw [kpt_pt]; simp,
          show (((ks.map Tr.root).take 4).map pt) = (ks.take 4).map (fun k => pt k.root) by rw [rt_pt]; simp, show (((ks.map Tr.root).drop 4).map pt) = (ks.drop 4).map (fun k => pt k.root) by rw [rt_pt]; simp] at g
        refine sat.tls (l1 := [pto p (.row 2 [[iv1, kv1]] 1), Ow 1 iv1 ((is.take 3).map kpt), Ow 1 kv1 ((ks.take 4).map fun k => pt k.root)]) g fun h g => ?_
        have g2 : sat h ([pto p2 (.row 2 [[iv2, kv2]] 1), Ow 1 iv2 ((is.drop 4).map kpt), Ow 1 kv2 ((ks.drop 4).map fun k => pt k.root)] ++ ((ks.take 4).map Tr.asr ++ ((ks.drop 4).map Tr.asr ++ F))) := by
          rw [← hks]; exact g
        exact g2.swapl
      have hq2 : sat h (Tr.parts p iv1 kv1 (is.take 3) (ks.take 4) ++ (Tr.parts p2 iv2 kv2 (is.drop 4) (ks.drop 4) ++ F)) := by
        exact hq
      exact hq2.tls fun h g => sat_nd.2 g
end
end Go.Proofs.Ytkclojjeepomfaa
/- insert. -/
set_option linter.unusedSimpArgs false
set_option linter.unusedVariables false
set_option maxRecDepth 10000
namespace Go.Proofs.Ytkclojjeepomfaa
open Go.Hz

section
variable {h : Hp} {F : List Asr}
theorem insK_place {is : List Kp} {x : Kp} {j : Nat} {q : Bool} (hp : PlaceR is x.2 j q) : is.take j ++ x :: is.drop j = insK x is := by
  have := insK_split (x := x) (A := is.take j) (C := is.drop j) (fun y hy => ?_) (fun y hy => ?_)
  · rw [List.take_append_drop] at this; exact this.symm
  · obtain ⟨i, hi⟩ := List.getElem?_of_mem hy
    rw [List.getElem?_take] at hi
    split at hi
    · exact hp.lo i y hi (by assumption)
    · cases hi
  · rw [List.head?_drop] at hy
    exact hp.hi j y hy (Nat.le_refl _)

theorem insert : ∀ (d : Nat) (t : Tr) (x : Kp) {h : Hp} {F : List Asr}, OKd d t → Srt t.flat → sat h (t.asr :: F) → (∀ h, sat h F → IR t.flat h) → (∀ h, sat h F → ∃ mv, h x.1 = some (.row 2 [[.str x.2, mv]] 1)) →
    Triple Try.prog 93 [.ptr t.root 2 0 0, .ptr x.1 2 0 0] h (InsR d t.root (insK x t.flat) F) := by
  intro d
  induction d with
  | zero =>
    rintro ⟨p, iv, kv, is, ks⟩ x h F ⟨h5, rfl⟩ hS hs hI hX
    rw [Tr.flat_nd] at hS hI ⊢
    have hs := sat_nd.1 hs
    have hN : ∀ h, sat h (Tr.parts p iv kv is [] ++ F) → NR p iv kv is h := fun h hs => ⟨hs.at, hs.drop.owr, fun y hy => hI h hs.right y (mem_weave _ _ hy)⟩
    obtain ⟨mv, hx⟩ := hX h hs.right
    refine t93 (Nat.le_of_ble_eq_true rfl) ?_
    simp (disch := omega) only [F93, Tr.root, go_sem, reduceCtorEq, ↓reduceIte, Nat.reduceEqDiff, Nat.reduceAdd, Nat.reduceSub, Nat.reduceMul, Nat.reduceLT, Nat.reduceLeDiff, Int.reduceEq, Int.reduceNe, Int.reduceLT, Int.reduceLE, Int.reduceBEq, Int.reduceBNe, Int.reduceToNat]
    simp (disch := omega) only [go_sem, reduceCtorEq, ↓reduceIte, Nat.reduceEqDiff, Nat.reduceAdd, Nat.reduceSub, Nat.reduceMul, Nat.reduceLT, Nat.reduceLeDiff, Int.reduceEq, Int.reduceNe, Int.reduceLT, Int.reduceLE, Int.reduceBEq, Int.reduceBNe, Int.reduceToNat, hx]
    refine call_use (place hs hN (weave_srt _ _ hS) (by omega)) ?_
    rintro r h ⟨j, q, hr, hp, hs⟩
    subst hr
    have hkl := hs.drop.drop.owr.len
    simp (disch := omega) only [go_sem, reduceCtorEq, ↓reduceIte, Nat.reduceEqDiff, Nat.reduceAdd, Nat.reduceSub, Nat.reduceMul, Nat.reduceLT, Nat.reduceLeDiff, Int.reduceEq, Int.reduceNe, Int.reduceLT, Int.reduceLE, Int.reduceBEq, Int.reduceBNe, Int.reduceToNat, (hN h hs).nd, hkl]
    refine new_opq hs fun bx h hs => ?_
    simp (disch := omega) only [go_sem, reduceCtorEq, ↓reduceIte, Nat.reduceEqDiff, Nat.reduceAdd, Nat.reduceSub, Nat.reduceMul, Nat.reduceLT, Nat.reduceLeDiff, Int.reduceEq, Int.reduceNe, Int.reduceLT, Int.reduceLE, Int.reduceBEq, Int.reduceBNe, Int.reduceToNat, hs.at]
    have hs' : sat h (pto bx (.row 1 [pt x.1] 1) :: pto p (.row 2 [[iv, kv]] 1) :: Ow 1 iv (is.map kpt) :: Ow 1 kv ([] : List (List AV)) :: F) := hs
    rw [kpt_pt] at hs'
    refine call_use (ins_item (x := x.1) (i := j) (hs'.p3.p2.p2.p3) (by simpa using hp.le) (by simp; omega) (Nat.le_refl _)) ?_
    intro iv' h hs
    have hc := hs.els.cells
    have ha := hs.els.atom
    have g := hs.p1
    simp (disch := omega) only [go_sem, reduceCtorEq, ↓reduceIte, Nat.reduceEqDiff, Nat.reduceAdd, Nat.reduceSub, Nat.reduceMul, Nat.reduceLT, Nat.reduceLeDiff, Int.reduceEq, Int.reduceNe, Int.reduceLT, Int.reduceLE, Int.reduceBEq, Int.reduceBNe, Int.reduceToNat, g.at, hc, ha]
    have g2 := g.set (o' := .row 2 [[iv', kv]] 1)
    have e1 : ((is.map fun x => x.1).take j ++ x.1 :: (is.map fun x => x.1).drop j).map pt = (insK x is).map kpt := by
      rw [← insK_place hp, kpt_pt]; simp
    rw [e1] at g2
    refine call_use (finish (d := 0) (is := insK x is) (ks := []) (by rw [insK_len]; omega) rfl g2) ?_
    intro r h hr
    rcases hr with ⟨t', rfl, hr⟩ | ⟨t1, m, t2, rfl, hr⟩
    · simp (disch := omega) only [go_sem, reduceCtorEq, ↓reduceIte, Nat.reduceEqDiff, Nat.reduceAdd, Nat.reduceSub, Nat.reduceMul, Nat.reduceLT, Nat.reduceLeDiff, Int.reduceEq, Int.reduceNe, Int.reduceLT, Int.reduceLE, Int.reduceBEq, Int.reduceBNe, Int.reduceToNat]
      exact .inl ⟨t', rfl, hr⟩
    · simp (disch := omega) only [go_sem, reduceCtorEq, ↓reduceIte, Nat.reduceEqDiff, Nat.reduceAdd, Nat.reduceSub, Nat.reduceMul, Nat.reduceLT, Nat.reduceLeDiff, Int.reduceEq, Int.reduceNe, Int.reduceLT, Int.reduceLE, Int.reduceBEq, Int.reduceBNe, Int.reduceToNat]
      exact .inr ⟨t1, m, t2, rfl, hr⟩
  | succ d ih =>
    rintro ⟨p, iv, kv, is, ks⟩ x h F ⟨o0, o1, o2, o3⟩ hS hs hI hX
    rw [Tr.flat_nd] at hS hI ⊢
    have hs := sat_nd.1 hs
    have hN : ∀ h, sat h (Tr.parts p iv kv is ks ++ F) → NR p iv kv is h := fun h hs => ⟨hs.at, hs.drop.owr, fun y hy => hI h hs.right y (mem_weave _ _ hy)⟩
    obtain ⟨mv, hx⟩ := hX h hs.right
    refine t93 (Nat.le_of_ble_eq_true rfl) ?_
    simp (disch := omega) only [F93, Tr.root, go_sem, reduceCtorEq, ↓reduceIte, Nat.reduceEqDiff, Nat.reduceAdd, Nat.reduceSub, Nat.reduceMul, Nat.reduceLT, Nat.reduceLeDiff, Int.reduceEq, Int.reduceNe, Int.reduceLT, Int.reduceLE, Int.reduceBEq, Int.reduceBNe, Int.reduceToNat]
    simp (disch := omega) only [go_sem, reduceCtorEq, ↓reduceIte, Nat.reduceEqDiff, Nat.reduceAdd, Nat.reduceSub, Nat.reduceMul, Nat.reduceLT, Nat.reduceLeDiff, Int.reduceEq, Int.reduceNe, Int.reduceLT, Int.reduceLE, Int.reduceBEq, Int.reduceBNe, Int.reduceToNat, hx]
    refine call_use (place hs hN (weave_srt _ _ hS) (by omega)) ?_
    rintro r h ⟨j, q, hr, hp, hs⟩
    subst hr
    have hjk : j < ks.length := by have := hp.le; omega
    have hk := List.getElem?_eq_getElem hjk
    have hlk : (ks.map fun k => pt k.root).length = ks.length := by simp
    obtain ⟨b, cap, hkv, hb, _⟩ := hs.drop.drop.owr.row (pt_get' hk)
    rw [hlk] at hkv
    have hz : ((ks.length : Int) == 0) = false := by rw [beq_eq_false_iff_ne]; omega
    simp (disch := omega) only [go_sem, reduceCtorEq, ↓reduceIte, Nat.reduceEqDiff, Nat.reduceAdd, Nat.reduceSub, Nat.reduceMul, Nat.reduceLT, Nat.reduceLeDiff, Int.reduceEq, Int.reduceNe, Int.reduceLT, Int.reduceLE, Int.reduceBEq, Int.reduceBNe, Int.reduceToNat, (hN h hs).nd, hkv, hz, ia_go hjk, hb, pt_get' hk]
    obtain ⟨A, C, w1, w2, w3, cA, cC, _, hC⟩ := hp.cut (by simpa using o2) hS
    have hkf : (ks.map Tr.flat).getD j [] = ks[j].flat := by simp [hk]
    rw [hkf] at w1
    have hins : insK x (weave (ks.map Tr.flat) is) = A ++ insK x ks[j].flat ++ C := by
      rw [w1]; exact insK_mid cA fun y hy => cC y (List.mem_of_mem_head? hy)
    have eks : ks = ks.take j ++ ks[j] :: ks.drop (j + 1) := by rw [← List.drop_eq_getElem_cons, List.take_append_drop]
    have hq : sat h (ks[j].asr :: ([pto p (.row 2 [[iv, kv]] 1), Ow 1 iv (is.map kpt), Ow 1 kv (ks.map fun k => pt k.root)] ++ ((ks.take j).map Tr.asr ++ ((ks.drop (j + 1)).map Tr.asr ++ F)))) := by
      have g : sat h (([pto p (.row 2 [[iv, kv]] 1), Ow 1 iv (is.map kpt), Ow 1 kv (ks.map fun k => pt k.root)] ++ (ks.take j).map Tr.asr) ++ ks[j].asr :: ((ks.drop (j + 1)).map Tr.asr ++ F)) := by
        have e : Tr.parts p iv kv is ks ++ F = ([pto p (.row 2 [[iv, kv]] 1), Ow 1 iv (is.map kpt), Ow 1 kv (ks.map fun k => pt k.root)] ++ (ks.take j).map Tr.asr) ++ ks[j].asr :: ((ks.drop (j + 1)).map Tr.asr ++ F) := by
          have em : ks.map Tr.asr = (ks.take j).map Tr.asr ++ ks[j].asr :: (ks.drop (j + 1)).map Tr.asr := by
            conv => lhs; rw [eks]
            rw [List.map_append, List.map_cons]
          unfold Tr.parts
          rw [em]
          simp only [List.cons_append, List.nil_append, List.append_assoc]
        rw [← e]; exact hs
      have := g.mid
      rw [List.append_assoc] at this
      exact this
    have hnm := List.getElem_mem hjk
    have back : ∀ (t' : Tr) h, t'.root = ks[j].root → sat h (t'.asr :: ([pto p (.row 2 [[iv, kv]] 1), Ow 1 iv (is.map kpt), Ow 1 kv (ks.map fun k => pt k.root)] ++ ((ks.take j).map Tr.asr ++ ((ks.drop (j + 1)).map Tr.asr ++ F)))) →
        sat h (Tr.parts p iv kv is (ks.set j t') ++ F) := by
      intro t' h hroot g
      rw [← List.append_assoc] at g
      have g2 := g.unmid
      have er : (ks.set j t').map (fun k => pt k.root) = ks.map fun k => pt k.root := by
        rw [List.map_set, hroot]
        apply List.ext_getElem (by simp)
        intro i h1 h2
        rw [List.getElem_set]
        split
        · rename_i hij; subst hij; simp
        · rfl
      unfold Tr.parts
      rw [er, List.set_eq_take_append_cons_drop, if_pos hjk]
      simpa using g2
    refine call_use (ih ks[j] x (o3 _ hnm).1 (weave_srt2 _ _ _ (by simpa using o2) (List.mem_map_of_mem hnm) hS) hq (fun h hs => fun y hy => ?_) (fun h hs => ?_)) ?_
    · have := hs.right.right.right
      exact hI h this y (mem_weave2 _ _ ks[j].flat (by simpa using o2) (List.mem_map_of_mem hnm) hy)
    · exact hX h hs.right.right.right
    · intro r h hr
      rcases hr with ⟨t', rfl, okt, hroot, hfl, hs⟩ | ⟨t1, m, t2, rfl, ok1, ok2, hroot, hfl, hne1, hne2, hs⟩
      · have g := back t' h hroot hs
        simp (disch := omega) only [go_sem, reduceCtorEq, ↓reduceIte, Nat.reduceEqDiff, Nat.reduceAdd, Nat.reduceSub, Nat.reduceMul, Nat.reduceLT, Nat.reduceLeDiff, Int.reduceEq, Int.reduceNe, Int.reduceLT, Int.reduceLE, Int.reduceBEq, Int.reduceBNe, Int.reduceToNat]
        have hwf : weave ((ks.set j t').map Tr.flat) is = insK x (weave (ks.map Tr.flat) is) := by
          rw [hins, List.map_set, w2, hfl]
        rw [← hwf]
        refine call_use (finish (d := d + 1) (ks := ks.set j t') (by omega) ⟨o0, by simpa using o2, fun k hk' => ?_⟩ g) ?_
        · rcases List.mem_or_eq_of_mem_set hk' with h1 | h1
          · exact o3 k h1
          · subst h1
            refine ⟨okt, ?_⟩
            rw [hfl]; intro h0
            have := congrArg List.length h0
            rw [insK_len] at this; simp at this
        · intro r h hr
          rcases hr with ⟨t', rfl, hr⟩ | ⟨t1, m, t2, rfl, hr⟩
          · simp (disch := omega) only [go_sem, reduceCtorEq, ↓reduceIte, Nat.reduceEqDiff, Nat.reduceAdd, Nat.reduceSub, Nat.reduceMul, Nat.reduceLT, Nat.reduceLeDiff, Int.reduceEq, Int.reduceNe, Int.reduceLT, Int.reduceLE, Int.reduceBEq, Int.reduceBNe, Int.reduceToNat]
            exact .inl ⟨t', rfl, hr⟩
          · simp (disch := omega) only [go_sem, reduceCtorEq, ↓reduceIte, Nat.reduceEqDiff, Nat.reduceAdd, Nat.reduceSub, Nat.reduceMul, Nat.reduceLT, Nat.reduceLeDiff, Int.reduceEq, Int.reduceNe, Int.reduceLT, Int.reduceLE, Int.reduceBEq, Int.reduceBNe, Int.reduceToNat]
            exact .inr ⟨t1, m, t2, rfl, hr⟩
      · have g0 : sat h (pto p (.row 2 [[iv, kv]] 1) :: Ow 1 iv (is.map kpt) :: Ow 1 kv (ks.map fun k => pt k.root) :: t1.asr :: t2.asr :: ((ks.take j).map Tr.asr ++ ((ks.drop (j + 1)).map Tr.asr ++ F))) :=
          hs.p1.p1.p4.p4.p4
        simp (disch := omega) only [go_sem, reduceCtorEq, ↓reduceIte, Nat.reduceEqDiff, Nat.reduceAdd, Nat.reduceSub, Nat.reduceMul, Nat.reduceLT, Nat.reduceLeDiff, Int.reduceEq, Int.reduceNe, Int.reduceLT, Int.reduceLE, Int.reduceBEq, Int.reduceBNe, Int.reduceToNat, g0.at]
        have hs := g0
        refine new_opq hs fun bx h hs => ?_
        simp (disch := omega) only [go_sem, reduceCtorEq, ↓reduceIte, Nat.reduceEqDiff, Nat.reduceAdd, Nat.reduceSub, Nat.reduceMul, Nat.reduceLT, Nat.reduceLeDiff, Int.reduceEq, Int.reduceNe, Int.reduceLT, Int.reduceLE, Int.reduceBEq, Int.reduceBNe, Int.reduceToNat, hs.at]
        rw [kpt_pt] at hs
        refine call_use (ins_item (x := m.1) (i := j) (hs.p3.p2.p2.p3) (by simpa using hp.le) (by simp; omega) (Nat.le_refl _)) ?_
        intro iv' h hs
        have hc := hs.els.cells
        have ha := hs.els.atom
        have g := hs.p1
        simp (disch := omega) only [go_sem, reduceCtorEq, ↓reduceIte, Nat.reduceEqDiff, Nat.reduceAdd, Nat.reduceSub, Nat.reduceMul, Nat.reduceLT, Nat.reduceLeDiff, Int.reduceEq, Int.reduceNe, Int.reduceLT, Int.reduceLE, Int.reduceBEq, Int.reduceBNe, Int.reduceToNat, g.at, hc, ha]
        have hj1 : (j : Int) + 1 = ((j + 1 : Nat) : Int) := rfl
        have hs := g.set (o' := .row 2 [[iv', kv]] 1)
        simp (disch := omega) only [go_sem, reduceCtorEq, ↓reduceIte, Nat.reduceEqDiff, Nat.reduceAdd, Nat.reduceSub, Nat.reduceMul, Nat.reduceLT, Nat.reduceLeDiff, Int.reduceEq, Int.reduceNe, Int.reduceLT, Int.reduceLE, Int.reduceBEq, Int.reduceBNe, Int.reduceToNat, hs.at, hj1]
        refine new_opq hs fun b2 h hs => ?_
        simp (disch := omega) only [go_sem, reduceCtorEq, ↓reduceIte, Nat.reduceEqDiff, Nat.reduceAdd, Nat.reduceSub, Nat.reduceMul, Nat.reduceLT, Nat.reduceLeDiff, Int.reduceEq, Int.reduceNe, Int.reduceLT, Int.reduceLE, Int.reduceBEq, Int.reduceBNe, Int.reduceToNat, hs.at]
        rw [rt_pt] at hs
        refine call_use (ins_node (x := t2.root) (i := j + 1) (hs.p2.p2.p2.p3) (by simp; omega) (by simp; omega) (Nat.le_refl _)) ?_
        intro kv' h hs
        have hc := hs.els.cells
        have ha := hs.els.atom
        have g := hs.p1
        simp (disch := omega) only [go_sem, reduceCtorEq, ↓reduceIte, Nat.reduceEqDiff, Nat.reduceAdd, Nat.reduceSub, Nat.reduceMul, Nat.reduceLT, Nat.reduceLeDiff, Int.reduceEq, Int.reduceNe, Int.reduceLT, Int.reduceLE, Int.reduceBEq, Int.reduceBNe, Int.reduceToNat, g.at, hc, ha]
        have g2 := g.set (o' := .row 2 [[iv', kv']] 1)
        have e1 : ((is.map fun x => x.1).take j ++ m.1 :: (is.map fun x => x.1).drop j).map pt = (is.take j ++ m :: is.drop j).map kpt := by
          rw [kpt_pt]; simp
        have e2 : ((ks.map Tr.root).take (j + 1) ++ t2.root :: (ks.map Tr.root).drop (j + 1)).map pt = (ks.take j ++ t1 :: t2 :: ks.drop (j + 1)).map fun k => pt k.root := by
          have : (ks.map Tr.root).take (j + 1) = (ks.take j).map Tr.root ++ [t1.root] := by
            rw [List.take_succ_eq_append_getElem (by simpa using hjk), hroot]; simp
          rw [this, rt_pt]; simp
        rw [e1, e2] at g2
        generalize h.set p (.row 2 [[iv', kv']] 1) = hh at g2 ⊢
        have g3 : sat hh (Tr.parts p iv' kv' (is.take j ++ m :: is.drop j) (ks.take j ++ t1 :: t2 :: ks.drop (j + 1)) ++ F) := by
          have e3 : Tr.parts p iv' kv' (is.take j ++ m :: is.drop j) (ks.take j ++ t1 :: t2 :: ks.drop (j + 1)) ++ F =
              [pto p (.row 2 [[iv', kv']] 1), Ow 1 iv' ((is.take j ++ m :: is.drop j).map kpt), Ow 1 kv' ((ks.take j ++ t1 :: t2 :: ks.drop (j + 1)).map fun k => pt k.root)] ++ ((ks.take j).map Tr.asr ++ ([t1.asr, t2.asr] ++ ((ks.drop (j + 1)).map Tr.asr ++ F))) := by
            unfold Tr.parts
            simp only [List.map_append, List.map_cons, List.cons_append, List.nil_append, List.append_assoc]
          rw [e3]
          refine sat.tls (l := [t1.asr, t2.asr] ++ ((ks.take j).map Tr.asr ++ ((ks.drop (j + 1)).map Tr.asr ++ F))) (g2.p4.p4.p3.p4.p4) fun h g => g.swapl
        have hwf : weave ((ks.take j ++ t1 :: t2 :: ks.drop (j + 1)).map Tr.flat) (is.take j ++ m :: is.drop j) = insK x (weave (ks.map Tr.flat) is) := by
          have := w3 t1.flat m t2.flat
          rw [hins, ← hfl]
          simp only [List.map_append, List.map_cons, List.map_take, List.map_drop]
          rw [this]; simp
        rw [← hwf]
        refine call_use (finish (d := d + 1) (by simp; have := hp.le; omega) ⟨by simp; omega, by simp; have := hp.le; omega, fun k hk' => ?_⟩ g3) ?_
        · rcases List.mem_append.1 hk' with h1 | h1
          · exact o3 k (List.mem_of_mem_take h1)
          · rcases List.mem_cons.1 h1 with h1 | h1
            · subst h1; exact ⟨ok1, hne1⟩
            · rcases List.mem_cons.1 h1 with h1 | h1
              · subst h1; exact ⟨ok2, hne2⟩
              · exact o3 k (List.mem_of_mem_drop h1)
        · intro r h hr
          rcases hr with ⟨t', rfl, hr⟩ | ⟨t1, m, t2, rfl, hr⟩
          · simp (disch := omega) only [go_sem, reduceCtorEq, ↓reduceIte, Nat.reduceEqDiff, Nat.reduceAdd, Nat.reduceSub, Nat.reduceMul, Nat.reduceLT, Nat.reduceLeDiff, Int.reduceEq, Int.reduceNe, Int.reduceLT, Int.reduceLE, Int.reduceBEq, Int.reduceBNe, Int.reduceToNat]
            exact .inl ⟨t', rfl, hr⟩
          · simp (disch := omega) only [go_sem, reduceCtorEq, ↓reduceIte, Nat.reduceEqDiff, Nat.reduceAdd, Nat.reduceSub, Nat.reduceMul, Nat.reduceLT, Nat.reduceLeDiff, Int.reduceEq, Int.reduceNe, Int.reduceLT, Int.reduceLE, Int.reduceBEq, Int.reduceBNe, Int.reduceToNat]
            exact .inr ⟨t1, m, t2, rfl, hr⟩
end
end Go.Proofs.Ytkclojjeepomfaa
/- add, New, Len, Height. -/
set_option linter.unusedSimpArgs false
set_option linter.unusedVariables false
set_option maxRecDepth 10000
namespace Go.Proofs.Ytkclojjeepomfaa
open Go.Hz

section
variable {h : Hp} {F : List Asr}
theorem ixNew (hs : sat h F) : Triple Try.prog 31 [] h (fun r h => ∃ b, r = .ptr b 2 0 0 ∧ sat h (IxQ b [] :: F)) := by
  refine t31 (Nat.le_of_ble_eq_true rfl) ?_
  simp (disch := omega) only [F31, go_sem, reduceCtorEq, ↓reduceIte, Nat.reduceEqDiff, Nat.reduceAdd, Nat.reduceSub, Nat.reduceMul, Nat.reduceLT, Nat.reduceLeDiff, Int.reduceEq, Int.reduceNe, Int.reduceLT, Int.reduceLE, Int.reduceBEq, Int.reduceBNe, Int.reduceToNat]
  refine new_opq hs fun b h hs => ?_
  simp (disch := omega) only [go_sem, reduceCtorEq, ↓reduceIte, Nat.reduceEqDiff, Nat.reduceAdd, Nat.reduceSub, Nat.reduceMul, Nat.reduceLT, Nat.reduceLeDiff, Int.reduceEq, Int.reduceNe, Int.reduceLT, Int.reduceLE, Int.reduceBEq, Int.reduceBNe, Int.reduceToNat, hs.at]
  exact ⟨b, rfl, sat_ixq.2 ⟨none, rfl, hs.tl fun _ g => g.add trivial⟩⟩

theorem eqN_root (r : Option (Nat × Tr)) : eqN .ptr (rootV r) .nilp = some r.isNone := by
  cases r <;> rfl
theorem ixAdd {b : Nat} {its : List Ixt} {x : Ixt} (hs : sat h (IxQ b its :: x.p :: F)) (hS : SrtI its) (hx : ∀ y ∈ its, y.key ≠ x.key) (hl : its.length ≤ 1000000000) :
    Triple Try.prog 77 [.ptr b 2 0 0, .ptr x.a 2 0 0] h (fun r h => sat h (IxQ b (insIt x its) :: F)) := by
  obtain ⟨r, hok, g⟩ := sat_ixq.1 hs
  refine t77 (Nat.le_of_ble_eq_true rfl) ?_
  simp (disch := omega) only [F77, go_sem, reduceCtorEq, ↓reduceIte, Nat.reduceEqDiff, Nat.reduceAdd, Nat.reduceSub, Nat.reduceMul, Nat.reduceLT, Nat.reduceLeDiff, Int.reduceEq, Int.reduceNe, Int.reduceLT, Int.reduceLE, Int.reduceBEq, Int.reduceBNe, Int.reduceToNat]
  have h1 := g.at
  have en : ((its.length : Int) + 1) = ((its.length + 1 : Nat) : Int) := rfl
  have g1 := g.set (o' := .row 2 [[rootV r, .int .i64 ((its.length + 1 : Nat) : Int)]] 1)
  have hw : IntKind.i64.wrap ((its.length + 1 : Nat) : Int) = ((its.length + 1 : Nat) : Int) := wrap_i64_go (by omega) (by omega)
  simp (disch := omega) only [go_sem, reduceCtorEq, ↓reduceIte, Nat.reduceEqDiff, Nat.reduceAdd, Nat.reduceSub, Nat.reduceMul, Nat.reduceLT, Nat.reduceLeDiff, Int.reduceEq, Int.reduceNe, Int.reduceLT, Int.reduceLE, Int.reduceBEq, Int.reduceBNe, Int.reduceToNat, h1, en, hw, eqN_root]
  refine cnd_join (Q := fun e h => ∃ d t, OKd d t ∧ t.flat = its.map Ixt.kp ∧ sat h (pto b (.row 2 [[.ptr t.root 2 0 0, .int .i64 ((its.length + 1 : Nat) : Int)]] 1) :: t.asr :: (its.map Ixt.p ++ x.p :: F)) ∧ (e 0 = .ptr b 2 0 0 ∧ e 1 = .ptr x.a 2 0 0)) ?_ ?_
  · cases r with
    | none =>
      have hi0 : its.map Ixt.kp = [] := hok
      simp only [rootV] at g1 ⊢
      simp (disch := omega) only [go_sem, reduceCtorEq, ↓reduceIte, Nat.reduceEqDiff, Nat.reduceAdd, Nat.reduceSub, Nat.reduceMul, Nat.reduceLT, Nat.reduceLeDiff, Int.reduceEq, Int.reduceNe, Int.reduceLT, Int.reduceLE, Int.reduceBEq, Int.reduceBNe, Int.reduceToNat, Option.isNone_none]
      have hs := g1
      refine new_opq hs fun p h hs => ?_
      simp (disch := omega) only [go_sem, reduceCtorEq, ↓reduceIte, Nat.reduceEqDiff, Nat.reduceAdd, Nat.reduceSub, Nat.reduceMul, Nat.reduceLT, Nat.reduceLeDiff, Int.reduceEq, Int.reduceNe, Int.reduceLT, Int.reduceLE, Int.reduceBEq, Int.reduceBNe, Int.reduceToNat, hs.at]
      have g2 := hs.p1.set (o' := .row 2 [[.ptr p 2 0 0, .int .i64 ((its.length + 1 : Nat) : Int)]] 1)
      simp (disch := omega) only [go_sem, reduceCtorEq, ↓reduceIte, Nat.reduceEqDiff, Nat.reduceAdd, Nat.reduceSub, Nat.reduceMul, Nat.reduceLT, Nat.reduceLeDiff, Int.reduceEq, Int.reduceNe, Int.reduceLT, Int.reduceLE, Int.reduceBEq, Int.reduceBNe, Int.reduceToNat, hs.p1.at]
      refine ⟨0, .nd p .nils .nils [] [], ⟨by simp, rfl⟩, by rw [hi0, Tr.flat_nd]; rfl, ?_⟩
      refine g2.tl fun h g => sat_nd.2 ?_
      refine g.tl fun h g => ?_
      exact (g.drop.add ow_nil).add ow_nil
    | some dt =>
      obtain ⟨d, t⟩ := dt
      simp (disch := omega) only [go_sem, reduceCtorEq, ↓reduceIte, Nat.reduceEqDiff, Nat.reduceAdd, Nat.reduceSub, Nat.reduceMul, Nat.reduceLT, Nat.reduceLeDiff, Int.reduceEq, Int.reduceNe, Int.reduceLT, Int.reduceLE, Int.reduceBEq, Int.reduceBNe, Int.reduceToNat, Option.isNone_some]
      exact ⟨d, t, hok.1, hok.2, g1⟩
  · rintro e h ⟨d, t, ok, hfl, hs, he⟩
    simp (disch := omega) only [go_sem, reduceCtorEq, ↓reduceIte, Nat.reduceEqDiff, Nat.reduceAdd, Nat.reduceSub, Nat.reduceMul, Nat.reduceLT, Nat.reduceLeDiff, Int.reduceEq, Int.reduceNe, Int.reduceLT, Int.reduceLE, Int.reduceBEq, Int.reduceBNe, Int.reduceToNat, he, hs.at]
    have hS' : Srt t.flat := by rw [hfl]; exact hS
    refine call_use (insert d t x.kp ok hS' (hs.p1) (fun h hs => ?_) (fun h hs => ⟨x.mv, ?_⟩)) ?_
    · rw [hfl]; exact IR.of hs.drop
    · exact ItP.k hs.drop.mid
    · rintro r h (⟨t', rfl, ok', hroot, hfl', hs⟩ | ⟨t1, m, t2, rfl, ok1, ok2, hroot, hfl', hne1, hne2, hs⟩)
      · simp (disch := omega) only [go_sem, reduceCtorEq, ↓reduceIte, Nat.reduceEqDiff, Nat.reduceAdd, Nat.reduceSub, Nat.reduceMul, Nat.reduceLT, Nat.reduceLeDiff, Int.reduceEq, Int.reduceNe, Int.reduceLT, Int.reduceLE, Int.reduceBEq, Int.reduceBNe, Int.reduceToNat, he]
        refine sat_ixq.2 ⟨some (d, t'), ⟨ok', ?_⟩, ?_⟩
        · rw [hfl', insIt_kp, hfl]
        · rw [insIt_len]
          simp only [rootV, rootA, hroot]
          refine hs.p1.tl fun h g => g.tl fun h g => ?_
          have g2 := g.mid
          exact sat.permMap (l := x :: its) (insIt_perm x its).symm g2
      · simp (disch := omega) only [go_sem, reduceCtorEq, ↓reduceIte, Nat.reduceEqDiff, Nat.reduceAdd, Nat.reduceSub, Nat.reduceMul, Nat.reduceLT, Nat.reduceLeDiff, Int.reduceEq, Int.reduceNe, Int.reduceLT, Int.reduceLE, Int.reduceBEq, Int.reduceBNe, Int.reduceToNat, he]
        refine new_opq hs fun bi h hs => ?_
        simp (disch := omega) only [go_sem, reduceCtorEq, ↓reduceIte, Nat.reduceEqDiff, Nat.reduceAdd, Nat.reduceSub, Nat.reduceMul, Nat.reduceLT, Nat.reduceLeDiff, Int.reduceEq, Int.reduceNe, Int.reduceLT, Int.reduceLE, Int.reduceBEq, Int.reduceBNe, Int.reduceToNat, hs.at]
        have hb := hs.p2.p2.p2.p3.at
        simp (disch := omega) only [go_sem, reduceCtorEq, ↓reduceIte, Nat.reduceEqDiff, Nat.reduceAdd, Nat.reduceSub, Nat.reduceMul, Nat.reduceLT, Nat.reduceLeDiff, Int.reduceEq, Int.reduceNe, Int.reduceLT, Int.reduceLE, Int.reduceBEq, Int.reduceBNe, Int.reduceToNat, he, hb]
        refine new_opq hs fun bk h hs => ?_
        simp (disch := omega) only [go_sem, reduceCtorEq, ↓reduceIte, Nat.reduceEqDiff, Nat.reduceAdd, Nat.reduceSub, Nat.reduceMul, Nat.reduceLT, Nat.reduceLeDiff, Int.reduceEq, Int.reduceNe, Int.reduceLT, Int.reduceLE, Int.reduceBEq, Int.reduceBNe, Int.reduceToNat, hs.at]
        refine new_opq hs fun p h hs => ?_
        simp (disch := omega) only [go_sem, reduceCtorEq, ↓reduceIte, Nat.reduceEqDiff, Nat.reduceAdd, Nat.reduceSub, Nat.reduceMul, Nat.reduceLT, Nat.reduceLeDiff, Int.reduceEq, Int.reduceNe, Int.reduceLT, Int.reduceLE, Int.reduceBEq, Int.reduceBNe, Int.reduceToNat, hs.at]
        have g2 := (hs.p4.p4.p4.p4.p4.p5).set (o' := .row 2 [[.ptr p 2 0 0, .int .i64 ((its.length + 1 : Nat) : Int)]] 1)
        simp (disch := omega) only [go_sem, reduceCtorEq, ↓reduceIte, Nat.reduceEqDiff, Nat.reduceAdd, Nat.reduceSub, Nat.reduceMul, Nat.reduceLT, Nat.reduceLeDiff, Int.reduceEq, Int.reduceNe, Int.reduceLT, Int.reduceLE, Int.reduceBEq, Int.reduceBNe, Int.reduceToNat, hs.p4.p4.p4.p4.p4.p5.at]
        refine sat_ixq.2 ⟨some (d + 1, .nd p (.arr bi 1 0 1 1) (.arr bk 1 0 2 2) [m] [t1, t2]), ⟨⟨by simp, by simp, by simp, ?_⟩, ?_⟩, ?_⟩
        · intro k hk
          rcases List.mem_cons.1 hk with rfl | hk
          · exact ⟨ok1, hne1⟩
          · simp at hk; subst hk; exact ⟨ok2, hne2⟩
        · rw [Tr.flat_nd, insIt_kp, ← hfl, ← hfl']; simp [weave]
        · rw [insIt_len]
          refine g2.tl fun h g => ?_
          refine sat_nd.2 ?_
          have g3 : sat h ([pto p (.row 2 [[.arr bi 1 0 1 1, .arr bk 1 0 2 2]] 1), pto bi (.row 1 ([m].map kpt) 1), pto bk (.row 1 ([t1, t2].map fun k => pt k.root) 2), t1.asr, t2.asr] ++ (its.map Ixt.p ++ x.p :: F)) := by
            rw [hroot.symm] at g
            exact g.p4.p4.p3.p4.p4
          have g4 := g3.tls fun h g => sat.permMap (l := x :: its) (insIt_perm x its).symm g.mid
          exact g4.tl fun h g => (g.ow (cap := 1) (by simp)).tl fun h g => g.ow (cap := 2) (by simp)
end
end Go.Proofs.Ytkclojjeepomfaa
/- find, Marks, Put, by what the index says. -/
set_option linter.unusedSimpArgs false
set_option linter.unusedVariables false
set_option maxRecDepth 10000
namespace Go.Proofs.Ytkclojjeepomfaa
open Go.Hz

section
variable {h : Hp} {F : List Asr}
theorem ixFind {b : Nat} {its : List Ixt} {key : Key} (hs : sat h (IxQ b its :: F)) (hS : SrtI its) :
    Triple Try.prog 78 [.ptr b 2 0 0, .str key] h (fun r h => r = findV (its.map Ixt.kp) key ∧ sat h (IxQ b its :: F)) := by
  obtain ⟨r, hok, g⟩ := sat_ixq.1 hs
  refine (find g (fun h hs => hs.at) (l := its.map Ixt.kp) ?_ hS).mono ?_
  · cases r with
    | none => exact .inl ⟨rfl, hok⟩
    | some dt =>
      obtain ⟨d, t⟩ := dt
      refine .inr ⟨d, t, rfl, hok.2, hok.1, fun h hs => RT.of d t hok.1 hs.drop ?_⟩
      rw [hok.2]; exact IR.of hs.drop.drop
  · rintro r' h ⟨hr, hs⟩
    exact ⟨hr, sat_ixq.2 ⟨r, hok, hs⟩⟩
theorem findV_mid {l1 l2 : List Ixt} {x : Ixt} (hS : SrtI (l1 ++ x :: l2)) : findV ((l1 ++ x :: l2).map Ixt.kp) x.key = .ptr x.a 2 0 0 := by
  unfold findV
  have := findKp_mem (x := x.kp) hS (by simp)
  have h2 : findKp x.key ((l1 ++ x :: l2).map Ixt.kp) = some x.kp := this
  rw [h2]; rfl
theorem findV_none {its : List Ixt} {key : Key} (h : ∀ y ∈ its, y.key ≠ key) : findV (its.map Ixt.kp) key = .nilp := by
  unfold findV
  rw [findKp_none fun x hx => by
    obtain ⟨y, hy, rfl⟩ := List.mem_map.1 hx
    exact h y hy]

theorem putE_in {L : IL} {key : Key} {m : Mk} (c1 : key ≠ []) (c2 : key.length ≤ 100) (c3 : 1 ≤ m.1) {l : Mk} (hg : lastM (getL L key) = l) :
    putE L key m = if m.1 ≤ l.1 then 15 else if m.2 = true ∧ l.2 = true then 2 else 0 := by
  unfold putE
  rw [if_neg (by rintro (h | h | h) <;> first | exact c1 h | omega), hg]

theorem ixPut {b : Nat} {L : IL} {key : Key} {m : Mk} (hs : sat h (IxP b L :: F)) (hw : WfL L) (hl : ∀ x ∈ L, x.2.length ≤ 1000000000) (hn : L.length ≤ 1000000000) (hm : inI m.1) :
    Triple Try.prog 68 [.ptr b 2 0 0, .str key, .agg [.int .i64 m.1, .bool m.2]] h (fun r h => r = .int .i64 (putE L key m) ∧ sat h (IxP b (putL L key m) :: F)) := by
  refine t68 (Nat.le_of_ble_eq_true rfl) ?_
  simp (disch := omega) only [F68, go_sem, reduceCtorEq, ↓reduceIte, Nat.reduceEqDiff, Nat.reduceAdd, Nat.reduceSub, Nat.reduceMul, Nat.reduceLT, Nat.reduceLeDiff, Int.reduceEq, Int.reduceNe, Int.reduceLT, Int.reduceLE, Int.reduceBEq, Int.reduceBNe, Int.reduceToNat]
  refine new_opq hs fun b5 h hs => ?_
  simp (disch := omega) only [go_sem, reduceCtorEq, ↓reduceIte, Nat.reduceEqDiff, Nat.reduceAdd, Nat.reduceSub, Nat.reduceMul, Nat.reduceLT, Nat.reduceLeDiff, Int.reduceEq, Int.reduceNe, Int.reduceLT, Int.reduceLE, Int.reduceBEq, Int.reduceBNe, Int.reduceToNat, hs.at]
  have fin1 : putE L key m ≠ 0 → putL L key m = L := fun h => by simp [putL, h]
  by_cases c1 : key = []
  · subst c1
    have e : putE L [] m = 1 := by simp [putE]
    simp (disch := omega) only [go_sem, reduceCtorEq, ↓reduceIte, Nat.reduceEqDiff, Nat.reduceAdd, Nat.reduceSub, Nat.reduceMul, Nat.reduceLT, Nat.reduceLeDiff, Int.reduceEq, Int.reduceNe, Int.reduceLT, Int.reduceLE, Int.reduceBEq, Int.reduceBNe, Int.reduceToNat]
    rw [e, fin1 (by rw [e]; decide)]
    exact ⟨rfl, hs.drop⟩
  have c1' : (key == ([] : List UInt8)) = false := by rw [beq_eq_false_iff_ne]; exact c1
  by_cases c2 : 100 < key.length
  · have e : putE L key m = 1 := by simp [putE, c2]
    have c2' : decide ((100 : Int) < (key.length : Int)) = true := by simp; omega
    simp (disch := omega) only [go_sem, reduceCtorEq, ↓reduceIte, Nat.reduceEqDiff, Nat.reduceAdd, Nat.reduceSub, Nat.reduceMul, Nat.reduceLT, Nat.reduceLeDiff, Int.reduceEq, Int.reduceNe, Int.reduceLT, Int.reduceLE, Int.reduceBEq, Int.reduceBNe, Int.reduceToNat, c1', c2']
    rw [e, fin1 (by rw [e]; decide)]
    exact ⟨rfl, hs.drop⟩
  have c2' : decide ((100 : Int) < (key.length : Int)) = false := by simp; omega
  by_cases c3 : m.1 < 1
  · have e : putE L key m = 1 := by simp [putE, c3]
    have c3' : decide (m.1 < 1) = true := by simpa using c3
    simp (disch := omega) only [go_sem, reduceCtorEq, ↓reduceIte, Nat.reduceEqDiff, Nat.reduceAdd, Nat.reduceSub, Nat.reduceMul, Nat.reduceLT, Nat.reduceLeDiff, Int.reduceEq, Int.reduceNe, Int.reduceLT, Int.reduceLE, Int.reduceBEq, Int.reduceBNe, Int.reduceToNat, c1', c2', c3', hs.at]
    rw [e, fin1 (by rw [e]; decide)]
    exact ⟨rfl, hs.drop⟩
  have c3' : decide (m.1 < 1) = false := by simpa using c3
  simp (disch := omega) only [go_sem, reduceCtorEq, ↓reduceIte, Nat.reduceEqDiff, Nat.reduceAdd, Nat.reduceSub, Nat.reduceMul, Nat.reduceLT, Nat.reduceLeDiff, Int.reduceEq, Int.reduceNe, Int.reduceLT, Int.reduceLE, Int.reduceBEq, Int.reduceBNe, Int.reduceToNat, c1', c2', c3', hs.at]
  obtain ⟨its, hL, hq⟩ := sat_ixp.1 hs.p1
  have hS := SrtI.kv.2 (hL ▸ hw.1)
  refine call_use (ixFind (key := key) hq hS) ?_
  rintro r h ⟨hr, hs⟩
  subst hr
  rcases kv_cut (its := its) key with ⟨l1, x, l2, rfl, rfl⟩ | hnk
  · rw [findV_mid hS]
    have hLe : L = l1.map Ixt.kv ++ (x.key, x.ms) :: l2.map Ixt.kv := by rw [← hL]; simp [Ixt.kv]
    have hg : getL L x.key = x.ms := by rw [hLe, getL_mid (by rw [← hLe]; exact hw.1)]
    have hne : x.ms ≠ [] := (hw.2 (x.key, x.ms) (by rw [hLe]; simp)).1
    have hxl : x.ms.length ≤ 1000000000 := hl (x.key, x.ms) (by rw [hLe]; simp)
    obtain ⟨R, g, back⟩ := ixq_open hs
    have hs := sat_it.1 g
    have hpos : 0 < x.ms.length := List.length_pos_iff.2 hne
    have hlast : (x.ms.map mkE)[x.ms.length - 1]? = some (mkE (x.ms.getLast hne)) := by
      rw [List.getElem?_map, List.getLast_eq_getElem, List.getElem?_eq_getElem (by omega)]; rfl
    have hlm : lastM (getL L x.key) = x.ms.getLast hne := by rw [hg, lastM, List.getLast?_eq_some_getLast hne]; rfl
    have hE := putE_in (m := m) c1 (by omega) (by omega) hlm
    generalize x.ms.getLast hne = la at hlast hlm hE
    obtain ⟨bm, cm, hmv, hbm, hcm⟩ := hs.drop.owr.row hlast
    rw [List.length_map] at hmv
    have hlen := hs.drop.owr.len
    rw [List.length_map] at hlen
    have e1 : ((x.ms.length : Int) - 1) = ((x.ms.length - 1 : Nat) : Int) := by omega
    have hia : iaA 2 (.arr bm 2 0 x.ms.length cm) (.int .i64 ((x.ms.length - 1 : Nat) : Int)) = some (.ptr bm 2 (x.ms.length - 1) 0) := by
      rw [iaA_go (by omega) (by omega)]; simp
    simp (disch := omega) only [go_sem, reduceCtorEq, ↓reduceIte, Nat.reduceEqDiff, Nat.reduceAdd, Nat.reduceSub, Nat.reduceMul, Nat.reduceLT, Nat.reduceLeDiff, Int.reduceEq, Int.reduceNe, Int.reduceLT, Int.reduceLE, Int.reduceBEq, Int.reduceBNe, Int.reduceToNat]
    refine new_opq hs fun b8 h hs => ?_
    simp (disch := omega) only [go_sem, reduceCtorEq, ↓reduceIte, Nat.reduceEqDiff, Nat.reduceAdd, Nat.reduceSub, Nat.reduceMul, Nat.reduceLT, Nat.reduceLeDiff, Int.reduceEq, Int.reduceNe, Int.reduceLT, Int.reduceLE, Int.reduceBEq, Int.reduceBNe, Int.reduceToNat, hs.at]
    have hsB := hs.set (o' := .row 2 [[.int .i64 la.1, .bool la.2]] 1)
    have hs := hs.set (o' := .row 2 [[.int .i64 0, .bool true]] 1)
    have hbm2 := (hs.p1.p1.p2)
    rw [show x.m = Ow 2 (.arr bm 2 0 x.ms.length cm) (x.ms.map mkE) by unfold Ixt.m; rw [hmv]] at hbm2
    have hbm3 := (hbm2.arr).1.at
    simp (disch := omega) only [go_sem, reduceCtorEq, ↓reduceIte, Nat.reduceEqDiff, Nat.reduceAdd, Nat.reduceSub, Nat.reduceMul, Nat.reduceLT, Nat.reduceLeDiff, Int.reduceEq, Int.reduceNe, Int.reduceLT, Int.reduceLE, Int.reduceBEq, Int.reduceBNe, Int.reduceToNat, hs.p1.at, hlen, hmv, e1, hia, hbm3, hlast, mkE, hs.at]
    have hb5 := (hsB.p3.p3.p3.p3.p4).at
    simp (disch := omega) only [go_sem, reduceCtorEq, ↓reduceIte, Nat.reduceEqDiff, Nat.reduceAdd, Nat.reduceSub, Nat.reduceMul, Nat.reduceLT, Nat.reduceLeDiff, Int.reduceEq, Int.reduceNe, Int.reduceLT, Int.reduceLE, Int.reduceBEq, Int.reduceBNe, Int.reduceToNat, hb5]
    by_cases t1 : m.1 ≤ la.1
    · have t1' : decide (m.1 ≤ la.1) = true := by simpa using t1
      have e : putE L x.key m = 15 := by rw [hE, if_pos t1]
      simp (disch := omega) only [go_sem, reduceCtorEq, ↓reduceIte, Nat.reduceEqDiff, Nat.reduceAdd, Nat.reduceSub, Nat.reduceMul, Nat.reduceLT, Nat.reduceLeDiff, Int.reduceEq, Int.reduceNe, Int.reduceLT, Int.reduceLE, Int.reduceBEq, Int.reduceBNe, Int.reduceToNat, t1']
      rw [e, fin1 (by rw [e]; decide)]
      refine ⟨rfl, ?_⟩
      have g := (hsB.drop.p3.p3.p3.p3).d3
      exact sat_ixp.2 ⟨_, hL, back x _ F rfl rfl (sat_it.2 g)⟩
    have t1' : decide (m.1 ≤ la.1) = false := by simpa using t1
    simp (disch := omega) only [go_sem, reduceCtorEq, ↓reduceIte, Nat.reduceEqDiff, Nat.reduceAdd, Nat.reduceSub, Nat.reduceMul, Nat.reduceLT, Nat.reduceLeDiff, Int.reduceEq, Int.reduceNe, Int.reduceLT, Int.reduceLE, Int.reduceBEq, Int.reduceBNe, Int.reduceToNat, t1', hb5]
    by_cases t2 : m.2 = true ∧ la.2 = true
    · have e : putE L x.key m = 2 := by rw [hE, if_neg t1, if_pos t2]
      simp (disch := omega) only [go_sem, reduceCtorEq, ↓reduceIte, Nat.reduceEqDiff, Nat.reduceAdd, Nat.reduceSub, Nat.reduceMul, Nat.reduceLT, Nat.reduceLeDiff, Int.reduceEq, Int.reduceNe, Int.reduceLT, Int.reduceLE, Int.reduceBEq, Int.reduceBNe, Int.reduceToNat, t2.1, t2.2, hsB.at]
      rw [e, fin1 (by rw [e]; decide)]
      refine ⟨rfl, ?_⟩
      have g := (hsB.drop.p3.p3.p3.p3).d3
      rw [t2.2] at g
      exact sat_ixp.2 ⟨_, hL, back x _ F rfl rfl (sat_it.2 g)⟩
    have e : putE L x.key m = 0 := by rw [hE, if_neg t1, if_neg t2]
    have hput : putL L x.key m = (l1 ++ ⟨x.a, x.key, x.mv, x.ms ++ [m]⟩ :: l2).map Ixt.kv := by
      rw [putL, if_pos e, hg, hLe, layL_mid (by rw [← hLe]; exact hw.1)]; simp [Ixt.kv]
    rw [e, hput]
    have hy2 : ∀ h bn, h bn = some (.row 2 [mkE m] 1) → srcA 2 h (.arr bn 2 0 1 1) = some [mkE m] := fun h bn hh => src_one hh
    have hxk : x.k = pto x.a (.row 2 [[.str x.key, x.mv]] 1) := rfl
    have hxm : x.m = Ow 2 x.mv (x.ms.map mkE) := rfl
    obtain ⟨mr, md⟩ := m
    obtain ⟨lr, ld⟩ := la
    have t3 : md = false ∨ (md = true ∧ ld = false) := by
      cases md
      · exact .inl rfl
      · right; refine ⟨rfl, ?_⟩
        cases ld
        · rfl
        · exact absurd ⟨rfl, rfl⟩ t2
    rcases t3 with rfl | ⟨rfl, rfl⟩
    · simp (disch := omega) only [go_sem, reduceCtorEq, ↓reduceIte, Nat.reduceEqDiff, Nat.reduceAdd, Nat.reduceSub, Nat.reduceMul, Nat.reduceLT, Nat.reduceLeDiff, Int.reduceEq, Int.reduceNe, Int.reduceLT, Int.reduceLE, Int.reduceBEq, Int.reduceBNe, Int.reduceToNat, hb5, hsB.p1.at, hsB.at]
      have hs := hsB.p3.p3.p3.p3.p4
      refine new_opq hs fun bn h hs => ?_
      simp (disch := omega) only [go_sem, reduceCtorEq, ↓reduceIte, Nat.reduceEqDiff, Nat.reduceAdd, Nat.reduceSub, Nat.reduceMul, Nat.reduceLT, Nat.reduceLeDiff, Int.reduceEq, Int.reduceNe, Int.reduceLT, Int.reduceLE, Int.reduceBEq, Int.reduceBNe, Int.reduceToNat, hs.at]
      refine app_sat (es := x.ms.map mkE) (s := 2) (v := x.mv) (F := x.k :: R :: F) (hs.drop.drop.drop.p2.p1.p2.imp fun _ g => g) (hy2 _ bn hs.at) (atoms_mkE [_]) (by simp; omega) fun v' h hs hc' ha' => ?_
      simp (disch := omega) only [go_sem, reduceCtorEq, ↓reduceIte, Nat.reduceEqDiff, Nat.reduceAdd, Nat.reduceSub, Nat.reduceMul, Nat.reduceLT, Nat.reduceLeDiff, Int.reduceEq, Int.reduceNe, Int.reduceLT, Int.reduceLE, Int.reduceBEq, Int.reduceBNe, Int.reduceToNat, hc', ha', hs.p1.at]
      have g := hs.p1.set (o' := .row 2 [[.str x.key, v']] 1)
      refine sat_ixp.2 ⟨l1 ++ ⟨x.a, x.key, v', x.ms ++ [(mr, false)]⟩ :: l2, by simp [Ixt.kv], back ⟨x.a, x.key, v', x.ms ++ [(mr, false)]⟩ _ F rfl rfl (sat_it.2 ?_)⟩
      simpa [Ixt.k, Ixt.m, mkE] using g
    · simp (disch := omega) only [go_sem, reduceCtorEq, ↓reduceIte, Nat.reduceEqDiff, Nat.reduceAdd, Nat.reduceSub, Nat.reduceMul, Nat.reduceLT, Nat.reduceLeDiff, Int.reduceEq, Int.reduceNe, Int.reduceLT, Int.reduceLE, Int.reduceBEq, Int.reduceBNe, Int.reduceToNat, hb5, hsB.p1.at, hsB.at]
      have hs := hsB.p3.p3.p3.p3.p4
      refine new_opq hs fun bn h hs => ?_
      simp (disch := omega) only [go_sem, reduceCtorEq, ↓reduceIte, Nat.reduceEqDiff, Nat.reduceAdd, Nat.reduceSub, Nat.reduceMul, Nat.reduceLT, Nat.reduceLeDiff, Int.reduceEq, Int.reduceNe, Int.reduceLT, Int.reduceLE, Int.reduceBEq, Int.reduceBNe, Int.reduceToNat, hs.at]
      refine app_sat (es := x.ms.map mkE) (s := 2) (v := x.mv) (F := x.k :: R :: F) (hs.drop.drop.drop.p2.p1.p2.imp fun _ g => g) (hy2 _ bn hs.at) (atoms_mkE [_]) (by simp; omega) fun v' h hs hc' ha' => ?_
      simp (disch := omega) only [go_sem, reduceCtorEq, ↓reduceIte, Nat.reduceEqDiff, Nat.reduceAdd, Nat.reduceSub, Nat.reduceMul, Nat.reduceLT, Nat.reduceLeDiff, Int.reduceEq, Int.reduceNe, Int.reduceLT, Int.reduceLE, Int.reduceBEq, Int.reduceBNe, Int.reduceToNat, hc', ha', hs.p1.at]
      have g := hs.p1.set (o' := .row 2 [[.str x.key, v']] 1)
      refine sat_ixp.2 ⟨l1 ++ ⟨x.a, x.key, v', x.ms ++ [(mr, true)]⟩ :: l2, by simp [Ixt.kv], back ⟨x.a, x.key, v', x.ms ++ [(mr, true)]⟩ _ F rfl rfl (sat_it.2 ?_)⟩
      simpa [Ixt.k, Ixt.m, mkE] using g
  · rw [findV_none hnk]
    have hLk : ∀ y ∈ L, y.1 ≠ key := fun y hy => by
      rw [← hL] at hy
      obtain ⟨z, hz, rfl⟩ := List.mem_map.1 hy
      exact hnk z hz
    have hg : getL L key = [] := getL_none hLk
    have hlm : lastM (getL L key) = (0, true) := by rw [hg]; rfl
    have hE := putE_in (m := m) c1 (by omega) (by omega) hlm
    obtain ⟨mr, md⟩ := m
    simp (disch := omega) only [go_sem, reduceCtorEq, ↓reduceIte, Nat.reduceEqDiff, Nat.reduceAdd, Nat.reduceSub, Nat.reduceMul, Nat.reduceLT, Nat.reduceLeDiff, Int.reduceEq, Int.reduceNe, Int.reduceLT, Int.reduceLE, Int.reduceBEq, Int.reduceBNe, Int.reduceToNat]
    refine new_opq hs fun b8 h hs => ?_
    simp (disch := omega) only [go_sem, reduceCtorEq, ↓reduceIte, Nat.reduceEqDiff, Nat.reduceAdd, Nat.reduceSub, Nat.reduceMul, Nat.reduceLT, Nat.reduceLeDiff, Int.reduceEq, Int.reduceNe, Int.reduceLT, Int.reduceLE, Int.reduceBEq, Int.reduceBNe, Int.reduceToNat, hs.at]
    have hsB := hs.set (o' := .row 2 [[.int .i64 0, .bool true]] 1)
    have hb5 := (hsB.p1.p1.p2).at
    have t1' : decide (mr ≤ 0) = false := by simp at c3 ⊢; omega
    simp (disch := omega) only [go_sem, reduceCtorEq, ↓reduceIte, Nat.reduceEqDiff, Nat.reduceAdd, Nat.reduceSub, Nat.reduceMul, Nat.reduceLT, Nat.reduceLeDiff, Int.reduceEq, Int.reduceNe, Int.reduceLT, Int.reduceLE, Int.reduceBEq, Int.reduceBNe, Int.reduceToNat, hb5, t1']
    have t1 : ¬ mr ≤ 0 := by simpa using t1'
    cases md
    · have e : putE L key (mr, false) = 0 := by rw [hE, if_neg t1, if_neg (by simp)]
      simp (disch := omega) only [go_sem, reduceCtorEq, ↓reduceIte, Nat.reduceEqDiff, Nat.reduceAdd, Nat.reduceSub, Nat.reduceMul, Nat.reduceLT, Nat.reduceLeDiff, Int.reduceEq, Int.reduceNe, Int.reduceLT, Int.reduceLE, Int.reduceBEq, Int.reduceBNe, Int.reduceToNat, hb5]
      have hs := hsB.p1.p1.p2
      refine new_opq hs fun bn h hs => ?_
      simp (disch := omega) only [go_sem, reduceCtorEq, ↓reduceIte, Nat.reduceEqDiff, Nat.reduceAdd, Nat.reduceSub, Nat.reduceMul, Nat.reduceLT, Nat.reduceLeDiff, Int.reduceEq, Int.reduceNe, Int.reduceLT, Int.reduceLE, Int.reduceBEq, Int.reduceBNe, Int.reduceToNat, hs.at]
      refine new_opq hs fun ba h hs => ?_
      simp (disch := omega) only [go_sem, reduceCtorEq, ↓reduceIte, Nat.reduceEqDiff, Nat.reduceAdd, Nat.reduceSub, Nat.reduceMul, Nat.reduceLT, Nat.reduceLeDiff, Int.reduceEq, Int.reduceNe, Int.reduceLT, Int.reduceLE, Int.reduceBEq, Int.reduceBNe, Int.reduceToNat, hs.at]
      have hs := hs.p2.drop.p2.drop.p1.p1.p2
      have hx : ∀ y ∈ its, y.key ≠ (Ixt.mk ba key (.arr bn 2 0 1 1) [(mr, false)]).key := hnk
      have hq : sat h (IxQ b its :: (Ixt.mk ba key (.arr bn 2 0 1 1) [(mr, false)]).p :: F) :=
        hs.tl fun h g => sat_it.2 (g.tl fun h g => g.ow (by simp))
      refine call_use (ixAdd hq hS hx (by rw [← hL, List.length_map] at hn; exact hn)) ?_
      intro r h hs
      simp (disch := omega) only [go_sem, reduceCtorEq, ↓reduceIte, Nat.reduceEqDiff, Nat.reduceAdd, Nat.reduceSub, Nat.reduceMul, Nat.reduceLT, Nat.reduceLeDiff, Int.reduceEq, Int.reduceNe, Int.reduceLT, Int.reduceLE, Int.reduceBEq, Int.reduceBNe, Int.reduceToNat]
      rw [e]
      refine ⟨rfl, sat_ixp.2 ⟨_, ?_, hs⟩⟩
      rw [putL, if_pos e, ← hL, ← layL_new hS hx, hL, hg]; rfl
    · have e : putE L key (mr, true) = 2 := by rw [hE, if_neg t1, if_pos ⟨rfl, rfl⟩]
      simp (disch := omega) only [go_sem, reduceCtorEq, ↓reduceIte, Nat.reduceEqDiff, Nat.reduceAdd, Nat.reduceSub, Nat.reduceMul, Nat.reduceLT, Nat.reduceLeDiff, Int.reduceEq, Int.reduceNe, Int.reduceLT, Int.reduceLE, Int.reduceBEq, Int.reduceBNe, Int.reduceToNat, hsB.at]
      rw [e, fin1 (by rw [e]; decide)]
      exact ⟨rfl, sat_ixp.2 ⟨_, hL, (hsB.p1).d1.d1⟩⟩
end
end Go.Proofs.Ytkclojjeepomfaa
/- Keys; trimmed. -/
set_option linter.unusedSimpArgs false
set_option linter.unusedVariables false
set_option maxRecDepth 10000
namespace Go.Proofs.Ytkclojjeepomfaa
open Go.Hz

section
variable {h : Hp} {F : List Asr}
theorem atoms_str (l : List Key) : AtomsL (l.map fun k => [AV.str k]) := by
  intro e he v hv
  obtain ⟨k, _, rfl⟩ := List.mem_map.1 he
  simp only [List.mem_cons, List.not_mem_nil, or_false] at hv
  subst hv; rfl
theorem keys_filter {its : List Ixt} {lo hi : Key} : ((its.map Ixt.kp).filter (rngK lo hi)).map (fun x => x.2) = keysL (its.map Ixt.kv) lo hi := by
  unfold keysL
  rw [List.filter_map, List.map_map, List.map_map, List.filter_map]
  rfl

/-- The values of strings. -/
def strsV (l : List Key) : AV := .lst (l.map fun k => [.str k])

/-- What is added to a list, key by key. -/
def outA (bo : Nat) (pre : List Key) (done : List Kp) : Asr := fun h => ∃ ov, sat h [pto bo (.row 1 [[ov]] 1), Ow 1 ov ((pre ++ done.map fun x => x.2).map fun k => [.str k])]
theorem sat_outA {bo : Nat} {pre : List Key} {done : List Kp} : sat h (outA bo pre done :: F) ↔ ∃ ov, sat h (pto bo (.row 1 [[ov]] 1) :: Ow 1 ov ((pre ++ done.map fun x => x.2).map fun k => [.str k]) :: F) := by
  unfold outA
  rw [sat_ex]
  exact ⟨fun ⟨r, hs⟩ => ⟨r, sat_sl.1 hs⟩, fun ⟨r, hs⟩ => ⟨r, sat_sl (l1 := [_, _]) |>.2 hs⟩⟩

theorem ixKeysO {b : Nat} {L : IL} {lo hi : Key} (hs : sat h (IxP b L :: F)) (hw : WfL L) (hn : L.length ≤ 1000000000) :
    Triple Try.prog 54 [.ptr b 2 0 0, .str lo, .str hi] h (fun r h => sat h (Ow 1 r ((keysL L lo hi).map fun k => [.str k]) :: IxP b L :: F)) := by
  obtain ⟨its, hL, hq⟩ := sat_ixp.1 hs
  have hS := SrtI.kv.2 (hL ▸ hw.1)
  have hn2 : its.length ≤ 1000000000 := by rw [← hL, List.length_map] at hn; exact hn
  obtain ⟨r, hok, g⟩ := sat_ixq.1 hq
  clear hs hq
  refine t54 (Nat.le_of_ble_eq_true rfl) ?_
  simp (disch := omega) only [F54, go_sem, reduceCtorEq, ↓reduceIte, Nat.reduceEqDiff, Nat.reduceAdd, Nat.reduceSub, Nat.reduceMul, Nat.reduceLT, Nat.reduceLeDiff, Int.reduceEq, Int.reduceNe, Int.reduceLT, Int.reduceLE, Int.reduceBEq, Int.reduceBNe, Int.reduceToNat]
  have hs := g
  refine new_opq hs fun bo h hs => ?_
  simp (disch := omega) only [go_sem, reduceCtorEq, ↓reduceIte, Nat.reduceEqDiff, Nat.reduceAdd, Nat.reduceSub, Nat.reduceMul, Nat.reduceLT, Nat.reduceLeDiff, Int.reduceEq, Int.reduceNe, Int.reduceLT, Int.reduceLE, Int.reduceBEq, Int.reduceBNe, Int.reduceToNat, hs.at]
  have hb := hs.p1.at
  simp (disch := omega) only [go_sem, reduceCtorEq, ↓reduceIte, Nat.reduceEqDiff, Nat.reduceAdd, Nat.reduceSub, Nat.reduceMul, Nat.reduceLT, Nat.reduceLeDiff, Int.reduceEq, Int.reduceNe, Int.reduceLT, Int.reduceLE, Int.reduceBEq, Int.reduceBNe, Int.reduceToNat, hb]
  have hs0 : sat h (outA bo [] [] :: pto b (.row 2 [[rootV r, .int .i64 its.length]] 1) :: rootA r :: (its.map Ixt.p ++ F)) := sat_outA.2 ⟨.nils, hs.tl fun _ g => g.add ow_nil⟩
  have fin : ∀ h, sat h (outA bo [] ((its.map Ixt.kp).filter (rngK lo hi)) :: pto b (.row 2 [[rootV r, .int .i64 its.length]] 1) :: rootA r :: (its.map Ixt.p ++ F)) →
      ∃ ov, sat h (pto bo (.row 1 [[ov]] 1) :: Ow 1 ov ((keysL L lo hi).map fun k => [.str k]) :: IxP b L :: F) := by
    intro h hs
    obtain ⟨ov, hs⟩ := sat_outA.1 hs
    rw [List.nil_append, keys_filter, hL] at hs
    exact ⟨ov, hs.tl fun _ g => g.tl fun _ g => sat_ixp.2 ⟨its, hL, sat_ixq.2 ⟨r, hok, g⟩⟩⟩
  cases r with
  | none =>
    have h0 : its.map Ixt.kp = [] := hok
    refine call_use (walk0 hs0 lo hi _) ?_
    intro r h hs
    obtain ⟨ov, hs⟩ := fin h (by rw [h0]; exact hs)
    simp (disch := omega) only [go_sem, reduceCtorEq, ↓reduceIte, Nat.reduceEqDiff, Nat.reduceAdd, Nat.reduceSub, Nat.reduceMul, Nat.reduceLT, Nat.reduceLeDiff, Int.reduceEq, Int.reduceNe, Int.reduceLT, Int.reduceLE, Int.reduceBEq, Int.reduceBNe, Int.reduceToNat, hs.at]
    exact hs.drop
  | some dt =>
    obtain ⟨d, t⟩ := dt
    have hlf : ((its.map Ixt.kp).filter (rngK lo hi)).length ≤ 1000000000 := Nat.le_trans (List.length_filter_le _ _) (by simpa using hn2)
    refine call_use (walk (A := outA bo []) (full := (its.map Ixt.kp).filter (rngK lo hi)) (f := 81) (caps := [.ptr bo 1 0 0]) rfl ?_ d t [] h hok.1 (by rw [hok.2]; exact hS) (fun h hs => ?_) (by rw [hok.2, List.nil_append]; exact List.prefix_refl _) hs0) ?_
    · intro done x h hpre hs
      obtain ⟨ov, hs⟩ := sat_outA.1 hs
      have hx : x ∈ its.map Ixt.kp := (List.mem_filter.1 (hpre.subset (by simp))).1
      have hdl := hpre.length_le
      simp only [List.length_append, List.length_cons, List.length_nil] at hdl
      obtain ⟨mv, hm⟩ := IR.of (hs.drop.drop.drop.drop) x hx
      refine t81 (Nat.le_of_ble_eq_true rfl) ?_
      simp (disch := omega) only [F81, go_sem, reduceCtorEq, ↓reduceIte, Nat.reduceEqDiff, Nat.reduceAdd, Nat.reduceSub, Nat.reduceMul, Nat.reduceLT, Nat.reduceLeDiff, Int.reduceEq, Int.reduceNe, Int.reduceLT, Int.reduceLE, Int.reduceBEq, Int.reduceBNe, Int.reduceToNat]
      simp (disch := omega) only [go_sem, reduceCtorEq, ↓reduceIte, Nat.reduceEqDiff, Nat.reduceAdd, Nat.reduceSub, Nat.reduceMul, Nat.reduceLT, Nat.reduceLeDiff, Int.reduceEq, Int.reduceNe, Int.reduceLT, Int.reduceLE, Int.reduceBEq, Int.reduceBNe, Int.reduceToNat, hs.at, hm]
      refine new_opq hs fun bn h hs => ?_
      simp (disch := omega) only [go_sem, reduceCtorEq, ↓reduceIte, Nat.reduceEqDiff, Nat.reduceAdd, Nat.reduceSub, Nat.reduceMul, Nat.reduceLT, Nat.reduceLeDiff, Int.reduceEq, Int.reduceNe, Int.reduceLT, Int.reduceLE, Int.reduceBEq, Int.reduceBNe, Int.reduceToNat, hs.at]
      refine app_sat (hs.drop.p1) (src_one hs.at) (atoms_str [x.2]) (by simp; omega) fun v' h hs hc' ha' => ?_
      simp (disch := omega) only [go_sem, reduceCtorEq, ↓reduceIte, Nat.reduceEqDiff, Nat.reduceAdd, Nat.reduceSub, Nat.reduceMul, Nat.reduceLT, Nat.reduceLeDiff, Int.reduceEq, Int.reduceNe, Int.reduceLT, Int.reduceLE, Int.reduceBEq, Int.reduceBNe, Int.reduceToNat, hs.p1.at, hc', ha']
      have := hs.p1.set (o' := .row 1 [[v']] 1)
      refine sat_outA.2 ⟨v', ?_⟩
      simpa using this
    · exact RT.of d t hok.1 hs.drop (by rw [hok.2]; exact IR.of hs.drop.drop)
    · intro r h hs
      rw [hok.2, List.nil_append] at hs
      obtain ⟨ov, hs⟩ := fin h hs
      simp (disch := omega) only [go_sem, reduceCtorEq, ↓reduceIte, Nat.reduceEqDiff, Nat.reduceAdd, Nat.reduceSub, Nat.reduceMul, Nat.reduceLT, Nat.reduceLeDiff, Int.reduceEq, Int.reduceNe, Int.reduceLT, Int.reduceLE, Int.reduceBEq, Int.reduceBNe, Int.reduceToNat, hs.at]
      exact hs.drop
theorem clone_mark {b off len cap rc : Nat} {ms : List Mk} (hs : sat h (pto b (.row 2 (ms.map mkE) rc) :: F)) (h1 : off + len ≤ ms.length) (h2 : ms.length ≤ 1000000000) :
    Triple Try.prog 92 [.arr b 2 off len cap] h (fun r h => sat h (Ow 2 r (((ms.drop off).take len).map mkE) :: pto b (.row 2 (ms.map mkE) rc) :: F)) := by
  refine t92 (Nat.le_of_ble_eq_true rfl) ?_
  simp (disch := omega) only [F92, go_sem, reduceCtorEq, ↓reduceIte, Nat.reduceEqDiff, Nat.reduceAdd, Nat.reduceSub, Nat.reduceMul, Nat.reduceLT, Nat.reduceLeDiff, Int.reduceEq, Int.reduceNe, Int.reduceLT, Int.reduceLE, Int.reduceBEq, Int.reduceBNe, Int.reduceToNat]
  refine new_opq hs fun n h hs => ?_
  simp (disch := omega) only [go_sem, reduceCtorEq, ↓reduceIte, Nat.reduceEqDiff, Nat.reduceAdd, Nat.reduceSub, Nat.reduceMul, Nat.reduceLT, Nat.reduceLeDiff, Int.reduceEq, Int.reduceNe, Int.reduceLT, Int.reduceLE, Int.reduceBEq, Int.reduceBNe, Int.reduceToNat, hs.at]
  have hy : srcA 2 h (.arr b 2 off len cap) = some (((ms.drop off).take len).map mkE) := by
    have := src_part (c := cap) hs.p1 (off := off) (len := len) (by simpa using h1)
    rw [this]; simp
  refine app_sat (hs.ow (by simp)) hy (atoms_mkE _) (by simp; omega) fun v' h hs hc' ha' => ?_
  simp (disch := omega) only [go_sem, reduceCtorEq, ↓reduceIte, Nat.reduceEqDiff, Nat.reduceAdd, Nat.reduceSub, Nat.reduceMul, Nat.reduceLT, Nat.reduceLeDiff, Int.reduceEq, Int.reduceNe, Int.reduceLT, Int.reduceLE, Int.reduceBEq, Int.reduceBNe, Int.reduceToNat]
  simpa using hs
end
end Go.Proofs.Ytkclojjeepomfaa
/- trimmed, Trim, Height. -/
set_option linter.unusedSimpArgs false
set_option linter.unusedVariables false
set_option maxRecDepth 10000
namespace Go.Proofs.Ytkclojjeepomfaa
open Go.Hz

section
variable {h : Hp} {F : List Asr}
theorem trimmed {mv : AV} {ms : List Mk} {rev : Int} (hs : sat h (Ow 2 mv (ms.map mkE) :: F)) (hne : ms ≠ []) (hr : RisM ms) (hl : ms.length ≤ 1000000000) :
    Triple Try.prog 76 [mv, .int .i64 rev] h (fun r h => sat h (Ow 2 r ((trimM ms rev).map mkE) :: F)) := by
  obtain ⟨m0, hm0⟩ : ∃ m, ms[0]? = some m := ⟨_, List.getElem?_eq_getElem (List.length_pos_iff.2 hne)⟩
  obtain ⟨b, cap, rfl, g, hc⟩ : ∃ b cap, mv = .arr b 2 0 ms.length cap ∧ sat h (pto b (.row 2 (ms.map mkE) cap) :: F) ∧ ms.length ≤ cap := by
    rcases hs.cases with ⟨_, h0, _⟩ | ⟨b, cap, hv, g, hc⟩
    · exact absurd (by simpa using h0) hne
    · rw [List.length_map] at hv hc; exact ⟨b, cap, hv, g, hc⟩
  clear hs
  refine t76 (Nat.le_of_ble_eq_true rfl) ?_
  simp (disch := omega) only [F76, go_sem, reduceCtorEq, ↓reduceIte, Nat.reduceEqDiff, Nat.reduceAdd, Nat.reduceSub, Nat.reduceMul, Nat.reduceLT, Nat.reduceLeDiff, Int.reduceEq, Int.reduceNe, Int.reduceLT, Int.reduceLE, Int.reduceBEq, Int.reduceBNe, Int.reduceToNat]
  have hs := g
  refine new_opq hs fun b2 h hs => ?_
  simp (disch := omega) only [go_sem, reduceCtorEq, ↓reduceIte, Nat.reduceEqDiff, Nat.reduceAdd, Nat.reduceSub, Nat.reduceMul, Nat.reduceLT, Nat.reduceLeDiff, Int.reduceEq, Int.reduceNe, Int.reduceLT, Int.reduceLE, Int.reduceBEq, Int.reduceBNe, Int.reduceToNat, hs.at]
  refine new_opq hs fun b3 h hs => ?_
  simp (disch := omega) only [go_sem, reduceCtorEq, ↓reduceIte, Nat.reduceEqDiff, Nat.reduceAdd, Nat.reduceSub, Nat.reduceMul, Nat.reduceLT, Nat.reduceLeDiff, Int.reduceEq, Int.reduceNe, Int.reduceLT, Int.reduceLE, Int.reduceBEq, Int.reduceBNe, Int.reduceToNat, hs.at]
  have hb2 := hs.p1.at
  simp (disch := omega) only [go_sem, reduceCtorEq, ↓reduceIte, Nat.reduceEqDiff, Nat.reduceAdd, Nat.reduceSub, Nat.reduceMul, Nat.reduceLT, Nat.reduceLeDiff, Int.reduceEq, Int.reduceNe, Int.reduceLT, Int.reduceLE, Int.reduceBEq, Int.reduceBNe, Int.reduceToNat, hb2]
  refine call_use (search (N := ms.length) (f := 91) (caps := [.ptr b2 1 0 0, .ptr b3 1 0 0]) (pr := fun i => match ms[i]? with | some m => decide (rev < m.1) | none => true) hs (by omega) rfl ?_ ?_) ?_
  · intro i j hij hj hp
    have hx := List.getElem?_eq_getElem hj
    have hy := List.getElem?_eq_getElem (Nat.lt_of_le_of_lt hij hj)
    simp only [hx, hy, decide_eq_true_eq] at hp ⊢
    by_cases hij' : i = j
    · subst hij'; exact hp
    · have := hr.mono (by omega) hy hx
      omega
  · intro i h hi hs
    have hx := List.getElem?_eq_getElem hi
    have hrow : (ms.map mkE)[i]? = some (mkE ms[i]) := by simp [hx]
    have hia : iaA 2 (.arr b 2 0 ms.length cap) (.int .i64 i) = some (.ptr b 2 i 0) := by rw [iaA_go (by omega) (by omega)]; simp
    refine t91 (Nat.le_of_ble_eq_true rfl) ?_
    simp (disch := omega) only [F91, go_sem, reduceCtorEq, ↓reduceIte, Nat.reduceEqDiff, Nat.reduceAdd, Nat.reduceSub, Nat.reduceMul, Nat.reduceLT, Nat.reduceLeDiff, Int.reduceEq, Int.reduceNe, Int.reduceLT, Int.reduceLE, Int.reduceBEq, Int.reduceBNe, Int.reduceToNat]
    have hb3 := hs.at
    have hb2 := hs.p1.at
    have hb := hs.p2.at
    simp (disch := omega) only [go_sem, reduceCtorEq, ↓reduceIte, Nat.reduceEqDiff, Nat.reduceAdd, Nat.reduceSub, Nat.reduceMul, Nat.reduceLT, Nat.reduceLeDiff, Int.reduceEq, Int.reduceNe, Int.reduceLT, Int.reduceLE, Int.reduceBEq, Int.reduceBNe, Int.reduceToNat, hb2, hb3, hia, hb, hrow, mkE]
    simp only [hx]
    exact ⟨trivial, hs⟩
  · rintro r h ⟨k, rfl, hk, hlo, hhi, hs⟩
    have hcnt : cntM ms rev = k := cntM_eq hk (fun i m hi hik => by
      have := hlo i hik
      simp only [hi, decide_eq_false_iff_not] at this; omega) (fun i m hi hik => by
      have := hhi i hik (List.getElem?_eq_some_iff.1 hi).1
      simpa [hi] using this)
    have hb2 := hs.p1.at
    simp (disch := omega) only [go_sem, reduceCtorEq, ↓reduceIte, Nat.reduceEqDiff, Nat.reduceAdd, Nat.reduceSub, Nat.reduceMul, Nat.reduceLT, Nat.reduceLeDiff, Int.reduceEq, Int.reduceNe, Int.reduceLT, Int.reduceLE, Int.reduceBEq, Int.reduceBNe, Int.reduceToNat, hb2]
    by_cases hk0 : k = 0
    · have c1 : decide ((k : Int) - 1 < 0) = true := by simp; omega
      simp (disch := omega) only [go_sem, reduceCtorEq, ↓reduceIte, Nat.reduceEqDiff, Nat.reduceAdd, Nat.reduceSub, Nat.reduceMul, Nat.reduceLT, Nat.reduceLeDiff, Int.reduceEq, Int.reduceNe, Int.reduceLT, Int.reduceLE, Int.reduceBEq, Int.reduceBNe, Int.reduceToNat, c1, hb2]
      rw [trimM, if_pos (by rw [hcnt, hk0])]
      have := (hs.drop.drop).ow (by simpa using hc)
      rw [List.length_map] at this
      exact this
    · have c1 : decide (((k - 1 : Nat) : Int) < 0) = false := by simp
      have e1 : ((k : Int) - 1) = ((k - 1 : Nat) : Int) := by omega
      have hx := List.getElem?_eq_getElem (l := ms) (i := k - 1) (by omega)
      have hrow : (ms.map mkE)[k - 1]? = some (mkE ms[k - 1]) := by simp [hx]
      have hia : iaA 2 (.arr b 2 0 ms.length cap) (.int .i64 ((k - 1 : Nat) : Int)) = some (.ptr b 2 (k - 1) 0) := by rw [iaA_go (by omega) (by omega)]; simp
      have hb := hs.p2.at
      simp (disch := omega) only [go_sem, reduceCtorEq, ↓reduceIte, Nat.reduceEqDiff, Nat.reduceAdd, Nat.reduceSub, Nat.reduceMul, Nat.reduceLT, Nat.reduceLeDiff, Int.reduceEq, Int.reduceNe, Int.reduceLT, Int.reduceLE, Int.reduceBEq, Int.reduceBNe, Int.reduceToNat, c1, hb2, e1, hia, hb, hrow, mkE]
      have ht : trimM ms rev = ms.drop (if ms[k - 1].2 = true then k else k - 1) := by
        rw [trimM, if_neg (by rw [hcnt]; exact hk0), hcnt, List.getD_eq_getElem?_getD, hx]; rfl
      generalize ha : (if ms[k - 1].2 = true then k else k - 1) = a at ht
      have hal : a ≤ ms.length := by subst ha; split <;> omega
      refine cnd_join (Q := fun e' h' => h' = h ∧ (e' 2 = .ptr b2 1 0 0 ∧ e' 5 = .int .i64 (a : Nat))) ?_ ?_
      · cases hd : ms[k - 1].2
        · rw [hd] at ha
          subst ha
          simp (disch := omega) only [go_sem, reduceCtorEq, ↓reduceIte, Nat.reduceEqDiff, Nat.reduceAdd, Nat.reduceSub, Nat.reduceMul, Nat.reduceLT, Nat.reduceLeDiff, Int.reduceEq, Int.reduceNe, Int.reduceLT, Int.reduceLE, Int.reduceBEq, Int.reduceBNe, Int.reduceToNat]
        · rw [hd] at ha
          subst ha
          have e2 : ((k - 1 : Nat) : Int) + 1 = (k : Int) := by omega
          simp (disch := omega) only [go_sem, reduceCtorEq, ↓reduceIte, Nat.reduceEqDiff, Nat.reduceAdd, Nat.reduceSub, Nat.reduceMul, Nat.reduceLT, Nat.reduceLeDiff, Int.reduceEq, Int.reduceNe, Int.reduceLT, Int.reduceLE, Int.reduceBEq, Int.reduceBNe, Int.reduceToNat, e2]
      · rintro e h' ⟨rfl, he⟩
        simp (disch := omega) only [go_sem, reduceCtorEq, ↓reduceIte, Nat.reduceEqDiff, Nat.reduceAdd, Nat.reduceSub, Nat.reduceMul, Nat.reduceLT, Nat.reduceLeDiff, Int.reduceEq, Int.reduceNe, Int.reduceLT, Int.reduceLE, Int.reduceBEq, Int.reduceBNe, Int.reduceToNat, he, hb2, slcL_lo]
        refine call_use (clone_mark (off := a) (len := ms.length - a) (hs.drop.drop) (by omega) hl) ?_
        intro r h hs
        simp (disch := omega) only [go_sem, reduceCtorEq, ↓reduceIte, Nat.reduceEqDiff, Nat.reduceAdd, Nat.reduceSub, Nat.reduceMul, Nat.reduceLT, Nat.reduceLeDiff, Int.reduceEq, Int.reduceNe, Int.reduceLT, Int.reduceLE, Int.reduceBEq, Int.reduceBNe, Int.reduceToNat]
        rw [ht]
        have := hs.d1
        rw [List.take_of_length_le (by simp)] at this
        exact this

end
end Go.Proofs.Ytkclojjeepomfaa
/- Height. -/
set_option linter.unusedSimpArgs false
set_option linter.unusedVariables false
set_option maxRecDepth 10000
namespace Go.Proofs.Ytkclojjeepomfaa
open Go.Hz

section
variable {h : Hp} {F : List Asr}
end
end Go.Proofs.Ytkclojjeepomfaa
/- The store: a key at a revision. -/
set_option linter.unusedSimpArgs false
set_option linter.unusedVariables false
set_option maxRecDepth 10000
namespace Go.Proofs.Ytkclojjeepomfaa
open Go.Hz

abbrev tp : Nat := 87
abbrev td : Nat := 93
abbrev StP (s : Nat) (A : Sto) (o : AV) : Asr := MvP tp td s A o

section
variable {h : Hp} {F : List Asr} {s : Nat} {A : Sto} {o : AV}

theorem putKey {kv : Kv} (hs : sat h F) : Triple Try.prog 146 [.agg (kvC kv)] h (fun r h => r = .str kv.key ∧ sat h F) := by
  refine t146 (Nat.le_of_ble_eq_true rfl) ?_
  simp (disch := omega) only [F146, kvC, go_sem, reduceCtorEq, ↓reduceIte, Nat.reduceEqDiff, Nat.reduceAdd, Nat.reduceSub, Nat.reduceMul, Nat.reduceLT, Nat.reduceLeDiff, Int.reduceEq, Int.reduceNe, Int.reduceLT, Int.reduceLE, Int.reduceBEq, Int.reduceBNe, Int.reduceToNat]
  refine new_opq hs fun a h hs => ?_
  have ha := hs.at
  simp (disch := omega) only [go_sem, reduceCtorEq, ↓reduceIte, Nat.reduceEqDiff, Nat.reduceAdd, Nat.reduceSub, Nat.reduceMul, Nat.reduceLT, Nat.reduceLeDiff, Int.reduceEq, Int.reduceNe, Int.reduceLT, Int.reduceLE, Int.reduceBEq, Int.reduceBNe, Int.reduceToNat, ha]
  exact hs.drop
theorem delKey {k : Key} (hs : sat h F) : Triple Try.prog 147 [.agg [.str k]] h (fun r h => r = .str k ∧ sat h F) := by
  refine t147 (Nat.le_of_ble_eq_true rfl) ?_
  simp (disch := omega) only [F147, go_sem, reduceCtorEq, ↓reduceIte, Nat.reduceEqDiff, Nat.reduceAdd, Nat.reduceSub, Nat.reduceMul, Nat.reduceLT, Nat.reduceLeDiff, Int.reduceEq, Int.reduceNe, Int.reduceLT, Int.reduceLE, Int.reduceBEq, Int.reduceBNe, Int.reduceToNat]
  refine new_opq hs fun a h hs => ?_
  have ha := hs.at
  simp (disch := omega) only [go_sem, reduceCtorEq, ↓reduceIte, Nat.reduceEqDiff, Nat.reduceAdd, Nat.reduceSub, Nat.reduceMul, Nat.reduceLT, Nat.reduceLeDiff, Int.reduceEq, Int.reduceNe, Int.reduceLT, Int.reduceLE, Int.reduceBEq, Int.reduceBNe, Int.reduceToNat, ha]
  exact hs.drop
theorem meth_put : methOf Try.prog tp "horologe/mvcc.key" = some 146 := by kernel_rfl
theorem meth_del : methOf Try.prog td "horologe/mvcc.key" = some 147 := by kernel_rfl
/-- A change's key. -/
theorem inv_key {st : List Fr} {e : Env} {k : Kt} {d : Option Nat} {r : List (AItem × List AItem)} {obl : List AItem} (hs : sat h F) (c : Ch)
    (hk : ∀ h', sat h' F → obls Try.prog obl (e.put d (.str c.key)) h' ∧ runS Try.prog r st (e.put d (.str c.key)) h' k) : effR Try.prog (invE Try.prog "horologe/mvcc.key" (chV tp td c) [] h) obl d r st e k := by
  unfold effR
  cases c with
  | put kv =>
    simp only [invE, chV, meth_put]
    exact ⟨okFn_ok rfl, (putKey hs).mono fun v h' ⟨h1, h2⟩ => by subst h1; exact hk h' h2⟩
  | del k =>
    simp only [invE, chV, meth_del]
    exact ⟨okFn_ok rfl, (delKey hs).mono fun v h' ⟨h1, h2⟩ => by subst h1; exact hk h' h2⟩
theorem mvRev (hs : sat h (StP s A o :: F)) : Triple Try.prog 17 [.ptr s 7 0 0] h (fun r h => r = .int .i64 A.rev ∧ sat h (StP s A o :: F)) := by
  obtain ⟨ix, vm, cv, L, X, hok, hs2⟩ := mvP.1 hs
  have hp := hs2.at
  refine t17 (Nat.le_of_ble_eq_true rfl) ?_
  simp (disch := omega) only [F17, hp, go_sem, reduceCtorEq, ↓reduceIte, Nat.reduceEqDiff, Nat.reduceAdd, Nat.reduceSub, Nat.reduceMul, Nat.reduceLT, Nat.reduceLeDiff, Int.reduceEq, Int.reduceNe, Int.reduceLT, Int.reduceLE, Int.reduceBEq, Int.reduceBNe, Int.reduceToNat]
  exact mvP.2 ⟨ix, vm, cv, L, X, hok, hs2⟩
theorem at1 {b c q : Nat} {vs : List Ver} {rev : Int} {cap : Nat} (hs : sat h (pto b (.row 1 [[.arr q 2 0 vs.length cap]] 1) :: pto c (.row 1 [[.int .i64 rev]] 1) :: pto q (.row 2 (vs.map (verC tp td)) cap) :: F)) {i : Nat} (hi : i < vs.length) :
    Triple Try.prog 71 [.int .i64 i, .ptr b 1 0 0, .ptr c 1 0 0] h (fun r h => r = .bool (decide (vs[i].rev > rev)) ∧ sat h (pto b (.row 1 [[.arr q 2 0 vs.length cap]] 1) :: pto c (.row 1 [[.int .i64 rev]] 1) :: pto q (.row 2 (vs.map (verC tp td)) cap) :: F)) := by
  have hb := hs.at
  have hc := hs.p1.at
  have hq := hs.p2.at
  have hrow : (vs.map (verC tp td))[i]? = some (verC tp td vs[i]) := by simp [hi]
  refine t71 (Nat.le_of_ble_eq_true rfl) ?_
  simp (disch := omega) only [F71, hb, hc, hq, hrow, verC, Int.toNat_natCast, go_sem, reduceCtorEq, ↓reduceIte, Nat.reduceEqDiff, Nat.reduceAdd, Nat.reduceSub, Nat.reduceMul, Nat.reduceLT, Nat.reduceLeDiff, Int.reduceEq, Int.reduceNe, Int.reduceLT, Int.reduceLE, Int.reduceBEq, Int.reduceBNe, Int.reduceToNat]
  exact hs
/-- A key at a revision. -/
theorem mvAt {key : Key} {rev : Int} (hs : sat h (StP s A o :: F)) (hz : A.chs.length ≤ 100000000) : Triple Try.prog 38 [.ptr s 7 0 0, .str key, .int .i64 rev] h (fun r h =>
    r = .tup [.agg (kvC ((vAt (A.vers key) rev).getD kv0)), .bool (vAt (A.vers key) rev).isSome] ∧ sat h (StP s A o :: F)) := by
  obtain ⟨ix, vm, cv, L, X, hok, hs2⟩ := mvP.1 hs
  refine t38 (Nat.le_of_ble_eq_true rfl) ?_
  simp (disch := omega) only [F38, go_sem, reduceCtorEq, ↓reduceIte, Nat.reduceEqDiff, Nat.reduceAdd, Nat.reduceSub, Nat.reduceMul, Nat.reduceLT, Nat.reduceLeDiff, Int.reduceEq, Int.reduceNe, Int.reduceLT, Int.reduceLE, Int.reduceBEq, Int.reduceBNe, Int.reduceToNat]
  refine new_opq hs2 fun a h hs => ?_
  simp (disch := omega) only [go_sem, reduceCtorEq, ↓reduceIte, Nat.reduceEqDiff, Nat.reduceAdd, Nat.reduceSub, Nat.reduceMul, Nat.reduceLT, Nat.reduceLeDiff, Int.reduceEq, Int.reduceNe, Int.reduceLT, Int.reduceLE, Int.reduceBEq, Int.reduceBNe, Int.reduceToNat]
  refine new_opq hs fun b h hs => ?_
  have hp := hs.p2.at
  have back : ∀ {h : Hp} {R : List Asr}, sat h (pto b (.row 6 [kvC kv0] 1) :: R) → True := fun _ => trivial
  have mk : ∀ {h : Hp}, sat h (MvL tp td s ix vm cv o A L X ++ F) → sat h (StP s A o :: F) := fun hs => mvP.2 ⟨ix, vm, cv, L, X, hok, hs⟩
  by_cases hx : ∃ x ∈ X, x.key = key
  · obtain ⟨x, hx, rfl⟩ := hx
    have hl := lk_hit keyOK_str (show sat h (MpA (fun k : Key => AV.str k) Vn.key Vn.v vm X :: _) from hs.p5) hok.2.2.1 hx (ok := false) (z := .nils)
    simp only [Bool.false_eq_true, if_false] at hl
    simp (disch := omega) only [go_sem, reduceCtorEq, ↓reduceIte, Nat.reduceEqDiff, Nat.reduceAdd, Nat.reduceSub, Nat.reduceMul, Nat.reduceLT, Nat.reduceLeDiff, Int.reduceEq, Int.reduceNe, Int.reduceLT, Int.reduceLE, Int.reduceBEq, Int.reduceBNe, Int.reduceToNat, hp, hl]
    refine new_opq hs fun c h hs => ?_
    have hc := hs.at
    obtain ⟨hv1, hv2⟩ := hok.2.2.2.1 x hx
    obtain ⟨l1, l2, rfl⟩ := List.append_of_mem hx
    have hs : sat h ((pto c (.row 1 [[.nils]] 1) :: pto b (.row 6 [kvC kv0] 1) :: pto a (.row 1 [[.int .i64 rev]] 1) :: ([pto s (.row 7 [[.int .i64 A.rev, .int .i64 A.past, .int .i64 A.now.length, .ptr ix 2 0 0, .map vm, cv, o]] 1), IxP ix L, Ow 2 cv (A.chs.map (verC tp td)), MpA (fun k : Key => AV.str k) Vn.key Vn.v vm (l1 ++ x :: l2)] ++ l1.map (VnP tp td))) ++ VnP tp td x :: (l2.map (VnP tp td) ++ F)) := by
      simpa [MvL, kvC, kv0] using hs
    have hs := hs.mid
    have mk2 : ∀ {h : Hp}, sat h (VnP tp td x :: (([pto s (.row 7 [[.int .i64 A.rev, .int .i64 A.past, .int .i64 A.now.length, .ptr ix 2 0 0, .map vm, cv, o]] 1), IxP ix L, Ow 2 cv (A.chs.map (verC tp td)), MpA (fun k : Key => AV.str k) Vn.key Vn.v vm (l1 ++ x :: l2)] ++ l1.map (VnP tp td)) ++ (l2.map (VnP tp td) ++ F))) → sat h (StP s A o :: F) := by
      intro h hs
      refine mk ?_
      have := hs.unmid
      simpa [MvL] using this
    have hs : sat h (VnP tp td x :: pto c (.row 1 [[.nils]] 1) :: pto b (.row 6 [kvC kv0] 1) :: pto a (.row 1 [[.int .i64 rev]] 1) :: (([pto s (.row 7 [[.int .i64 A.rev, .int .i64 A.past, .int .i64 A.now.length, .ptr ix 2 0 0, .map vm, cv, o]] 1), IxP ix L, Ow 2 cv (A.chs.map (verC tp td)), MpA (fun k : Key => AV.str k) Vn.key Vn.v vm (l1 ++ x :: l2)] ++ l1.map (VnP tp td)) ++ (l2.map (VnP tp td) ++ F))) := hs
    generalize (([pto s (.row 7 [[.int .i64 A.rev, .int .i64 A.past, .int .i64 A.now.length, .ptr ix 2 0 0, .map vm, cv, o]] 1), IxP ix L, Ow 2 cv (A.chs.map (verC tp td)), MpA (fun k : Key => AV.str k) Vn.key Vn.v vm (l1 ++ x :: l2)] ++ l1.map (VnP tp td)) ++ (l2.map (VnP tp td) ++ F)) = R at hs mk2
    obtain ⟨xk, xv, vs⟩ := x
    simp only [] at hv1 hv2
    have hris := vers_ris hok.1 xk
    have hlen := vers_le (A := A) xk
    rw [← hv1] at hris hlen
    rcases hs.cases with ⟨_, hn0, _⟩ | ⟨q, cap, hv, hs3, hle⟩
    · exact absurd (List.map_eq_nil_iff.1 hn0) hv2
    simp only [] at hv
    subst hv
    have hll : (vs.map (verC tp td)).length = vs.length := by simp
    simp only [hll] at hs3 hle hc mk2
    have hs4 := hs3.p1.set (o' := .row 1 [[.arr q 2 0 vs.length cap]] 1)
    have hc4 := hs4.at
    simp (disch := omega) only [go_sem, reduceCtorEq, ↓reduceIte, Nat.reduceEqDiff, Nat.reduceAdd, Nat.reduceSub, Nat.reduceMul, Nat.reduceLT, Nat.reduceLeDiff, Int.reduceEq, Int.reduceNe, Int.reduceLT, Int.reduceLE, Int.reduceBEq, Int.reduceBNe, Int.reduceToNat, hc, hc4, hll]
    generalize Hp.set h c _ = h2 at hs4 hc4 ⊢
    refine call_use (search (N := vs.length) (f := 71) (caps := [.ptr c 1 0 0, .ptr a 1 0 0]) (pr := fun i => match vs[i]? with | some w => decide (w.rev > rev) | none => true) hs4.p2.p2.p3.p3 (by omega) rfl ?_ ?_) ?_
    · intro i j hij hj hi
      rw [List.getElem?_eq_getElem (by omega)] at hi ⊢
      have h3 : vs[i].rev > rev := by simpa using hi
      have : vs[i].rev ≤ vs[j].rev := by
        rcases Nat.lt_or_eq_of_le hij with h | h
        · exact Int.le_of_lt (List.pairwise_iff_getElem.1 hris i j (by omega) hj h)
        · subst h; exact Int.le_refl _
      simp; omega
    · intro i h hi hs
      refine (at1 hs hi).mono fun r h ⟨h1, h2⟩ => ⟨?_, h2⟩
      rw [h1, List.getElem?_eq_getElem hi]
    rintro r h ⟨k, hr, hk, hk1, hk2, hs⟩
    subst hr
    have hva := vAt_k (l := vs) (r := rev) hk (fun i hi hik => by
      have := hk1 i hik
      rw [List.getElem?_eq_getElem hi] at this
      have : ¬ vs[i].rev > rev := by simpa using this
      omega) (fun i hi hik => by
      have := hk2 i hik hi
      rw [List.getElem?_eq_getElem hi] at this
      simpa using this)
    have hva2 : vAt (A.vers xk) rev = if hk0 : 0 < k then (vs[k - 1]'(by omega)).c.kv else none := by rw [← hv1]; exact hva
    have hc := hs.at
    have hb := hs.p3.at
    have hq := hs.p2.at
    have mk3 : ∀ {h : Hp}, sat h (pto q (.row 2 (vs.map (verC tp td)) cap) :: R) → sat h (StP s A o :: F) := by
      intro h hs
      have := hs.ow (by simpa using hle)
      rw [hll] at this
      exact mk2 this
    by_cases hk0 : 0 < k
    · rw [dif_pos hk0] at hva2
      have e0 : ((k : Int) == 0) = false := by simp; omega
      have e1 : (k : Int) - 1 = ((k - 1 : Nat) : Int) := by omega
      have hrow : (vs.map (verC tp td))[k - 1]? = some (verC tp td (vs[k - 1]'(by omega))) := by rw [List.getElem?_map, List.getElem?_eq_getElem (by omega)]; rfl
      generalize (vs[k - 1]'(by omega)) = w at hva2 hrow
      rw [hva2]
      obtain ⟨wr, wc⟩ := w
      cases wc with
      | put kv =>
        simp (disch := omega) only [go_sem, reduceCtorEq, ↓reduceIte, Nat.reduceEqDiff, Nat.reduceAdd, Nat.reduceSub, Nat.reduceMul, Nat.reduceLT, Nat.reduceLeDiff, Int.reduceEq, Int.reduceNe, Int.reduceLT, Int.reduceLE, Int.reduceBEq, Int.reduceBNe, Int.reduceToNat, e0, hc, e1, hq, hrow, verC, chV, Int.toNat_natCast, taA, tp, td, kvC]
        refine new_opq hs fun y h hs => ?_
        have hy := hs.at
        have hs5 := hs.set (o' := .row 6 [kvC kv] 1)
        have hy5 := hs5.at
        have hb5 := hs5.p4.at
        simp only [kvC, kv0] at hy5 hb5 hs5
        simp (disch := omega) only [go_sem, reduceCtorEq, ↓reduceIte, Nat.reduceEqDiff, Nat.reduceAdd, Nat.reduceSub, Nat.reduceMul, Nat.reduceLT, Nat.reduceLeDiff, Int.reduceEq, Int.reduceNe, Int.reduceLT, Int.reduceLE, Int.reduceBEq, Int.reduceBNe, Int.reduceToNat, hy, hy5, hb5, kvC]
        exact ⟨rfl, mk3 hs5.p4.set.drop.drop.drop.drop⟩
      | del dk =>
        simp (disch := omega) only [go_sem, reduceCtorEq, ↓reduceIte, Nat.reduceEqDiff, Nat.reduceAdd, Nat.reduceSub, Nat.reduceMul, Nat.reduceLT, Nat.reduceLeDiff, Int.reduceEq, Int.reduceNe, Int.reduceLT, Int.reduceLE, Int.reduceBEq, Int.reduceBNe, Int.reduceToNat, e0, hc, e1, hq, hrow, verC, chV, Int.toNat_natCast, taA, tp, td, kvC]
        refine new_opq hs fun y h hs => ?_
        have hy := hs.at
        have hs5 := hs.set (o' := .row 6 [kvC kv0] 1)
        have hy5 := hs5.at
        have hb5 := hs5.p4.at
        simp only [kvC, kv0] at hy5 hb5 hs5
        simp (disch := omega) only [go_sem, reduceCtorEq, ↓reduceIte, Nat.reduceEqDiff, Nat.reduceAdd, Nat.reduceSub, Nat.reduceMul, Nat.reduceLT, Nat.reduceLeDiff, Int.reduceEq, Int.reduceNe, Int.reduceLT, Int.reduceLE, Int.reduceBEq, Int.reduceBNe, Int.reduceToNat, hy, hy5, hb5, kvC]
        exact ⟨rfl, mk3 hs5.p4.set.drop.drop.drop.drop⟩
    · rw [dif_neg hk0] at hva2
      have : k = 0 := by omega
      subst this
      have e0 : (((0 : Nat) : Int) == 0) = true := rfl
      rw [hva2]
      simp (disch := omega) only [go_sem, reduceCtorEq, ↓reduceIte, Nat.reduceEqDiff, Nat.reduceAdd, Nat.reduceSub, Nat.reduceMul, Nat.reduceLT, Nat.reduceLeDiff, Int.reduceEq, Int.reduceNe, Int.reduceLT, Int.reduceLE, Int.reduceBEq, Int.reduceBNe, Int.reduceToNat, e0, hb, kvC, kv0]
      exact ⟨rfl, mk3 hs.p3.set.drop.drop.drop⟩
  · have hv0 : A.vers key = [] := by
      cases hh : A.vers key with
      | nil => rfl
      | cons y l => exact absurd (hok.2.2.2.2 key (by rw [hh]; simp)) hx
    have hl := lk_miss keyOK_str (show sat h (MpA (fun k : Key => AV.str k) Vn.key Vn.v vm X :: _) from hs.p5) (q := key) (fun x h1 h2 => hx ⟨x, h1, h2⟩) (ok := false) (z := .nils)
    simp only [Bool.false_eq_true, if_false] at hl
    simp (disch := omega) only [go_sem, reduceCtorEq, ↓reduceIte, Nat.reduceEqDiff, Nat.reduceAdd, Nat.reduceSub, Nat.reduceMul, Nat.reduceLT, Nat.reduceLeDiff, Int.reduceEq, Int.reduceNe, Int.reduceLT, Int.reduceLE, Int.reduceBEq, Int.reduceBNe, Int.reduceToNat, hp, hl]
    refine new_opq hs fun c h hs => ?_
    have hc := hs.at
    simp (disch := omega) only [go_sem, reduceCtorEq, ↓reduceIte, Nat.reduceEqDiff, Nat.reduceAdd, Nat.reduceSub, Nat.reduceMul, Nat.reduceLT, Nat.reduceLeDiff, Int.reduceEq, Int.reduceNe, Int.reduceLT, Int.reduceLE, Int.reduceBEq, Int.reduceBNe, Int.reduceToNat, hc]
    have hs5 := hs.set (o' := .row 1 [[.nils]] 1)
    generalize Hp.set h c _ = h2 at hs5 ⊢
    refine call_use (search (N := 0) (f := 71) (caps := [.ptr c 1 0 0, .ptr a 1 0 0]) (pr := fun i => true) hs5 (by omega) rfl (fun _ _ _ _ _ => rfl) (fun i h hi => absurd hi (by omega))) ?_
    rintro r h ⟨k, hr, hk, _, _, hs⟩
    subst hr
    have : k = 0 := by omega
    subst this
    have e0 : (((0 : Nat) : Int) == 0) = true := rfl
    have hb := hs.p1.at
    rw [hv0]
    simp (disch := omega) only [go_sem, reduceCtorEq, ↓reduceIte, Nat.reduceEqDiff, Nat.reduceAdd, Nat.reduceSub, Nat.reduceMul, Nat.reduceLT, Nat.reduceLeDiff, Int.reduceEq, Int.reduceNe, Int.reduceLT, Int.reduceLE, Int.reduceBEq, Int.reduceBNe, Int.reduceToNat, e0, hb, kvC, kv0]
    exact ⟨rfl, mk hs.p1.set.drop.drop.drop⟩
end
end Go.Proofs.Ytkclojjeepomfaa
/- The store: the keys of a range; a range; a new store; a write that begins. -/
set_option linter.unusedSimpArgs false
set_option linter.unusedVariables false
set_option maxRecDepth 10000
namespace Go.Proofs.Ytkclojjeepomfaa
open Go.Hz

section
variable {h : Hp} {F : List Asr} {s : Nat} {A : Sto} {o : AV}

theorem mvNew (hs : sat h F) : Triple Try.prog 11 [] h (fun r h => ∃ s, r = .ptr s 7 0 0 ∧ sat h (StP s ⟨0, 0, [], []⟩ .nilp :: F)) := by
  refine t11 (Nat.le_of_ble_eq_true rfl) ?_
  simp (disch := omega) only [F11, go_sem, reduceCtorEq, ↓reduceIte, Nat.reduceEqDiff, Nat.reduceAdd, Nat.reduceSub, Nat.reduceMul, Nat.reduceLT, Nat.reduceLeDiff, Int.reduceEq, Int.reduceNe, Int.reduceLT, Int.reduceLE, Int.reduceBEq, Int.reduceBNe, Int.reduceToNat]
  refine call_use (ixNew hs) ?_
  rintro r h ⟨b, hr, hs⟩
  subst hr
  simp (disch := omega) only [go_sem, reduceCtorEq, ↓reduceIte, Nat.reduceEqDiff, Nat.reduceAdd, Nat.reduceSub, Nat.reduceMul, Nat.reduceLT, Nat.reduceLeDiff, Int.reduceEq, Int.reduceNe, Int.reduceLT, Int.reduceLE, Int.reduceBEq, Int.reduceBNe, Int.reduceToNat]
  refine new_opq hs fun m h hs => ?_
  simp (disch := omega) only [go_sem, reduceCtorEq, ↓reduceIte, Nat.reduceEqDiff, Nat.reduceAdd, Nat.reduceSub, Nat.reduceMul, Nat.reduceLT, Nat.reduceLeDiff, Int.reduceEq, Int.reduceNe, Int.reduceLT, Int.reduceLE, Int.reduceBEq, Int.reduceBNe, Int.reduceToNat]
  refine new_opq hs fun q h hs => ?_
  simp (disch := omega) only [go_sem, reduceCtorEq, ↓reduceIte, Nat.reduceEqDiff, Nat.reduceAdd, Nat.reduceSub, Nat.reduceMul, Nat.reduceLT, Nat.reduceLeDiff, Int.reduceEq, Int.reduceNe, Int.reduceLT, Int.reduceLE, Int.reduceBEq, Int.reduceBNe, Int.reduceToNat]
  refine ⟨q, rfl, mvP.2 ⟨b, m, .nils, [], [], ⟨?_, ?_, ?_⟩, ?_⟩⟩
  · exact ⟨Int.le_refl _, Int.le_refl _, .nil, by simp, .nil, by simp, by simp, fun a v b h => by simp at h, by simp⟩
  · exact ⟨WfL.nil, fun k => rfl⟩
  · exact ⟨.nil, by simp, fun k h => absurd rfl h⟩
  · have h1 := mpA_new (K := fun k : Key => AV.str k) (key := Vn.key) (v := Vn.v) hs.p1
    have h2 : sat h (Ow 2 .nils [] :: MpA (fun k : Key => AV.str k) Vn.key Vn.v m [] :: pto q (.row 7 [[.int .i64 0, .int .i64 0, .int .i64 0, .ptr b 2 0 0, .map m, .nils, .nilp]] 1) :: IxQ b [] :: F) := h1.add ow_nil
    have h3 : sat h (IxP b [] :: pto q (.row 7 [[.int .i64 0, .int .i64 0, .int .i64 0, .ptr b 2 0 0, .map m, .nils, .nilp]] 1) :: Ow 2 .nils [] :: MpA (fun k : Key => AV.str k) Vn.key Vn.v m [] :: F) := sat_ixp.2 ⟨[], rfl, h2.p1.p1.p2.p3⟩
    exact h3.p1
/-- The keys of a range that there were ever. -/
def StKeys (A : Sto) (lo hi : Key) (ks : List Key) : Prop := SrtS ks ∧ ks.length ≤ A.old.length + A.chs.length + 1 ∧ if hi = [] then ks = [lo] else ∀ k, k ∈ ks ↔ A.vers k ≠ [] ∧ inR lo hi k = true
theorem mvKeys {lo hi : Key} (hs : sat h (StP s A o :: F)) (hz : A.old.length + A.chs.length ≤ 100000000) : Triple Try.prog 37 [.ptr s 7 0 0, .str lo, .str hi] h (fun r h => ∃ ks, StKeys A lo hi ks ∧ sat h (Ow 1 r (ks.map fun k => [.str k]) :: StP s A o :: F)) := by
  obtain ⟨ix, vm, cv, L, X, hok, hs2⟩ := mvP.1 hs
  refine t37 (Nat.le_of_ble_eq_true rfl) ?_
  simp (disch := omega) only [F37, go_sem, reduceCtorEq, ↓reduceIte, Nat.reduceEqDiff, Nat.reduceAdd, Nat.reduceSub, Nat.reduceMul, Nat.reduceLT, Nat.reduceLeDiff, Int.reduceEq, Int.reduceNe, Int.reduceLT, Int.reduceLE, Int.reduceBEq, Int.reduceBNe, Int.reduceToNat]
  by_cases hh : hi = []
  · subst hh
    have e0 : (([] : List UInt8) == []) = true := rfl
    simp (disch := omega) only [go_sem, reduceCtorEq, ↓reduceIte, Nat.reduceEqDiff, Nat.reduceAdd, Nat.reduceSub, Nat.reduceMul, Nat.reduceLT, Nat.reduceLeDiff, Int.reduceEq, Int.reduceNe, Int.reduceLT, Int.reduceLE, Int.reduceBEq, Int.reduceBNe, Int.reduceToNat, e0]
    refine new_opq hs fun a h hs => ?_
    simp (disch := omega) only [go_sem, reduceCtorEq, ↓reduceIte, Nat.reduceEqDiff, Nat.reduceAdd, Nat.reduceSub, Nat.reduceMul, Nat.reduceLT, Nat.reduceLeDiff, Int.reduceEq, Int.reduceNe, Int.reduceLT, Int.reduceLE, Int.reduceBEq, Int.reduceBNe, Int.reduceToNat]
    refine ⟨[lo], ⟨List.pairwise_singleton _ _, by simp, by simp⟩, ?_⟩
    have := hs.ow (by simp)
    simpa using this
  · have e0 : (hi == []) = false := by simpa using hh
    have hp := hs2.at
    simp (disch := omega) only [go_sem, reduceCtorEq, ↓reduceIte, Nat.reduceEqDiff, Nat.reduceAdd, Nat.reduceSub, Nat.reduceMul, Nat.reduceLT, Nat.reduceLeDiff, Int.reduceEq, Int.reduceNe, Int.reduceLT, Int.reduceLE, Int.reduceBEq, Int.reduceBNe, Int.reduceToNat, e0, hp]
    have hs3 : sat h (IxP ix L :: pto s (.row 7 [[.int .i64 A.rev, .int .i64 A.past, .int .i64 A.now.length, .ptr ix 2 0 0, .map vm, cv, o]] 1) :: Ow 2 cv (A.chs.map (verC tp td)) :: MpA (fun k : Key => AV.str k) Vn.key Vn.v vm X :: (X.map (VnP tp td) ++ F)) := hs2.p1
    refine call_use (ixKeysO (lo := lo) (hi := hi) hs3 hok.2.1.1 (by have := ix_num hok.2.1; omega)) ?_
    intro r h hs
    simp (disch := omega) only [go_sem, reduceCtorEq, ↓reduceIte, Nat.reduceEqDiff, Nat.reduceAdd, Nat.reduceSub, Nat.reduceMul, Nat.reduceLT, Nat.reduceLeDiff, Int.reduceEq, Int.reduceNe, Int.reduceLT, Int.reduceLE, Int.reduceBEq, Int.reduceBNe, Int.reduceToNat]
    refine ⟨keysL L lo hi, ⟨keysL_srt hok.2.1.1.1, ?_, ?_⟩, ?_⟩
    · have h1 := ix_num hok.2.1
      have : (keysL L lo hi).length ≤ L.length := by unfold keysL; exact Nat.le_trans (List.length_filter_le _ _) (by simp)
      omega
    · rw [if_neg hh]
      exact fun k => keysL_mem hok.2.1
    · have hs4 := hs.tl fun h hs => (mvP.2 ⟨ix, vm, cv, L, X, hok, hs.p1⟩ : sat h (StP s A o :: F))
      exact hs4
theorem stkeys_at {ks : List Key} {lo hi : Key} (ok : StoOK A) (hk : StKeys A lo hi ks) {r : Int} (hr : A.past ≤ r) : ks.filterMap (fun k => vAt (A.vers k) r) = (A.at r).filter fun x => inK lo hi x.key := by
  by_cases hh : hi = []
  · subst hh
    have := hk.2.2
    rw [if_pos rfl] at this
    subst this
    exact rng_at1 ok hr
  · have h1 := hk.2.2
    rw [if_neg hh] at h1
    have e : (fun k => vAt (A.vers k) r) = kvget (A.at r) := funext fun k => vAt_at ok hr k
    rw [e]
    refine pick_keys (at_srt ok r) hk.1 (fun k hk' => ?_) fun x hx hin => ?_
    · rw [inK, if_neg hh]; exact ((h1 k).1 hk').2
    · rw [inK, if_neg hh] at hin
      exact (h1 _).2 ⟨at_vers ok hr hx, hin⟩
end
end Go.Proofs.Ytkclojjeepomfaa
/- The store: a range. -/
set_option linter.unusedSimpArgs false
set_option linter.unusedVariables false
set_option maxRecDepth 10000
namespace Go.Proofs.Ytkclojjeepomfaa
open Go.Hz

section
variable {h : Hp} {F : List Asr} {s : Nat} {A : Sto} {o : AV}

theorem mvKeysR {lo hi : Key} (hs : sat h (StP s A o :: F)) (hz : A.old.length + A.chs.length ≤ 100000000) : Triple Try.prog 37 [.ptr s 7 0 0, .str lo, .str hi] h (fun r h => ∃ ks, StKeys A lo hi ks ∧ r = strsV ks ∧ sat h (StP s A o :: F)) :=
  Triple.lst 1 ((mvKeys hs hz).mono fun r h ⟨ks, h1, hs⟩ => ⟨_, _, hs, fun h hs => ⟨ks, h1, rfl, hs⟩⟩)
theorem mvRangeO {lo hi : Key} {rev lim : Int} (hs : sat h (StP s A o :: F)) (hz : A.old.length + A.chs.length ≤ 100000000) : Triple Try.prog 18 [.ptr s 7 0 0, .str lo, .str hi, .int .i64 rev, .int .i64 lim] h
    (fun r h => ∃ v, r = .tup [v, .int .i64 (stRange A lo hi rev lim).2.1, .int .i64 (stRange A lo hi rev lim).2.2] ∧ sat h (Ow 6 v ((stRange A lo hi rev lim).1.map kvC) :: StP s A o :: F)) := by
  have ok := MvP.ok hs
  have hz2 : A.chs.length ≤ 100000000 := by omega
  obtain ⟨ix, vm, cv, L, X, hok, hs2⟩ := mvP.1 hs
  have hp := hs2.at
  have mk : ∀ {h : Hp}, sat h (MvL tp td s ix vm cv o A L X ++ F) → sat h (StP s A o :: F) := fun hs => mvP.2 ⟨ix, vm, cv, L, X, hok, hs⟩
  refine t18 (Nat.le_of_ble_eq_true rfl) ?_
  simp (disch := omega) only [F18, go_sem, reduceCtorEq, ↓reduceIte, Nat.reduceEqDiff, Nat.reduceAdd, Nat.reduceSub, Nat.reduceMul, Nat.reduceLT, Nat.reduceLeDiff, Int.reduceEq, Int.reduceNe, Int.reduceLT, Int.reduceLE, Int.reduceBEq, Int.reduceBNe, Int.reduceToNat]
  by_cases c1 : rev < 0
  · have ef : stRange A lo hi rev lim = ([], 0, 1) := by rw [stRange, if_pos c1]
    rw [ef]
    simp (disch := omega) only [go_sem, reduceCtorEq, ↓reduceIte, Nat.reduceEqDiff, Nat.reduceAdd, Nat.reduceSub, Nat.reduceMul, Nat.reduceLT, Nat.reduceLeDiff, Int.reduceEq, Int.reduceNe, Int.reduceLT, Int.reduceLE, Int.reduceBEq, Int.reduceBNe, Int.reduceToNat, c1]
    exact ⟨.nils, rfl, (mk hs2).add ow_nil⟩
  by_cases c2 : A.rev < rev
  · have ef : stRange A lo hi rev lim = ([], 0, 17) := by rw [stRange, if_neg c1, if_pos c2]
    rw [ef]
    simp (disch := omega) only [go_sem, reduceCtorEq, ↓reduceIte, Nat.reduceEqDiff, Nat.reduceAdd, Nat.reduceSub, Nat.reduceMul, Nat.reduceLT, Nat.reduceLeDiff, Int.reduceEq, Int.reduceNe, Int.reduceLT, Int.reduceLE, Int.reduceBEq, Int.reduceBNe, Int.reduceToNat, c1, hp, show (rev > A.rev) = True by simp; omega]
    exact ⟨.nils, rfl, (mk hs2).add ow_nil⟩
  have d2 : (rev > A.rev) = False := by simp; omega
  by_cases c3 : 0 < rev ∧ rev < A.past
  · have ef : stRange A lo hi rev lim = ([], 0, 16) := by rw [stRange, if_neg c1, if_neg c2, if_pos c3]
    rw [ef]
    simp (disch := omega) only [go_sem, reduceCtorEq, ↓reduceIte, Nat.reduceEqDiff, Nat.reduceAdd, Nat.reduceSub, Nat.reduceMul, Nat.reduceLT, Nat.reduceLeDiff, Int.reduceEq, Int.reduceNe, Int.reduceLT, Int.reduceLE, Int.reduceBEq, Int.reduceBNe, Int.reduceToNat, c1, hp, d2, show (rev > 0) = True by simp; omega, show (rev < A.past) = True by simp; omega]
    exact ⟨.nils, rfl, (mk hs2).add ow_nil⟩
  obtain ⟨r, hr, hrp⟩ : ∃ r, r = (if rev = 0 then A.rev else rev) ∧ A.past ≤ r := ⟨_, rfl, by have := ok.rev; split <;> omega⟩
  have ef : stRange A lo hi rev lim = ((rngL (A.at r) lo hi lim).1, (rngL (A.at r) lo hi lim).2, 0) := by rw [stRange, if_neg c1, if_neg c2, if_neg c3, hr]
  rw [ef]
  refine cnd_join (Q := fun e h => sat h (StP s A o :: F) ∧ (e 0 = .ptr s 7 0 0 ∧ e 1 = .str lo ∧ e 2 = .str hi ∧ e 3 = .int .i64 r ∧ e 4 = .int .i64 lim)) ?_ ?_
  · by_cases r0 : rev = 0
    · subst r0
      rw [if_pos rfl] at hr
      subst hr
      simp (disch := omega) only [go_sem, reduceCtorEq, ↓reduceIte, Nat.reduceEqDiff, Nat.reduceAdd, Nat.reduceSub, Nat.reduceMul, Nat.reduceLT, Nat.reduceLeDiff, Int.reduceEq, Int.reduceNe, Int.reduceLT, Int.reduceLE, Int.reduceBEq, Int.reduceBNe, Int.reduceToNat, c1, hp, d2]
      exact mk hs2
    · rw [if_neg r0] at hr
      subst hr
      have e0 : (r == 0) = false := by simpa using r0
      simp (disch := omega) only [go_sem, reduceCtorEq, ↓reduceIte, Nat.reduceEqDiff, Nat.reduceAdd, Nat.reduceSub, Nat.reduceMul, Nat.reduceLT, Nat.reduceLeDiff, Int.reduceEq, Int.reduceNe, Int.reduceLT, Int.reduceLE, Int.reduceBEq, Int.reduceBNe, Int.reduceToNat, c1, hp, d2, show (r > 0) = True by simp; omega, show (r < A.past) = False by simp; omega, e0]
      exact mk hs2
  clear hs hs2 hp
  rintro e h ⟨hs, he⟩
  simp (disch := omega) only [go_sem, reduceCtorEq, ↓reduceIte, Nat.reduceEqDiff, Nat.reduceAdd, Nat.reduceSub, Nat.reduceMul, Nat.reduceLT, Nat.reduceLeDiff, Int.reduceEq, Int.reduceNe, Int.reduceLT, Int.reduceLE, Int.reduceBEq, Int.reduceBNe, Int.reduceToNat, he]
  refine call_use (mvKeysR (lo := lo) (hi := hi) hs hz) ?_
  rintro v h ⟨ks, hk, hv, hs⟩
  subst hv
  have hsel := stkeys_at ok hk hrp
  have hkl := hk.2.1
  have lenK : lenL (strsV ks) = some (.int .i64 ks.length) := by simp [strsV, lenL]
  simp (disch := omega) only [go_sem, reduceCtorEq, ↓reduceIte, Nat.reduceEqDiff, Nat.reduceAdd, Nat.reduceSub, Nat.reduceMul, Nat.reduceLT, Nat.reduceLeDiff, Int.reduceEq, Int.reduceNe, Int.reduceLT, Int.reduceLE, Int.reduceBEq, Int.reduceBNe, Int.reduceToNat, lenK]
  generalize hpf : (fun k => vAt (A.vers k) r) = pf at hsel
  have hpf2 : ∀ k, vAt (A.vers k) r = pf k := fun k => by rw [← hpf]
  refine run_up (N := ks.length) (fun i e h => sat h (Ow 6 (e 13) ((cutL lim ((ks.take i).filterMap pf)).map kvC) :: StP s A o :: F) ∧ (e 0 = .ptr s 7 0 0 ∧ e 3 = .int .i64 r ∧ e 4 = .int .i64 lim ∧ e 14 = .int .i64 ((ks.take i).filterMap pf).length ∧ e 50 = strsV ks ∧ e 51 = .int .i64 ks.length ∧ e 52 = .int .i64 i)) ⟨?_, ?_⟩ ?_
  · have : (cutL lim (([] : List Key).filterMap pf)).map kvC = [] := by simp [cutL]
    rw [List.take_zero, this]
    exact hs.add ow_nil
  · simp [Env.upd_apply, he]
  clear hs he
  rintro i e h hi ⟨hs, he⟩
  have m1 : (i : Int) + 1 = ((i + 1 : Nat) : Int) := by omega
  simp (disch := omega) only [go_sem, reduceCtorEq, ↓reduceIte, Nat.reduceEqDiff, Nat.reduceAdd, Nat.reduceSub, Nat.reduceMul, Nat.reduceLT, Nat.reduceLeDiff, Int.reduceEq, Int.reduceNe, Int.reduceLT, Int.reduceLE, Int.reduceBEq, Int.reduceBNe, Int.reduceToNat, he, m1]
  refine cnd_dec (fun h1 => ?_) (fun h1 => ?_)
  · have hi : i < ks.length := by omega
    have hik : iaA 1 (strsV ks) (.int .i64 (i : Int)) = some (.ro [.str ks[i]]) := ia_lst (f := fun k => [AV.str k]) hi fun _ => rfl
    have hfl : ((ks.take i).filterMap pf).length ≤ 100000001 := by
      have := List.length_filterMap_le pf (ks.take i)
      rw [List.length_take] at this
      omega
    have hst : (ks.take (i + 1)).filterMap pf = (ks.take i).filterMap pf ++ (pf ks[i]).toList := by
      rw [List.take_succ_eq_append_getElem hi, List.filterMap_append]
      cases h : pf ks[i] <;> simp [h]
    simp (disch := omega) only [go_sem, reduceCtorEq, ↓reduceIte, Nat.reduceEqDiff, Nat.reduceAdd, Nat.reduceSub, Nat.reduceMul, Nat.reduceLT, Nat.reduceLeDiff, Int.reduceEq, Int.reduceNe, Int.reduceLT, Int.reduceLE, Int.reduceBEq, Int.reduceBNe, Int.reduceToNat, he, hik]
    refine call_use (mvAt (key := ks[i]) (rev := r) hs.p1 hz2) ?_
    rintro r h ⟨hr, hs⟩
    subst hr
    simp (disch := omega) only [go_sem, reduceCtorEq, ↓reduceIte, Nat.reduceEqDiff, Nat.reduceAdd, Nat.reduceSub, Nat.reduceMul, Nat.reduceLT, Nat.reduceLeDiff, Int.reduceEq, Int.reduceNe, Int.reduceLT, Int.reduceLE, Int.reduceBEq, Int.reduceBNe, Int.reduceToNat, hpf2]
    refine new_opq hs fun a h hs => ?_
    have ha := hs.at
    cases hpk : pf ks[i] with
    | none =>
      rw [hpk, Option.toList_none, List.append_nil] at hst
      have hs := hs.set (o' := .row 6 [kvC kv0] 1)
      simp only [kvC, kv0] at hs
      simp (disch := omega) only [go_sem, reduceCtorEq, ↓reduceIte, Nat.reduceEqDiff, Nat.reduceAdd, Nat.reduceSub, Nat.reduceMul, Nat.reduceLT, Nat.reduceLeDiff, Int.reduceEq, Int.reduceNe, Int.reduceLT, Int.reduceLE, Int.reduceBEq, Int.reduceBNe, Int.reduceToNat, ha, hpk, Option.getD_none, Option.isSome_none, kvC, kv0, he, m1]
      rw [hst]
      exact ⟨by omega, hs.drop.p1, rfl⟩
    | some kv =>
      rw [hpk, Option.toList_some] at hst
      have hs2 := hs.set (o' := .row 6 [kvC kv] 1)
      have ha2 := hs2.at
      simp only [kvC] at hs2 ha2
      simp (disch := omega) only [go_sem, reduceCtorEq, ↓reduceIte, Nat.reduceEqDiff, Nat.reduceAdd, Nat.reduceSub, Nat.reduceMul, Nat.reduceLT, Nat.reduceLeDiff, Int.reduceEq, Int.reduceNe, Int.reduceLT, Int.reduceLE, Int.reduceBEq, Int.reduceBNe, Int.reduceToNat, ha, hpk, Option.getD_some, Option.isSome_some, kvC, he]
      generalize Hp.set h a _ = h3 at hs2 ha2 ⊢
      have hol := hs2.p2.els.len
      have hcl : (cutL lim ((ks.take i).filterMap pf)).length ≤ 100000001 := Nat.le_trans cutL_len hfl
      have hsn := cutL_snoc (lim := lim) (l := (ks.take i).filterMap pf) (x := kv)
      have hlen14 : ((((ks.take i).filterMap pf).length : Nat) : Int) + 1 = (((ks.take i).filterMap pf ++ [kv]).length : Int) := by simp
      rw [List.length_map] at hol
      by_cases l1 : lim < 1
      · rw [if_pos (.inl l1)] at hsn
        simp (disch := omega) only [go_sem, reduceCtorEq, ↓reduceIte, Nat.reduceEqDiff, Nat.reduceAdd, Nat.reduceSub, Nat.reduceMul, Nat.reduceLT, Nat.reduceLeDiff, Int.reduceEq, Int.reduceNe, Int.reduceLT, Int.reduceLE, Int.reduceBEq, Int.reduceBNe, Int.reduceToNat, l1, he, ha2]
        refine new_opq hs2 fun b h hs => ?_
        simp (disch := omega) only [go_sem, reduceCtorEq, ↓reduceIte, Nat.reduceEqDiff, Nat.reduceAdd, Nat.reduceSub, Nat.reduceMul, Nat.reduceLT, Nat.reduceLeDiff, Int.reduceEq, Int.reduceNe, Int.reduceLT, Int.reduceLE, Int.reduceBEq, Int.reduceBNe, Int.reduceToNat]
        refine app_sat hs.p3 (src_one hs.at) (atoms_one (by simp [AV.isAtom])) (by simp; omega) fun v' h hs ca aa => ?_
        simp (disch := omega) only [go_sem, reduceCtorEq, ↓reduceIte, Nat.reduceEqDiff, Nat.reduceAdd, Nat.reduceSub, Nat.reduceMul, Nat.reduceLT, Nat.reduceLeDiff, Int.reduceEq, Int.reduceNe, Int.reduceLT, Int.reduceLE, Int.reduceBEq, Int.reduceBNe, Int.reduceToNat, he, m1]
        rw [hst, hsn]
        refine ⟨by omega, ?_, ?_⟩
        · have := hs.p1.drop.p1.drop.p1.p1
          simpa [kvC] using this
        · rw [hlen14]
      · by_cases l2 : ((cutL lim ((ks.take i).filterMap pf)).length : Int) < lim
        · rw [if_pos (.inr l2)] at hsn
          simp (disch := omega) only [go_sem, reduceCtorEq, ↓reduceIte, Nat.reduceEqDiff, Nat.reduceAdd, Nat.reduceSub, Nat.reduceMul, Nat.reduceLT, Nat.reduceLeDiff, Int.reduceEq, Int.reduceNe, Int.reduceLT, Int.reduceLE, Int.reduceBEq, Int.reduceBNe, Int.reduceToNat, l1, l2, hol, he, ha2]
          refine new_opq hs2 fun b h hs => ?_
          simp (disch := omega) only [go_sem, reduceCtorEq, ↓reduceIte, Nat.reduceEqDiff, Nat.reduceAdd, Nat.reduceSub, Nat.reduceMul, Nat.reduceLT, Nat.reduceLeDiff, Int.reduceEq, Int.reduceNe, Int.reduceLT, Int.reduceLE, Int.reduceBEq, Int.reduceBNe, Int.reduceToNat]
          refine app_sat hs.p3 (src_one hs.at) (atoms_one (by simp [AV.isAtom])) (by simp; omega) fun v' h hs ca aa => ?_
          simp (disch := omega) only [go_sem, reduceCtorEq, ↓reduceIte, Nat.reduceEqDiff, Nat.reduceAdd, Nat.reduceSub, Nat.reduceMul, Nat.reduceLT, Nat.reduceLeDiff, Int.reduceEq, Int.reduceNe, Int.reduceLT, Int.reduceLE, Int.reduceBEq, Int.reduceBNe, Int.reduceToNat, he, m1]
          rw [hst, hsn]
          refine ⟨by omega, ?_, ?_⟩
          · have := hs.p1.drop.p1.drop.p1.p1
            simpa [kvC] using this
          · rw [hlen14]
        · rw [if_neg (by intro hh; rcases hh with hh | hh; exact l1 hh; exact l2 hh)] at hsn
          simp (disch := omega) only [go_sem, reduceCtorEq, ↓reduceIte, Nat.reduceEqDiff, Nat.reduceAdd, Nat.reduceSub, Nat.reduceMul, Nat.reduceLT, Nat.reduceLeDiff, Int.reduceEq, Int.reduceNe, Int.reduceLT, Int.reduceLE, Int.reduceBEq, Int.reduceBNe, Int.reduceToNat, l1, l2, hol, he, m1]
          rw [hst, hsn]
          exact ⟨by omega, hs2.drop.p1, by rw [hlen14]⟩
  · have hi : i = ks.length := by omega
    subst hi
    simp (disch := omega) only [go_sem, reduceCtorEq, ↓reduceIte, Nat.reduceEqDiff, Nat.reduceAdd, Nat.reduceSub, Nat.reduceMul, Nat.reduceLT, Nat.reduceLeDiff, Int.reduceEq, Int.reduceNe, Int.reduceLT, Int.reduceLE, Int.reduceBEq, Int.reduceBNe, Int.reduceToNat, he]
    rw [List.take_length, hsel] at hs
    refine ⟨_, ?_, hs⟩
    rw [List.take_length, hsel]
    rfl
theorem mvRange {lo hi : Key} {rev lim : Int} (hs : sat h (StP s A o :: F)) (hz : A.old.length + A.chs.length ≤ 100000000) : Triple Try.prog 18 [.ptr s 7 0 0, .str lo, .str hi, .int .i64 rev, .int .i64 lim] h
    (fun r h => r = .tup [kvsV (stRange A lo hi rev lim).1, .int .i64 (stRange A lo hi rev lim).2.1, .int .i64 (stRange A lo hi rev lim).2.2] ∧ sat h (StP s A o :: F)) :=
  Triple.lst1 6 ((mvRangeO hs hz).mono fun r h ⟨v, hr, hs⟩ => ⟨v, _, _, _, hr, hs, fun h hs => ⟨rfl, hs⟩⟩)
end
end Go.Proofs.Ytkclojjeepomfaa
/- The store: a write that begins; what it says of a key; a change laid down; Put. -/
set_option linter.unusedSimpArgs false
set_option linter.unusedVariables false
set_option maxRecDepth 10000
namespace Go.Proofs.Ytkclojjeepomfaa
open Go.Hz

abbrev WtP (w s : Nat) (A : Sto) (W : Wr) : Asr := WrP tp td w s A W
section
variable {h : Hp} {F : List Asr} {s w : Nat} {A : Sto} {o : AV} {W : Wr}

theorem mvWrite (hs : sat h (StP s A o :: F)) : Triple Try.prog 13 [.ptr s 7 0 0] h (fun r h => ∃ w, r = .ptr w 4 0 0 ∧ sat h (WtP w s A ⟨A.now, []⟩ :: StP s A (.ptr w 4 0 0) :: F)) := by
  obtain ⟨ix, vm, cv, L, X, hok, hs2⟩ := mvP.1 hs
  refine t13 (Nat.le_of_ble_eq_true rfl) ?_
  simp (disch := omega) only [F13, go_sem, reduceCtorEq, ↓reduceIte, Nat.reduceEqDiff, Nat.reduceAdd, Nat.reduceSub, Nat.reduceMul, Nat.reduceLT, Nat.reduceLeDiff, Int.reduceEq, Int.reduceNe, Int.reduceLT, Int.reduceLE, Int.reduceBEq, Int.reduceBNe, Int.reduceToNat]
  refine new_opq hs2 fun m h hs => ?_
  have hp := hs.p1.at
  simp (disch := omega) only [go_sem, reduceCtorEq, ↓reduceIte, Nat.reduceEqDiff, Nat.reduceAdd, Nat.reduceSub, Nat.reduceMul, Nat.reduceLT, Nat.reduceLeDiff, Int.reduceEq, Int.reduceNe, Int.reduceLT, Int.reduceLE, Int.reduceBEq, Int.reduceBNe, Int.reduceToNat, hp]
  refine new_opq hs fun w h hs => ?_
  have hp := hs.p2.at
  simp (disch := omega) only [go_sem, reduceCtorEq, ↓reduceIte, Nat.reduceEqDiff, Nat.reduceAdd, Nat.reduceSub, Nat.reduceMul, Nat.reduceLT, Nat.reduceLeDiff, Int.reduceEq, Int.reduceNe, Int.reduceLT, Int.reduceLE, Int.reduceBEq, Int.reduceBNe, Int.reduceToNat, hp]
  have hs3 : sat (h.set s (.row 7 [[.int .i64 A.rev, .int .i64 A.past, .int .i64 A.now.length, .ptr ix 2 0 0, .map vm, cv, .ptr w 4 0 0]] 1)) (pto s (.row 7 [[.int .i64 A.rev, .int .i64 A.past, .int .i64 A.now.length, .ptr ix 2 0 0, .map vm, cv, .ptr w 4 0 0]] 1) :: pto w (.row 4 [[.ptr s 7 0 0, .nils, .map m, .int .i64 A.now.length]] 1) :: pto m (.mp [] 0) :: IxP ix L :: Ow 2 cv (A.chs.map (verC tp td)) :: MpA (fun k : Key => AV.str k) Vn.key Vn.v vm X :: (X.map (VnP tp td) ++ F)) := hs.p2.set
  refine ⟨w, rfl, wrP.2 ⟨.nils, m, wrOK_nil A, ?_⟩⟩
  have hs4 := hs3.p2.p2
  exact hs4.tl fun _ h => (mpA_new (h.tl fun _ h => (mvP.2 ⟨ix, vm, cv, L, X, hok, h⟩ : sat _ (StP s A (.ptr w 4 0 0) :: F)))).add ow_nil
theorem mvClosed (hs : sat h (WtP w s A W :: StP s A (.ptr w 4 0 0) :: F)) : Triple Try.prog 33 [.ptr w 4 0 0] h (fun r h => r = .bool false ∧ sat h (WtP w s A W :: StP s A (.ptr w 4 0 0) :: F)) := by
  obtain ⟨lv, bm, hw, hs1⟩ := wrP.1 hs
  obtain ⟨ix, vm, cv, L, X, hok, hs2⟩ := mvP.1 hs1.p3
  have hp := hs2.at
  have hq := hs1.at
  refine t33 (Nat.le_of_ble_eq_true rfl) ?_
  simp (disch := omega) only [F33, hp, hq, go_sem, reduceCtorEq, ↓reduceIte, Nat.reduceEqDiff, Nat.reduceAdd, Nat.reduceSub, Nat.reduceMul, Nat.reduceLT, Nat.reduceLeDiff, Int.reduceEq, Int.reduceNe, Int.reduceLT, Int.reduceLE, Int.reduceBEq, Int.reduceBNe, Int.reduceToNat]
  exact hs
/-- What a write says of a key. -/
theorem mvNow {key : Key} (hs : sat h (WtP w s A W :: StP s A o :: F)) (hz : A.chs.length ≤ 100000000) : Triple Try.prog 32 [.ptr w 4 0 0, .str key] h (fun r h =>
    r = .tup [.agg (kvC ((kvget W.cur key).getD kv0)), .bool (kvget W.cur key).isSome] ∧ sat h (WtP w s A W :: StP s A o :: F)) := by
  have ok := MvP.ok hs.p1
  obtain ⟨lv, bm, hw, hs1⟩ := wrP.1 hs
  have mk : ∀ {h : Hp}, sat h (pto w (.row 4 [[.ptr s 7 0 0, lv, .map bm, .int .i64 W.cur.length]] 1) :: Ow 1 lv (W.l.map fun c => [chV tp td c]) :: MpA (fun k : Key => AV.str k) Ch.key (chV tp td) bm W.l :: StP s A o :: F) → sat h (WtP w s A W :: StP s A o :: F) := fun hs => wrP.2 ⟨lv, bm, hw, hs⟩
  refine t32 (Nat.le_of_ble_eq_true rfl) ?_
  simp (disch := omega) only [F32, go_sem, reduceCtorEq, ↓reduceIte, Nat.reduceEqDiff, Nat.reduceAdd, Nat.reduceSub, Nat.reduceMul, Nat.reduceLT, Nat.reduceLeDiff, Int.reduceEq, Int.reduceNe, Int.reduceLT, Int.reduceLE, Int.reduceBEq, Int.reduceBNe, Int.reduceToNat]
  refine new_opq hs1 fun a h hs => ?_
  have hp := hs.p1.at
  cases hc : wChg W key with
  | true =>
    obtain ⟨c, hcm, rfl⟩ := wChg_t hc
    have hl := lk_hit keyOK_str hs.p3 hw.nd hcm (ok := true) (z := .nili)
    have hnow := now_chg ok hw hcm
    rw [hnow]
    simp (disch := omega) only [go_sem, reduceCtorEq, ↓reduceIte, Nat.reduceEqDiff, Nat.reduceAdd, Nat.reduceSub, Nat.reduceMul, Nat.reduceLT, Nat.reduceLeDiff, Int.reduceEq, Int.reduceNe, Int.reduceLT, Int.reduceLE, Int.reduceBEq, Int.reduceBNe, Int.reduceToNat, hp, hl]
    cases c with
    | put kv =>
      simp (disch := omega) only [go_sem, reduceCtorEq, ↓reduceIte, Nat.reduceEqDiff, Nat.reduceAdd, Nat.reduceSub, Nat.reduceMul, Nat.reduceLT, Nat.reduceLeDiff, Int.reduceEq, Int.reduceNe, Int.reduceLT, Int.reduceLE, Int.reduceBEq, Int.reduceBNe, Int.reduceToNat, chV, taA, tp, td, kvC]
      refine new_opq hs fun y h hs => ?_
      have hy := hs.at
      have hs5 := hs.set (o' := .row 6 [kvC kv] 1)
      have hy5 := hs5.at
      have hb5 := hs5.p1.at
      simp only [kvC, kv0] at hy5 hb5 hs5
      simp (disch := omega) only [go_sem, reduceCtorEq, ↓reduceIte, Nat.reduceEqDiff, Nat.reduceAdd, Nat.reduceSub, Nat.reduceMul, Nat.reduceLT, Nat.reduceLeDiff, Int.reduceEq, Int.reduceNe, Int.reduceLT, Int.reduceLE, Int.reduceBEq, Int.reduceBNe, Int.reduceToNat, hy, hy5, hb5, kvC]
      exact ⟨rfl, mk hs5.p1.set.drop.drop⟩
    | del dk =>
      simp (disch := omega) only [go_sem, reduceCtorEq, ↓reduceIte, Nat.reduceEqDiff, Nat.reduceAdd, Nat.reduceSub, Nat.reduceMul, Nat.reduceLT, Nat.reduceLeDiff, Int.reduceEq, Int.reduceNe, Int.reduceLT, Int.reduceLE, Int.reduceBEq, Int.reduceBNe, Int.reduceToNat, chV, taA, tp, td, kvC]
      refine new_opq hs fun y h hs => ?_
      have hy := hs.at
      have hs5 := hs.set (o' := .row 6 [kvC kv0] 1)
      have hy5 := hs5.at
      have hb5 := hs5.p1.at
      simp only [kvC, kv0] at hy5 hb5 hs5
      simp (disch := omega) only [go_sem, reduceCtorEq, ↓reduceIte, Nat.reduceEqDiff, Nat.reduceAdd, Nat.reduceSub, Nat.reduceMul, Nat.reduceLT, Nat.reduceLeDiff, Int.reduceEq, Int.reduceNe, Int.reduceLT, Int.reduceLE, Int.reduceBEq, Int.reduceBNe, Int.reduceToNat, hy, hy5, hb5, kvC]
      exact ⟨rfl, mk hs5.p1.set.drop.drop⟩
  | false =>
    have hl := lk_miss keyOK_str hs.p3 (q := key) (wChg_f hc) (ok := true) (z := .nili)
    simp (disch := omega) only [go_sem, reduceCtorEq, ↓reduceIte, Nat.reduceEqDiff, Nat.reduceAdd, Nat.reduceSub, Nat.reduceMul, Nat.reduceLT, Nat.reduceLeDiff, Int.reduceEq, Int.reduceNe, Int.reduceLT, Int.reduceLE, Int.reduceBEq, Int.reduceBNe, Int.reduceToNat, hp, hl]
    obtain ⟨ix, vm, cv, L, X, hok, hs2⟩ := mvP.1 hs.p4
    have hq := hs2.at
    simp (disch := omega) only [go_sem, reduceCtorEq, ↓reduceIte, Nat.reduceEqDiff, Nat.reduceAdd, Nat.reduceSub, Nat.reduceMul, Nat.reduceLT, Nat.reduceLeDiff, Int.reduceEq, Int.reduceNe, Int.reduceLT, Int.reduceLE, Int.reduceBEq, Int.reduceBNe, Int.reduceToNat, hp, hq]
    refine call_use (mvAt (key := key) (rev := A.rev) hs.p4 hz) ?_
    rintro r h ⟨hr, hs⟩
    subst hr
    simp (disch := omega) only [go_sem, reduceCtorEq, ↓reduceIte, Nat.reduceEqDiff, Nat.reduceAdd, Nat.reduceSub, Nat.reduceMul, Nat.reduceLT, Nat.reduceLeDiff, Int.reduceEq, Int.reduceNe, Int.reduceLT, Int.reduceLE, Int.reduceBEq, Int.reduceBNe, Int.reduceToNat]
    have hv : vAt (A.vers key) A.rev = kvget W.cur key := by rw [vAt_at ok ok.rev, at_rev ok, now_same ok hw hc]
    rw [hv]
    have ha := hs.p1.at
    simp (disch := omega) only [go_sem, reduceCtorEq, ↓reduceIte, Nat.reduceEqDiff, Nat.reduceAdd, Nat.reduceSub, Nat.reduceMul, Nat.reduceLT, Nat.reduceLeDiff, Int.reduceEq, Int.reduceNe, Int.reduceLT, Int.reduceLE, Int.reduceBEq, Int.reduceBNe, Int.reduceToNat, ha, kvC]
    exact mk hs.p1.set.drop.p3.p3.p3
/-- A change, laid down. -/
theorem mvLay {c : Ch} {lv : AV} {bm : Nat} {n : Int} (hw : WrOK A W) (hs : sat h (pto w (.row 4 [[.ptr s 7 0 0, lv, .map bm, .int .i64 n]] 1) :: Ow 1 lv (W.l.map fun c => [chV tp td c]) :: MpA (fun k : Key => AV.str k) Ch.key (chV tp td) bm W.l :: F)) (hz : W.l.length ≤ 100000000) (hc : wChg W c.key = false) (hk : c.key ≠ [] ∧ c.key.length ≤ 100) (hd : c.kv = none → kvget W.cur c.key ≠ none) (hnum : ∀ kv, c = .put kv → kv.mod = A.rev + 1 ∧ KvIn (A.rev + 1) kv) : Triple Try.prog 34 [.ptr w 4 0 0, chV tp td c] h (fun r h =>
    ∃ lv, WrOK A ⟨done W.cur c, W.l ++ [c]⟩ ∧ sat h (pto w (.row 4 [[.ptr s 7 0 0, lv, .map bm, .int .i64 n]] 1) :: Ow 1 lv ((W.l ++ [c]).map fun c => [chV tp td c]) :: MpA (fun k : Key => AV.str k) Ch.key (chV tp td) bm (W.l ++ [c]) :: F)) := by
  have hp := hs.at
  have ca := chV_atom (tp := tp) (td := td) c
  have cc := chV_cells (tp := tp) (td := td) c
  refine t34 (Nat.le_of_ble_eq_true rfl) ?_
  simp (disch := omega) only [F34, hp, cc, ca, go_sem, reduceCtorEq, ↓reduceIte, Nat.reduceEqDiff, Nat.reduceAdd, Nat.reduceSub, Nat.reduceMul, Nat.reduceLT, Nat.reduceLeDiff, Int.reduceEq, Int.reduceNe, Int.reduceLT, Int.reduceLE, Int.reduceBEq, Int.reduceBNe, Int.reduceToNat]
  refine new_opq hs fun a h hs => ?_
  simp (disch := omega) only [go_sem, reduceCtorEq, ↓reduceIte, Nat.reduceEqDiff, Nat.reduceAdd, Nat.reduceSub, Nat.reduceMul, Nat.reduceLT, Nat.reduceLeDiff, Int.reduceEq, Int.reduceNe, Int.reduceLT, Int.reduceLE, Int.reduceBEq, Int.reduceBNe, Int.reduceToNat]
  refine app_sat hs.p2 (src_one hs.at) (atoms_one (by simp [ca])) (by simp; omega) fun v' h hs ca' aa => ?_
  have hp := hs.p2.at
  have hs2 := hs.p2.set (o' := .row 4 [[.ptr s 7 0 0, v', .map bm, .int .i64 n]] 1)
  have hp2 := hs2.at
  simp (disch := omega) only [go_sem, reduceCtorEq, ↓reduceIte, Nat.reduceEqDiff, Nat.reduceAdd, Nat.reduceSub, Nat.reduceMul, Nat.reduceLT, Nat.reduceLeDiff, Int.reduceEq, Int.reduceNe, Int.reduceLT, Int.reduceLE, Int.reduceBEq, Int.reduceBNe, Int.reduceToNat, hp, ca', aa, hp2]
  generalize Hp.set h w _ = h3 at hs2 hp2 ⊢
  refine inv_key hs2 c fun h hs => ?_
  have hp := hs.at
  simp (disch := omega) only [go_sem, reduceCtorEq, ↓reduceIte, Nat.reduceEqDiff, Nat.reduceAdd, Nat.reduceSub, Nat.reduceMul, Nat.reduceLT, Nat.reduceLeDiff, Int.reduceEq, Int.reduceNe, Int.reduceLT, Int.reduceLE, Int.reduceBEq, Int.reduceBNe, Int.reduceToNat, hp]
  refine mup_new keyOK_str hs.p3 (y := c) (wChg_f hc) fun h hs => ?_
  simp (disch := omega) only [go_sem, reduceCtorEq, ↓reduceIte, Nat.reduceEqDiff, Nat.reduceAdd, Nat.reduceSub, Nat.reduceMul, Nat.reduceLT, Nat.reduceLeDiff, Int.reduceEq, Int.reduceNe, Int.reduceLT, Int.reduceLE, Int.reduceBEq, Int.reduceBNe, Int.reduceToNat]
  refine ⟨v', hw.lay hc hk hd hnum, ?_⟩
  simpa using hs.p3.drop.p2.p2
theorem mvPut {key val : Key} {lease : Int} (hs : sat h (WtP w s A W :: StP s A (.ptr w 4 0 0) :: F)) (hz : A.chs.length ≤ 100000000) (hzl : W.l.length ≤ 100000000) (hzc : W.cur.length ≤ 200000000) (hr : A.rev ≤ 1000000000000000) :
    Triple Try.prog 14 [.ptr w 4 0 0, .str key, .str val, .int .i64 lease] h (fun r h => r = .int .i64 (wPut (A.rev + 1) W key val lease).1 ∧ sat h (WtP w s A (wPut (A.rev + 1) W key val lease).2 :: StP s A (.ptr w 4 0 0) :: F)) := by
  have ok := MvP.ok hs.p1
  have hw := WrP.ok hs
  have hpast := ok.past
  have hrev := ok.rev
  obtain ⟨lv, bm, _, hs1⟩ := wrP.1 hs
  have hp := hs1.at
  obtain ⟨tw, hl⟩ : ∃ v, lkA true true .nili h (.map bm) (.str key) = some (.tup [v, .bool (wChg W key)]) := by
    cases hc : wChg W key with
    | true =>
      obtain ⟨c, hcm, rfl⟩ := wChg_t hc
      exact ⟨_, lk_hit keyOK_str hs1.p2 hw.nd hcm⟩
    | false => exact ⟨_, lk_miss keyOK_str hs1.p2 (wChg_f hc)⟩
  refine t14 (Nat.le_of_ble_eq_true rfl) ?_
  simp (disch := omega) only [F14, hp, hl, go_sem, reduceCtorEq, ↓reduceIte, Nat.reduceEqDiff, Nat.reduceAdd, Nat.reduceSub, Nat.reduceMul, Nat.reduceLT, Nat.reduceLeDiff, Int.reduceEq, Int.reduceNe, Int.reduceLT, Int.reduceLE, Int.reduceBEq, Int.reduceBNe, Int.reduceToNat]
  refine call_use (mvNow (key := key) hs hz) ?_
  rintro r h ⟨hr, hs⟩
  subst hr
  simp (disch := omega) only [go_sem, reduceCtorEq, ↓reduceIte, Nat.reduceEqDiff, Nat.reduceAdd, Nat.reduceSub, Nat.reduceMul, Nat.reduceLT, Nat.reduceLeDiff, Int.reduceEq, Int.reduceNe, Int.reduceLT, Int.reduceLE, Int.reduceBEq, Int.reduceBNe, Int.reduceToNat]
  refine new_opq hs fun a h hs => ?_
  have ha := hs.at
  generalize hkv : (kvget W.cur key).getD kv0 = kv
  have hs2 := hs.set (o' := .row 6 [kvC kv] 1)
  have ha2 := hs2.at
  simp only [kvC] at hs2 ha2
  simp (disch := omega) only [go_sem, reduceCtorEq, ↓reduceIte, Nat.reduceEqDiff, Nat.reduceAdd, Nat.reduceSub, Nat.reduceMul, Nat.reduceLT, Nat.reduceLeDiff, Int.reduceEq, Int.reduceNe, Int.reduceLT, Int.reduceLE, Int.reduceBEq, Int.reduceBNe, Int.reduceToNat, ha, kvC]
  generalize Hp.set h a _ = h2 at hs2 ha2 ⊢
  by_cases k0 : key = []
  · subst k0
    have ef : wPut (A.rev + 1) W [] val lease = (1, W) := by simp [wPut]
    rw [ef]
    have e0 : (([] : List UInt8) == []) = true := rfl
    simp (disch := omega) only [go_sem, reduceCtorEq, ↓reduceIte, Nat.reduceEqDiff, Nat.reduceAdd, Nat.reduceSub, Nat.reduceMul, Nat.reduceLT, Nat.reduceLeDiff, Int.reduceEq, Int.reduceNe, Int.reduceLT, Int.reduceLE, Int.reduceBEq, Int.reduceBNe, Int.reduceToNat, e0]
    exact hs2.drop
  have e0 : (key == []) = false := by simpa using k0
  by_cases k1 : 100 < key.length
  · have ef : wPut (A.rev + 1) W key val lease = (1, W) := by simp [wPut, k1]
    rw [ef]
    simp (disch := omega) only [go_sem, reduceCtorEq, ↓reduceIte, Nat.reduceEqDiff, Nat.reduceAdd, Nat.reduceSub, Nat.reduceMul, Nat.reduceLT, Nat.reduceLeDiff, Int.reduceEq, Int.reduceNe, Int.reduceLT, Int.reduceLE, Int.reduceBEq, Int.reduceBNe, Int.reduceToNat, e0, show ((key.length : Int) > 100) = True by simp; omega]
    exact hs2.drop
  have e1 : ((key.length : Int) > 100) = False := by simp; omega
  by_cases k2 : lease < 0
  · have ef : wPut (A.rev + 1) W key val lease = (1, W) := by simp [wPut, k2]
    rw [ef]
    simp (disch := omega) only [go_sem, reduceCtorEq, ↓reduceIte, Nat.reduceEqDiff, Nat.reduceAdd, Nat.reduceSub, Nat.reduceMul, Nat.reduceLT, Nat.reduceLeDiff, Int.reduceEq, Int.reduceNe, Int.reduceLT, Int.reduceLE, Int.reduceBEq, Int.reduceBNe, Int.reduceToNat, e0, e1, k2]
    exact hs2.drop
  have hn1 : ¬ (key = [] ∨ 100 < key.length ∨ lease < 0) := by rintro (h | h | h); exact k0 h; exact k1 h; exact k2 h
  by_cases k3 : 4096 < val.length
  · have ef : wPut (A.rev + 1) W key val lease = (5, W) := by rw [wPut, if_neg hn1, if_pos k3]
    rw [ef]
    simp (disch := omega) only [go_sem, reduceCtorEq, ↓reduceIte, Nat.reduceEqDiff, Nat.reduceAdd, Nat.reduceSub, Nat.reduceMul, Nat.reduceLT, Nat.reduceLeDiff, Int.reduceEq, Int.reduceNe, Int.reduceLT, Int.reduceLE, Int.reduceBEq, Int.reduceBNe, Int.reduceToNat, e0, e1, k2, show ((val.length : Int) > 4096) = True by simp; omega]
    exact hs2.drop
  have e3 : ((val.length : Int) > 4096) = False := by simp; omega
  cases hchg : wChg W key with
  | true =>
    have ef : wPut (A.rev + 1) W key val lease = (18, W) := by rw [wPut, if_neg hn1, if_neg k3, if_pos hchg]
    rw [ef]
    simp (disch := omega) only [go_sem, reduceCtorEq, ↓reduceIte, Nat.reduceEqDiff, Nat.reduceAdd, Nat.reduceSub, Nat.reduceMul, Nat.reduceLT, Nat.reduceLeDiff, Int.reduceEq, Int.reduceNe, Int.reduceLT, Int.reduceLE, Int.reduceBEq, Int.reduceBNe, Int.reduceToNat, e0, e1, k2, e3, hchg]
    exact hs2.drop
  | false =>
  have hnc : ¬ wChg W key = true := by simp [hchg]
  obtain ⟨lv2, bm2, _, hs3⟩ := wrP.1 hs2.p1
  obtain ⟨ix, vm, cv, L, X, hok, hs4⟩ := mvP.1 hs2.p2
  have hp := hs3.at
  have hq := hs4.at
  cases hg : kvget W.cur key with
  | none =>
    rw [hg, Option.getD_none] at hkv
    subst hkv
    by_cases k4 : 4096 ≤ W.cur.length
    · have ef : wPut (A.rev + 1) W key val lease = (14, W) := by rw [wPut, if_neg hn1, if_neg k3, if_neg hnc, if_pos ⟨hg, k4⟩]
      rw [ef]
      simp (disch := omega) only [go_sem, reduceCtorEq, ↓reduceIte, Nat.reduceEqDiff, Nat.reduceAdd, Nat.reduceSub, Nat.reduceMul, Nat.reduceLT, Nat.reduceLeDiff, Int.reduceEq, Int.reduceNe, Int.reduceLT, Int.reduceLE, Int.reduceBEq, Int.reduceBNe, Int.reduceToNat, e0, e1, k2, e3, hchg, hg, Option.isSome_none, hp, show ((W.cur.length : Int) ≥ 4096) = True by simp; omega]
      exact hs2.drop
    have ef : wPut (A.rev + 1) W key val lease = (0, ⟨done W.cur (.put (wNew (A.rev + 1) W key val lease)), W.l ++ [.put (wNew (A.rev + 1) W key val lease)]⟩) := by rw [wPut, if_neg hn1, if_neg k3, if_neg hnc, if_neg (fun h => k4 h.2)]
    rw [ef]
    simp (disch := omega) only [go_sem, reduceCtorEq, ↓reduceIte, Nat.reduceEqDiff, Nat.reduceAdd, Nat.reduceSub, Nat.reduceMul, Nat.reduceLT, Nat.reduceLeDiff, Int.reduceEq, Int.reduceNe, Int.reduceLT, Int.reduceLE, Int.reduceBEq, Int.reduceBNe, Int.reduceToNat, e0, e1, k2, e3, hchg, hg, Option.isSome_none, hp, show ((W.cur.length : Int) ≥ 4096) = False by simp; omega]
    refine call_use (mvClosed hs2.p2.p2) ?_
    rintro r h ⟨hr, hs⟩
    subst hr
    simp (disch := omega) only [go_sem, reduceCtorEq, ↓reduceIte, Nat.reduceEqDiff, Nat.reduceAdd, Nat.reduceSub, Nat.reduceMul, Nat.reduceLT, Nat.reduceLeDiff, Int.reduceEq, Int.reduceNe, Int.reduceLT, Int.reduceLE, Int.reduceBEq, Int.reduceBNe, Int.reduceToNat, Option.isSome_none]
    obtain ⟨lv3, bm3, _, hs5⟩ := wrP.1 hs
    obtain ⟨ix, vm, cv, L, X, hok, hs6⟩ := mvP.1 hs5.p3
    have hp := hs5.at
    have hq := hs6.at
    have ha := hs5.p4.at
    simp (disch := omega) only [go_sem, reduceCtorEq, ↓reduceIte, Nat.reduceEqDiff, Nat.reduceAdd, Nat.reduceSub, Nat.reduceMul, Nat.reduceLT, Nat.reduceLeDiff, Int.reduceEq, Int.reduceNe, Int.reduceLT, Int.reduceLE, Int.reduceBEq, Int.reduceBNe, Int.reduceToNat, hp, hq, ha, Option.isSome_none]
    have hsA := hs5.p4.set (o' := .row 6 [[.str key, .str [], .int .i64 (A.rev + 1), .int .i64 0, .int .i64 0, .int .i64 0]] 1)
    have hwA := hsA.p1.at
    have haA := hsA.at
    generalize Hp.set h a _ = h4 at hsA hwA haA ⊢
    have hsB := hsA.p1.set (o' := .row 4 [[.ptr s 7 0 0, lv3, .map bm3, .int .i64 (W.cur.length + 1)]] 1)
    have haB := hsB.p1.at
    simp (disch := omega) only [go_sem, reduceCtorEq, ↓reduceIte, Nat.reduceEqDiff, Nat.reduceAdd, Nat.reduceSub, Nat.reduceMul, Nat.reduceLT, Nat.reduceLeDiff, Int.reduceEq, Int.reduceNe, Int.reduceLT, Int.reduceLE, Int.reduceBEq, Int.reduceBNe, Int.reduceToNat, hwA, haA, haB]
    generalize Hp.set h4 w _ = h5 at hsB haB ⊢
    have hsC := hsB.p1.set (o' := .row 6 [[.str key, .str val, .int .i64 (A.rev + 1), .int .i64 (A.rev + 1), .int .i64 1, .int .i64 lease]] 1)
    have hwn : wNew (A.rev + 1) W key val lease = ⟨key, val, A.rev + 1, A.rev + 1, 1, lease⟩ := by simp [wNew, hg]
    have hlay : Triple Try.prog 34 [.ptr w 4 0 0, chV tp td (.put ⟨key, val, A.rev + 1, A.rev + 1, 1, lease⟩)] _ _ := mvLay hw hsC.p4.p4.p4.p4 hzl (by rw [← hwn]; exact wNew_chg hchg) (by rw [← hwn]; exact wNew_len k0 (by omega)) (fun h => by cases h) (by rw [← hwn]; exact wNew_num ok hw hchg (by omega) (by omega))
    rw [hwn]
    refine call_use hlay ?_
    rintro r h ⟨lv4, hok', hs⟩
    simp (disch := omega) only [go_sem, reduceCtorEq, ↓reduceIte, Nat.reduceEqDiff, Nat.reduceAdd, Nat.reduceSub, Nat.reduceMul, Nat.reduceLT, Nat.reduceLeDiff, Int.reduceEq, Int.reduceNe, Int.reduceLT, Int.reduceLE, Int.reduceBEq, Int.reduceBNe, Int.reduceToNat]
    have hdl := done_len (c := .put ⟨key, val, A.rev + 1, A.rev + 1, 1, lease⟩) (hw.srt ok)
    rw [show (Ch.put ⟨key, val, A.rev + 1, A.rev + 1, 1, lease⟩).key = key from rfl, hg] at hdl
    have hdl2 : ((done W.cur (.put ⟨key, val, A.rev + 1, A.rev + 1, 1, lease⟩)).length : Int) = (W.cur.length : Int) + 1 := by rw [hdl]; simp [Ch.kv]
    refine wrP.2 ⟨lv4, bm3, hok', ?_⟩
    rw [hdl2]
    exact hs.p4.drop.p3.p3.p3.p3
  | some x =>
    rw [hg, Option.getD_some] at hkv
    subst hkv
    have ef : wPut (A.rev + 1) W key val lease = (0, ⟨done W.cur (.put (wNew (A.rev + 1) W key val lease)), W.l ++ [.put (wNew (A.rev + 1) W key val lease)]⟩) := by rw [wPut, if_neg hn1, if_neg k3, if_neg hnc, if_neg (fun h => by rw [hg] at h; cases h.1)]
    rw [ef]
    simp (disch := omega) only [go_sem, reduceCtorEq, ↓reduceIte, Nat.reduceEqDiff, Nat.reduceAdd, Nat.reduceSub, Nat.reduceMul, Nat.reduceLT, Nat.reduceLeDiff, Int.reduceEq, Int.reduceNe, Int.reduceLT, Int.reduceLE, Int.reduceBEq, Int.reduceBNe, Int.reduceToNat, e0, e1, k2, e3, hchg, hg, Option.isSome_some]
    refine call_use (mvClosed hs2.p2.p2) ?_
    rintro r h ⟨hr, hs⟩
    subst hr
    simp (disch := omega) only [go_sem, reduceCtorEq, ↓reduceIte, Nat.reduceEqDiff, Nat.reduceAdd, Nat.reduceSub, Nat.reduceMul, Nat.reduceLT, Nat.reduceLeDiff, Int.reduceEq, Int.reduceNe, Int.reduceLT, Int.reduceLE, Int.reduceBEq, Int.reduceBNe, Int.reduceToNat, Option.isSome_some]
    obtain ⟨lv3, bm3, _, hs5⟩ := wrP.1 hs
    obtain ⟨ix, vm, cv, L, X, hok, hs6⟩ := mvP.1 hs5.p3
    have hp := hs5.at
    have hq := hs6.at
    have ha := hs5.p4.at
    have hxm := cur_num ok hw x (kvget_some hg).1
    have hxk := (kvget_some hg).2
    unfold KvIn at hxm
    have hwn : wNew (A.rev + 1) W key val lease = ⟨key, val, x.create, A.rev + 1, x.ver + 1, lease⟩ := by simp [wNew, hg]
    simp (disch := omega) only [go_sem, reduceCtorEq, ↓reduceIte, Nat.reduceEqDiff, Nat.reduceAdd, Nat.reduceSub, Nat.reduceMul, Nat.reduceLT, Nat.reduceLeDiff, Int.reduceEq, Int.reduceNe, Int.reduceLT, Int.reduceLE, Int.reduceBEq, Int.reduceBNe, Int.reduceToNat, hp, hq, ha, Option.isSome_some]
    have hsC := hs5.p4.set (o' := .row 6 [[.str x.key, .str val, .int .i64 x.create, .int .i64 (A.rev + 1), .int .i64 (x.ver + 1), .int .i64 lease]] 1)
    rw [hxk] at hsC ⊢
    have hlay : Triple Try.prog 34 [.ptr w 4 0 0, chV tp td (.put ⟨key, val, x.create, A.rev + 1, x.ver + 1, lease⟩)] _ _ := mvLay hw hsC.p4.p4.p4.p4 hzl (by rw [← hwn]; exact wNew_chg hchg) (by rw [← hwn]; exact wNew_len k0 (by omega)) (fun h => by cases h) (by rw [← hwn]; exact wNew_num ok hw hchg (by omega) (by omega))
    rw [hwn]
    refine call_use hlay ?_
    rintro r h ⟨lv4, hok', hs⟩
    simp (disch := omega) only [go_sem, reduceCtorEq, ↓reduceIte, Nat.reduceEqDiff, Nat.reduceAdd, Nat.reduceSub, Nat.reduceMul, Nat.reduceLT, Nat.reduceLeDiff, Int.reduceEq, Int.reduceNe, Int.reduceLT, Int.reduceLE, Int.reduceBEq, Int.reduceBNe, Int.reduceToNat]
    have hdl := done_len (c := .put ⟨key, val, x.create, A.rev + 1, x.ver + 1, lease⟩) (hw.srt ok)
    rw [show (Ch.put ⟨key, val, x.create, A.rev + 1, x.ver + 1, lease⟩).key = key from rfl, hg] at hdl
    have hdl2 : (done W.cur (.put ⟨key, val, x.create, A.rev + 1, x.ver + 1, lease⟩)).length = W.cur.length := by rw [hdl]; simp [Ch.kv]
    refine wrP.2 ⟨lv4, bm3, hok', ?_⟩
    rw [hdl2]
    exact hs.p4.drop.p3.p3.p3.p3
end
end Go.Proofs.Ytkclojjeepomfaa
/- slices: insertion sort. -/
set_option linter.unusedSimpArgs false
set_option linter.unusedVariables false
set_option maxRecDepth 10000
namespace Go.Proofs.Ytkclojjeepomfaa
open Go.Hz Go.Sort

section
variable {h : Hp} {F : List Asr} {G : List AV → Prop} {lt : List AV → List AV → Bool}

theorem ins_S (hc : LessT Try.prog false G lt 101) (E : GoodE 1 false G) {d : Array (List AV)} {a bb b cap : Nat} (hs : sat h (pto b (.row 1 d.toList cap) :: F)) (hg : GA G d) (ha : a ≤ bb) (hb : bb ≤ d.size) (hsz : d.size ≤ 1000000000000) :
    Triple Try.prog 95 [.arr b 1 0 d.size cap, .int .i64 a, .int .i64 bb] h (fun r h => GA G (insertionSort lt d a bb) ∧ (insertionSort lt d a bb).size = d.size ∧ sat h (pto b (.row 1 (insertionSort lt d a bb).toList cap) :: F)) := by
  refine t95 (Nat.le_of_ble_eq_true rfl) ?_
  simp (disch := omega) only [F95, go_sem, reduceCtorEq, ↓reduceIte, Nat.reduceEqDiff, Nat.reduceAdd, Nat.reduceSub, Nat.reduceMul, Nat.reduceLT, Nat.reduceLeDiff, Int.reduceEq, Int.reduceNe, Int.reduceLT, Int.reduceLE, Int.reduceBEq, Int.reduceBNe, Int.reduceToNat]
  refine run_loopN (fun n e h => ∃ (i : Nat) (d' : Array (List AV)), n = bb + 1 - i ∧ a + 1 ≤ i ∧ i ≤ bb + 1 ∧ insOuter lt a bb i d' = insertionSort lt d a bb ∧ GA G d' ∧ d'.size = d.size ∧ sat h (pto b (.row 1 d'.toList cap) :: F) ∧
    (e 0 = .arr b 1 0 d.size cap ∧ e 1 = .int .i64 a ∧ e 2 = .int .i64 bb ∧ e 6 = .int .i64 i)) (bb + 1 - (a + 1)) ⟨a + 1, d, rfl, Nat.le_refl _, by omega, rfl, hg, rfl, hs, rfl, rfl, rfl, rfl⟩ ?_
  rintro n e h ⟨i, d', rfl, hi1, hi2, hI, hg', hz', hs, he⟩
  simp (disch := omega) only [go_sem, reduceCtorEq, ↓reduceIte, Nat.reduceEqDiff, Nat.reduceAdd, Nat.reduceSub, Nat.reduceMul, Nat.reduceLT, Nat.reduceLeDiff, Int.reduceEq, Int.reduceNe, Int.reduceLT, Int.reduceLE, Int.reduceBEq, Int.reduceBNe, Int.reduceToNat, he]
  refine cnd_dec (fun hlt => ?_) (fun hge => ?_)
  · simp (disch := omega) only [go_sem, reduceCtorEq, ↓reduceIte, Nat.reduceEqDiff, Nat.reduceAdd, Nat.reduceSub, Nat.reduceMul, Nat.reduceLT, Nat.reduceLeDiff, Int.reduceEq, Int.reduceNe, Int.reduceLT, Int.reduceLE, Int.reduceBEq, Int.reduceBNe, Int.reduceToNat, he]
    refine blk_join (Q := fun e h => ∃ d2 : Array (List AV), d2 = insInner lt a i d' ∧ GA G d2 ∧ d2.size = d.size ∧ sat h (pto b (.row 1 d2.toList cap) :: F) ∧
      (e 0 = .arr b 1 0 d.size cap ∧ e 1 = .int .i64 a ∧ e 2 = .int .i64 bb ∧ e 6 = .int .i64 i)) ?_ ?_
    · refine run_loopN (fun n e h => ∃ (j : Nat) (d2 : Array (List AV)), n = j ∧ j ≤ i ∧ insInner lt a j d2 = insInner lt a i d' ∧ GA G d2 ∧ d2.size = d.size ∧ sat h (pto b (.row 1 d2.toList cap) :: F) ∧
        (e 0 = .arr b 1 0 d.size cap ∧ e 1 = .int .i64 a ∧ e 2 = .int .i64 bb ∧ e 6 = .int .i64 i ∧ e 7 = .int .i64 j)) i ⟨i, d', rfl, Nat.le_refl _, rfl, hg', hz', hs, ?_⟩ ?_
      · simp only [Env.upd_apply, he, and_self, reduceIte, Nat.reduceEqDiff]
      · rintro j e h ⟨_, d2, rfl, hj, hJ, hg2, hz2, hs, he⟩
        simp (disch := omega) only [go_sem, reduceCtorEq, ↓reduceIte, Nat.reduceEqDiff, Nat.reduceAdd, Nat.reduceSub, Nat.reduceMul, Nat.reduceLT, Nat.reduceLeDiff, Int.reduceEq, Int.reduceNe, Int.reduceLT, Int.reduceLE, Int.reduceBEq, Int.reduceBNe, Int.reduceToNat, he]
        refine cnd_dec (fun hgt => ?_) (fun hle => ?_)
        · obtain ⟨j, rfl⟩ : ∃ k, j = k + 1 := ⟨j - 1, by omega⟩
          have hm : ((j + 1 : Nat) : Int) - 1 = (j : Int) := by omega
          have r1 := rd_o E hg2 (i := j + 1) (by omega)
          have r2 := rd_o E hg2 (i := j) (by omega)
          simp (disch := omega) only [go_sem, reduceCtorEq, ↓reduceIte, Nat.reduceEqDiff, Nat.reduceAdd, Nat.reduceSub, Nat.reduceMul, Nat.reduceLT, Nat.reduceLeDiff, Int.reduceEq, Int.reduceNe, Int.reduceLT, Int.reduceLE, Int.reduceBEq, Int.reduceBNe, Int.reduceToNat, he, hm, hs.at, r1, r2]
          refine call_use (hc _ _ _ _ (hg2 _ (by omega)) (hg2 _ (by omega)) hs) ?_
          rintro r h ⟨hr, hs⟩
          subst hr
          simp (disch := omega) only [go_sem, reduceCtorEq, ↓reduceIte, Nat.reduceEqDiff, Nat.reduceAdd, Nat.reduceSub, Nat.reduceMul, Nat.reduceLT, Nat.reduceLeDiff, Int.reduceEq, Int.reduceNe, Int.reduceLT, Int.reduceLE, Int.reduceBEq, Int.reduceBNe, Int.reduceToNat, he, hm, hgt]
          have hst : insInner lt a (j + 1) d2 = if lt d2[j + 1]! d2[j]! = true then insInner lt a j (swp d2 (j + 1) j) else d2 := by
            rw [insInner]; simp only [show (j + 1 > a) from by omega, decide_true, Bool.true_and]
          cases hq : lt d2[j + 1]! d2[j]!
          · simp (disch := omega) only [go_sem, reduceCtorEq, ↓reduceIte, Nat.reduceEqDiff, Nat.reduceAdd, Nat.reduceSub, Nat.reduceMul, Nat.reduceLT, Nat.reduceLeDiff, Int.reduceEq, Int.reduceNe, Int.reduceLT, Int.reduceLE, Int.reduceBEq, Int.reduceBNe, Int.reduceToNat, he]
            refine ⟨d2, ?_, hg2, hz2, hs⟩
            rw [← hJ, hst, hq]; rfl
          · simp (disch := omega) only [go_sem, reduceCtorEq, ↓reduceIte, Nat.reduceEqDiff, Nat.reduceAdd, Nat.reduceSub, Nat.reduceMul, Nat.reduceLT, Nat.reduceLeDiff, Int.reduceEq, Int.reduceNe, Int.reduceLT, Int.reduceLE, Int.reduceBEq, Int.reduceBNe, Int.reduceToNat, he]
            obtain ⟨k1, k2, k3, k4, k5, k6, k7, k8, k9, k10, k11, ⟨ky, y1, y2, y3, y4⟩, hw⟩ := sw_o E hg2 (i := j + 1) (j := j) (by omega) (by omega)
            simp (disch := omega) only [go_sem, reduceCtorEq, ↓reduceIte, Nat.reduceEqDiff, Nat.reduceAdd, Nat.reduceSub, Nat.reduceMul, Nat.reduceLT, Nat.reduceLeDiff, Int.reduceEq, Int.reduceNe, Int.reduceLT, Int.reduceLE, Int.reduceBEq, Int.reduceBNe, Int.reduceToNat, he, hm, hs.at, k1, k2, k3, k4, k5, k6, k7, k8, k9, k10, k11, y1, y2, y3, y4, hw]
            refine ⟨j, by omega, j, swp d2 (j + 1) j, rfl, by omega, ?_, hg2.swp (by omega) (by omega), by rw [Go.Sort.swp_size]; exact hz2, hs.set, rfl⟩
            rw [← hJ, hst, hq]; rfl
        · simp (disch := omega) only [go_sem, reduceCtorEq, ↓reduceIte, Nat.reduceEqDiff, Nat.reduceAdd, Nat.reduceSub, Nat.reduceMul, Nat.reduceLT, Nat.reduceLeDiff, Int.reduceEq, Int.reduceNe, Int.reduceLT, Int.reduceLE, Int.reduceBEq, Int.reduceBNe, Int.reduceToNat, he, hle]
          refine ⟨d2, ?_, hg2, hz2, hs⟩
          rw [← hJ]
          cases j with
          | zero => rw [insInner]
          | succ j => rw [insInner, if_neg]; simp; omega
    · rintro e h ⟨d2, hd2, hg2, hz2, hs, he⟩
      simp (disch := omega) only [go_sem, reduceCtorEq, ↓reduceIte, Nat.reduceEqDiff, Nat.reduceAdd, Nat.reduceSub, Nat.reduceMul, Nat.reduceLT, Nat.reduceLeDiff, Int.reduceEq, Int.reduceNe, Int.reduceLT, Int.reduceLE, Int.reduceBEq, Int.reduceBNe, Int.reduceToNat, he]
      refine ⟨_, ?_, i + 1, d2, rfl, by omega, by omega, ?_, hg2, hz2, hs, rfl⟩
      · omega
      · rw [← hI, insOuter.eq_1 lt a bb i, if_pos (by omega), hd2]
  · simp (disch := omega) only [go_sem, reduceCtorEq, ↓reduceIte, Nat.reduceEqDiff, Nat.reduceAdd, Nat.reduceSub, Nat.reduceMul, Nat.reduceLT, Nat.reduceLeDiff, Int.reduceEq, Int.reduceNe, Int.reduceLT, Int.reduceLE, Int.reduceBEq, Int.reduceBNe, Int.reduceToNat, he]
    rw [insOuter, if_neg (by omega)] at hI
    subst hI
    exact ⟨hg', hz', hs⟩

theorem sift_step {α : Type} [Inhabited α] {lt : α → α → Bool} {hi first root : Nat} {d : Array α} (h : 2 * root + 1 < hi) {w : Bool} (hw : w = (decide (2 * root + 1 + 1 < hi) && lt d[first + (2 * root + 1)]! d[first + (2 * root + 1) + 1]!)) {c : Nat} (hc : c = if w = true then 2 * root + 2 else 2 * root + 1) :
    siftDown lt hi first root d = if lt d[first + root]! d[first + c]! = true then siftDown lt hi first c (swp d (first + root) (first + c)) else d := by
  rw [siftDown, dif_neg (by omega)]
  cases w with
  | true =>
    simp only [if_true] at hc
    rw [← hw, if_pos rfl, ← hc, dif_pos (by have := hw; simp at this; omega)]
    cases lt d[first + root]! d[first + c]! <;> rfl
  | false =>
    simp only [Bool.false_eq_true, if_false] at hc
    rw [← hw, if_neg (by simp), ← hc]
    cases lt d[first + root]! d[first + c]! <;> rfl

theorem sift_S (hc : LessT Try.prog false G lt 101) (E : GoodE 1 false G) {d : Array (List AV)} {root hi first b cap : Nat} (hs : sat h (pto b (.row 1 d.toList cap) :: F)) (hg : GA G d) (hr : root ≤ hi) (hb : first + hi ≤ d.size) (hsz : d.size ≤ 1000000000000) :
    Triple Try.prog 110 [.arr b 1 0 d.size cap, .int .i64 root, .int .i64 hi, .int .i64 first] h (fun r h => GA G (siftDown lt hi first root d) ∧ (siftDown lt hi first root d).size = d.size ∧ sat h (pto b (.row 1 (siftDown lt hi first root d).toList cap) :: F)) := by
  refine t110 (Nat.le_of_ble_eq_true rfl) ?_
  simp (disch := omega) only [F110, go_sem, reduceCtorEq, ↓reduceIte, Nat.reduceEqDiff, Nat.reduceAdd, Nat.reduceSub, Nat.reduceMul, Nat.reduceLT, Nat.reduceLeDiff, Int.reduceEq, Int.reduceNe, Int.reduceLT, Int.reduceLE, Int.reduceBEq, Int.reduceBNe, Int.reduceToNat]
  refine run_loopN (fun n e h => ∃ (i : Nat) (d' : Array (List AV)), n = hi - i ∧ i ≤ hi ∧ siftDown lt hi first i d' = siftDown lt hi first root d ∧ GA G d' ∧ d'.size = d.size ∧ sat h (pto b (.row 1 d'.toList cap) :: F) ∧
    (e 0 = .arr b 1 0 d.size cap ∧ e 2 = .int .i64 hi ∧ e 3 = .int .i64 first ∧ e 8 = .int .i64 i)) (hi - root) ⟨root, d, rfl, hr, rfl, hg, rfl, hs, rfl, rfl, rfl, rfl⟩ ?_
  rintro n e h ⟨i, d', rfl, hi1, hI, hg', hz', hs, he⟩
  have n1 : (2 : Int) * i + 1 = ((2 * i + 1 : Nat) : Int) := by omega
  simp (disch := omega) only [go_sem, reduceCtorEq, ↓reduceIte, Nat.reduceEqDiff, Nat.reduceAdd, Nat.reduceSub, Nat.reduceMul, Nat.reduceLT, Nat.reduceLeDiff, Int.reduceEq, Int.reduceNe, Int.reduceLT, Int.reduceLE, Int.reduceBEq, Int.reduceBNe, Int.reduceToNat, he, n1]
  refine cnd_dec (fun hge => ?_) (fun hlt => ?_)
  · simp (disch := omega) only [go_sem, reduceCtorEq, ↓reduceIte, Nat.reduceEqDiff, Nat.reduceAdd, Nat.reduceSub, Nat.reduceMul, Nat.reduceLT, Nat.reduceLeDiff, Int.reduceEq, Int.reduceNe, Int.reduceLT, Int.reduceLE, Int.reduceBEq, Int.reduceBNe, Int.reduceToNat, he]
    rw [siftDown, dif_pos (by omega)] at hI
    subst hI
    exact ⟨hg', hz', hs⟩
  · have n2 : ((2 * i + 1 : Nat) : Int) + 1 = ((2 * i + 2 : Nat) : Int) := by omega
    simp (disch := omega) only [go_sem, reduceCtorEq, ↓reduceIte, Nat.reduceEqDiff, Nat.reduceAdd, Nat.reduceSub, Nat.reduceMul, Nat.reduceLT, Nat.reduceLeDiff, Int.reduceEq, Int.reduceNe, Int.reduceLT, Int.reduceLE, Int.reduceBEq, Int.reduceBNe, Int.reduceToNat, he, n1, n2]
    obtain ⟨w, hw⟩ : ∃ w, w = (decide (2 * i + 1 + 1 < hi) && lt d'[first + (2 * i + 1)]! d'[first + (2 * i + 1) + 1]!) := ⟨_, rfl⟩
    obtain ⟨c', hc'⟩ : ∃ c', c' = if w = true then 2 * i + 2 else 2 * i + 1 := ⟨_, rfl⟩
    refine cnd_join (Q := fun e' h' => ∃ (q : Bool) (v : AV), (if q = true then v else AV.bool false) = .bool w ∧ sat h' (pto b (.row 1 d'.toList cap) :: F) ∧
      (e' 21 = .bool q ∧ e' 35 = v ∧ e' 0 = .arr b 1 0 d.size cap ∧ e' 2 = .int .i64 hi ∧ e' 3 = .int .i64 first ∧ e' 8 = .int .i64 i ∧ e' 9 = .int .i64 (2 * i + 1 : Nat))) ?_ ?_
    · refine cnd_dec (fun h1 => ?_) (fun h1 => ?_)
      · have m1 : (first : Int) + ((2 * i + 1 : Nat) : Int) = ((first + (2 * i + 1) : Nat) : Int) := by omega
        have m2 : ((first + (2 * i + 1) : Nat) : Int) + 1 = ((first + (2 * i + 1) + 1 : Nat) : Int) := by omega
        have r1 := rd_o E hg' (i := first + (2 * i + 1)) (by omega)
        have r2 := rd_o E hg' (i := first + (2 * i + 1) + 1) (by omega)
        simp (disch := omega) only [go_sem, reduceCtorEq, ↓reduceIte, Nat.reduceEqDiff, Nat.reduceAdd, Nat.reduceSub, Nat.reduceMul, Nat.reduceLT, Nat.reduceLeDiff, Int.reduceEq, Int.reduceNe, Int.reduceLT, Int.reduceLE, Int.reduceBEq, Int.reduceBNe, Int.reduceToNat, he, hs.at, r1, r2, m1, m2, h1, n1]
        refine call_use (hc _ _ _ _ (hg' _ (by omega)) (hg' _ (by omega)) hs) ?_
        rintro r h ⟨hr, hs⟩
        subst hr
        simp (disch := omega) only [go_sem, reduceCtorEq, ↓reduceIte, Nat.reduceEqDiff, Nat.reduceAdd, Nat.reduceSub, Nat.reduceMul, Nat.reduceLT, Nat.reduceLeDiff, Int.reduceEq, Int.reduceNe, Int.reduceLT, Int.reduceLE, Int.reduceBEq, Int.reduceBNe, Int.reduceToNat, he, h1, n1]
        refine ⟨_, _, ?_, hs, rfl, rfl⟩
        rw [if_pos rfl, hw, decide_eq_true (show 2 * i + 1 + 1 < hi from by omega), Bool.true_and]
      · simp (disch := omega) only [go_sem, reduceCtorEq, ↓reduceIte, Nat.reduceEqDiff, Nat.reduceAdd, Nat.reduceSub, Nat.reduceMul, Nat.reduceLT, Nat.reduceLeDiff, Int.reduceEq, Int.reduceNe, Int.reduceLT, Int.reduceLE, Int.reduceBEq, Int.reduceBNe, Int.reduceToNat, he, h1, n1]
        refine ⟨_, _, ?_, hs, rfl, rfl⟩
        rw [if_neg (by simp), hw, decide_eq_false (show ¬ 2 * i + 1 + 1 < hi from by omega), Bool.false_and]
    · rintro e h ⟨q, v, hq, hs, he⟩
      simp (disch := omega) only [go_sem, reduceCtorEq, ↓reduceIte, Nat.reduceEqDiff, Nat.reduceAdd, Nat.reduceSub, Nat.reduceMul, Nat.reduceLT, Nat.reduceLeDiff, Int.reduceEq, Int.reduceNe, Int.reduceLT, Int.reduceLE, Int.reduceBEq, Int.reduceBNe, Int.reduceToNat, he, hq]
      refine cnd_join (Q := fun e' h' => sat h' (pto b (.row 1 d'.toList cap) :: F) ∧
        (e' 0 = .arr b 1 0 d.size cap ∧ e' 2 = .int .i64 hi ∧ e' 3 = .int .i64 first ∧ e' 8 = .int .i64 i ∧ e' 9 = .int .i64 c')) ?_ ?_
      · cases w with
        | true =>
          rw [if_pos rfl] at hc'
          have n2 : ((2 * i + 1 : Nat) : Int) + 1 = (c' : Int) := by omega
          have : c' < hi := by simp at hw; omega
          simp (disch := omega) only [go_sem, reduceCtorEq, ↓reduceIte, Nat.reduceEqDiff, Nat.reduceAdd, Nat.reduceSub, Nat.reduceMul, Nat.reduceLT, Nat.reduceLeDiff, Int.reduceEq, Int.reduceNe, Int.reduceLT, Int.reduceLE, Int.reduceBEq, Int.reduceBNe, Int.reduceToNat, he, n2]
          exact hs
        | false =>
          rw [if_neg (by simp)] at hc'
          subst hc'
          simp (disch := omega) only [go_sem, reduceCtorEq, ↓reduceIte, Nat.reduceEqDiff, Nat.reduceAdd, Nat.reduceSub, Nat.reduceMul, Nat.reduceLT, Nat.reduceLeDiff, Int.reduceEq, Int.reduceNe, Int.reduceLT, Int.reduceLE, Int.reduceBEq, Int.reduceBNe, Int.reduceToNat, he]
          exact hs
      · have hch : c' < hi := by
          cases w with
          | true => rw [if_pos rfl] at hc'; simp at hw; omega
          | false => rw [if_neg (by simp)] at hc'; omega
        have hci : i < c' := by
          cases w with
          | true => rw [if_pos rfl] at hc'; omega
          | false => rw [if_neg (by simp)] at hc'; omega
        have hst := sift_step (d := d') (lt := lt) (first := first) (root := i) (by omega) hw hc'
        rintro e h ⟨hs, he⟩
        have m1 : (first : Int) + (i : Int) = ((first + i : Nat) : Int) := by omega
        have m2 : (first : Int) + (c' : Int) = ((first + c' : Nat) : Int) := by omega
        have r1 := rd_o E hg' (i := first + i) (by omega)
        have r2 := rd_o E hg' (i := first + c') (by omega)
        simp (disch := omega) only [go_sem, reduceCtorEq, ↓reduceIte, Nat.reduceEqDiff, Nat.reduceAdd, Nat.reduceSub, Nat.reduceMul, Nat.reduceLT, Nat.reduceLeDiff, Int.reduceEq, Int.reduceNe, Int.reduceLT, Int.reduceLE, Int.reduceBEq, Int.reduceBNe, Int.reduceToNat, he, hs.at, r1, r2, m1, m2]
        refine call_use (hc _ _ _ _ (hg' _ (by omega)) (hg' _ (by omega)) hs) ?_
        rintro r h ⟨hr, hs⟩
        subst hr
        simp (disch := omega) only [go_sem, reduceCtorEq, ↓reduceIte, Nat.reduceEqDiff, Nat.reduceAdd, Nat.reduceSub, Nat.reduceMul, Nat.reduceLT, Nat.reduceLeDiff, Int.reduceEq, Int.reduceNe, Int.reduceLT, Int.reduceLE, Int.reduceBEq, Int.reduceBNe, Int.reduceToNat, he]
        cases hq : lt d'[first + i]! d'[first + c']!
        · simp (disch := omega) only [go_sem, reduceCtorEq, ↓reduceIte, Nat.reduceEqDiff, Nat.reduceAdd, Nat.reduceSub, Nat.reduceMul, Nat.reduceLT, Nat.reduceLeDiff, Int.reduceEq, Int.reduceNe, Int.reduceLT, Int.reduceLE, Int.reduceBEq, Int.reduceBNe, Int.reduceToNat, he]
          rw [← hI, hst, hq]
          exact ⟨hg', hz', hs⟩
        · simp (disch := omega) only [go_sem, reduceCtorEq, ↓reduceIte, Nat.reduceEqDiff, Nat.reduceAdd, Nat.reduceSub, Nat.reduceMul, Nat.reduceLT, Nat.reduceLeDiff, Int.reduceEq, Int.reduceNe, Int.reduceLT, Int.reduceLE, Int.reduceBEq, Int.reduceBNe, Int.reduceToNat, he]
          obtain ⟨k1, k2, k3, k4, k5, k6, k7, k8, k9, k10, k11, ⟨ky, y1, y2, y3, y4⟩, hw⟩ := sw_o E hg' (i := first + i) (j := first + c') (by omega) (by omega)
          simp (disch := omega) only [go_sem, reduceCtorEq, ↓reduceIte, Nat.reduceEqDiff, Nat.reduceAdd, Nat.reduceSub, Nat.reduceMul, Nat.reduceLT, Nat.reduceLeDiff, Int.reduceEq, Int.reduceNe, Int.reduceLT, Int.reduceLE, Int.reduceBEq, Int.reduceBNe, Int.reduceToNat, he, m1, m2, hs.at, k1, k2, k3, k4, k5, k6, k7, k8, k9, k10, k11, y1, y2, y3, y4, hw]
          refine ⟨hi - c', by omega, c', swp d' (first + i) (first + c'), rfl, by omega, ?_, hg'.swp (by omega) (by omega), by rw [Go.Sort.swp_size]; exact hz', hs.set, rfl⟩
          rw [← hI, hst, hq]; rfl
theorem heap_S (hc : LessT Try.prog false G lt 101) (E : GoodE 1 false G) {d : Array (List AV)} {a bb b cap : Nat} (hs : sat h (pto b (.row 1 d.toList cap) :: F)) (hg : GA G d) (ha : a ≤ bb) (hb : bb ≤ d.size) (hsz : d.size ≤ 1000000000000) :
    Triple Try.prog 96 [.arr b 1 0 d.size cap, .int .i64 a, .int .i64 bb] h (fun r h => GA G (heapSort lt d a bb) ∧ (heapSort lt d a bb).size = d.size ∧ sat h (pto b (.row 1 (heapSort lt d a bb).toList cap) :: F)) := by
  obtain ⟨hi, hhi⟩ : ∃ hi, hi = bb - a := ⟨_, rfl⟩
  have n1 : (bb : Int) - a = (hi : Int) := by omega
  have n2 : ((hi : Int) - 1).tdiv 2 = (((hi - 1) / 2 + 1 : Nat) : Int) - 1 := by
    rcases Nat.eq_zero_or_pos hi with h0 | h0
    · subst h0; decide
    · rw [Int.tdiv_eq_ediv_of_nonneg (by omega)]; omega
  refine t96 (Nat.le_of_ble_eq_true rfl) ?_
  simp (disch := omega) only [F96, n1, n2, go_sem, reduceCtorEq, ↓reduceIte, Nat.reduceEqDiff, Nat.reduceAdd, Nat.reduceSub, Nat.reduceMul, Nat.reduceLT, Nat.reduceLeDiff, Int.reduceEq, Int.reduceNe, Int.reduceLT, Int.reduceLE, Int.reduceBEq, Int.reduceBNe, Int.reduceToNat]
  refine blk_join (Q := fun e h => ∃ d2 : Array (List AV), d2 = heapBuild lt hi a ((hi - 1) / 2 + 1) d ∧ GA G d2 ∧ d2.size = d.size ∧ sat h (pto b (.row 1 d2.toList cap) :: F) ∧
    (e 0 = .arr b 1 0 d.size cap ∧ e 6 = .int .i64 a ∧ e 7 = .int .i64 0 ∧ e 8 = .int .i64 hi)) ?_ ?_
  · refine run_loopN (fun n e h => ∃ (k : Nat) (d2 : Array (List AV)), n = k ∧ k ≤ (hi - 1) / 2 + 1 ∧ heapBuild lt hi a k d2 = heapBuild lt hi a ((hi - 1) / 2 + 1) d ∧ GA G d2 ∧ d2.size = d.size ∧ sat h (pto b (.row 1 d2.toList cap) :: F) ∧
      (e 0 = .arr b 1 0 d.size cap ∧ e 6 = .int .i64 a ∧ e 7 = .int .i64 0 ∧ e 8 = .int .i64 hi ∧ e 9 = .int .i64 ((k : Int) - 1))) ((hi - 1) / 2 + 1) ⟨_, d, rfl, Nat.le_refl _, rfl, hg, rfl, hs, rfl, rfl, rfl, rfl, rfl⟩ ?_
    rintro k e h ⟨_, d2, rfl, hk, hI, hg2, hz2, hs, he⟩
    simp (disch := omega) only [go_sem, reduceCtorEq, ↓reduceIte, Nat.reduceEqDiff, Nat.reduceAdd, Nat.reduceSub, Nat.reduceMul, Nat.reduceLT, Nat.reduceLeDiff, Int.reduceEq, Int.reduceNe, Int.reduceLT, Int.reduceLE, Int.reduceBEq, Int.reduceBNe, Int.reduceToNat, he]
    refine cnd_dec (fun hge => ?_) (fun hlt => ?_)
    · obtain ⟨k, rfl⟩ : ∃ j, k = j + 1 := ⟨k - 1, by omega⟩
      have m1 : ((k + 1 : Nat) : Int) - 1 = (k : Int) := by omega
      simp (disch := omega) only [go_sem, reduceCtorEq, ↓reduceIte, Nat.reduceEqDiff, Nat.reduceAdd, Nat.reduceSub, Nat.reduceMul, Nat.reduceLT, Nat.reduceLeDiff, Int.reduceEq, Int.reduceNe, Int.reduceLT, Int.reduceLE, Int.reduceBEq, Int.reduceBNe, Int.reduceToNat, he, m1]
      refine call_use (by rw [← hz2]; exact sift_S hc E hs hg2 (by omega) (by omega) (by omega)) ?_
      rintro r h ⟨hg3, hz3, hs⟩
      simp (disch := omega) only [go_sem, reduceCtorEq, ↓reduceIte, Nat.reduceEqDiff, Nat.reduceAdd, Nat.reduceSub, Nat.reduceMul, Nat.reduceLT, Nat.reduceLeDiff, Int.reduceEq, Int.reduceNe, Int.reduceLT, Int.reduceLE, Int.reduceBEq, Int.reduceBNe, Int.reduceToNat, he, m1]
      refine ⟨k, by omega, k, _, rfl, by omega, ?_, hg3, by rw [hz3]; exact hz2, hs, rfl⟩
      rw [← hI]; rfl
    · obtain rfl : k = 0 := by omega
      simp (disch := omega) only [go_sem, reduceCtorEq, ↓reduceIte, Nat.reduceEqDiff, Nat.reduceAdd, Nat.reduceSub, Nat.reduceMul, Nat.reduceLT, Nat.reduceLeDiff, Int.reduceEq, Int.reduceNe, Int.reduceLT, Int.reduceLE, Int.reduceBEq, Int.reduceBNe, Int.reduceToNat, he]
      exact ⟨d2, hI, hg2, hz2, hs⟩
  · rintro e h ⟨d2, hd2, hg2, hz2, hs, he⟩
    simp (disch := omega) only [go_sem, reduceCtorEq, ↓reduceIte, Nat.reduceEqDiff, Nat.reduceAdd, Nat.reduceSub, Nat.reduceMul, Nat.reduceLT, Nat.reduceLeDiff, Int.reduceEq, Int.reduceNe, Int.reduceLT, Int.reduceLE, Int.reduceBEq, Int.reduceBNe, Int.reduceToNat, he]
    refine run_loopN (fun n e h => ∃ (k : Nat) (d3 : Array (List AV)), n = k ∧ k ≤ hi ∧ heapPop lt a k d3 = heapPop lt a hi d2 ∧ GA G d3 ∧ d3.size = d.size ∧ sat h (pto b (.row 1 d3.toList cap) :: F) ∧
      (e 0 = .arr b 1 0 d.size cap ∧ e 6 = .int .i64 a ∧ e 7 = .int .i64 0 ∧ e 10 = .int .i64 ((k : Int) - 1))) hi ⟨_, d2, rfl, Nat.le_refl _, rfl, hg2, hz2, hs, ?_⟩ ?_
    · simp only [Env.upd_apply, he, and_self, reduceIte, Nat.reduceEqDiff]
    · rintro k e h ⟨_, d3, rfl, hk, hI, hg3, hz3, hs, he⟩
      simp (disch := omega) only [go_sem, reduceCtorEq, ↓reduceIte, Nat.reduceEqDiff, Nat.reduceAdd, Nat.reduceSub, Nat.reduceMul, Nat.reduceLT, Nat.reduceLeDiff, Int.reduceEq, Int.reduceNe, Int.reduceLT, Int.reduceLE, Int.reduceBEq, Int.reduceBNe, Int.reduceToNat, he]
      refine cnd_dec (fun hge => ?_) (fun hlt => ?_)
      · obtain ⟨k, rfl⟩ : ∃ j, k = j + 1 := ⟨k - 1, by omega⟩
        have m1 : ((k + 1 : Nat) : Int) - 1 = (k : Int) := by omega
        have m2 : (a : Int) + k = ((a + k : Nat) : Int) := by omega
        obtain ⟨k1, k2, k3, k4, k5, k6, k7, k8, k9, k10, k11, ⟨ky, y1, y2, y3, y4⟩, hw⟩ := sw_o E hg3 (i := a) (j := a + k) (by omega) (by omega)
        simp (disch := omega) only [go_sem, reduceCtorEq, ↓reduceIte, Nat.reduceEqDiff, Nat.reduceAdd, Nat.reduceSub, Nat.reduceMul, Nat.reduceLT, Nat.reduceLeDiff, Int.reduceEq, Int.reduceNe, Int.reduceLT, Int.reduceLE, Int.reduceBEq, Int.reduceBNe, Int.reduceToNat, he, m1, m2, hs.at, k1, k2, k3, k4, k5, k6, k7, k8, k9, k10, k11, y1, y2, y3, y4, hw]
        have hs2 := hs.set (o' := .row 1 (swp d3 a (a + k)).toList cap)
        refine call_use (by rw [← hz3, ← Go.Sort.swp_size d3 a (a + k)]; exact sift_S (root := 0) hc E hs2 (hg3.swp (by omega) (by omega)) (Nat.zero_le _) (by rw [Go.Sort.swp_size]; omega) (by rw [Go.Sort.swp_size]; omega)) ?_
        rintro r h ⟨hg4, hz4, hs⟩
        simp (disch := omega) only [go_sem, reduceCtorEq, ↓reduceIte, Nat.reduceEqDiff, Nat.reduceAdd, Nat.reduceSub, Nat.reduceMul, Nat.reduceLT, Nat.reduceLeDiff, Int.reduceEq, Int.reduceNe, Int.reduceLT, Int.reduceLE, Int.reduceBEq, Int.reduceBNe, Int.reduceToNat, he, m1]
        refine ⟨k, by omega, k, _, rfl, by omega, ?_, hg4, by rw [hz4, Go.Sort.swp_size]; exact hz3, hs, rfl⟩
        rw [← hI]; rfl
      · obtain rfl : k = 0 := by omega
        simp (disch := omega) only [go_sem, reduceCtorEq, ↓reduceIte, Nat.reduceEqDiff, Nat.reduceAdd, Nat.reduceSub, Nat.reduceMul, Nat.reduceLT, Nat.reduceLeDiff, Int.reduceEq, Int.reduceNe, Int.reduceLT, Int.reduceLE, Int.reduceBEq, Int.reduceBNe, Int.reduceToNat, he]
        have : d3 = heapSort lt d a bb := by
          rw [heapSort, ← hhi, ← hd2, ← hI]; rfl
        subst this
        exact ⟨hg3, hz3, hs⟩
end
end Go.Proofs.Ytkclojjeepomfaa
/- slices: the pivot; reverseRange. -/
set_option linter.unusedSimpArgs false
set_option linter.unusedVariables false
set_option maxRecDepth 10000
namespace Go.Proofs.Ytkclojjeepomfaa
open Go.Hz Go.Sort

section
variable {h : Hp} {F : List Asr} {G : List AV → Prop} {lt : List AV → List AV → Bool}

theorem ord_S (hc : LessT Try.prog false G lt 101) (E : GoodE 1 false G) {d : Array (List AV)} {x y n b cap q : Nat} (hs : sat h (pto b (.row 1 d.toList cap) :: pto q (.row 1 [[.int .i64 n]] 1) :: F)) (hg : GA G d) (hx : x < d.size) (hy : y < d.size) (hn : n ≤ 1000) (hsz : d.size ≤ 1000000000000) :
    Triple Try.prog 122 [.arr b 1 0 d.size cap, .int .i64 x, .int .i64 y, .ptr q 1 0 0] h (fun r h => ∃ u v m : Nat, r = .tup [.int .i64 u, .int .i64 v] ∧ (u = x ∧ v = y ∨ u = y ∧ v = x) ∧ m ≤ n + 1 ∧ sat h (pto b (.row 1 d.toList cap) :: pto q (.row 1 [[.int .i64 m]] 1) :: F)) := by
  have r1 := rd_o E hg hy
  have r2 := rd_o E hg hx
  refine t122 (Nat.le_of_ble_eq_true rfl) ?_
  simp (disch := omega) only [F122, hs.at, r1, r2, go_sem, reduceCtorEq, ↓reduceIte, Nat.reduceEqDiff, Nat.reduceAdd, Nat.reduceSub, Nat.reduceMul, Nat.reduceLT, Nat.reduceLeDiff, Int.reduceEq, Int.reduceNe, Int.reduceLT, Int.reduceLE, Int.reduceBEq, Int.reduceBNe, Int.reduceToNat]
  refine call_use (hc _ _ _ _ (hg _ hy) (hg _ hx) hs) ?_
  rintro r h ⟨hr, hs⟩
  subst hr
  simp (disch := omega) only [go_sem, reduceCtorEq, ↓reduceIte, Nat.reduceEqDiff, Nat.reduceAdd, Nat.reduceSub, Nat.reduceMul, Nat.reduceLT, Nat.reduceLeDiff, Int.reduceEq, Int.reduceNe, Int.reduceLT, Int.reduceLE, Int.reduceBEq, Int.reduceBNe, Int.reduceToNat]
  cases hq : lt d[y]! d[x]!
  · simp (disch := omega) only [go_sem, reduceCtorEq, ↓reduceIte, Nat.reduceEqDiff, Nat.reduceAdd, Nat.reduceSub, Nat.reduceMul, Nat.reduceLT, Nat.reduceLeDiff, Int.reduceEq, Int.reduceNe, Int.reduceLT, Int.reduceLE, Int.reduceBEq, Int.reduceBNe, Int.reduceToNat]
    exact ⟨x, y, n, rfl, .inl ⟨rfl, rfl⟩, by omega, hs⟩
  · simp (disch := omega) only [go_sem, reduceCtorEq, ↓reduceIte, Nat.reduceEqDiff, Nat.reduceAdd, Nat.reduceSub, Nat.reduceMul, Nat.reduceLT, Nat.reduceLeDiff, Int.reduceEq, Int.reduceNe, Int.reduceLT, Int.reduceLE, Int.reduceBEq, Int.reduceBNe, Int.reduceToNat, hs.p1.at]
    have e : ((n : Int) + 1) = ((n + 1 : Nat) : Int) := by omega
    refine ⟨y, x, n + 1, rfl, .inr ⟨rfl, rfl⟩, by omega, ?_⟩
    rw [← e]
    exact hs.p1.set.p1
theorem med_S (hc : LessT Try.prog false G lt 101) (E : GoodE 1 false G) {d : Array (List AV)} {x y z n b cap q : Nat} (hs : sat h (pto b (.row 1 d.toList cap) :: pto q (.row 1 [[.int .i64 n]] 1) :: F)) (hg : GA G d) (hx : x < d.size) (hy : y < d.size) (hz : z < d.size) (hn : n ≤ 990) (hsz : d.size ≤ 1000000000000) :
    Triple Try.prog 114 [.arr b 1 0 d.size cap, .int .i64 x, .int .i64 y, .int .i64 z, .ptr q 1 0 0] h (fun r h => ∃ u m : Nat, r = .int .i64 u ∧ (u = x ∨ u = y ∨ u = z) ∧ m ≤ n + 3 ∧ sat h (pto b (.row 1 d.toList cap) :: pto q (.row 1 [[.int .i64 m]] 1) :: F)) := by
  refine t114 (Nat.le_of_ble_eq_true rfl) ?_
  simp (disch := omega) only [F114, go_sem, reduceCtorEq, ↓reduceIte, Nat.reduceEqDiff, Nat.reduceAdd, Nat.reduceSub, Nat.reduceMul, Nat.reduceLT, Nat.reduceLeDiff, Int.reduceEq, Int.reduceNe, Int.reduceLT, Int.reduceLE, Int.reduceBEq, Int.reduceBNe, Int.reduceToNat]
  refine call_use (ord_S hc E hs hg hx hy (by omega) hsz) ?_
  rintro r h ⟨u1, v1, n1, hr, h1, m1, hs⟩
  subst hr
  simp (disch := omega) only [go_sem, reduceCtorEq, ↓reduceIte, Nat.reduceEqDiff, Nat.reduceAdd, Nat.reduceSub, Nat.reduceMul, Nat.reduceLT, Nat.reduceLeDiff, Int.reduceEq, Int.reduceNe, Int.reduceLT, Int.reduceLE, Int.reduceBEq, Int.reduceBNe, Int.reduceToNat]
  refine call_use (ord_S hc E hs hg (by omega) hz (by omega) hsz) ?_
  rintro r h ⟨u2, v2, n2, hr, h2, m2, hs⟩
  subst hr
  simp (disch := omega) only [go_sem, reduceCtorEq, ↓reduceIte, Nat.reduceEqDiff, Nat.reduceAdd, Nat.reduceSub, Nat.reduceMul, Nat.reduceLT, Nat.reduceLeDiff, Int.reduceEq, Int.reduceNe, Int.reduceLT, Int.reduceLE, Int.reduceBEq, Int.reduceBNe, Int.reduceToNat]
  refine call_use (ord_S hc E hs hg (by omega) (by omega) (by omega) hsz) ?_
  rintro r h ⟨u3, v3, n3, hr, h3, m3, hs⟩
  subst hr
  simp (disch := omega) only [go_sem, reduceCtorEq, ↓reduceIte, Nat.reduceEqDiff, Nat.reduceAdd, Nat.reduceSub, Nat.reduceMul, Nat.reduceLT, Nat.reduceLeDiff, Int.reduceEq, Int.reduceNe, Int.reduceLT, Int.reduceLE, Int.reduceBEq, Int.reduceBNe, Int.reduceToNat]
  exact ⟨v3, n3, rfl, by omega, by omega, hs⟩
theorem mea_S (hc : LessT Try.prog false G lt 101) (E : GoodE 1 false G) {d : Array (List AV)} {x n b cap q : Nat} (hs : sat h (pto b (.row 1 d.toList cap) :: pto q (.row 1 [[.int .i64 n]] 1) :: F)) (hg : GA G d) (hx0 : 1 ≤ x) (hx : x + 1 < d.size) (hn : n ≤ 990) (hsz : d.size ≤ 1000000000000) :
    Triple Try.prog 113 [.arr b 1 0 d.size cap, .int .i64 x, .ptr q 1 0 0] h (fun r h => ∃ u m : Nat, r = .int .i64 u ∧ x ≤ u + 1 ∧ u ≤ x + 1 ∧ m ≤ n + 3 ∧ sat h (pto b (.row 1 d.toList cap) :: pto q (.row 1 [[.int .i64 m]] 1) :: F)) := by
  have n1 : (x : Int) - 1 = ((x - 1 : Nat) : Int) := by omega
  have n2 : (x : Int) + 1 = ((x + 1 : Nat) : Int) := by omega
  refine t113 (Nat.le_of_ble_eq_true rfl) ?_
  simp (disch := omega) only [F113, n1, n2, go_sem, reduceCtorEq, ↓reduceIte, Nat.reduceEqDiff, Nat.reduceAdd, Nat.reduceSub, Nat.reduceMul, Nat.reduceLT, Nat.reduceLeDiff, Int.reduceEq, Int.reduceNe, Int.reduceLT, Int.reduceLE, Int.reduceBEq, Int.reduceBNe, Int.reduceToNat]
  refine call_use (med_S hc E hs hg (by omega) (by omega) (by omega) (by omega) hsz) ?_
  rintro r h ⟨u, m, hr, h1, m1, hs⟩
  subst hr
  simp (disch := omega) only [go_sem, reduceCtorEq, ↓reduceIte, Nat.reduceEqDiff, Nat.reduceAdd, Nat.reduceSub, Nat.reduceMul, Nat.reduceLT, Nat.reduceLeDiff, Int.reduceEq, Int.reduceNe, Int.reduceLT, Int.reduceLE, Int.reduceBEq, Int.reduceBNe, Int.reduceToNat]
  exact ⟨u, m, rfl, by omega, by omega, by omega, hs⟩
theorem piv_S (hc : LessT Try.prog false G lt 101) (E : GoodE 1 false G) {d : Array (List AV)} {a bb b cap : Nat} (hs : sat h (pto b (.row 1 d.toList cap) :: F)) (hg : GA G d) (ha : a + 12 < bb) (hb : bb ≤ d.size) (hsz : d.size ≤ 1000000000000) :
    Triple Try.prog 98 [.arr b 1 0 d.size cap, .int .i64 a, .int .i64 bb] h (fun r h => ∃ (u : Nat) (t : Nat), r = .tup [.int .i64 u, .int .i64 t] ∧ a ≤ u ∧ u < bb ∧ t ≤ 2 ∧ sat h (pto b (.row 1 d.toList cap) :: F)) := by
  obtain ⟨l, hl⟩ : ∃ l, l = bb - a := ⟨_, rfl⟩
  have n0 : (bb : Int) - a = (l : Int) := by omega
  obtain ⟨g, hgg⟩ : ∃ g, g = l / 4 := ⟨_, rfl⟩
  have n1 : (l : Int).tdiv 4 = (g : Int) := by rw [Int.tdiv_eq_ediv_of_nonneg (by omega)]; omega
  have n2 : (a : Int) + (g : Int) = ((a + g : Nat) : Int) := by omega
  have n3 : (a : Int) + (g : Int) * 2 = ((a + g * 2 : Nat) : Int) := by omega
  have n4 : (a : Int) + (g : Int) * 3 = ((a + g * 3 : Nat) : Int) := by omega
  have n5 : (8 : Int) ≤ (l : Int) := by omega
  refine t98 (Nat.le_of_ble_eq_true rfl) ?_
  simp (disch := omega) only [F98, n0, go_sem, reduceCtorEq, ↓reduceIte, Nat.reduceEqDiff, Nat.reduceAdd, Nat.reduceSub, Nat.reduceMul, Nat.reduceLT, Nat.reduceLeDiff, Int.reduceEq, Int.reduceNe, Int.reduceLT, Int.reduceLE, Int.reduceBEq, Int.reduceBNe, Int.reduceToNat]
  refine new_sat hs fun q hq hs => ?_
  have hs := hs.p1
  simp (disch := omega) only [go_sem, reduceCtorEq, ↓reduceIte, Nat.reduceEqDiff, Nat.reduceAdd, Nat.reduceSub, Nat.reduceMul, Nat.reduceLT, Nat.reduceLeDiff, Int.reduceEq, Int.reduceNe, Int.reduceLT, Int.reduceLE, Int.reduceBEq, Int.reduceBNe, Int.reduceToNat, n0, n1, n2, n3, n4, n5, Int.mul_one]
  refine cnd_join (Q := fun e h => ∃ i j k m : Nat, a ≤ i ∧ i < bb ∧ a ≤ j ∧ j < bb ∧ a ≤ k ∧ k < bb ∧ m ≤ 9 ∧ sat h (pto b (.row 1 d.toList cap) :: pto q (.row 1 [[.int .i64 m]] 1) :: F) ∧
    (e 0 = .arr b 1 0 d.size cap ∧ e 9 = .ptr q 1 0 0 ∧ e 10 = .int .i64 i ∧ e 11 = .int .i64 j ∧ e 12 = .int .i64 k)) ?_ ?_
  · refine cnd_dec (fun h50 => ?_) (fun h50 => ?_)
    · simp (disch := omega) only [go_sem, reduceCtorEq, ↓reduceIte, Nat.reduceEqDiff, Nat.reduceAdd, Nat.reduceSub, Nat.reduceMul, Nat.reduceLT, Nat.reduceLeDiff, Int.reduceEq, Int.reduceNe, Int.reduceLT, Int.reduceLE, Int.reduceBEq, Int.reduceBNe, Int.reduceToNat]
      refine call_use (mea_S (n := 0) hc E hs hg (by omega) (by omega) (by omega) hsz) ?_
      rintro r h ⟨u1, m1, hr, h1, h1', hm1, hs⟩
      subst hr
      simp (disch := omega) only [go_sem, reduceCtorEq, ↓reduceIte, Nat.reduceEqDiff, Nat.reduceAdd, Nat.reduceSub, Nat.reduceMul, Nat.reduceLT, Nat.reduceLeDiff, Int.reduceEq, Int.reduceNe, Int.reduceLT, Int.reduceLE, Int.reduceBEq, Int.reduceBNe, Int.reduceToNat]
      refine call_use (mea_S hc E hs hg (by omega) (by omega) (by omega) hsz) ?_
      rintro r h ⟨u2, m2, hr, h2, h2', hm2, hs⟩
      subst hr
      simp (disch := omega) only [go_sem, reduceCtorEq, ↓reduceIte, Nat.reduceEqDiff, Nat.reduceAdd, Nat.reduceSub, Nat.reduceMul, Nat.reduceLT, Nat.reduceLeDiff, Int.reduceEq, Int.reduceNe, Int.reduceLT, Int.reduceLE, Int.reduceBEq, Int.reduceBNe, Int.reduceToNat]
      refine call_use (mea_S hc E hs hg (by omega) (by omega) (by omega) hsz) ?_
      rintro r h ⟨u3, m3, hr, h3, h3', hm3, hs⟩
      subst hr
      simp (disch := omega) only [go_sem, reduceCtorEq, ↓reduceIte, Nat.reduceEqDiff, Nat.reduceAdd, Nat.reduceSub, Nat.reduceMul, Nat.reduceLT, Nat.reduceLeDiff, Int.reduceEq, Int.reduceNe, Int.reduceLT, Int.reduceLE, Int.reduceBEq, Int.reduceBNe, Int.reduceToNat]
      exact ⟨u1, u2, u3, m3, by omega, by omega, by omega, by omega, by omega, by omega, by omega, hs, rfl, rfl, rfl⟩
    · simp (disch := omega) only [go_sem, reduceCtorEq, ↓reduceIte, Nat.reduceEqDiff, Nat.reduceAdd, Nat.reduceSub, Nat.reduceMul, Nat.reduceLT, Nat.reduceLeDiff, Int.reduceEq, Int.reduceNe, Int.reduceLT, Int.reduceLE, Int.reduceBEq, Int.reduceBNe, Int.reduceToNat]
      exact ⟨a + g, a + g * 2, a + g * 3, 0, by omega, by omega, by omega, by omega, by omega, by omega, by omega, hs, rfl, rfl, rfl⟩
  · rintro e h ⟨i, j, k, m, i1, i2, j1, j2, k1, k2, hm, hs, he⟩
    simp (disch := omega) only [go_sem, reduceCtorEq, ↓reduceIte, Nat.reduceEqDiff, Nat.reduceAdd, Nat.reduceSub, Nat.reduceMul, Nat.reduceLT, Nat.reduceLeDiff, Int.reduceEq, Int.reduceNe, Int.reduceLT, Int.reduceLE, Int.reduceBEq, Int.reduceBNe, Int.reduceToNat, he]
    refine call_use (med_S hc E hs hg (by omega) (by omega) (by omega) (by omega) hsz) ?_
    rintro r h ⟨u, m', hr, hu, hm', hs⟩
    subst hr
    simp (disch := omega) only [go_sem, reduceCtorEq, ↓reduceIte, Nat.reduceEqDiff, Nat.reduceAdd, Nat.reduceSub, Nat.reduceMul, Nat.reduceLT, Nat.reduceLeDiff, Int.reduceEq, Int.reduceNe, Int.reduceLT, Int.reduceLE, Int.reduceBEq, Int.reduceBNe, Int.reduceToNat, he, hs.p1.at]
    have hd := hs.p1.drop
    cases e0 : ((m' : Int) == 0)
    · cases e1 : ((m' : Int) == 12)
      · simp (disch := omega) only [go_sem, reduceCtorEq, ↓reduceIte, Nat.reduceEqDiff, Nat.reduceAdd, Nat.reduceSub, Nat.reduceMul, Nat.reduceLT, Nat.reduceLeDiff, Int.reduceEq, Int.reduceNe, Int.reduceLT, Int.reduceLE, Int.reduceBEq, Int.reduceBNe, Int.reduceToNat, he, e0, e1]
        exact ⟨u, 0, rfl, by omega, by omega, by omega, hd⟩
      · simp (disch := omega) only [go_sem, reduceCtorEq, ↓reduceIte, Nat.reduceEqDiff, Nat.reduceAdd, Nat.reduceSub, Nat.reduceMul, Nat.reduceLT, Nat.reduceLeDiff, Int.reduceEq, Int.reduceNe, Int.reduceLT, Int.reduceLE, Int.reduceBEq, Int.reduceBNe, Int.reduceToNat, he, e0, e1]
        exact ⟨u, 2, rfl, by omega, by omega, by omega, hd⟩
    · simp (disch := omega) only [go_sem, reduceCtorEq, ↓reduceIte, Nat.reduceEqDiff, Nat.reduceAdd, Nat.reduceSub, Nat.reduceMul, Nat.reduceLT, Nat.reduceLeDiff, Int.reduceEq, Int.reduceNe, Int.reduceLT, Int.reduceLE, Int.reduceBEq, Int.reduceBNe, Int.reduceToNat, he, e0]
      exact ⟨u, 1, rfl, by omega, by omega, by omega, hd⟩
theorem rev_S (E : GoodE 1 false G) {d : Array (List AV)} {a bb b cap : Nat} {cf : AV} (hs : sat h (pto b (.row 1 d.toList cap) :: F)) (hg : GA G d) (ha : a < bb) (hb : bb ≤ d.size) (hsz : d.size ≤ 1000000000000) :
    Triple Try.prog 99 [.arr b 1 0 d.size cap, .int .i64 a, .int .i64 bb] h (fun r h => PermIn a bb d (reverseRange d a bb) ∧ GA G (reverseRange d a bb) ∧ (reverseRange d a bb).size = d.size ∧ sat h (pto b (.row 1 (reverseRange d a bb).toList cap) :: F)) := by
  have n1 : (bb : Int) - 1 = ((bb - 1 : Nat) : Int) := by omega
  have hP := reverseRange_holds d a bb (by omega) hb
  refine t99 (Nat.le_of_ble_eq_true rfl) ?_
  simp (disch := omega) only [F99, n1, go_sem, reduceCtorEq, ↓reduceIte, Nat.reduceEqDiff, Nat.reduceAdd, Nat.reduceSub, Nat.reduceMul, Nat.reduceLT, Nat.reduceLeDiff, Int.reduceEq, Int.reduceNe, Int.reduceLT, Int.reduceLE, Int.reduceBEq, Int.reduceBNe, Int.reduceToNat]
  refine run_loopN (fun n e h => ∃ (i j : Nat) (d2 : Array (List AV)), n = j + 1 - i ∧ a ≤ i ∧ i ≤ j + 1 ∧ j < bb ∧ reverseLoop i j d2 = reverseRange d a bb ∧ GA G d2 ∧ d2.size = d.size ∧ sat h (pto b (.row 1 d2.toList cap) :: F) ∧
    (e 0 = .arr b 1 0 d.size cap ∧ e 6 = .int .i64 i ∧ e 7 = .int .i64 j)) _ ⟨a, bb - 1, d, rfl, Nat.le_refl _, by omega, by omega, rfl, hg, rfl, hs, rfl, rfl, rfl⟩ ?_
  rintro n e h ⟨i, j, d2, rfl, hi, hij, hj, hI, hg2, hz2, hs, he⟩
  simp (disch := omega) only [go_sem, reduceCtorEq, ↓reduceIte, Nat.reduceEqDiff, Nat.reduceAdd, Nat.reduceSub, Nat.reduceMul, Nat.reduceLT, Nat.reduceLeDiff, Int.reduceEq, Int.reduceNe, Int.reduceLT, Int.reduceLE, Int.reduceBEq, Int.reduceBNe, Int.reduceToNat, he]
  refine cnd_dec (fun hlt => ?_) (fun hge => ?_)
  · have m1 : (i : Int) + 1 = ((i + 1 : Nat) : Int) := by omega
    have m2 : (j : Int) - 1 = ((j - 1 : Nat) : Int) := by omega
    obtain ⟨k1, k2, k3, k4, k5, k6, k7, k8, k9, k10, k11, ⟨ky, y1, y2, y3, y4⟩, hw⟩ := sw_o E hg2 (i := i) (j := j) (by omega) (by omega)
    simp (disch := omega) only [go_sem, reduceCtorEq, ↓reduceIte, Nat.reduceEqDiff, Nat.reduceAdd, Nat.reduceSub, Nat.reduceMul, Nat.reduceLT, Nat.reduceLeDiff, Int.reduceEq, Int.reduceNe, Int.reduceLT, Int.reduceLE, Int.reduceBEq, Int.reduceBNe, Int.reduceToNat, he, m1, m2, hs.at, k1, k2, k3, k4, k5, k6, k7, k8, k9, k10, k11, y1, y2, y3, y4, hw]
    refine ⟨j - 1 + 1 - (i + 1), by omega, i + 1, j - 1, _, rfl, by omega, by omega, by omega, ?_, hg2.swp (by omega) (by omega), by rw [Go.Sort.swp_size]; exact hz2, hs.set, rfl, rfl⟩
    rw [← hI, reverseLoop.eq_1 i j, if_pos (by omega)]
  · simp (disch := omega) only [go_sem, reduceCtorEq, ↓reduceIte, Nat.reduceEqDiff, Nat.reduceAdd, Nat.reduceSub, Nat.reduceMul, Nat.reduceLT, Nat.reduceLeDiff, Int.reduceEq, Int.reduceNe, Int.reduceLT, Int.reduceLE, Int.reduceBEq, Int.reduceBNe, Int.reduceToNat, he]
    rw [reverseLoop, if_neg (by omega)] at hI
    subst hI
    exact ⟨hP, hg2, hz2, hs⟩
end
end Go.Proofs.Ytkclojjeepomfaa
/- math/bits.Len, slices.nextPowerOfTwo, xorshift, breakPatterns. -/
set_option linter.unusedSimpArgs false
set_option linter.unusedVariables false
set_option maxRecDepth 10000
namespace Go.Proofs.Ytkclojjeepomfaa
open Go.Hz Go.Sort

section
variable {h : Hp} {F : List Asr} {G : List AV → Prop} {lt : List AV → List AV → Bool}

theorem len64 {n : Nat} (hs : sat h F) (hn : n < 4294967296) : Triple Try.prog 105 [.int .u64 n] h (fun r h => ∃ t : Nat, r = .int .i64 t ∧ n < 2 ^ t ∧ (1 ≤ n → 2 ^ t ≤ 2 * n) ∧ t ≤ 32 ∧ sat h F) := by
  have s16 : (n : Int).fdiv (2 ^ min 16 64) = ((n / 65536 : Nat) : Int) := by simp [Int.fdiv_eq_ediv]
  refine t105 (Nat.le_of_ble_eq_true rfl) ?_
  simp (disch := omega) only [F105, go_sem, reduceCtorEq, ↓reduceIte, Nat.reduceEqDiff, Nat.reduceAdd, Nat.reduceSub, Nat.reduceMul, Nat.reduceLT, Nat.reduceLeDiff, Int.reduceEq, Int.reduceNe, Int.reduceLT, Int.reduceLE, Int.reduceBEq, Int.reduceBNe, Int.reduceToNat]
  refine cnd_dec (fun h1 => absurd h1 (by omega)) (fun h1 => ?_)
  simp (disch := omega) only [go_sem, reduceCtorEq, ↓reduceIte, Nat.reduceEqDiff, Nat.reduceAdd, Nat.reduceSub, Nat.reduceMul, Nat.reduceLT, Nat.reduceLeDiff, Int.reduceEq, Int.reduceNe, Int.reduceLT, Int.reduceLE, Int.reduceBEq, Int.reduceBNe, Int.reduceToNat]
  refine cnd_join (Q := fun e h => ∃ k t : Nat, k = n / 2 ^ t ∧ (t = 0 ∨ t = 16 ∧ 1 ≤ k) ∧ k < 65536 ∧ sat h F ∧ (e 0 = .int .u64 k ∧ e 2 = .int .i64 t)) ?_ ?_
  · refine cnd_dec (fun h2 => ?_) (fun h2 => ?_)
    · simp (disch := omega) only [go_sem, reduceCtorEq, ↓reduceIte, Nat.reduceEqDiff, Nat.reduceAdd, Nat.reduceSub, Nat.reduceMul, Nat.reduceLT, Nat.reduceLeDiff, Int.reduceEq, Int.reduceNe, Int.reduceLT, Int.reduceLE, Int.reduceBEq, Int.reduceBNe, Int.reduceToNat, s16]
      exact ⟨n / 65536, 16, rfl, .inr ⟨rfl, by omega⟩, by omega, hs, rfl, rfl⟩
    · simp (disch := omega) only [go_sem, reduceCtorEq, ↓reduceIte, Nat.reduceEqDiff, Nat.reduceAdd, Nat.reduceSub, Nat.reduceMul, Nat.reduceLT, Nat.reduceLeDiff, Int.reduceEq, Int.reduceNe, Int.reduceLT, Int.reduceLE, Int.reduceBEq, Int.reduceBNe, Int.reduceToNat]
      exact ⟨n, 0, by simp, .inl rfl, by omega, hs, rfl, rfl⟩
  · rintro e h ⟨k, t, hk, ht, hk2, hs, he⟩
    have s8 : (k : Int).fdiv (2 ^ min 8 64) = ((k / 256 : Nat) : Int) := by simp [Int.fdiv_eq_ediv]
    simp (disch := omega) only [go_sem, reduceCtorEq, ↓reduceIte, Nat.reduceEqDiff, Nat.reduceAdd, Nat.reduceSub, Nat.reduceMul, Nat.reduceLT, Nat.reduceLeDiff, Int.reduceEq, Int.reduceNe, Int.reduceLT, Int.reduceLE, Int.reduceBEq, Int.reduceBNe, Int.reduceToNat, he]
    refine cnd_join (Q := fun e h => ∃ k t : Nat, k = n / 2 ^ t ∧ (t = 0 ∨ t ≤ 24 ∧ 1 ≤ k) ∧ k < 256 ∧ sat h F ∧ (e 0 = .int .u64 k ∧ e 2 = .int .i64 t)) ?_ ?_
    · refine cnd_dec (fun h2 => ?_) (fun h2 => ?_)
      · have w2 : (t : Int) + 8 = ((t + 8 : Nat) : Int) := by omega
        simp (disch := omega) only [go_sem, reduceCtorEq, ↓reduceIte, Nat.reduceEqDiff, Nat.reduceAdd, Nat.reduceSub, Nat.reduceMul, Nat.reduceLT, Nat.reduceLeDiff, Int.reduceEq, Int.reduceNe, Int.reduceLT, Int.reduceLE, Int.reduceBEq, Int.reduceBNe, Int.reduceToNat, he, s8, w2]
        exact ⟨k / 256, t + 8, by rw [Nat.pow_add, ← Nat.div_div_eq_div_mul, ← hk], .inr ⟨by omega, by omega⟩, by omega, hs, rfl, rfl⟩
      · simp (disch := omega) only [go_sem, reduceCtorEq, ↓reduceIte, Nat.reduceEqDiff, Nat.reduceAdd, Nat.reduceSub, Nat.reduceMul, Nat.reduceLT, Nat.reduceLeDiff, Int.reduceEq, Int.reduceNe, Int.reduceLT, Int.reduceLE, Int.reduceBEq, Int.reduceBNe, Int.reduceToNat, he]
        exact ⟨k, t, hk, by omega, by omega, hs, rfl, rfl⟩
    · rintro e h ⟨k, t, hk, ht, hk2, hs, he⟩
      have w3 : IntKind.u8.wrap (k : Int) = (k : Int) := by simp [IntKind.wrap, IntKind.signed, IntKind.bits]; omega
      simp (disch := omega) only [go_sem, reduceCtorEq, ↓reduceIte, Nat.reduceEqDiff, Nat.reduceAdd, Nat.reduceSub, Nat.reduceMul, Nat.reduceLT, Nat.reduceLeDiff, Int.reduceEq, Int.reduceNe, Int.reduceLT, Int.reduceLE, Int.reduceBEq, Int.reduceBNe, Int.reduceToNat, he, w3]
      refine ixs_use (by kernel_rfl) hk2 fun u hu1 hu2 hu3 => ?_
      have w4 : IntKind.i64.wrap (u : Int) = (u : Int) := by simp [IntKind.wrap, IntKind.signed, IntKind.bits]; omega
      have w5 : (t : Int) + (u : Int) = ((t + u : Nat) : Int) := by omega
      simp (disch := omega) only [go_sem, reduceCtorEq, ↓reduceIte, Nat.reduceEqDiff, Nat.reduceAdd, Nat.reduceSub, Nat.reduceMul, Nat.reduceLT, Nat.reduceLeDiff, Int.reduceEq, Int.reduceNe, Int.reduceLT, Int.reduceLE, Int.reduceBEq, Int.reduceBNe, Int.reduceToNat, he, w4, w5]
      have p0 : 0 < 2 ^ t := Nat.pow_pos (by omega)
      have e1 : 2 ^ t * k ≤ n := by rw [hk]; exact Nat.mul_div_le n _
      have e2 : n < 2 ^ t * (k + 1) := by rw [hk]; exact Nat.lt_mul_div_succ n p0
      refine ⟨t + u, rfl, ?_, fun hn1 => ?_, by omega, hs⟩
      · rw [Nat.pow_add]
        exact Nat.lt_of_lt_of_le e2 (Nat.mul_le_mul_left _ hu1)
      · rw [Nat.pow_add]
        have hk1 : 1 ≤ k := by
          rcases ht with h0 | h0
          · subst h0; simp at hk; omega
          · exact h0.2
        calc 2 ^ t * 2 ^ u ≤ 2 ^ t * (2 * k) := Nat.mul_le_mul_left _ (hu2 hk1)
          _ = 2 * (2 ^ t * k) := by rw [← Nat.mul_assoc, Nat.mul_comm (2 ^ t) 2, Nat.mul_assoc]
          _ ≤ 2 * n := Nat.mul_le_mul_left _ e1

theorem len0 {n : Nat} (hs : sat h F) (hn : n < 4294967296) : Triple Try.prog 89 [.int .u64 n] h (fun r h => ∃ t : Nat, r = .int .i64 t ∧ n < 2 ^ t ∧ (1 ≤ n → 2 ^ t ≤ 2 * n) ∧ t ≤ 32 ∧ sat h F) := by
  refine t89 (Nat.le_of_ble_eq_true rfl) ?_
  simp (disch := omega) only [F89, go_sem, reduceCtorEq, ↓reduceIte, Nat.reduceEqDiff, Nat.reduceAdd, Nat.reduceSub, Nat.reduceMul, Nat.reduceLT, Nat.reduceLeDiff, Int.reduceEq, Int.reduceNe, Int.reduceLT, Int.reduceLE, Int.reduceBEq, Int.reduceBNe, Int.reduceToNat]
  refine call_use (len64 hs hn) ?_
  rintro r h ⟨t, hr, h1, h2, h3, hs⟩
  subst hr
  simp (disch := omega) only [go_sem, reduceCtorEq, ↓reduceIte, Nat.reduceEqDiff, Nat.reduceAdd, Nat.reduceSub, Nat.reduceMul, Nat.reduceLT, Nat.reduceLeDiff, Int.reduceEq, Int.reduceNe, Int.reduceLT, Int.reduceLE, Int.reduceBEq, Int.reduceBNe, Int.reduceToNat]
  exact ⟨t, rfl, h1, h2, h3, hs⟩

theorem npow {n : Nat} (hs : sat h F) (hn : n < 1000000000) (hn1 : 1 ≤ n) : Triple Try.prog 111 [.int .i64 n] h (fun r h => ∃ t : Nat, r = .int .u64 ((2 ^ t : Nat) : Int) ∧ n < 2 ^ t ∧ 2 ^ t ≤ 2 * n ∧ t ≤ 32 ∧ sat h F) := by
  have w1 : IntKind.u64.wrap (n : Int) = (n : Int) := by simp [IntKind.wrap, IntKind.signed, IntKind.bits]; omega
  refine t111 (Nat.le_of_ble_eq_true rfl) ?_
  simp (disch := omega) only [F111, w1, go_sem, reduceCtorEq, ↓reduceIte, Nat.reduceEqDiff, Nat.reduceAdd, Nat.reduceSub, Nat.reduceMul, Nat.reduceLT, Nat.reduceLeDiff, Int.reduceEq, Int.reduceNe, Int.reduceLT, Int.reduceLE, Int.reduceBEq, Int.reduceBNe, Int.reduceToNat]
  refine call_use (len0 hs (by omega)) ?_
  rintro r h ⟨t, hr, h1, h2, h3, hs⟩
  subst hr
  have w2 : IntKind.u64.wrap (1 * 2 ^ min t 64) = ((2 ^ t : Nat) : Int) := by
    rw [Nat.min_eq_left (by omega)]
    have : (2 : Nat) ^ t < 2 ^ 33 := Nat.pow_lt_pow_right (by omega) (by omega)
    have e : (1 : Int) * 2 ^ t = ((2 ^ t : Nat) : Int) := by simp
    rw [e]
    exact wu64 (by omega)
  simp (disch := omega) only [go_sem, reduceCtorEq, ↓reduceIte, Nat.reduceEqDiff, Nat.reduceAdd, Nat.reduceSub, Nat.reduceMul, Nat.reduceLT, Nat.reduceLeDiff, Int.reduceEq, Int.reduceNe, Int.reduceLT, Int.reduceLE, Int.reduceBEq, Int.reduceBNe, Int.reduceToNat, Int.toNat_natCast, w2]
  exact ⟨by omega, t, rfl, h1, h2 hn1, h3, hs⟩

theorem xnext {q : Nat} {z : Int} (hs : sat h (pto q (.row 1 [[.int .u64 z]] 1) :: F)) : Triple Try.prog 112 [.ptr q 1 0 0] h (fun r h => ∃ z' : Int, r = .int .u64 z' ∧ sat h (pto q (.row 1 [[.int .u64 z']] 1) :: F)) := by
  refine t112 (Nat.le_of_ble_eq_true rfl) ?_
  simp (disch := omega) only [F112, hs.at, go_sem, reduceCtorEq, ↓reduceIte, Nat.reduceEqDiff, Nat.reduceAdd, Nat.reduceSub, Nat.reduceMul, Nat.reduceLT, Nat.reduceLeDiff, Int.reduceEq, Int.reduceNe, Int.reduceLT, Int.reduceLE, Int.reduceBEq, Int.reduceBNe, Int.reduceToNat]
  exact ⟨_, rfl, hs.set⟩
theorem brk_S (E : GoodE 1 false G) {d : Array (List AV)} {a bb b cap : Nat} {cf : AV} (hs : sat h (pto b (.row 1 d.toList cap) :: F)) (hg : GA G d) (ha : a + 12 < bb) (hb : bb ≤ d.size) (hsz : d.size ≤ 100000000) :
    Triple Try.prog 97 [.arr b 1 0 d.size cap, .int .i64 a, .int .i64 bb] h (fun r h => ∃ d2 : Array (List AV), PermIn a bb d d2 ∧ GA G d2 ∧ d2.size = d.size ∧ sat h (pto b (.row 1 d2.toList cap) :: F)) := by
  obtain ⟨l, hl⟩ : ∃ l, l = bb - a := ⟨_, rfl⟩
  have n0 : (bb : Int) - a = (l : Int) := by omega
  obtain ⟨g, hgg⟩ : ∃ g, g = l / 4 := ⟨_, rfl⟩
  have n1 : (l : Int).tdiv 4 = (g : Int) := by rw [Int.tdiv_eq_ediv_of_nonneg (by omega)]; omega
  have n2 : (a : Int) + (g : Int) * 2 = ((a + g * 2 : Nat) : Int) := by omega
  have n3 : ((a + g * 2 : Nat) : Int) - 1 = ((a + g * 2 - 1 : Nat) : Int) := by omega
  have n4 : ((a + g * 2 : Nat) : Int) + 1 = ((a + g * 2 + 1 : Nat) : Int) := by omega
  have n5 : (8 : Int) ≤ (l : Int) := by omega
  have w1 := wu64 (n := l) (by omega)
  refine t97 (Nat.le_of_ble_eq_true rfl) ?_
  simp (disch := omega) only [F97, n0, n5, w1, go_sem, reduceCtorEq, ↓reduceIte, Nat.reduceEqDiff, Nat.reduceAdd, Nat.reduceSub, Nat.reduceMul, Nat.reduceLT, Nat.reduceLeDiff, Int.reduceEq, Int.reduceNe, Int.reduceLT, Int.reduceLE, Int.reduceBEq, Int.reduceBNe, Int.reduceToNat]
  refine new_opq hs fun q h hs => ?_
  simp (disch := omega) only [go_sem, reduceCtorEq, ↓reduceIte, Nat.reduceEqDiff, Nat.reduceAdd, Nat.reduceSub, Nat.reduceMul, Nat.reduceLT, Nat.reduceLeDiff, Int.reduceEq, Int.reduceNe, Int.reduceLT, Int.reduceLE, Int.reduceBEq, Int.reduceBNe, Int.reduceToNat, hs.at, n0, w1]
  refine call_use (npow (hs.set (o' := .row 1 [[.int .u64 l]] 1)) (n := l) (by omega) (by omega)) ?_
  rintro r h ⟨t, hr, h1, h2, h3, hs⟩
  subst hr
  simp (disch := omega) only [go_sem, reduceCtorEq, ↓reduceIte, Nat.reduceEqDiff, Nat.reduceAdd, Nat.reduceSub, Nat.reduceMul, Nat.reduceLT, Nat.reduceLeDiff, Int.reduceEq, Int.reduceNe, Int.reduceLT, Int.reduceLE, Int.reduceBEq, Int.reduceBNe, Int.reduceToNat, n1, n2, n3]
  have ht : (2 : Nat) ^ t < 2 ^ 33 := Nat.pow_lt_pow_right (by omega) (by omega)
  refine run_loopN (fun n e h => ∃ (i : Nat) (d2 : Array (List AV)) (z : Int), n = a + g * 2 + 2 - i ∧ a + g * 2 - 1 ≤ i ∧ i ≤ a + g * 2 + 2 ∧ PermIn a bb d d2 ∧ GA G d2 ∧ d2.size = d.size ∧ sat h (pto q (.row 1 [[.int .u64 z]] 1) :: pto b (.row 1 d2.toList cap) :: F) ∧
    (e 0 = .arr b 1 0 d.size cap ∧ e 1 = .int .i64 a ∧ e 6 = .int .i64 l ∧ e 7 = .ptr q 1 0 0 ∧ e 8 = .int .u64 ((2 ^ t : Nat) : Int) ∧ e 9 = .int .i64 i)) _ ⟨a + g * 2 - 1, d, _, rfl, Nat.le_refl _, by omega, permIn_refl d a bb, hg, rfl, hs, rfl, rfl, rfl, rfl, rfl, rfl⟩ ?_
  rintro n e h ⟨i, d2, z, rfl, hi1, hi2, hp, hg2, hz2, hs, he⟩
  simp (disch := omega) only [go_sem, reduceCtorEq, ↓reduceIte, Nat.reduceEqDiff, Nat.reduceAdd, Nat.reduceSub, Nat.reduceMul, Nat.reduceLT, Nat.reduceLeDiff, Int.reduceEq, Int.reduceNe, Int.reduceLT, Int.reduceLE, Int.reduceBEq, Int.reduceBNe, Int.reduceToNat, he, n1, n2, n4]
  refine cnd_dec (fun hle => ?_) (fun hgt => ?_)
  · simp (disch := omega) only [go_sem, reduceCtorEq, ↓reduceIte, Nat.reduceEqDiff, Nat.reduceAdd, Nat.reduceSub, Nat.reduceMul, Nat.reduceLT, Nat.reduceLeDiff, Int.reduceEq, Int.reduceNe, Int.reduceLT, Int.reduceLE, Int.reduceBEq, Int.reduceBNe, Int.reduceToNat, he]
    refine call_use (xnext hs) ?_
    rintro r h ⟨z', hr, hs⟩
    subst hr
    have m1 : ((2 ^ t : Nat) : Int) - 1 = ((2 ^ t - 1 : Nat) : Int) := by omega
    obtain ⟨o, ho, hol⟩ := and_lt z' (m := 2 ^ t - 1) (by omega)
    have w2 := wi64 (n := o) (by omega)
    have w3 := wu64 (n := 2 ^ t - 1) (by omega)
    simp (disch := omega) only [go_sem, reduceCtorEq, ↓reduceIte, Nat.reduceEqDiff, Nat.reduceAdd, Nat.reduceSub, Nat.reduceMul, Nat.reduceLT, Nat.reduceLeDiff, Int.reduceEq, Int.reduceNe, Int.reduceLT, Int.reduceLE, Int.reduceBEq, Int.reduceBNe, Int.reduceToNat, he, m1, w3, ho, w2]
    refine cnd_join (Q := fun e h => ∃ u : Nat, u < l ∧ sat h (pto q (.row 1 [[.int .u64 z']] 1) :: pto b (.row 1 d2.toList cap) :: F) ∧
      (e 0 = .arr b 1 0 d.size cap ∧ e 1 = .int .i64 a ∧ e 6 = .int .i64 l ∧ e 7 = .ptr q 1 0 0 ∧ e 8 = .int .u64 ((2 ^ t : Nat) : Int) ∧ e 9 = .int .i64 i ∧ e 10 = .int .i64 u)) ?_ ?_
    · refine cnd_dec (fun hge => ?_) (fun hlt => ?_)
      · have m2 : (o : Int) - (l : Int) = ((o - l : Nat) : Int) := by omega
        simp (disch := omega) only [go_sem, reduceCtorEq, ↓reduceIte, Nat.reduceEqDiff, Nat.reduceAdd, Nat.reduceSub, Nat.reduceMul, Nat.reduceLT, Nat.reduceLeDiff, Int.reduceEq, Int.reduceNe, Int.reduceLT, Int.reduceLE, Int.reduceBEq, Int.reduceBNe, Int.reduceToNat, he, m2]
        exact ⟨o - l, by omega, hs, rfl⟩
      · simp (disch := omega) only [go_sem, reduceCtorEq, ↓reduceIte, Nat.reduceEqDiff, Nat.reduceAdd, Nat.reduceSub, Nat.reduceMul, Nat.reduceLT, Nat.reduceLeDiff, Int.reduceEq, Int.reduceNe, Int.reduceLT, Int.reduceLE, Int.reduceBEq, Int.reduceBNe, Int.reduceToNat, he]
        exact ⟨o, by omega, hs, rfl⟩
    · rintro e h ⟨u, hu, hs, he⟩
      have hs := hs.p1
      have m3 : (a : Int) + (u : Int) = ((a + u : Nat) : Int) := by omega
      have m4 : (i : Int) + 1 = ((i + 1 : Nat) : Int) := by omega
      obtain ⟨k1, k2, k3, k4, k5, k6, k7, k8, k9, k10, k11, ⟨ky, y1, y2, y3, y4⟩, hw⟩ := sw_o E hg2 (i := i) (j := a + u) (by omega) (by omega)
      simp (disch := omega) only [go_sem, reduceCtorEq, ↓reduceIte, Nat.reduceEqDiff, Nat.reduceAdd, Nat.reduceSub, Nat.reduceMul, Nat.reduceLT, Nat.reduceLeDiff, Int.reduceEq, Int.reduceNe, Int.reduceLT, Int.reduceLE, Int.reduceBEq, Int.reduceBNe, Int.reduceToNat, he, m3, m4, hs.at, k1, k2, k3, k4, k5, k6, k7, k8, k9, k10, k11, y1, y2, y3, y4, hw]
      have hs2 := (hs.set (o' := .row 1 (swp d2 i (a + u)).toList cap)).p1
      exact ⟨a + g * 2 + 2 - (i + 1), by omega, i + 1, _, z', rfl, by omega, by omega, permIn_trans _ _ _ _ _ hp (swp_permIn d2 a bb i (a + u) (by omega) (by omega) (by omega) (by omega) (by omega)), hg2.swp (by omega) (by omega), by rw [Go.Sort.swp_size]; exact hz2, hs2, rfl⟩
  · simp (disch := omega) only [go_sem, reduceCtorEq, ↓reduceIte, Nat.reduceEqDiff, Nat.reduceAdd, Nat.reduceSub, Nat.reduceMul, Nat.reduceLT, Nat.reduceLeDiff, Int.reduceEq, Int.reduceNe, Int.reduceLT, Int.reduceLE, Int.reduceBEq, Int.reduceBNe, Int.reduceToNat, he]
    exact ⟨d2, hp, hg2, hz2, hs.drop⟩
end
end Go.Proofs.Ytkclojjeepomfaa
/- slices: partial insertion sort, the partitions. -/
set_option linter.unusedSimpArgs false
set_option linter.unusedVariables false
set_option maxRecDepth 10000
namespace Go.Proofs.Ytkclojjeepomfaa
open Go.Hz Go.Sort

section
variable {h : Hp} {F : List Asr} {G : List AV → Prop} {lt : List AV → List AV → Bool}

theorem par_S (hc : LessT Try.prog false G lt 101) (E : GoodE 1 false G) {d : Array (List AV)} {a bb b cap : Nat} (hs : sat h (pto b (.row 1 d.toList cap) :: F)) (hg : GA G d) (ha : a < bb) (hb : bb ≤ d.size) (hsz : d.size ≤ 1000000000000) :
    Triple Try.prog 100 [.arr b 1 0 d.size cap, .int .i64 a, .int .i64 bb] h (fun r h => r = .bool (partialInsertionSort lt d a bb).2 ∧ GA G (partialInsertionSort lt d a bb).1 ∧ (partialInsertionSort lt d a bb).1.size = d.size ∧ sat h (pto b (.row 1 (partialInsertionSort lt d a bb).1.toList cap) :: F)) := by
  have w0 : (a : Int) + 1 = ((a + 1 : Nat) : Int) := by omega
  refine t100 (Nat.le_of_ble_eq_true rfl) ?_
  simp (disch := omega) only [F100, w0, go_sem, reduceCtorEq, ↓reduceIte, Nat.reduceEqDiff, Nat.reduceAdd, Nat.reduceSub, Nat.reduceMul, Nat.reduceLT, Nat.reduceLeDiff, Int.reduceEq, Int.reduceNe, Int.reduceLT, Int.reduceLE, Int.reduceBEq, Int.reduceBNe, Int.reduceToNat]
  refine run_loopN (fun n e h => ∃ (k i : Nat) (d1 : Array (List AV)), n = 5 - k ∧ k ≤ 5 ∧ a + 1 ≤ i ∧ i ≤ bb ∧ partialIns lt a bb (5 - k) i d1 = partialInsertionSort lt d a bb ∧ GA G d1 ∧ d1.size = d.size ∧ sat h (pto b (.row 1 d1.toList cap) :: F) ∧
    (e 0 = .arr b 1 0 d.size cap ∧ e 1 = .int .i64 a ∧ e 2 = .int .i64 bb ∧ e 7 = .int .i64 i ∧ e 8 = .int .i64 k)) 5 ⟨0, a + 1, d, rfl, by omega, Nat.le_refl _, by omega, rfl, hg, rfl, hs, rfl, rfl, rfl, rfl, rfl⟩ ?_
  rintro n e h ⟨k, i, d1, rfl, hk, hi1, hi2, hI, hg1, hz1, hs, he⟩
  simp (disch := omega) only [go_sem, reduceCtorEq, ↓reduceIte, Nat.reduceEqDiff, Nat.reduceAdd, Nat.reduceSub, Nat.reduceMul, Nat.reduceLT, Nat.reduceLeDiff, Int.reduceEq, Int.reduceNe, Int.reduceLT, Int.reduceLE, Int.reduceBEq, Int.reduceBNe, Int.reduceToNat, he]
  refine cnd_dec (fun hk5 => ?_) (fun hk5 => ?_)
  rotate_left
  · obtain rfl : k = 5 := by omega
    simp (disch := omega) only [go_sem, reduceCtorEq, ↓reduceIte, Nat.reduceEqDiff, Nat.reduceAdd, Nat.reduceSub, Nat.reduceMul, Nat.reduceLT, Nat.reduceLeDiff, Int.reduceEq, Int.reduceNe, Int.reduceLT, Int.reduceLE, Int.reduceBEq, Int.reduceBNe, Int.reduceToNat, he]
    rw [← hI]
    exact ⟨rfl, hg1, hz1, hs⟩
  obtain ⟨s, hs5⟩ : ∃ s, 5 - k = s + 1 := ⟨4 - k, by omega⟩
  rw [hs5, partialIns_succ] at hI
  simp (disch := omega) only [go_sem, reduceCtorEq, ↓reduceIte, Nat.reduceEqDiff, Nat.reduceAdd, Nat.reduceSub, Nat.reduceMul, Nat.reduceLT, Nat.reduceLeDiff, Int.reduceEq, Int.reduceNe, Int.reduceLT, Int.reduceLE, Int.reduceBEq, Int.reduceBNe, Int.reduceToNat, he]
  refine blk_join (Q := fun e h => ∃ i2 : Nat, i2 = scanSorted lt d1 bb i ∧ i ≤ i2 ∧ i2 ≤ bb ∧ sat h (pto b (.row 1 d1.toList cap) :: F) ∧
    (e 0 = .arr b 1 0 d.size cap ∧ e 1 = .int .i64 a ∧ e 2 = .int .i64 bb ∧ e 7 = .int .i64 i2 ∧ e 8 = .int .i64 k)) ?_ ?_
  · refine run_loopN (fun n e h => ∃ i2 : Nat, n = bb - i2 ∧ scanSorted lt d1 bb i2 = scanSorted lt d1 bb i ∧ i ≤ i2 ∧ i2 ≤ bb ∧ sat h (pto b (.row 1 d1.toList cap) :: F) ∧
      (e 0 = .arr b 1 0 d.size cap ∧ e 1 = .int .i64 a ∧ e 2 = .int .i64 bb ∧ e 7 = .int .i64 i2 ∧ e 8 = .int .i64 k)) _ ⟨i, rfl, rfl, Nat.le_refl _, hi2, hs, ?_⟩ ?_
    · simp only [Env.upd_apply, he, and_self, reduceIte, Nat.reduceEqDiff]
    rintro n e h ⟨i2, rfl, hJ, hj1, hj2, hs, he⟩
    simp (disch := omega) only [go_sem, reduceCtorEq, ↓reduceIte, Nat.reduceEqDiff, Nat.reduceAdd, Nat.reduceSub, Nat.reduceMul, Nat.reduceLT, Nat.reduceLeDiff, Int.reduceEq, Int.reduceNe, Int.reduceLT, Int.reduceLE, Int.reduceBEq, Int.reduceBNe, Int.reduceToNat, he]
    refine cnd_dec (fun hlt => ?_) (fun hge => ?_)
    · have m1 : (i2 : Int) - 1 = ((i2 - 1 : Nat) : Int) := by omega
      have m2 : (i2 : Int) + 1 = ((i2 + 1 : Nat) : Int) := by omega
      have r1 := rd_o E hg1 (i := i2) (by omega)
      have r2 := rd_o E hg1 (i := i2 - 1) (by omega)
      simp (disch := omega) only [go_sem, reduceCtorEq, ↓reduceIte, Nat.reduceEqDiff, Nat.reduceAdd, Nat.reduceSub, Nat.reduceMul, Nat.reduceLT, Nat.reduceLeDiff, Int.reduceEq, Int.reduceNe, Int.reduceLT, Int.reduceLE, Int.reduceBEq, Int.reduceBNe, Int.reduceToNat, he, hs.at, r1, r2, m1]
      refine call_use (hc _ _ _ _ (hg1 _ (by omega)) (hg1 _ (by omega)) hs) ?_
      rintro r h ⟨hr, hs⟩
      subst hr
      simp (disch := omega) only [go_sem, reduceCtorEq, ↓reduceIte, Nat.reduceEqDiff, Nat.reduceAdd, Nat.reduceSub, Nat.reduceMul, Nat.reduceLT, Nat.reduceLeDiff, Int.reduceEq, Int.reduceNe, Int.reduceLT, Int.reduceLE, Int.reduceBEq, Int.reduceBNe, Int.reduceToNat, he, hlt, m1]
      have hst : scanSorted lt d1 bb i2 = if lt d1[i2]! d1[i2 - 1]! = true then i2 else scanSorted lt d1 bb (i2 + 1) := by
        rw [scanSorted.eq_1 lt d1 bb i2]
        cases lt d1[i2]! d1[i2 - 1]! <;> simp [show i2 < bb from by omega]
      cases hq : lt d1[i2]! d1[i2 - 1]!
      · simp (disch := omega) only [go_sem, reduceCtorEq, ↓reduceIte, Nat.reduceEqDiff, Nat.reduceAdd, Nat.reduceSub, Nat.reduceMul, Nat.reduceLT, Nat.reduceLeDiff, Int.reduceEq, Int.reduceNe, Int.reduceLT, Int.reduceLE, Int.reduceBEq, Int.reduceBNe, Int.reduceToNat, he, m2]
        exact ⟨bb - (i2 + 1), by omega, i2 + 1, rfl, by rw [← hJ, hst, hq]; rfl, by omega, by omega, hs, rfl⟩
      · simp (disch := omega) only [go_sem, reduceCtorEq, ↓reduceIte, Nat.reduceEqDiff, Nat.reduceAdd, Nat.reduceSub, Nat.reduceMul, Nat.reduceLT, Nat.reduceLeDiff, Int.reduceEq, Int.reduceNe, Int.reduceLT, Int.reduceLE, Int.reduceBEq, Int.reduceBNe, Int.reduceToNat, he]
        exact ⟨i2, by rw [← hJ, hst, hq]; rfl, by omega, by omega, hs, rfl⟩
    · simp (disch := omega) only [go_sem, reduceCtorEq, ↓reduceIte, Nat.reduceEqDiff, Nat.reduceAdd, Nat.reduceSub, Nat.reduceMul, Nat.reduceLT, Nat.reduceLeDiff, Int.reduceEq, Int.reduceNe, Int.reduceLT, Int.reduceLE, Int.reduceBEq, Int.reduceBNe, Int.reduceToNat, he, hge]
      exact ⟨i2, by rw [← hJ, scanSorted, if_neg (by simp; omega)], by omega, by omega, hs, rfl⟩
  · rintro e h ⟨i2, hi2', hi3, hi4, hs, he⟩
    rw [← hi2'] at hI
    have hbe : ((i2 : Int) == (bb : Int)) = decide (i2 = bb) := by
      by_cases hq : i2 = bb
      · subst hq; simp
      · simp [hq]; omega
    simp (disch := omega) only [go_sem, reduceCtorEq, ↓reduceIte, Nat.reduceEqDiff, Nat.reduceAdd, Nat.reduceSub, Nat.reduceMul, Nat.reduceLT, Nat.reduceLeDiff, Int.reduceEq, Int.reduceNe, Int.reduceLT, Int.reduceLE, Int.reduceBEq, Int.reduceBNe, Int.reduceToNat, he, hbe]
    refine cnd_bool (fun hq => ?_) (fun hq => ?_)
    · have hq : i2 = bb := by simpa using hq
      rw [if_pos hq] at hI
      simp (disch := omega) only [go_sem, reduceCtorEq, ↓reduceIte, Nat.reduceEqDiff, Nat.reduceAdd, Nat.reduceSub, Nat.reduceMul, Nat.reduceLT, Nat.reduceLeDiff, Int.reduceEq, Int.reduceNe, Int.reduceLT, Int.reduceLE, Int.reduceBEq, Int.reduceBNe, Int.reduceToNat, he]
      rw [← hI]
      exact ⟨rfl, hg1, hz1, hs⟩
    have hq : i2 ≠ bb := by simpa using hq
    rw [if_neg hq] at hI
    have m0 : (bb : Int) - a = ((bb - a : Nat) : Int) := by omega
    simp (disch := omega) only [go_sem, reduceCtorEq, ↓reduceIte, Nat.reduceEqDiff, Nat.reduceAdd, Nat.reduceSub, Nat.reduceMul, Nat.reduceLT, Nat.reduceLeDiff, Int.reduceEq, Int.reduceNe, Int.reduceLT, Int.reduceLE, Int.reduceBEq, Int.reduceBNe, Int.reduceToNat, he, m0]
    refine cnd_dec (fun h50 => ?_) (fun h50 => ?_)
    · rw [if_pos (by omega)] at hI
      simp (disch := omega) only [go_sem, reduceCtorEq, ↓reduceIte, Nat.reduceEqDiff, Nat.reduceAdd, Nat.reduceSub, Nat.reduceMul, Nat.reduceLT, Nat.reduceLeDiff, Int.reduceEq, Int.reduceNe, Int.reduceLT, Int.reduceLE, Int.reduceBEq, Int.reduceBNe, Int.reduceToNat, he]
      rw [← hI]
      exact ⟨rfl, hg1, hz1, hs⟩
    rw [if_neg (by omega)] at hI
    have m1 : (i2 : Int) - 1 = ((i2 - 1 : Nat) : Int) := by omega
    have m2 : (i2 : Int) - a = ((i2 - a : Nat) : Int) := by omega
    simp (disch := omega) only [go_sem, reduceCtorEq, ↓reduceIte, Nat.reduceEqDiff, Nat.reduceAdd, Nat.reduceSub, Nat.reduceMul, Nat.reduceLT, Nat.reduceLeDiff, Int.reduceEq, Int.reduceNe, Int.reduceLT, Int.reduceLE, Int.reduceBEq, Int.reduceBNe, Int.reduceToNat, he]
    obtain ⟨k1, k2, k3, k4, k5, k6, k7, k8, k9, k10, k11, ⟨ky, y1, y2, y3, y4⟩, hw⟩ := sw_o E hg1 (i := i2) (j := i2 - 1) (by omega) (by omega)
    simp (disch := omega) only [go_sem, reduceCtorEq, ↓reduceIte, Nat.reduceEqDiff, Nat.reduceAdd, Nat.reduceSub, Nat.reduceMul, Nat.reduceLT, Nat.reduceLeDiff, Int.reduceEq, Int.reduceNe, Int.reduceLT, Int.reduceLE, Int.reduceBEq, Int.reduceBNe, Int.reduceToNat, he, m1, m2, hs.at, k1, k2, k3, k4, k5, k6, k7, k8, k9, k10, k11, y1, y2, y3, y4, hw]
    have hs2 := hs.set (o' := .row 1 (swp d1 i2 (i2 - 1)).toList cap)
    have hg2 := hg1.swp (i := i2) (j := i2 - 1) (by omega) (by omega)
    have hz2 : (swp d1 i2 (i2 - 1)).size = d.size := by rw [Go.Sort.swp_size]; exact hz1
    generalize swp d1 i2 (i2 - 1) = dS at *
    refine cnd_join (Q := fun e h => ∃ d3 : Array (List AV), d3 = fixDown lt a i2 dS ∧ GA G d3 ∧ d3.size = d.size ∧ sat h (pto b (.row 1 d3.toList cap) :: F) ∧
      (e 0 = .arr b 1 0 d.size cap ∧ e 1 = .int .i64 a ∧ e 2 = .int .i64 bb ∧ e 7 = .int .i64 i2 ∧ e 8 = .int .i64 k)) ?_ ?_
    · refine cnd_dec (fun hge => ?_) (fun hlt => ?_)
      rotate_left
      · simp (disch := omega) only [go_sem, reduceCtorEq, ↓reduceIte, Nat.reduceEqDiff, Nat.reduceAdd, Nat.reduceSub, Nat.reduceMul, Nat.reduceLT, Nat.reduceLeDiff, Int.reduceEq, Int.reduceNe, Int.reduceLT, Int.reduceLE, Int.reduceBEq, Int.reduceBNe, Int.reduceToNat, he]
        exact ⟨dS, by rw [fixDown, if_neg (by omega)], hg2, hz2, hs2⟩
      simp (disch := omega) only [go_sem, reduceCtorEq, ↓reduceIte, Nat.reduceEqDiff, Nat.reduceAdd, Nat.reduceSub, Nat.reduceMul, Nat.reduceLT, Nat.reduceLeDiff, Int.reduceEq, Int.reduceNe, Int.reduceLT, Int.reduceLE, Int.reduceBEq, Int.reduceBNe, Int.reduceToNat, he, m1]
      refine run_loopN (fun n e h => ∃ (j : Nat) (d3 : Array (List AV)), n = j ∧ j ≤ i2 - 1 ∧ shiftDown lt j d3 = fixDown lt a i2 dS ∧ GA G d3 ∧ d3.size = d.size ∧ sat h (pto b (.row 1 d3.toList cap) :: F) ∧
        (e 0 = .arr b 1 0 d.size cap ∧ e 1 = .int .i64 a ∧ e 2 = .int .i64 bb ∧ e 7 = .int .i64 i2 ∧ e 8 = .int .i64 k ∧ e 9 = .int .i64 j)) (i2 - 1) ⟨i2 - 1, dS, rfl, Nat.le_refl _, by rw [fixDown, if_pos (by omega)], hg2, hz2, hs2, ?_⟩ ?_
      · simp only [Env.upd_apply, he, and_self, reduceIte, Nat.reduceEqDiff]
      rintro j e h ⟨_, d3, rfl, hj, hJ, hg3, hz3, hs, he⟩
      simp (disch := omega) only [go_sem, reduceCtorEq, ↓reduceIte, Nat.reduceEqDiff, Nat.reduceAdd, Nat.reduceSub, Nat.reduceMul, Nat.reduceLT, Nat.reduceLeDiff, Int.reduceEq, Int.reduceNe, Int.reduceLT, Int.reduceLE, Int.reduceBEq, Int.reduceBNe, Int.reduceToNat, he]
      refine cnd_dec (fun hj1 => ?_) (fun hj1 => ?_)
      · obtain ⟨j, rfl⟩ : ∃ q, j = q + 1 := ⟨j - 1, by omega⟩
        have m3 : ((j + 1 : Nat) : Int) - 1 = (j : Int) := by omega
        have r1 := rd_o E hg3 (i := j + 1) (by omega)
        have r2 := rd_o E hg3 (i := j) (by omega)
        simp (disch := omega) only [go_sem, reduceCtorEq, ↓reduceIte, Nat.reduceEqDiff, Nat.reduceAdd, Nat.reduceSub, Nat.reduceMul, Nat.reduceLT, Nat.reduceLeDiff, Int.reduceEq, Int.reduceNe, Int.reduceLT, Int.reduceLE, Int.reduceBEq, Int.reduceBNe, Int.reduceToNat, he, hs.at, r1, r2, m3]
        refine call_use (hc _ _ _ _ (hg3 _ (by omega)) (hg3 _ (by omega)) hs) ?_
        rintro r h ⟨hr, hs⟩
        subst hr
        simp (disch := omega) only [go_sem, reduceCtorEq, ↓reduceIte, Nat.reduceEqDiff, Nat.reduceAdd, Nat.reduceSub, Nat.reduceMul, Nat.reduceLT, Nat.reduceLeDiff, Int.reduceEq, Int.reduceNe, Int.reduceLT, Int.reduceLE, Int.reduceBEq, Int.reduceBNe, Int.reduceToNat, he, m3]
        rw [shiftDown] at hJ
        cases hq2 : lt d3[j + 1]! d3[j]!
        · simp (disch := omega) only [go_sem, reduceCtorEq, ↓reduceIte, Nat.reduceEqDiff, Nat.reduceAdd, Nat.reduceSub, Nat.reduceMul, Nat.reduceLT, Nat.reduceLeDiff, Int.reduceEq, Int.reduceNe, Int.reduceLT, Int.reduceLE, Int.reduceBEq, Int.reduceBNe, Int.reduceToNat, he]
          exact ⟨d3, by rw [← hJ, hq2]; rfl, hg3, hz3, hs⟩
        · simp (disch := omega) only [go_sem, reduceCtorEq, ↓reduceIte, Nat.reduceEqDiff, Nat.reduceAdd, Nat.reduceSub, Nat.reduceMul, Nat.reduceLT, Nat.reduceLeDiff, Int.reduceEq, Int.reduceNe, Int.reduceLT, Int.reduceLE, Int.reduceBEq, Int.reduceBNe, Int.reduceToNat, he]
          obtain ⟨k1, k2, k3, k4, k5, k6, k7, k8, k9, k10, k11, ⟨ky, y1, y2, y3, y4⟩, hw⟩ := sw_o E hg3 (i := j + 1) (j := j) (by omega) (by omega)
          simp (disch := omega) only [go_sem, reduceCtorEq, ↓reduceIte, Nat.reduceEqDiff, Nat.reduceAdd, Nat.reduceSub, Nat.reduceMul, Nat.reduceLT, Nat.reduceLeDiff, Int.reduceEq, Int.reduceNe, Int.reduceLT, Int.reduceLE, Int.reduceBEq, Int.reduceBNe, Int.reduceToNat, he, m3, hs.at, k1, k2, k3, k4, k5, k6, k7, k8, k9, k10, k11, y1, y2, y3, y4, hw]
          exact ⟨j, by omega, j, _, rfl, by omega, by rw [← hJ, hq2]; rfl, hg3.swp (by omega) (by omega), by rw [Go.Sort.swp_size]; exact hz3, hs.set, rfl⟩
      · obtain rfl : j = 0 := by omega
        simp (disch := omega) only [go_sem, reduceCtorEq, ↓reduceIte, Nat.reduceEqDiff, Nat.reduceAdd, Nat.reduceSub, Nat.reduceMul, Nat.reduceLT, Nat.reduceLeDiff, Int.reduceEq, Int.reduceNe, Int.reduceLT, Int.reduceLE, Int.reduceBEq, Int.reduceBNe, Int.reduceToNat, he]
        exact ⟨d3, by rw [← hJ, shiftDown], hg3, hz3, hs⟩
    · rintro e h ⟨d3, hd3, hg3, hz3, hs, he⟩
      have m4 : (bb : Int) - i2 = ((bb - i2 : Nat) : Int) := by omega
      have m5 : (i2 : Int) + 1 = ((i2 + 1 : Nat) : Int) := by omega
      have m6 : (k : Int) + 1 = ((k + 1 : Nat) : Int) := by omega
      rw [← hd3] at hI
      have hk5' : 5 - (k + 1) = s := by omega
      simp (disch := omega) only [go_sem, reduceCtorEq, ↓reduceIte, Nat.reduceEqDiff, Nat.reduceAdd, Nat.reduceSub, Nat.reduceMul, Nat.reduceLT, Nat.reduceLeDiff, Int.reduceEq, Int.reduceNe, Int.reduceLT, Int.reduceLE, Int.reduceBEq, Int.reduceBNe, Int.reduceToNat, he, m4]
      refine cnd_join (Q := fun e h => ∃ d4 : Array (List AV), d4 = fixUp lt bb i2 d3 ∧ GA G d4 ∧ d4.size = d.size ∧ sat h (pto b (.row 1 d4.toList cap) :: F) ∧
        (e 0 = .arr b 1 0 d.size cap ∧ e 1 = .int .i64 a ∧ e 2 = .int .i64 bb ∧ e 7 = .int .i64 i2 ∧ e 8 = .int .i64 k)) ?_ ?_
      · refine cnd_dec (fun hge => ?_) (fun hlt => ?_)
        rotate_left
        · simp (disch := omega) only [go_sem, reduceCtorEq, ↓reduceIte, Nat.reduceEqDiff, Nat.reduceAdd, Nat.reduceSub, Nat.reduceMul, Nat.reduceLT, Nat.reduceLeDiff, Int.reduceEq, Int.reduceNe, Int.reduceLT, Int.reduceLE, Int.reduceBEq, Int.reduceBNe, Int.reduceToNat, he]
          exact ⟨d3, by rw [fixUp, if_neg (by omega)], hg3, hz3, hs⟩
        simp (disch := omega) only [go_sem, reduceCtorEq, ↓reduceIte, Nat.reduceEqDiff, Nat.reduceAdd, Nat.reduceSub, Nat.reduceMul, Nat.reduceLT, Nat.reduceLeDiff, Int.reduceEq, Int.reduceNe, Int.reduceLT, Int.reduceLE, Int.reduceBEq, Int.reduceBNe, Int.reduceToNat, he, m5]
        refine run_loopN (fun n e h => ∃ (j : Nat) (d4 : Array (List AV)), n = bb - j ∧ i2 + 1 ≤ j ∧ j ≤ bb ∧ shiftUp lt bb j d4 = fixUp lt bb i2 d3 ∧ GA G d4 ∧ d4.size = d.size ∧ sat h (pto b (.row 1 d4.toList cap) :: F) ∧
          (e 0 = .arr b 1 0 d.size cap ∧ e 1 = .int .i64 a ∧ e 2 = .int .i64 bb ∧ e 7 = .int .i64 i2 ∧ e 8 = .int .i64 k ∧ e 10 = .int .i64 j)) _ ⟨i2 + 1, d3, rfl, Nat.le_refl _, by omega, by rw [fixUp, if_pos (by omega)], hg3, hz3, hs, ?_⟩ ?_
        · simp only [Env.upd_apply, he, and_self, reduceIte, Nat.reduceEqDiff]
        rintro n e h ⟨j, d4, rfl, hj, hj2, hJ, hg4, hz4, hs, he⟩
        simp (disch := omega) only [go_sem, reduceCtorEq, ↓reduceIte, Nat.reduceEqDiff, Nat.reduceAdd, Nat.reduceSub, Nat.reduceMul, Nat.reduceLT, Nat.reduceLeDiff, Int.reduceEq, Int.reduceNe, Int.reduceLT, Int.reduceLE, Int.reduceBEq, Int.reduceBNe, Int.reduceToNat, he]
        refine cnd_dec (fun hj1 => ?_) (fun hj1 => ?_)
        · have m3 : (j : Int) - 1 = ((j - 1 : Nat) : Int) := by omega
          have m7 : (j : Int) + 1 = ((j + 1 : Nat) : Int) := by omega
          have r1 := rd_o E hg4 (i := j) (by omega)
          have r2 := rd_o E hg4 (i := j - 1) (by omega)
          simp (disch := omega) only [go_sem, reduceCtorEq, ↓reduceIte, Nat.reduceEqDiff, Nat.reduceAdd, Nat.reduceSub, Nat.reduceMul, Nat.reduceLT, Nat.reduceLeDiff, Int.reduceEq, Int.reduceNe, Int.reduceLT, Int.reduceLE, Int.reduceBEq, Int.reduceBNe, Int.reduceToNat, he, hs.at, r1, r2, m3]
          refine call_use (hc _ _ _ _ (hg4 _ (by omega)) (hg4 _ (by omega)) hs) ?_
          rintro r h ⟨hr, hs⟩
          subst hr
          simp (disch := omega) only [go_sem, reduceCtorEq, ↓reduceIte, Nat.reduceEqDiff, Nat.reduceAdd, Nat.reduceSub, Nat.reduceMul, Nat.reduceLT, Nat.reduceLeDiff, Int.reduceEq, Int.reduceNe, Int.reduceLT, Int.reduceLE, Int.reduceBEq, Int.reduceBNe, Int.reduceToNat, he, m3]
          rw [shiftUp, if_pos (by omega)] at hJ
          cases hq2 : lt d4[j]! d4[j - 1]!
          · simp (disch := omega) only [go_sem, reduceCtorEq, ↓reduceIte, Nat.reduceEqDiff, Nat.reduceAdd, Nat.reduceSub, Nat.reduceMul, Nat.reduceLT, Nat.reduceLeDiff, Int.reduceEq, Int.reduceNe, Int.reduceLT, Int.reduceLE, Int.reduceBEq, Int.reduceBNe, Int.reduceToNat, he]
            exact ⟨d4, by rw [← hJ, hq2]; rfl, hg4, hz4, hs⟩
          · simp (disch := omega) only [go_sem, reduceCtorEq, ↓reduceIte, Nat.reduceEqDiff, Nat.reduceAdd, Nat.reduceSub, Nat.reduceMul, Nat.reduceLT, Nat.reduceLeDiff, Int.reduceEq, Int.reduceNe, Int.reduceLT, Int.reduceLE, Int.reduceBEq, Int.reduceBNe, Int.reduceToNat, he]
            obtain ⟨k1, k2, k3, k4, k5, k6, k7, k8, k9, k10, k11, ⟨ky, y1, y2, y3, y4⟩, hw⟩ := sw_o E hg4 (i := j) (j := j - 1) (by omega) (by omega)
            simp (disch := omega) only [go_sem, reduceCtorEq, ↓reduceIte, Nat.reduceEqDiff, Nat.reduceAdd, Nat.reduceSub, Nat.reduceMul, Nat.reduceLT, Nat.reduceLeDiff, Int.reduceEq, Int.reduceNe, Int.reduceLT, Int.reduceLE, Int.reduceBEq, Int.reduceBNe, Int.reduceToNat, he, m3, m7, hs.at, k1, k2, k3, k4, k5, k6, k7, k8, k9, k10, k11, y1, y2, y3, y4, hw]
            exact ⟨bb - (j + 1), by omega, j + 1, _, rfl, by omega, by omega, by rw [← hJ, hq2]; rfl, hg4.swp (by omega) (by omega), by rw [Go.Sort.swp_size]; exact hz4, hs.set, rfl⟩
        · simp (disch := omega) only [go_sem, reduceCtorEq, ↓reduceIte, Nat.reduceEqDiff, Nat.reduceAdd, Nat.reduceSub, Nat.reduceMul, Nat.reduceLT, Nat.reduceLeDiff, Int.reduceEq, Int.reduceNe, Int.reduceLT, Int.reduceLE, Int.reduceBEq, Int.reduceBNe, Int.reduceToNat, he]
          exact ⟨d4, by rw [← hJ, shiftUp, if_neg (by omega)], hg4, hz4, hs⟩
      · rintro e h ⟨d4, hd4, hg4, hz4, hs, he⟩
        rw [← hd4] at hI
        simp (disch := omega) only [go_sem, reduceCtorEq, ↓reduceIte, Nat.reduceEqDiff, Nat.reduceAdd, Nat.reduceSub, Nat.reduceMul, Nat.reduceLT, Nat.reduceLeDiff, Int.reduceEq, Int.reduceNe, Int.reduceLT, Int.reduceLE, Int.reduceBEq, Int.reduceBNe, Int.reduceToNat, he, m6]
        exact ⟨5 - (k + 1), by omega, k + 1, i2, d4, rfl, by omega, by omega, by omega, by rw [hk5']; exact hI, hg4, hz4, hs, rfl, rfl⟩
end
end Go.Proofs.Ytkclojjeepomfaa
/- slices: the partitions. -/
set_option linter.unusedSimpArgs false
set_option linter.unusedVariables false
set_option maxRecDepth 10000
namespace Go.Proofs.Ytkclojjeepomfaa
open Go.Hz Go.Sort

section
variable {h : Hp} {F : List Asr} {G : List AV → Prop} {lt : List AV → List AV → Bool}

theorem peq_S (hc : LessT Try.prog false G lt 101) (E : GoodE 1 false G) {d : Array (List AV)} {a bb p b cap : Nat} (hs : sat h (pto b (.row 1 d.toList cap) :: F)) (hg : GA G d) (hp1 : a ≤ p) (hp2 : p < bb) (hb : bb ≤ d.size) (hsz : d.size ≤ 1000000000000) :
    Triple Try.prog 102 [.arr b 1 0 d.size cap, .int .i64 a, .int .i64 bb, .int .i64 p] h (fun r h => r = .int .i64 (partitionEqual lt d a bb p).1 ∧ GA G (partitionEqual lt d a bb p).2 ∧ (partitionEqual lt d a bb p).2.size = d.size ∧ sat h (pto b (.row 1 (partitionEqual lt d a bb p).2.toList cap) :: F)) := by
  have w0 : (a : Int) + 1 = ((a + 1 : Nat) : Int) := by omega
  have w1 : (bb : Int) - 1 = ((bb - 1 : Nat) : Int) := by omega
  obtain ⟨k1, k2, k3, k4, k5, k6, k7, k8, k9, k10, k11, ⟨ky, y1, y2, y3, y4⟩, hw⟩ := sw_o E hg (i := a) (j := p) (by omega) (by omega)
  refine t102 (Nat.le_of_ble_eq_true rfl) ?_
  simp (disch := omega) only [F102, w0, w1, hs.at, k1, k2, k3, k4, k5, k6, k7, k8, k9, k10, k11, y1, y2, y3, y4, hw, go_sem, reduceCtorEq, ↓reduceIte, Nat.reduceEqDiff, Nat.reduceAdd, Nat.reduceSub, Nat.reduceMul, Nat.reduceLT, Nat.reduceLeDiff, Int.reduceEq, Int.reduceNe, Int.reduceLT, Int.reduceLE, Int.reduceBEq, Int.reduceBNe, Int.reduceToNat]
  have hs2 := hs.set (o' := .row 1 (swp d a p).toList cap)
  have hg2 := hg.swp (i := a) (j := p) (by omega) (by omega)
  have hz2 : (swp d a p).size = d.size := by rw [Go.Sort.swp_size]
  have hR : partEqLoop lt a (a + 1) (bb - 1) (swp d a p) = partitionEqual lt d a bb p := rfl
  refine run_loopN (fun n e h => ∃ (i j : Nat) (D : Array (List AV)), n = j + 1 - i ∧ a < i ∧ i ≤ j + 1 ∧ j < bb ∧ partEqLoop lt a i j D = partitionEqual lt d a bb p ∧ GA G D ∧ D.size = d.size ∧ sat h (pto b (.row 1 D.toList cap) :: F) ∧
    (e 0 = .arr b 1 0 d.size cap ∧ e 1 = .int .i64 a ∧ e 9 = .int .i64 i ∧ e 10 = .int .i64 j)) _ ⟨a + 1, bb - 1, _, rfl, by omega, by omega, by omega, hR, hg2, hz2, hs2, rfl, rfl, rfl, rfl⟩ ?_
  rintro n e h ⟨i, j, D, rfl, hai, hij, hjb, hI, hgD, hzD, hs, he⟩
  rw [partEqLoop_eq] at hI
  simp (disch := omega) only [go_sem, reduceCtorEq, ↓reduceIte, Nat.reduceEqDiff, Nat.reduceAdd, Nat.reduceSub, Nat.reduceMul, Nat.reduceLT, Nat.reduceLeDiff, Int.reduceEq, Int.reduceNe, Int.reduceLT, Int.reduceLE, Int.reduceBEq, Int.reduceBNe, Int.reduceToNat, he]
  refine blk_join (Q := fun e h => ∃ i2 : Nat, i2 = scanUp (fun x => !lt D[a]! x) D j i ∧ i ≤ i2 ∧ i2 ≤ j + 1 ∧ sat h (pto b (.row 1 D.toList cap) :: F) ∧ (e 0 = .arr b 1 0 d.size cap ∧ e 1 = .int .i64 a ∧ e 9 = .int .i64 i2 ∧ e 10 = .int .i64 j)) ?_ ?_
  · refine run_loopN (fun n e h => ∃ i2 : Nat, n = j + 1 - i2 ∧ scanUp (fun x => !lt D[a]! x) D j i2 = scanUp (fun x => !lt D[a]! x) D j i ∧ i ≤ i2 ∧ i2 ≤ j + 1 ∧ sat h (pto b (.row 1 D.toList cap) :: F) ∧ (e 0 = .arr b 1 0 d.size cap ∧ e 1 = .int .i64 a ∧ e 9 = .int .i64 i2 ∧ e 10 = .int .i64 j)) _ ⟨i, rfl, rfl, Nat.le_refl _, by omega, hs, ?_⟩ ?_
    · simp only [Env.upd_apply, he, and_self, reduceIte, Nat.reduceEqDiff]
    rintro n e h ⟨i2, rfl, hJ, hj1, hj2, hs, he⟩
    simp (disch := omega) only [go_sem, reduceCtorEq, ↓reduceIte, Nat.reduceEqDiff, Nat.reduceAdd, Nat.reduceSub, Nat.reduceMul, Nat.reduceLT, Nat.reduceLeDiff, Int.reduceEq, Int.reduceNe, Int.reduceLT, Int.reduceLE, Int.reduceBEq, Int.reduceBNe, Int.reduceToNat, he]
    refine cnd_dec (fun hl1 => ?_) (fun hl1 => ?_)
    · have m2 : (i2 : Int) + 1 = ((i2 + 1 : Nat) : Int) := by omega
      have r1 := rd_o E hgD (i := i2) (by omega)
      have r2 := rd_o E hgD (i := a) (by omega)
      simp (disch := omega) only [go_sem, reduceCtorEq, ↓reduceIte, Nat.reduceEqDiff, Nat.reduceAdd, Nat.reduceSub, Nat.reduceMul, Nat.reduceLT, Nat.reduceLeDiff, Int.reduceEq, Int.reduceNe, Int.reduceLT, Int.reduceLE, Int.reduceBEq, Int.reduceBNe, Int.reduceToNat, he, hs.at, r1, r2]
      refine call_use (hc _ _ _ _ (hgD _ (by omega)) (hgD _ (by omega)) hs) ?_
      rintro r h ⟨hr, hs⟩
      subst hr
      simp (disch := omega) only [go_sem, reduceCtorEq, ↓reduceIte, Nat.reduceEqDiff, Nat.reduceAdd, Nat.reduceSub, Nat.reduceMul, Nat.reduceLT, Nat.reduceLeDiff, Int.reduceEq, Int.reduceNe, Int.reduceLT, Int.reduceLE, Int.reduceBEq, Int.reduceBNe, Int.reduceToNat, he, hl1]
      have hst : scanUp (fun x => !lt D[a]! x) D j i2 = if (!lt D[a]! D[i2]!) = true then scanUp (fun x => !lt D[a]! x) D j (i2 + 1) else i2 := by
        rw [scanUp.eq_1 _ _ _ i2]
        simp only [show i2 ≤ j from by omega, decide_true, Bool.true_and]
      cases hq : lt D[a]! D[i2]!
      · simp (disch := omega) only [go_sem, reduceCtorEq, ↓reduceIte, Nat.reduceEqDiff, Nat.reduceAdd, Nat.reduceSub, Nat.reduceMul, Nat.reduceLT, Nat.reduceLeDiff, Int.reduceEq, Int.reduceNe, Int.reduceLT, Int.reduceLE, Int.reduceBEq, Int.reduceBNe, Int.reduceToNat, he, m2]
        exact ⟨j + 1 - (i2 + 1), by omega, i2 + 1, rfl, by rw [← hJ, hst, hq]; rfl, by omega, by omega, hs, rfl⟩
      · simp (disch := omega) only [go_sem, reduceCtorEq, ↓reduceIte, Nat.reduceEqDiff, Nat.reduceAdd, Nat.reduceSub, Nat.reduceMul, Nat.reduceLT, Nat.reduceLeDiff, Int.reduceEq, Int.reduceNe, Int.reduceLT, Int.reduceLE, Int.reduceBEq, Int.reduceBNe, Int.reduceToNat, he, m2]
        exact ⟨i2, by rw [← hJ, hst, hq]; rfl, by omega, by omega, hs, rfl⟩
    · simp (disch := omega) only [go_sem, reduceCtorEq, ↓reduceIte, Nat.reduceEqDiff, Nat.reduceAdd, Nat.reduceSub, Nat.reduceMul, Nat.reduceLT, Nat.reduceLeDiff, Int.reduceEq, Int.reduceNe, Int.reduceLT, Int.reduceLE, Int.reduceBEq, Int.reduceBNe, Int.reduceToNat, he, hl1]
      exact ⟨i2, by rw [← hJ, scanUp.eq_1 _ _ _ i2, if_neg (by simp; omega)], by omega, by omega, hs, rfl⟩

  rintro e h ⟨i2, hi2, hi3, hi4, hs, he⟩
  rw [← hi2] at hI
  simp (disch := omega) only [go_sem, reduceCtorEq, ↓reduceIte, Nat.reduceEqDiff, Nat.reduceAdd, Nat.reduceSub, Nat.reduceMul, Nat.reduceLT, Nat.reduceLeDiff, Int.reduceEq, Int.reduceNe, Int.reduceLT, Int.reduceLE, Int.reduceBEq, Int.reduceBNe, Int.reduceToNat, he]
  refine blk_join (Q := fun e h => ∃ j2 : Nat, j2 = scanDown (fun x => lt D[a]! x) D i2 j ∧ j2 ≤ j ∧ i2 ≤ j2 + 1 ∧ sat h (pto b (.row 1 D.toList cap) :: F) ∧ (e 0 = .arr b 1 0 d.size cap ∧ e 1 = .int .i64 a ∧ e 9 = .int .i64 i2 ∧ e 10 = .int .i64 j2)) ?_ ?_
  · refine run_loopN (fun n e h => ∃ j2 : Nat, n = j2 ∧ scanDown (fun x => lt D[a]! x) D i2 j2 = scanDown (fun x => lt D[a]! x) D i2 j ∧ j2 ≤ j ∧ i2 ≤ j2 + 1 ∧ sat h (pto b (.row 1 D.toList cap) :: F) ∧ (e 0 = .arr b 1 0 d.size cap ∧ e 1 = .int .i64 a ∧ e 9 = .int .i64 i2 ∧ e 10 = .int .i64 j2)) _ ⟨j, rfl, rfl, Nat.le_refl _, by omega, hs, ?_⟩ ?_
    · simp only [Env.upd_apply, he, and_self, reduceIte, Nat.reduceEqDiff]
    rintro j2 e h ⟨_, rfl, hJ, hj1, hj2, hs, he⟩
    simp (disch := omega) only [go_sem, reduceCtorEq, ↓reduceIte, Nat.reduceEqDiff, Nat.reduceAdd, Nat.reduceSub, Nat.reduceMul, Nat.reduceLT, Nat.reduceLeDiff, Int.reduceEq, Int.reduceNe, Int.reduceLT, Int.reduceLE, Int.reduceBEq, Int.reduceBNe, Int.reduceToNat, he]
    refine cnd_dec (fun hl1 => ?_) (fun hl1 => ?_)
    · obtain ⟨j2, rfl⟩ : ∃ q, j2 = q + 1 := ⟨j2 - 1, by omega⟩
      have m2 : ((j2 + 1 : Nat) : Int) - 1 = (j2 : Int) := by omega
      have r1 := rd_o E hgD (i := j2 + 1) (by omega)
      have r2 := rd_o E hgD (i := a) (by omega)
      simp (disch := omega) only [go_sem, reduceCtorEq, ↓reduceIte, Nat.reduceEqDiff, Nat.reduceAdd, Nat.reduceSub, Nat.reduceMul, Nat.reduceLT, Nat.reduceLeDiff, Int.reduceEq, Int.reduceNe, Int.reduceLT, Int.reduceLE, Int.reduceBEq, Int.reduceBNe, Int.reduceToNat, he, hs.at, r1, r2]
      refine call_use (hc _ _ _ _ (hgD _ (by omega)) (hgD _ (by omega)) hs) ?_
      rintro r h ⟨hr, hs⟩
      subst hr
      simp (disch := omega) only [go_sem, reduceCtorEq, ↓reduceIte, Nat.reduceEqDiff, Nat.reduceAdd, Nat.reduceSub, Nat.reduceMul, Nat.reduceLT, Nat.reduceLeDiff, Int.reduceEq, Int.reduceNe, Int.reduceLT, Int.reduceLE, Int.reduceBEq, Int.reduceBNe, Int.reduceToNat, he, hl1]
      have hst : scanDown (fun x => lt D[a]! x) D i2 (j2 + 1) = if (lt D[a]! D[j2 + 1]!) = true then scanDown (fun x => lt D[a]! x) D i2 j2 else j2 + 1 := by
        rw [scanDown]
        simp only [show i2 ≤ j2 + 1 from by omega, decide_true, Bool.true_and]
      cases hq : lt D[a]! D[j2 + 1]!
      · simp (disch := omega) only [go_sem, reduceCtorEq, ↓reduceIte, Nat.reduceEqDiff, Nat.reduceAdd, Nat.reduceSub, Nat.reduceMul, Nat.reduceLT, Nat.reduceLeDiff, Int.reduceEq, Int.reduceNe, Int.reduceLT, Int.reduceLE, Int.reduceBEq, Int.reduceBNe, Int.reduceToNat, he, m2]
        exact ⟨j2 + 1, by rw [← hJ, hst, hq]; rfl, by omega, by omega, hs, rfl⟩
      · simp (disch := omega) only [go_sem, reduceCtorEq, ↓reduceIte, Nat.reduceEqDiff, Nat.reduceAdd, Nat.reduceSub, Nat.reduceMul, Nat.reduceLT, Nat.reduceLeDiff, Int.reduceEq, Int.reduceNe, Int.reduceLT, Int.reduceLE, Int.reduceBEq, Int.reduceBNe, Int.reduceToNat, he, m2]
        exact ⟨j2, by omega, j2, rfl, by rw [← hJ, hst, hq]; rfl, by omega, by omega, hs, rfl⟩
    · simp (disch := omega) only [go_sem, reduceCtorEq, ↓reduceIte, Nat.reduceEqDiff, Nat.reduceAdd, Nat.reduceSub, Nat.reduceMul, Nat.reduceLT, Nat.reduceLeDiff, Int.reduceEq, Int.reduceNe, Int.reduceLT, Int.reduceLE, Int.reduceBEq, Int.reduceBNe, Int.reduceToNat, he, hl1]
      refine ⟨j2, ?_, by omega, by omega, hs, rfl⟩
      rw [← hJ]
      cases j2 with
      | zero => rw [scanDown]
      | succ j2 => rw [scanDown, if_neg (by simp; omega)]

  rintro e h ⟨j2, hj2, hj3, hj4, hs, he⟩
  rw [← hj2] at hI
  simp (disch := omega) only [go_sem, reduceCtorEq, ↓reduceIte, Nat.reduceEqDiff, Nat.reduceAdd, Nat.reduceSub, Nat.reduceMul, Nat.reduceLT, Nat.reduceLeDiff, Int.reduceEq, Int.reduceNe, Int.reduceLT, Int.reduceLE, Int.reduceBEq, Int.reduceBNe, Int.reduceToNat, he]
  refine cnd_dec (fun hgt => ?_) (fun hle => ?_)
  · rw [if_pos (by omega)] at hI
    simp (disch := omega) only [go_sem, reduceCtorEq, ↓reduceIte, Nat.reduceEqDiff, Nat.reduceAdd, Nat.reduceSub, Nat.reduceMul, Nat.reduceLT, Nat.reduceLeDiff, Int.reduceEq, Int.reduceNe, Int.reduceLT, Int.reduceLE, Int.reduceBEq, Int.reduceBNe, Int.reduceToNat, he]
    rw [← hI]
    exact ⟨rfl, hgD, hzD, hs⟩
  · rw [if_neg (by omega)] at hI
    have m1 : (i2 : Int) + 1 = ((i2 + 1 : Nat) : Int) := by omega
    have m2 : (j2 : Int) - 1 = ((j2 - 1 : Nat) : Int) := by omega
    have hne : i2 ≠ j2 := fun hh => by
      have u := (scanUp_spec (fun x => !lt D[a]! x) D j _ i rfl).2.2.2
      have v := (scanDown_spec (fun x => lt D[a]! x) D i2 j).2.2.2
      rw [← hi2] at u
      rw [← hj2] at v
      have u := u (by omega)
      have v := v (by omega) (by omega)
      rw [← hh] at v
      simp at u v
      rw [u] at v; cases v
    simp (disch := omega) only [go_sem, reduceCtorEq, ↓reduceIte, Nat.reduceEqDiff, Nat.reduceAdd, Nat.reduceSub, Nat.reduceMul, Nat.reduceLT, Nat.reduceLeDiff, Int.reduceEq, Int.reduceNe, Int.reduceLT, Int.reduceLE, Int.reduceBEq, Int.reduceBNe, Int.reduceToNat, he]
    obtain ⟨k1, k2, k3, k4, k5, k6, k7, k8, k9, k10, k11, ⟨ky, y1, y2, y3, y4⟩, hw⟩ := sw_o E hgD (i := i2) (j := j2) (by omega) (by omega)
    simp (disch := omega) only [go_sem, reduceCtorEq, ↓reduceIte, Nat.reduceEqDiff, Nat.reduceAdd, Nat.reduceSub, Nat.reduceMul, Nat.reduceLT, Nat.reduceLeDiff, Int.reduceEq, Int.reduceNe, Int.reduceLT, Int.reduceLE, Int.reduceBEq, Int.reduceBNe, Int.reduceToNat, he, m1, m2, hs.at, k1, k2, k3, k4, k5, k6, k7, k8, k9, k10, k11, y1, y2, y3, y4, hw]
    exact ⟨j2 - 1 + 1 - (i2 + 1), by omega, i2 + 1, j2 - 1, _, rfl, by omega, by omega, by omega, hI, hgD.swp (by omega) (by omega), by rw [Go.Sort.swp_size]; exact hzD, hs.set, rfl, rfl⟩
theorem prt_S (hc : LessT Try.prog false G lt 101) (E : GoodE 1 false G) {d : Array (List AV)} {a bb p b cap : Nat} (hs : sat h (pto b (.row 1 d.toList cap) :: F)) (hg : GA G d) (hp1 : a ≤ p) (hp2 : p < bb) (hb : bb ≤ d.size) (hsz : d.size ≤ 1000000000000) :
    Triple Try.prog 103 [.arr b 1 0 d.size cap, .int .i64 a, .int .i64 bb, .int .i64 p] h (fun r h => r = .tup [.int .i64 (partition lt d a bb p).1, .bool (partition lt d a bb p).2.1] ∧ GA G (partition lt d a bb p).2.2 ∧ (partition lt d a bb p).2.2.size = d.size ∧ sat h (pto b (.row 1 (partition lt d a bb p).2.2.toList cap) :: F)) := by
  have w0 : (a : Int) + 1 = ((a + 1 : Nat) : Int) := by omega
  have w1 : (bb : Int) - 1 = ((bb - 1 : Nat) : Int) := by omega
  obtain ⟨k1, k2, k3, k4, k5, k6, k7, k8, k9, k10, k11, ⟨ky, y1, y2, y3, y4⟩, hw⟩ := sw_o E hg (i := a) (j := p) (by omega) (by omega)
  refine t103 (Nat.le_of_ble_eq_true rfl) ?_
  simp (disch := omega) only [F103, w0, w1, hs.at, k1, k2, k3, k4, k5, k6, k7, k8, k9, k10, k11, y1, y2, y3, y4, hw, go_sem, reduceCtorEq, ↓reduceIte, Nat.reduceEqDiff, Nat.reduceAdd, Nat.reduceSub, Nat.reduceMul, Nat.reduceLT, Nat.reduceLeDiff, Int.reduceEq, Int.reduceNe, Int.reduceLT, Int.reduceLE, Int.reduceBEq, Int.reduceBNe, Int.reduceToNat]
  have hs := hs.set (o' := .row 1 (swp d a p).toList cap)
  have hg2 := hg.swp (i := a) (j := p) (by omega) (by omega)
  have hz2 : (swp d a p).size = d.size := by rw [Go.Sort.swp_size]
  clear k1 k2 k3 k4 k5 k6 k7 k8 k9 k10 k11 y1 y2 y3 y4 hw
  have hpd : partition lt d a bb p = partition lt d a bb p := rfl
  conv at hpd => lhs; unfold partition
  simp only at hpd
  generalize partition lt d a bb p = res at *
  generalize swp d a p = D at *
  obtain ⟨B, hB⟩ : ∃ B, B = bb - 1 := ⟨_, rfl⟩
  obtain ⟨A, hA⟩ : ∃ A, A = a + 1 := ⟨_, rfl⟩
  rw [← hB, ← hA] at hpd
  refine run_cut (fun e h => sat h (pto b (.row 1 D.toList cap) :: F) ∧ (e 0 = .arr b 1 0 d.size cap ∧ e 1 = .int .i64 a ∧ e 10 = .int .i64 A ∧ e 11 = .int .i64 B)) ⟨hs, rfl, rfl, by rw [hA]; rfl, by rw [hB]; rfl⟩ ?_
  rintro e h ⟨hs, he⟩
  refine blk_join (Q := fun e h => ∃ i2 : Nat, i2 = scanUp (fun x => lt x D[a]!) D B A ∧ A ≤ i2 ∧ i2 ≤ B + 1 ∧ sat h (pto b (.row 1 D.toList cap) :: F) ∧ (e 0 = .arr b 1 0 d.size cap ∧ e 1 = .int .i64 a ∧ e 10 = .int .i64 i2 ∧ e 11 = .int .i64 B)) ?_ ?_
  · refine run_loopN (fun n e h => ∃ i2 : Nat, n = B + 1 - i2 ∧ scanUp (fun x => lt x D[a]!) D B i2 = scanUp (fun x => lt x D[a]!) D B A ∧ A ≤ i2 ∧ i2 ≤ B + 1 ∧ sat h (pto b (.row 1 D.toList cap) :: F) ∧ (e 0 = .arr b 1 0 d.size cap ∧ e 1 = .int .i64 a ∧ e 10 = .int .i64 i2 ∧ e 11 = .int .i64 B)) _ ⟨A, rfl, rfl, Nat.le_refl _, by omega, hs, ?_⟩ ?_
    · simp only [Env.upd_apply, he, and_self, reduceIte, Nat.reduceEqDiff]
    rintro n e h ⟨i2, rfl, hJ, hj1, hj2, hs, he⟩
    simp (disch := omega) only [go_sem, reduceCtorEq, ↓reduceIte, Nat.reduceEqDiff, Nat.reduceAdd, Nat.reduceSub, Nat.reduceMul, Nat.reduceLT, Nat.reduceLeDiff, Int.reduceEq, Int.reduceNe, Int.reduceLT, Int.reduceLE, Int.reduceBEq, Int.reduceBNe, Int.reduceToNat, he]
    refine cnd_dec (fun hl1 => ?_) (fun hl1 => ?_)
    · have m2 : (i2 : Int) + 1 = ((i2 + 1 : Nat) : Int) := by omega
      have r1 := rd_o E hg2 (i := i2) (by omega)
      have r2 := rd_o E hg2 (i := a) (by omega)
      simp (disch := omega) only [go_sem, reduceCtorEq, ↓reduceIte, Nat.reduceEqDiff, Nat.reduceAdd, Nat.reduceSub, Nat.reduceMul, Nat.reduceLT, Nat.reduceLeDiff, Int.reduceEq, Int.reduceNe, Int.reduceLT, Int.reduceLE, Int.reduceBEq, Int.reduceBNe, Int.reduceToNat, he, hs.at, r1, r2]
      refine call_use (hc _ _ _ _ (hg2 _ (by omega)) (hg2 _ (by omega)) hs) ?_
      rintro r h ⟨hr, hs⟩
      subst hr
      simp (disch := omega) only [go_sem, reduceCtorEq, ↓reduceIte, Nat.reduceEqDiff, Nat.reduceAdd, Nat.reduceSub, Nat.reduceMul, Nat.reduceLT, Nat.reduceLeDiff, Int.reduceEq, Int.reduceNe, Int.reduceLT, Int.reduceLE, Int.reduceBEq, Int.reduceBNe, Int.reduceToNat, he, hl1]
      have hst : scanUp (fun x => lt x D[a]!) D B i2 = if (lt D[i2]! D[a]!) = true then scanUp (fun x => lt x D[a]!) D B (i2 + 1) else i2 := by
        rw [scanUp.eq_1 _ _ _ i2]
        simp only [show i2 ≤ B from by omega, decide_true, Bool.true_and]
      cases hq : lt D[i2]! D[a]!
      · simp (disch := omega) only [go_sem, reduceCtorEq, ↓reduceIte, Nat.reduceEqDiff, Nat.reduceAdd, Nat.reduceSub, Nat.reduceMul, Nat.reduceLT, Nat.reduceLeDiff, Int.reduceEq, Int.reduceNe, Int.reduceLT, Int.reduceLE, Int.reduceBEq, Int.reduceBNe, Int.reduceToNat, he, m2]
        exact ⟨i2, by rw [← hJ, hst, hq]; rfl, by omega, by omega, hs, rfl⟩
      · simp (disch := omega) only [go_sem, reduceCtorEq, ↓reduceIte, Nat.reduceEqDiff, Nat.reduceAdd, Nat.reduceSub, Nat.reduceMul, Nat.reduceLT, Nat.reduceLeDiff, Int.reduceEq, Int.reduceNe, Int.reduceLT, Int.reduceLE, Int.reduceBEq, Int.reduceBNe, Int.reduceToNat, he, m2]
        exact ⟨B + 1 - (i2 + 1), by omega, i2 + 1, rfl, by rw [← hJ, hst, hq]; rfl, by omega, by omega, hs, rfl⟩
    · simp (disch := omega) only [go_sem, reduceCtorEq, ↓reduceIte, Nat.reduceEqDiff, Nat.reduceAdd, Nat.reduceSub, Nat.reduceMul, Nat.reduceLT, Nat.reduceLeDiff, Int.reduceEq, Int.reduceNe, Int.reduceLT, Int.reduceLE, Int.reduceBEq, Int.reduceBNe, Int.reduceToNat, he, hl1]
      exact ⟨i2, by rw [← hJ, scanUp.eq_1 _ _ _ i2, if_neg (by simp; omega)], by omega, by omega, hs, rfl⟩

  rintro e h ⟨i1, hi1, hi3, hi4, hs, he⟩
  rw [← hi1] at hpd
  simp (disch := omega) only [go_sem, reduceCtorEq, ↓reduceIte, Nat.reduceEqDiff, Nat.reduceAdd, Nat.reduceSub, Nat.reduceMul, Nat.reduceLT, Nat.reduceLeDiff, Int.reduceEq, Int.reduceNe, Int.reduceLT, Int.reduceLE, Int.reduceBEq, Int.reduceBNe, Int.reduceToNat, he]
  refine blk_join (Q := fun e h => ∃ j2 : Nat, j2 = scanDown (fun x => !lt x D[a]!) D i1 B ∧ j2 ≤ B ∧ i1 ≤ j2 + 1 ∧ sat h (pto b (.row 1 D.toList cap) :: F) ∧ (e 0 = .arr b 1 0 d.size cap ∧ e 1 = .int .i64 a ∧ e 10 = .int .i64 i1 ∧ e 11 = .int .i64 j2)) ?_ ?_
  · refine run_loopN (fun n e h => ∃ j2 : Nat, n = j2 ∧ scanDown (fun x => !lt x D[a]!) D i1 j2 = scanDown (fun x => !lt x D[a]!) D i1 B ∧ j2 ≤ B ∧ i1 ≤ j2 + 1 ∧ sat h (pto b (.row 1 D.toList cap) :: F) ∧ (e 0 = .arr b 1 0 d.size cap ∧ e 1 = .int .i64 a ∧ e 10 = .int .i64 i1 ∧ e 11 = .int .i64 j2)) _ ⟨B, rfl, rfl, Nat.le_refl _, by omega, hs, ?_⟩ ?_
    · simp only [Env.upd_apply, he, and_self, reduceIte, Nat.reduceEqDiff]
    rintro j2 e h ⟨_, rfl, hJ, hj1, hj2, hs, he⟩
    simp (disch := omega) only [go_sem, reduceCtorEq, ↓reduceIte, Nat.reduceEqDiff, Nat.reduceAdd, Nat.reduceSub, Nat.reduceMul, Nat.reduceLT, Nat.reduceLeDiff, Int.reduceEq, Int.reduceNe, Int.reduceLT, Int.reduceLE, Int.reduceBEq, Int.reduceBNe, Int.reduceToNat, he]
    refine cnd_dec (fun hl1 => ?_) (fun hl1 => ?_)
    · obtain ⟨j2, rfl⟩ : ∃ q, j2 = q + 1 := ⟨j2 - 1, by omega⟩
      have m2 : ((j2 + 1 : Nat) : Int) - 1 = (j2 : Int) := by omega
      have r1 := rd_o E hg2 (i := j2 + 1) (by omega)
      have r2 := rd_o E hg2 (i := a) (by omega)
      simp (disch := omega) only [go_sem, reduceCtorEq, ↓reduceIte, Nat.reduceEqDiff, Nat.reduceAdd, Nat.reduceSub, Nat.reduceMul, Nat.reduceLT, Nat.reduceLeDiff, Int.reduceEq, Int.reduceNe, Int.reduceLT, Int.reduceLE, Int.reduceBEq, Int.reduceBNe, Int.reduceToNat, he, hs.at, r1, r2]
      refine call_use (hc _ _ _ _ (hg2 _ (by omega)) (hg2 _ (by omega)) hs) ?_
      rintro r h ⟨hr, hs⟩
      subst hr
      simp (disch := omega) only [go_sem, reduceCtorEq, ↓reduceIte, Nat.reduceEqDiff, Nat.reduceAdd, Nat.reduceSub, Nat.reduceMul, Nat.reduceLT, Nat.reduceLeDiff, Int.reduceEq, Int.reduceNe, Int.reduceLT, Int.reduceLE, Int.reduceBEq, Int.reduceBNe, Int.reduceToNat, he, hl1]
      have hst : scanDown (fun x => !lt x D[a]!) D i1 (j2 + 1) = if (!lt D[j2 + 1]! D[a]!) = true then scanDown (fun x => !lt x D[a]!) D i1 j2 else j2 + 1 := by
        rw [scanDown]
        simp only [show i1 ≤ j2 + 1 from by omega, decide_true, Bool.true_and]
      cases hq : lt D[j2 + 1]! D[a]!
      · simp (disch := omega) only [go_sem, reduceCtorEq, ↓reduceIte, Nat.reduceEqDiff, Nat.reduceAdd, Nat.reduceSub, Nat.reduceMul, Nat.reduceLT, Nat.reduceLeDiff, Int.reduceEq, Int.reduceNe, Int.reduceLT, Int.reduceLE, Int.reduceBEq, Int.reduceBNe, Int.reduceToNat, he, m2]
        exact ⟨j2, by omega, j2, rfl, by rw [← hJ, hst, hq]; rfl, by omega, by omega, hs, rfl⟩
      · simp (disch := omega) only [go_sem, reduceCtorEq, ↓reduceIte, Nat.reduceEqDiff, Nat.reduceAdd, Nat.reduceSub, Nat.reduceMul, Nat.reduceLT, Nat.reduceLeDiff, Int.reduceEq, Int.reduceNe, Int.reduceLT, Int.reduceLE, Int.reduceBEq, Int.reduceBNe, Int.reduceToNat, he, m2]
        exact ⟨j2 + 1, by rw [← hJ, hst, hq]; rfl, by omega, by omega, hs, rfl⟩
    · simp (disch := omega) only [go_sem, reduceCtorEq, ↓reduceIte, Nat.reduceEqDiff, Nat.reduceAdd, Nat.reduceSub, Nat.reduceMul, Nat.reduceLT, Nat.reduceLeDiff, Int.reduceEq, Int.reduceNe, Int.reduceLT, Int.reduceLE, Int.reduceBEq, Int.reduceBNe, Int.reduceToNat, he, hl1]
      refine ⟨j2, ?_, by omega, by omega, hs, rfl⟩
      rw [← hJ]
      cases j2 with
      | zero => rw [scanDown]
      | succ j2 => rw [scanDown, if_neg (by simp; omega)]

  rintro e h ⟨j1, hj1, hj3, hj4, hs, he⟩
  rw [← hj1] at hpd
  simp (disch := omega) only [go_sem, reduceCtorEq, ↓reduceIte, Nat.reduceEqDiff, Nat.reduceAdd, Nat.reduceSub, Nat.reduceMul, Nat.reduceLT, Nat.reduceLeDiff, Int.reduceEq, Int.reduceNe, Int.reduceLT, Int.reduceLE, Int.reduceBEq, Int.reduceBNe, Int.reduceToNat, he]
  refine cnd_dec (fun hgt => ?_) (fun hle => ?_)
  · rw [if_pos (by omega)] at hpd
    simp (disch := omega) only [go_sem, reduceCtorEq, ↓reduceIte, Nat.reduceEqDiff, Nat.reduceAdd, Nat.reduceSub, Nat.reduceMul, Nat.reduceLT, Nat.reduceLeDiff, Int.reduceEq, Int.reduceNe, Int.reduceLT, Int.reduceLE, Int.reduceBEq, Int.reduceBNe, Int.reduceToNat, he]
    obtain ⟨k1, k2, k3, k4, k5, k6, k7, k8, k9, k10, k11, ⟨ky, y1, y2, y3, y4⟩, hw⟩ := sw_o E hg2 (i := j1) (j := a) (by omega) (by omega)
    simp (disch := omega) only [go_sem, reduceCtorEq, ↓reduceIte, Nat.reduceEqDiff, Nat.reduceAdd, Nat.reduceSub, Nat.reduceMul, Nat.reduceLT, Nat.reduceLeDiff, Int.reduceEq, Int.reduceNe, Int.reduceLT, Int.reduceLE, Int.reduceBEq, Int.reduceBNe, Int.reduceToNat, he, hs.at, k1, k2, k3, k4, k5, k6, k7, k8, k9, k10, k11, y1, y2, y3, y4, hw]
    rw [← hpd]
    exact ⟨rfl, hg2.swp (by omega) (by omega), by rw [Go.Sort.swp_size]; exact hz2, hs.set⟩
  rw [if_neg (by omega)] at hpd
  have m1 : (i1 : Int) + 1 = ((i1 + 1 : Nat) : Int) := by omega
  have m2 : (j1 : Int) - 1 = ((j1 - 1 : Nat) : Int) := by omega
  have hne : i1 ≠ j1 := fun hh => by
    have u := (scanUp_spec (fun x => lt x D[a]!) D B _ A rfl).2.2.2
    have v := (scanDown_spec (fun x => !lt x D[a]!) D i1 B).2.2.2
    rw [← hi1] at u
    rw [← hj1] at v
    have u := u (by omega)
    have v := v (by omega) (by omega)
    rw [← hh] at v
    simp at u v
    rw [u] at v; cases v
  simp (disch := omega) only [go_sem, reduceCtorEq, ↓reduceIte, Nat.reduceEqDiff, Nat.reduceAdd, Nat.reduceSub, Nat.reduceMul, Nat.reduceLT, Nat.reduceLeDiff, Int.reduceEq, Int.reduceNe, Int.reduceLT, Int.reduceLE, Int.reduceBEq, Int.reduceBNe, Int.reduceToNat, he]
  obtain ⟨k1, k2, k3, k4, k5, k6, k7, k8, k9, k10, k11, ⟨ky, y1, y2, y3, y4⟩, hw⟩ := sw_o E hg2 (i := i1) (j := j1) (by omega) (by omega)
  simp (disch := omega) only [go_sem, reduceCtorEq, ↓reduceIte, Nat.reduceEqDiff, Nat.reduceAdd, Nat.reduceSub, Nat.reduceMul, Nat.reduceLT, Nat.reduceLeDiff, Int.reduceEq, Int.reduceNe, Int.reduceLT, Int.reduceLE, Int.reduceBEq, Int.reduceBNe, Int.reduceToNat, he, m1, m2, hs.at, k1, k2, k3, k4, k5, k6, k7, k8, k9, k10, k11, y1, y2, y3, y4, hw]
  have hs := hs.set (o' := .row 1 (swp D i1 j1).toList cap)
  have hg4 := hg2.swp (i := i1) (j := j1) (by omega) (by omega)
  have hz4 : (swp D i1 j1).size = d.size := by rw [Go.Sort.swp_size]; exact hz2
  clear k1 k2 k3 k4 k5 k6 k7 k8 k9 k10 k11 y1 y2 y3 y4 hw
  generalize swp D i1 j1 = D2 at *
  refine blk_join (Q := fun e h => ∃ (j : Nat) (D3 : Array (List AV)), (j, D3) = partLoop lt a (i1 + 1) (j1 - 1) D2 ∧ a ≤ j ∧ j < bb ∧ GA G D3 ∧ D3.size = d.size ∧ sat h (pto b (.row 1 D3.toList cap) :: F) ∧
    (e 0 = .arr b 1 0 d.size cap ∧ e 1 = .int .i64 a ∧ e 11 = .int .i64 j)) ?_ ?_
  · refine run_loopN (fun n e h => ∃ (i j : Nat) (D3 : Array (List AV)), n = j + 1 - i ∧ a < i ∧ i ≤ j + 1 ∧ j < bb ∧ partLoop lt a i j D3 = partLoop lt a (i1 + 1) (j1 - 1) D2 ∧ GA G D3 ∧ D3.size = d.size ∧ sat h (pto b (.row 1 D3.toList cap) :: F) ∧
      (e 0 = .arr b 1 0 d.size cap ∧ e 1 = .int .i64 a ∧ e 10 = .int .i64 i ∧ e 11 = .int .i64 j)) _ ⟨i1 + 1, j1 - 1, _, rfl, by omega, by omega, by omega, rfl, hg4, hz4, hs, ?_⟩ ?_
    · simp only [Env.upd_apply, he, and_self, reduceIte, Nat.reduceEqDiff]
    rintro n e h ⟨i, j, D3, rfl, hai, hij, hjb, hI, hgD, hzD, hs, he⟩
    rw [partLoop_eq] at hI
    simp (disch := omega) only [go_sem, reduceCtorEq, ↓reduceIte, Nat.reduceEqDiff, Nat.reduceAdd, Nat.reduceSub, Nat.reduceMul, Nat.reduceLT, Nat.reduceLeDiff, Int.reduceEq, Int.reduceNe, Int.reduceLT, Int.reduceLE, Int.reduceBEq, Int.reduceBNe, Int.reduceToNat, he]
    refine blk_join (Q := fun e h => ∃ i2 : Nat, i2 = scanUp (fun x => lt x D3[a]!) D3 j i ∧ i ≤ i2 ∧ i2 ≤ j + 1 ∧ sat h (pto b (.row 1 D3.toList cap) :: F) ∧ (e 0 = .arr b 1 0 d.size cap ∧ e 1 = .int .i64 a ∧ e 10 = .int .i64 i2 ∧ e 11 = .int .i64 j)) ?_ ?_
    · refine run_loopN (fun n e h => ∃ i2 : Nat, n = j + 1 - i2 ∧ scanUp (fun x => lt x D3[a]!) D3 j i2 = scanUp (fun x => lt x D3[a]!) D3 j i ∧ i ≤ i2 ∧ i2 ≤ j + 1 ∧ sat h (pto b (.row 1 D3.toList cap) :: F) ∧ (e 0 = .arr b 1 0 d.size cap ∧ e 1 = .int .i64 a ∧ e 10 = .int .i64 i2 ∧ e 11 = .int .i64 j)) _ ⟨i, rfl, rfl, Nat.le_refl _, by omega, hs, ?_⟩ ?_
      · simp only [Env.upd_apply, he, and_self, reduceIte, Nat.reduceEqDiff]
      rintro n e h ⟨i2, rfl, hJ, hj1, hj2, hs, he⟩
      simp (disch := omega) only [go_sem, reduceCtorEq, ↓reduceIte, Nat.reduceEqDiff, Nat.reduceAdd, Nat.reduceSub, Nat.reduceMul, Nat.reduceLT, Nat.reduceLeDiff, Int.reduceEq, Int.reduceNe, Int.reduceLT, Int.reduceLE, Int.reduceBEq, Int.reduceBNe, Int.reduceToNat, he]
      refine cnd_dec (fun hl1 => ?_) (fun hl1 => ?_)
      · have m2 : (i2 : Int) + 1 = ((i2 + 1 : Nat) : Int) := by omega
        have r1 := rd_o E hgD (i := i2) (by omega)
        have r2 := rd_o E hgD (i := a) (by omega)
        simp (disch := omega) only [go_sem, reduceCtorEq, ↓reduceIte, Nat.reduceEqDiff, Nat.reduceAdd, Nat.reduceSub, Nat.reduceMul, Nat.reduceLT, Nat.reduceLeDiff, Int.reduceEq, Int.reduceNe, Int.reduceLT, Int.reduceLE, Int.reduceBEq, Int.reduceBNe, Int.reduceToNat, he, hs.at, r1, r2]
        refine call_use (hc _ _ _ _ (hgD _ (by omega)) (hgD _ (by omega)) hs) ?_
        rintro r h ⟨hr, hs⟩
        subst hr
        simp (disch := omega) only [go_sem, reduceCtorEq, ↓reduceIte, Nat.reduceEqDiff, Nat.reduceAdd, Nat.reduceSub, Nat.reduceMul, Nat.reduceLT, Nat.reduceLeDiff, Int.reduceEq, Int.reduceNe, Int.reduceLT, Int.reduceLE, Int.reduceBEq, Int.reduceBNe, Int.reduceToNat, he, hl1]
        have hst : scanUp (fun x => lt x D3[a]!) D3 j i2 = if (lt D3[i2]! D3[a]!) = true then scanUp (fun x => lt x D3[a]!) D3 j (i2 + 1) else i2 := by
          rw [scanUp.eq_1 _ _ _ i2]
          simp only [show i2 ≤ j from by omega, decide_true, Bool.true_and]
        cases hq : lt D3[i2]! D3[a]!
        · simp (disch := omega) only [go_sem, reduceCtorEq, ↓reduceIte, Nat.reduceEqDiff, Nat.reduceAdd, Nat.reduceSub, Nat.reduceMul, Nat.reduceLT, Nat.reduceLeDiff, Int.reduceEq, Int.reduceNe, Int.reduceLT, Int.reduceLE, Int.reduceBEq, Int.reduceBNe, Int.reduceToNat, he, m2]
          exact ⟨i2, by rw [← hJ, hst, hq]; rfl, by omega, by omega, hs, rfl⟩
        · simp (disch := omega) only [go_sem, reduceCtorEq, ↓reduceIte, Nat.reduceEqDiff, Nat.reduceAdd, Nat.reduceSub, Nat.reduceMul, Nat.reduceLT, Nat.reduceLeDiff, Int.reduceEq, Int.reduceNe, Int.reduceLT, Int.reduceLE, Int.reduceBEq, Int.reduceBNe, Int.reduceToNat, he, m2]
          exact ⟨j + 1 - (i2 + 1), by omega, i2 + 1, rfl, by rw [← hJ, hst, hq]; rfl, by omega, by omega, hs, rfl⟩
      · simp (disch := omega) only [go_sem, reduceCtorEq, ↓reduceIte, Nat.reduceEqDiff, Nat.reduceAdd, Nat.reduceSub, Nat.reduceMul, Nat.reduceLT, Nat.reduceLeDiff, Int.reduceEq, Int.reduceNe, Int.reduceLT, Int.reduceLE, Int.reduceBEq, Int.reduceBNe, Int.reduceToNat, he, hl1]
        exact ⟨i2, by rw [← hJ, scanUp.eq_1 _ _ _ i2, if_neg (by simp; omega)], by omega, by omega, hs, rfl⟩

    rintro e h ⟨i2, hi2, hi3, hi4, hs, he⟩
    rw [← hi2] at hI
    simp (disch := omega) only [go_sem, reduceCtorEq, ↓reduceIte, Nat.reduceEqDiff, Nat.reduceAdd, Nat.reduceSub, Nat.reduceMul, Nat.reduceLT, Nat.reduceLeDiff, Int.reduceEq, Int.reduceNe, Int.reduceLT, Int.reduceLE, Int.reduceBEq, Int.reduceBNe, Int.reduceToNat, he]
    refine blk_join (Q := fun e h => ∃ j2 : Nat, j2 = scanDown (fun x => !lt x D3[a]!) D3 i2 j ∧ j2 ≤ j ∧ i2 ≤ j2 + 1 ∧ sat h (pto b (.row 1 D3.toList cap) :: F) ∧ (e 0 = .arr b 1 0 d.size cap ∧ e 1 = .int .i64 a ∧ e 10 = .int .i64 i2 ∧ e 11 = .int .i64 j2)) ?_ ?_
    · refine run_loopN (fun n e h => ∃ j2 : Nat, n = j2 ∧ scanDown (fun x => !lt x D3[a]!) D3 i2 j2 = scanDown (fun x => !lt x D3[a]!) D3 i2 j ∧ j2 ≤ j ∧ i2 ≤ j2 + 1 ∧ sat h (pto b (.row 1 D3.toList cap) :: F) ∧ (e 0 = .arr b 1 0 d.size cap ∧ e 1 = .int .i64 a ∧ e 10 = .int .i64 i2 ∧ e 11 = .int .i64 j2)) _ ⟨j, rfl, rfl, Nat.le_refl _, by omega, hs, ?_⟩ ?_
      · simp only [Env.upd_apply, he, and_self, reduceIte, Nat.reduceEqDiff]
      rintro j2 e h ⟨_, rfl, hJ, hj1, hj2, hs, he⟩
      simp (disch := omega) only [go_sem, reduceCtorEq, ↓reduceIte, Nat.reduceEqDiff, Nat.reduceAdd, Nat.reduceSub, Nat.reduceMul, Nat.reduceLT, Nat.reduceLeDiff, Int.reduceEq, Int.reduceNe, Int.reduceLT, Int.reduceLE, Int.reduceBEq, Int.reduceBNe, Int.reduceToNat, he]
      refine cnd_dec (fun hl1 => ?_) (fun hl1 => ?_)
      · obtain ⟨j2, rfl⟩ : ∃ q, j2 = q + 1 := ⟨j2 - 1, by omega⟩
        have m2 : ((j2 + 1 : Nat) : Int) - 1 = (j2 : Int) := by omega
        have r1 := rd_o E hgD (i := j2 + 1) (by omega)
        have r2 := rd_o E hgD (i := a) (by omega)
        simp (disch := omega) only [go_sem, reduceCtorEq, ↓reduceIte, Nat.reduceEqDiff, Nat.reduceAdd, Nat.reduceSub, Nat.reduceMul, Nat.reduceLT, Nat.reduceLeDiff, Int.reduceEq, Int.reduceNe, Int.reduceLT, Int.reduceLE, Int.reduceBEq, Int.reduceBNe, Int.reduceToNat, he, hs.at, r1, r2]
        refine call_use (hc _ _ _ _ (hgD _ (by omega)) (hgD _ (by omega)) hs) ?_
        rintro r h ⟨hr, hs⟩
        subst hr
        simp (disch := omega) only [go_sem, reduceCtorEq, ↓reduceIte, Nat.reduceEqDiff, Nat.reduceAdd, Nat.reduceSub, Nat.reduceMul, Nat.reduceLT, Nat.reduceLeDiff, Int.reduceEq, Int.reduceNe, Int.reduceLT, Int.reduceLE, Int.reduceBEq, Int.reduceBNe, Int.reduceToNat, he, hl1]
        have hst : scanDown (fun x => !lt x D3[a]!) D3 i2 (j2 + 1) = if (!lt D3[j2 + 1]! D3[a]!) = true then scanDown (fun x => !lt x D3[a]!) D3 i2 j2 else j2 + 1 := by
          rw [scanDown]
          simp only [show i2 ≤ j2 + 1 from by omega, decide_true, Bool.true_and]
        cases hq : lt D3[j2 + 1]! D3[a]!
        · simp (disch := omega) only [go_sem, reduceCtorEq, ↓reduceIte, Nat.reduceEqDiff, Nat.reduceAdd, Nat.reduceSub, Nat.reduceMul, Nat.reduceLT, Nat.reduceLeDiff, Int.reduceEq, Int.reduceNe, Int.reduceLT, Int.reduceLE, Int.reduceBEq, Int.reduceBNe, Int.reduceToNat, he, m2]
          exact ⟨j2, by omega, j2, rfl, by rw [← hJ, hst, hq]; rfl, by omega, by omega, hs, rfl⟩
        · simp (disch := omega) only [go_sem, reduceCtorEq, ↓reduceIte, Nat.reduceEqDiff, Nat.reduceAdd, Nat.reduceSub, Nat.reduceMul, Nat.reduceLT, Nat.reduceLeDiff, Int.reduceEq, Int.reduceNe, Int.reduceLT, Int.reduceLE, Int.reduceBEq, Int.reduceBNe, Int.reduceToNat, he, m2]
          exact ⟨j2 + 1, by rw [← hJ, hst, hq]; rfl, by omega, by omega, hs, rfl⟩
      · simp (disch := omega) only [go_sem, reduceCtorEq, ↓reduceIte, Nat.reduceEqDiff, Nat.reduceAdd, Nat.reduceSub, Nat.reduceMul, Nat.reduceLT, Nat.reduceLeDiff, Int.reduceEq, Int.reduceNe, Int.reduceLT, Int.reduceLE, Int.reduceBEq, Int.reduceBNe, Int.reduceToNat, he, hl1]
        refine ⟨j2, ?_, by omega, by omega, hs, rfl⟩
        rw [← hJ]
        cases j2 with
        | zero => rw [scanDown]
        | succ j2 => rw [scanDown, if_neg (by simp; omega)]

    rintro e h ⟨j2, hj2, hj3, hj4, hs, he⟩
    rw [← hj2] at hI
    simp (disch := omega) only [go_sem, reduceCtorEq, ↓reduceIte, Nat.reduceEqDiff, Nat.reduceAdd, Nat.reduceSub, Nat.reduceMul, Nat.reduceLT, Nat.reduceLeDiff, Int.reduceEq, Int.reduceNe, Int.reduceLT, Int.reduceLE, Int.reduceBEq, Int.reduceBNe, Int.reduceToNat, he]
    refine cnd_dec (fun hgt => ?_) (fun hle => ?_)
    · rw [if_pos (by omega)] at hI
      simp (disch := omega) only [go_sem, reduceCtorEq, ↓reduceIte, Nat.reduceEqDiff, Nat.reduceAdd, Nat.reduceSub, Nat.reduceMul, Nat.reduceLT, Nat.reduceLeDiff, Int.reduceEq, Int.reduceNe, Int.reduceLT, Int.reduceLE, Int.reduceBEq, Int.reduceBNe, Int.reduceToNat, he]
      exact ⟨j2, D3, hI, by omega, by omega, hgD, hzD, hs, rfl⟩
    · rw [if_neg (by omega)] at hI
      have m1 : (i2 : Int) + 1 = ((i2 + 1 : Nat) : Int) := by omega
      have m2 : (j2 : Int) - 1 = ((j2 - 1 : Nat) : Int) := by omega
      have hne : i2 ≠ j2 := fun hh => by
        have u := (scanUp_spec (fun x => lt x D3[a]!) D3 j _ i rfl).2.2.2
        have v := (scanDown_spec (fun x => !lt x D3[a]!) D3 i2 j).2.2.2
        rw [← hi2] at u
        rw [← hj2] at v
        have u := u (by omega)
        have v := v (by omega) (by omega)
        rw [← hh] at v
        simp at u v
        rw [u] at v; cases v
      simp (disch := omega) only [go_sem, reduceCtorEq, ↓reduceIte, Nat.reduceEqDiff, Nat.reduceAdd, Nat.reduceSub, Nat.reduceMul, Nat.reduceLT, Nat.reduceLeDiff, Int.reduceEq, Int.reduceNe, Int.reduceLT, Int.reduceLE, Int.reduceBEq, Int.reduceBNe, Int.reduceToNat, he]
      obtain ⟨k1, k2, k3, k4, k5, k6, k7, k8, k9, k10, k11, ⟨ky, y1, y2, y3, y4⟩, hw⟩ := sw_o E hgD (i := i2) (j := j2) (by omega) (by omega)
      simp (disch := omega) only [go_sem, reduceCtorEq, ↓reduceIte, Nat.reduceEqDiff, Nat.reduceAdd, Nat.reduceSub, Nat.reduceMul, Nat.reduceLT, Nat.reduceLeDiff, Int.reduceEq, Int.reduceNe, Int.reduceLT, Int.reduceLE, Int.reduceBEq, Int.reduceBNe, Int.reduceToNat, he, m1, m2, hs.at, k1, k2, k3, k4, k5, k6, k7, k8, k9, k10, k11, y1, y2, y3, y4, hw]
      exact ⟨j2 - 1 + 1 - (i2 + 1), by omega, i2 + 1, j2 - 1, _, rfl, by omega, by omega, by omega, hI, hgD.swp (by omega) (by omega), by rw [Go.Sort.swp_size]; exact hzD, hs.set, rfl, rfl⟩
  · rintro e h ⟨j, D3, hI, haj, hjb, hgD, hzD, hs, he⟩
    rw [← hI] at hpd
    simp (disch := omega) only [go_sem, reduceCtorEq, ↓reduceIte, Nat.reduceEqDiff, Nat.reduceAdd, Nat.reduceSub, Nat.reduceMul, Nat.reduceLT, Nat.reduceLeDiff, Int.reduceEq, Int.reduceNe, Int.reduceLT, Int.reduceLE, Int.reduceBEq, Int.reduceBNe, Int.reduceToNat, he]
    obtain ⟨k1, k2, k3, k4, k5, k6, k7, k8, k9, k10, k11, ⟨ky, y1, y2, y3, y4⟩, hw⟩ := sw_o E hgD (i := j) (j := a) (by omega) (by omega)
    simp (disch := omega) only [go_sem, reduceCtorEq, ↓reduceIte, Nat.reduceEqDiff, Nat.reduceAdd, Nat.reduceSub, Nat.reduceMul, Nat.reduceLT, Nat.reduceLeDiff, Int.reduceEq, Int.reduceNe, Int.reduceLT, Int.reduceLE, Int.reduceBEq, Int.reduceBNe, Int.reduceToNat, he, hs.at, k1, k2, k3, k4, k5, k6, k7, k8, k9, k10, k11, y1, y2, y3, y4, hw]
    rw [← hpd]
    exact ⟨rfl, hgD.swp (by omega) (by omega), by rw [Go.Sort.swp_size]; exact hzD, hs.set⟩
end
end Go.Proofs.Ytkclojjeepomfaa
/- slices: pdqsort. -/
set_option linter.unusedSimpArgs false
set_option linter.unusedVariables false
set_option maxRecDepth 10000
namespace Go.Proofs.Ytkclojjeepomfaa
open Go.Hz Go.Sort

section
variable {h : Hp} {F : List Asr} {G : List AV → Prop} {lt : List AV → List AV → Bool}

theorem pdq_S (hc : LessT Try.prog false G lt 101) (E : GoodE 1 false G) (hO : SWO lt) : ∀ (m : Nat) (F : List Asr) (h : Hp) (d : Array (List AV)) (a bb lim b cap : Nat), bb - a ≤ m → sat h (pto b (.row 1 d.toList cap) :: F) → GA G d → a ≤ bb → bb ≤ d.size → d.size ≤ 100000000 → Below lt a bb d → lim ≤ 64 →
    Triple Try.prog 88 [.arr b 1 0 d.size cap, .int .i64 a, .int .i64 bb, .int .i64 lim] h (fun r h => ∃ R : Array (List AV), PermIn a bb d R ∧ SortedIn lt a bb R ∧ GA G R ∧ R.size = d.size ∧ sat h (pto b (.row 1 R.toList cap) :: F)) := by
  intro m
  induction m using Nat.strongRecOn with
  | _ m ih =>
  intro F h d a0 b0 lim0 b cap hm hs hg ha hb hsz hB hlim
  refine t88 (Nat.le_of_ble_eq_true rfl) ?_
  simp (disch := omega) only [F88, go_sem, reduceCtorEq, ↓reduceIte, Nat.reduceEqDiff, Nat.reduceAdd, Nat.reduceSub, Nat.reduceMul, Nat.reduceLT, Nat.reduceLeDiff, Int.reduceEq, Int.reduceNe, Int.reduceLT, Int.reduceLE, Int.reduceBEq, Int.reduceBNe, Int.reduceToNat]
  refine run_loopN (fun n e h => ∃ (a bb lim : Nat) (wb wp : Bool) (D : Array (List AV)), n = bb - a ∧ bb - a ≤ b0 - a0 ∧ a ≤ bb ∧ bb ≤ d.size ∧ lim ≤ 64 ∧ Below lt a bb D ∧ GA G D ∧ D.size = d.size ∧
    (∀ R, PermIn a bb D R → SortedIn lt a bb R → PermIn a0 b0 d R ∧ SortedIn lt a0 b0 R) ∧ sat h (pto b (.row 1 D.toList cap) :: F) ∧
    (e 0 = .arr b 1 0 d.size cap ∧ e 1 = .int .i64 a ∧ e 2 = .int .i64 bb ∧ e 3 = .int .i64 lim ∧ e 8 = .bool wb ∧ e 9 = .bool wp)) _ ⟨a0, b0, lim0, true, true, d, rfl, Nat.le_refl _, ha, hb, hlim, hB, hg, rfl, fun R h1 h2 => ⟨h1, h2⟩, hs, rfl, rfl, rfl, rfl, rfl, rfl⟩ ?_
  rintro n e h ⟨a, bb, lim, wb, wp, D, rfl, hl, hab, hbs, hlim, hB, hgD, hzD, hC, hs, he⟩
  have n0 : (bb : Int) - a = ((bb - a : Nat) : Int) := by omega
  simp (disch := omega) only [go_sem, reduceCtorEq, ↓reduceIte, Nat.reduceEqDiff, Nat.reduceAdd, Nat.reduceSub, Nat.reduceMul, Nat.reduceLT, Nat.reduceLeDiff, Int.reduceEq, Int.reduceNe, Int.reduceLT, Int.reduceLE, Int.reduceBEq, Int.reduceBNe, Int.reduceToNat, he, n0]
  refine cnd_dec (fun h12 => ?_) (fun h12 => ?_)
  · simp (disch := omega) only [go_sem, reduceCtorEq, ↓reduceIte, Nat.reduceEqDiff, Nat.reduceAdd, Nat.reduceSub, Nat.reduceMul, Nat.reduceLT, Nat.reduceLeDiff, Int.reduceEq, Int.reduceNe, Int.reduceLT, Int.reduceLE, Int.reduceBEq, Int.reduceBNe, Int.reduceToNat, he]
    refine call_use (by rw [← hzD]; exact ins_S hc E hs hgD hab (by omega) (by omega)) ?_
    rintro r h ⟨hg1, hz1, hs⟩
    obtain ⟨p1, p2⟩ := insertionSort_holds (lt := lt) hO D a bb hab (by omega)
    obtain ⟨c1, c2⟩ := hC _ p1 p2
    simp (disch := omega) only [go_sem, reduceCtorEq, ↓reduceIte, Nat.reduceEqDiff, Nat.reduceAdd, Nat.reduceSub, Nat.reduceMul, Nat.reduceLT, Nat.reduceLeDiff, Int.reduceEq, Int.reduceNe, Int.reduceLT, Int.reduceLE, Int.reduceBEq, Int.reduceBNe, Int.reduceToNat]
    exact ⟨_, c1, c2, hg1, by omega, hs⟩
  have hle : ((lim : Int) == 0) = decide (lim = 0) := by
    by_cases hq : lim = 0
    · subst hq; rfl
    · simp [hq]
  simp (disch := omega) only [go_sem, reduceCtorEq, ↓reduceIte, Nat.reduceEqDiff, Nat.reduceAdd, Nat.reduceSub, Nat.reduceMul, Nat.reduceLT, Nat.reduceLeDiff, Int.reduceEq, Int.reduceNe, Int.reduceLT, Int.reduceLE, Int.reduceBEq, Int.reduceBNe, Int.reduceToNat, he, hle]
  refine cnd_bool (fun h0 => ?_) (fun h0 => ?_)
  · simp (disch := omega) only [go_sem, reduceCtorEq, ↓reduceIte, Nat.reduceEqDiff, Nat.reduceAdd, Nat.reduceSub, Nat.reduceMul, Nat.reduceLT, Nat.reduceLeDiff, Int.reduceEq, Int.reduceNe, Int.reduceLT, Int.reduceLE, Int.reduceBEq, Int.reduceBNe, Int.reduceToNat, he]
    refine call_use (by rw [← hzD]; exact heap_S hc E hs hgD hab (by omega) (by omega)) ?_
    rintro r h ⟨hg1, hz1, hs⟩
    obtain ⟨p1, p2⟩ := heapSort_holds (lt := lt) hO D a bb hab (by omega)
    obtain ⟨c1, c2⟩ := hC _ p1 p2
    simp (disch := omega) only [go_sem, reduceCtorEq, ↓reduceIte, Nat.reduceEqDiff, Nat.reduceAdd, Nat.reduceSub, Nat.reduceMul, Nat.reduceLT, Nat.reduceLeDiff, Int.reduceEq, Int.reduceNe, Int.reduceLT, Int.reduceLE, Int.reduceBEq, Int.reduceBNe, Int.reduceToNat]
    exact ⟨_, c1, c2, hg1, by omega, hs⟩
  have h0 : lim ≠ 0 := by simpa using h0
  simp (disch := omega) only [go_sem, reduceCtorEq, ↓reduceIte, Nat.reduceEqDiff, Nat.reduceAdd, Nat.reduceSub, Nat.reduceMul, Nat.reduceLT, Nat.reduceLeDiff, Int.reduceEq, Int.reduceNe, Int.reduceLT, Int.reduceLE, Int.reduceBEq, Int.reduceBNe, Int.reduceToNat, he]
  refine cnd_join (Q := fun e h => ∃ (D1 : Array (List AV)) (lim1 : Nat), PermIn a bb D D1 ∧ GA G D1 ∧ D1.size = d.size ∧ lim1 ≤ 64 ∧ sat h (pto b (.row 1 D1.toList cap) :: F) ∧
    (e 0 = .arr b 1 0 d.size cap ∧ e 1 = .int .i64 a ∧ e 2 = .int .i64 bb ∧ e 3 = .int .i64 lim1 ∧ e 8 = .bool wb ∧ e 9 = .bool wp ∧ e 10 = .int .i64 (bb - a : Nat))) ?_ ?_
  · cases wb
    · have ml : (lim : Int) - 1 = ((lim - 1 : Nat) : Int) := by omega
      simp (disch := omega) only [go_sem, reduceCtorEq, ↓reduceIte, Nat.reduceEqDiff, Nat.reduceAdd, Nat.reduceSub, Nat.reduceMul, Nat.reduceLT, Nat.reduceLeDiff, Int.reduceEq, Int.reduceNe, Int.reduceLT, Int.reduceLE, Int.reduceBEq, Int.reduceBNe, Int.reduceToNat, he]
      refine call_use (by rw [← hzD]; exact brk_S (cf := .nilp) E hs hgD (by omega) (by omega) (by omega)) ?_
      rintro r h ⟨D1, p1, hg1, hz1, hs⟩
      simp (disch := omega) only [go_sem, reduceCtorEq, ↓reduceIte, Nat.reduceEqDiff, Nat.reduceAdd, Nat.reduceSub, Nat.reduceMul, Nat.reduceLT, Nat.reduceLeDiff, Int.reduceEq, Int.reduceNe, Int.reduceLT, Int.reduceLE, Int.reduceBEq, Int.reduceBNe, Int.reduceToNat, he, ml]
      exact ⟨D1, lim - 1, p1, hg1, by omega, by omega, hs, rfl⟩
    · simp (disch := omega) only [go_sem, reduceCtorEq, ↓reduceIte, Nat.reduceEqDiff, Nat.reduceAdd, Nat.reduceSub, Nat.reduceMul, Nat.reduceLT, Nat.reduceLeDiff, Int.reduceEq, Int.reduceNe, Int.reduceLT, Int.reduceLE, Int.reduceBEq, Int.reduceBNe, Int.reduceToNat, he]
      exact ⟨D, lim, permIn_refl D a bb, hgD, hzD, hlim, hs, rfl⟩
  rintro e h ⟨D1, lim1, hp1, hg1, hz1, hlim1, hs, he⟩
  simp (disch := omega) only [go_sem, reduceCtorEq, ↓reduceIte, Nat.reduceEqDiff, Nat.reduceAdd, Nat.reduceSub, Nat.reduceMul, Nat.reduceLT, Nat.reduceLeDiff, Int.reduceEq, Int.reduceNe, Int.reduceLT, Int.reduceLE, Int.reduceBEq, Int.reduceBNe, Int.reduceToNat, he]
  refine call_use (by rw [← hz1]; exact piv_S hc E hs hg1 (by omega) (by omega) (by omega)) ?_
  rintro r h ⟨u, t, hr, hu1, hu2, ht, hs⟩
  subst hr
  simp (disch := omega) only [go_sem, reduceCtorEq, ↓reduceIte, Nat.reduceEqDiff, Nat.reduceAdd, Nat.reduceSub, Nat.reduceMul, Nat.reduceLT, Nat.reduceLeDiff, Int.reduceEq, Int.reduceNe, Int.reduceLT, Int.reduceLE, Int.reduceBEq, Int.reduceBNe, Int.reduceToNat, he]
  have hte : ((t : Int) == 2) = decide (t = 2) := by
    by_cases hq : t = 2
    · subst hq; rfl
    · simp [hq]; omega
  simp (disch := omega) only [go_sem, reduceCtorEq, ↓reduceIte, Nat.reduceEqDiff, Nat.reduceAdd, Nat.reduceSub, Nat.reduceMul, Nat.reduceLT, Nat.reduceLeDiff, Int.reduceEq, Int.reduceNe, Int.reduceLT, Int.reduceLE, Int.reduceBEq, Int.reduceBNe, Int.reduceToNat, hte]
  refine cnd_join (Q := fun e h => ∃ (D2 : Array (List AV)) (u t : Nat), PermIn a bb D D2 ∧ GA G D2 ∧ D2.size = d.size ∧ a ≤ u ∧ u < bb ∧ sat h (pto b (.row 1 D2.toList cap) :: F) ∧
    (e 0 = .arr b 1 0 d.size cap ∧ e 1 = .int .i64 a ∧ e 2 = .int .i64 bb ∧ e 3 = .int .i64 lim1 ∧ e 8 = .bool wb ∧ e 9 = .bool wp ∧ e 10 = .int .i64 (bb - a : Nat) ∧ e 11 = .int .i64 u ∧ e 12 = .int .i64 t)) ?_ ?_
  · refine cnd_bool (fun ht2 => ?_) (fun ht2 => ?_)
    · have q1 : (bb : Int) - 1 = ((bb - 1 : Nat) : Int) := by omega
      have q2 : (u : Int) - a = ((u - a : Nat) : Int) := by omega
      have q3 : ((bb - 1 : Nat) : Int) - ((u - a : Nat) : Int) = ((bb - 1 - (u - a) : Nat) : Int) := by omega
      simp (disch := omega) only [go_sem, reduceCtorEq, ↓reduceIte, Nat.reduceEqDiff, Nat.reduceAdd, Nat.reduceSub, Nat.reduceMul, Nat.reduceLT, Nat.reduceLeDiff, Int.reduceEq, Int.reduceNe, Int.reduceLT, Int.reduceLE, Int.reduceBEq, Int.reduceBNe, Int.reduceToNat, he]
      refine call_use (by rw [← hz1]; exact rev_S (cf := .nilp) E hs hg1 (by omega) (by omega) (by omega)) ?_
      rintro r h ⟨p2, hg2, hz2, hs⟩
      simp (disch := omega) only [go_sem, reduceCtorEq, ↓reduceIte, Nat.reduceEqDiff, Nat.reduceAdd, Nat.reduceSub, Nat.reduceMul, Nat.reduceLT, Nat.reduceLeDiff, Int.reduceEq, Int.reduceNe, Int.reduceLT, Int.reduceLE, Int.reduceBEq, Int.reduceBNe, Int.reduceToNat, he, q1, q2, q3]
      exact ⟨_, bb - 1 - (u - a), 1, permIn_trans _ _ _ _ _ hp1 p2, hg2, by omega, by omega, by omega, hs, rfl, rfl⟩
    · simp (disch := omega) only [go_sem, reduceCtorEq, ↓reduceIte, Nat.reduceEqDiff, Nat.reduceAdd, Nat.reduceSub, Nat.reduceMul, Nat.reduceLT, Nat.reduceLeDiff, Int.reduceEq, Int.reduceNe, Int.reduceLT, Int.reduceLE, Int.reduceBEq, Int.reduceBNe, Int.reduceToNat, he]
      exact ⟨D1, u, t, hp1, hg1, hz1, by omega, by omega, hs, rfl, rfl⟩
  rintro e h ⟨D2, u, t, hp2, hg2, hz2, hu1, hu2, hs, he⟩
  simp (disch := omega) only [go_sem, reduceCtorEq, ↓reduceIte, Nat.reduceEqDiff, Nat.reduceAdd, Nat.reduceSub, Nat.reduceMul, Nat.reduceLT, Nat.reduceLeDiff, Int.reduceEq, Int.reduceNe, Int.reduceLT, Int.reduceLE, Int.reduceBEq, Int.reduceBNe, Int.reduceToNat, he]
  refine cnd_join (Q := fun e h => ∃ (q : Bool) (v : AV) (w : Bool), (if q = true then v else AV.bool false) = .bool w ∧ sat h (pto b (.row 1 D2.toList cap) :: F) ∧ (e 0 = .arr b 1 0 d.size cap ∧ e 1 = .int .i64 a ∧ e 2 = .int .i64 bb ∧ e 3 = .int .i64 lim1 ∧ e 8 = .bool wb ∧ e 9 = .bool wp ∧ e 10 = .int .i64 (bb - a : Nat) ∧ e 11 = .int .i64 u ∧ e 12 = .int .i64 t ∧ e 62 = .bool q ∧ e 63 = v)) ?_ ?_
  · cases wb
    · simp (disch := omega) only [go_sem, reduceCtorEq, ↓reduceIte, Nat.reduceEqDiff, Nat.reduceAdd, Nat.reduceSub, Nat.reduceMul, Nat.reduceLT, Nat.reduceLeDiff, Int.reduceEq, Int.reduceNe, Int.reduceLT, Int.reduceLE, Int.reduceBEq, Int.reduceBNe, Int.reduceToNat, he]
      exact ⟨_, _, false, rfl, hs, rfl, rfl⟩
    · simp (disch := omega) only [go_sem, reduceCtorEq, ↓reduceIte, Nat.reduceEqDiff, Nat.reduceAdd, Nat.reduceSub, Nat.reduceMul, Nat.reduceLT, Nat.reduceLeDiff, Int.reduceEq, Int.reduceNe, Int.reduceLT, Int.reduceLE, Int.reduceBEq, Int.reduceBNe, Int.reduceToNat, he]
      exact ⟨_, _, wp, rfl, hs, rfl, rfl⟩
  rintro e h ⟨q, v, w, hq, hs, he⟩
  simp (disch := omega) only [go_sem, reduceCtorEq, ↓reduceIte, Nat.reduceEqDiff, Nat.reduceAdd, Nat.reduceSub, Nat.reduceMul, Nat.reduceLT, Nat.reduceLeDiff, Int.reduceEq, Int.reduceNe, Int.reduceLT, Int.reduceLE, Int.reduceBEq, Int.reduceBNe, Int.reduceToNat, he, hq]
  refine cnd_join (Q := fun e h => ∃ (q : Bool) (v : AV) (w : Bool), (if q = true then v else AV.bool false) = .bool w ∧ sat h (pto b (.row 1 D2.toList cap) :: F) ∧ (e 0 = .arr b 1 0 d.size cap ∧ e 1 = .int .i64 a ∧ e 2 = .int .i64 bb ∧ e 3 = .int .i64 lim1 ∧ e 8 = .bool wb ∧ e 9 = .bool wp ∧ e 10 = .int .i64 (bb - a : Nat) ∧ e 11 = .int .i64 u ∧ e 65 = .bool q ∧ e 67 = v)) ?_ ?_
  · cases w
    · simp (disch := omega) only [go_sem, reduceCtorEq, ↓reduceIte, Nat.reduceEqDiff, Nat.reduceAdd, Nat.reduceSub, Nat.reduceMul, Nat.reduceLT, Nat.reduceLeDiff, Int.reduceEq, Int.reduceNe, Int.reduceLT, Int.reduceLE, Int.reduceBEq, Int.reduceBNe, Int.reduceToNat, he]
      exact ⟨_, _, false, rfl, hs, rfl, rfl⟩
    · simp (disch := omega) only [go_sem, reduceCtorEq, ↓reduceIte, Nat.reduceEqDiff, Nat.reduceAdd, Nat.reduceSub, Nat.reduceMul, Nat.reduceLT, Nat.reduceLeDiff, Int.reduceEq, Int.reduceNe, Int.reduceLT, Int.reduceLE, Int.reduceBEq, Int.reduceBNe, Int.reduceToNat, he]
      exact ⟨_, _, _, rfl, hs, rfl, rfl⟩
  rintro e h ⟨q2, v2, w2, hq2, hs, he⟩
  simp (disch := omega) only [go_sem, reduceCtorEq, ↓reduceIte, Nat.reduceEqDiff, Nat.reduceAdd, Nat.reduceSub, Nat.reduceMul, Nat.reduceLT, Nat.reduceLeDiff, Int.reduceEq, Int.reduceNe, Int.reduceLT, Int.reduceLE, Int.reduceBEq, Int.reduceBNe, Int.reduceToNat, he, hq2]
  have hB2 : Below lt a bb D2 := Below.permA permIn_all (by omega) hB hp2
  refine cnd_join (Q := fun e h => ∃ D3 : Array (List AV), PermIn a bb D D3 ∧ GA G D3 ∧ D3.size = d.size ∧ sat h (pto b (.row 1 D3.toList cap) :: F) ∧ (e 0 = .arr b 1 0 d.size cap ∧ e 1 = .int .i64 a ∧ e 2 = .int .i64 bb ∧ e 3 = .int .i64 lim1 ∧ e 8 = .bool wb ∧ e 9 = .bool wp ∧ e 10 = .int .i64 (bb - a : Nat) ∧ e 11 = .int .i64 u)) ?_ ?_
  · cases w2
    · simp (disch := omega) only [go_sem, reduceCtorEq, ↓reduceIte, Nat.reduceEqDiff, Nat.reduceAdd, Nat.reduceSub, Nat.reduceMul, Nat.reduceLT, Nat.reduceLeDiff, Int.reduceEq, Int.reduceNe, Int.reduceLT, Int.reduceLE, Int.reduceBEq, Int.reduceBNe, Int.reduceToNat, he]
      exact ⟨D2, hp2, hg2, hz2, hs⟩
    · simp (disch := omega) only [go_sem, reduceCtorEq, ↓reduceIte, Nat.reduceEqDiff, Nat.reduceAdd, Nat.reduceSub, Nat.reduceMul, Nat.reduceLT, Nat.reduceLeDiff, Int.reduceEq, Int.reduceNe, Int.reduceLT, Int.reduceLE, Int.reduceBEq, Int.reduceBNe, Int.reduceToNat, he]
      refine call_use (by rw [← hz2]; exact par_S hc E hs hg2 (by omega) (by omega) (by omega)) ?_
      rintro r h ⟨hr, hg3, hz3, hs⟩
      subst hr
      obtain ⟨p1, p2⟩ := partialInsertionSort_holds (lt := lt) hO D2 a bb (by omega) (by omega) hB2
      have p3 := permIn_trans _ _ _ _ _ hp2 p1
      simp (disch := omega) only [go_sem, reduceCtorEq, ↓reduceIte, Nat.reduceEqDiff, Nat.reduceAdd, Nat.reduceSub, Nat.reduceMul, Nat.reduceLT, Nat.reduceLeDiff, Int.reduceEq, Int.reduceNe, Int.reduceLT, Int.reduceLE, Int.reduceBEq, Int.reduceBNe, Int.reduceToNat, he]
      refine cnd_bool (fun hd => ?_) (fun hd => ?_)
      · obtain ⟨c1, c2⟩ := hC _ p3 (p2 hd)
        simp (disch := omega) only [go_sem, reduceCtorEq, ↓reduceIte, Nat.reduceEqDiff, Nat.reduceAdd, Nat.reduceSub, Nat.reduceMul, Nat.reduceLT, Nat.reduceLeDiff, Int.reduceEq, Int.reduceNe, Int.reduceLT, Int.reduceLE, Int.reduceBEq, Int.reduceBNe, Int.reduceToNat, he]
        exact ⟨_, c1, c2, hg3, by omega, hs⟩
      · simp (disch := omega) only [go_sem, reduceCtorEq, ↓reduceIte, Nat.reduceEqDiff, Nat.reduceAdd, Nat.reduceSub, Nat.reduceMul, Nat.reduceLT, Nat.reduceLeDiff, Int.reduceEq, Int.reduceNe, Int.reduceLT, Int.reduceLE, Int.reduceBEq, Int.reduceBNe, Int.reduceToNat, he]
        exact ⟨_, p3, hg3, by omega, hs⟩
  rintro e h ⟨D3, hp3, hg3, hz3, hs, he⟩
  simp (disch := omega) only [go_sem, reduceCtorEq, ↓reduceIte, Nat.reduceEqDiff, Nat.reduceAdd, Nat.reduceSub, Nat.reduceMul, Nat.reduceLT, Nat.reduceLeDiff, Int.reduceEq, Int.reduceNe, Int.reduceLT, Int.reduceLE, Int.reduceBEq, Int.reduceBNe, Int.reduceToNat, he]
  refine cnd_join (Q := fun e h => ∃ (q : Bool) (v : AV) (w : Bool), (if q = true then v else AV.bool false) = .bool w ∧ w = (decide (0 < a) && !lt D3[a - 1]! D3[u]!) ∧ sat h (pto b (.row 1 D3.toList cap) :: F) ∧ (e 0 = .arr b 1 0 d.size cap ∧ e 1 = .int .i64 a ∧ e 2 = .int .i64 bb ∧ e 3 = .int .i64 lim1 ∧ e 8 = .bool wb ∧ e 9 = .bool wp ∧ e 10 = .int .i64 (bb - a : Nat) ∧ e 11 = .int .i64 u ∧ e 75 = .bool q ∧ e 86 = v)) ?_ ?_
  · refine cnd_dec (fun ha0 => ?_) (fun ha0 => ?_)
    · have m1 : (a : Int) - 1 = ((a - 1 : Nat) : Int) := by omega
      have r1 := rd_o E hg3 (i := a - 1) (by omega)
      have r2 := rd_o E hg3 (i := u) (by omega)
      simp (disch := omega) only [go_sem, reduceCtorEq, ↓reduceIte, Nat.reduceEqDiff, Nat.reduceAdd, Nat.reduceSub, Nat.reduceMul, Nat.reduceLT, Nat.reduceLeDiff, Int.reduceEq, Int.reduceNe, Int.reduceLT, Int.reduceLE, Int.reduceBEq, Int.reduceBNe, Int.reduceToNat, he, hs.at, r1, r2, m1]
      refine call_use (hc _ _ _ _ (hg3 _ (by omega)) (hg3 _ (by omega)) hs) ?_
      rintro r h ⟨hr, hs⟩
      subst hr
      simp (disch := omega) only [go_sem, reduceCtorEq, ↓reduceIte, Nat.reduceEqDiff, Nat.reduceAdd, Nat.reduceSub, Nat.reduceMul, Nat.reduceLT, Nat.reduceLeDiff, Int.reduceEq, Int.reduceNe, Int.reduceLT, Int.reduceLE, Int.reduceBEq, Int.reduceBNe, Int.reduceToNat, he, ha0]
      exact ⟨_, _, _, rfl, by rw [decide_eq_true (by omega), Bool.true_and], hs, rfl, rfl⟩
    · simp (disch := omega) only [go_sem, reduceCtorEq, ↓reduceIte, Nat.reduceEqDiff, Nat.reduceAdd, Nat.reduceSub, Nat.reduceMul, Nat.reduceLT, Nat.reduceLeDiff, Int.reduceEq, Int.reduceNe, Int.reduceLT, Int.reduceLE, Int.reduceBEq, Int.reduceBNe, Int.reduceToNat, he, ha0]
      exact ⟨_, _, _, rfl, by rw [decide_eq_false (by omega), Bool.false_and], hs, rfl, rfl⟩
  rintro e h ⟨q3, v3, w3, hq3, hw3, hs, he⟩
  simp (disch := omega) only [go_sem, reduceCtorEq, ↓reduceIte, Nat.reduceEqDiff, Nat.reduceAdd, Nat.reduceSub, Nat.reduceMul, Nat.reduceLT, Nat.reduceLeDiff, Int.reduceEq, Int.reduceNe, Int.reduceLT, Int.reduceLE, Int.reduceBEq, Int.reduceBNe, Int.reduceToNat, he, hq3]
  have hB3 : Below lt a bb D3 := Below.permA permIn_all (by omega) hB hp3
  have hC3 : ∀ R, PermIn a bb D3 R → SortedIn lt a bb R → PermIn a0 b0 d R ∧ SortedIn lt a0 b0 R := fun R h1 h2 => hC R (permIn_trans _ _ _ _ _ hp3 h1) h2
  refine cnd_bool (fun hw => ?_) (fun hw => ?_)
  · subst hw
    simp only [Bool.true_eq, Bool.and_eq_true, decide_eq_true_eq, Bool.not_eq_true'] at hw3
    simp (disch := omega) only [go_sem, reduceCtorEq, ↓reduceIte, Nat.reduceEqDiff, Nat.reduceAdd, Nat.reduceSub, Nat.reduceMul, Nat.reduceLT, Nat.reduceLeDiff, Int.reduceEq, Int.reduceNe, Int.reduceLT, Int.reduceLE, Int.reduceBEq, Int.reduceBNe, Int.reduceToNat, he]
    refine call_use (by rw [← hz3]; exact peq_S hc E hs hg3 hu1 hu2 (by omega) (by omega)) ?_
    rintro r h ⟨hr, hg4, hz4, hs⟩
    obtain ⟨mid, d4, hx⟩ : ∃ mid d4, partitionEqual lt D3 a bb u = (mid, d4) := ⟨_, _, rfl⟩
    rw [hx] at hr hg4 hz4 hs
    simp only at hr hg4 hz4 hs
    subst hr
    obtain ⟨e1, e2, e3, e4, e5⟩ := round_eq hO (partitionEqual_holds lt) hw3.1 hu1 hu2 (by omega) hB3 hw3.2 hx
    simp (disch := omega) only [go_sem, reduceCtorEq, ↓reduceIte, Nat.reduceEqDiff, Nat.reduceAdd, Nat.reduceSub, Nat.reduceMul, Nat.reduceLT, Nat.reduceLeDiff, Int.reduceEq, Int.reduceNe, Int.reduceLT, Int.reduceLE, Int.reduceBEq, Int.reduceBNe, Int.reduceToNat, he]
    exact ⟨bb - mid, by omega, mid, bb, lim1, wb, wp, d4, rfl, by omega, by omega, by omega, hlim1, e4, hg4, by omega, fun R h1 h2 => hC3 R (e5 R h1 h2).1 (e5 R h1 h2).2, hs, rfl, rfl, rfl, rfl, rfl⟩
  · simp (disch := omega) only [go_sem, reduceCtorEq, ↓reduceIte, Nat.reduceEqDiff, Nat.reduceAdd, Nat.reduceSub, Nat.reduceMul, Nat.reduceLT, Nat.reduceLeDiff, Int.reduceEq, Int.reduceNe, Int.reduceLT, Int.reduceLE, Int.reduceBEq, Int.reduceBNe, Int.reduceToNat, he]
    refine call_use (by rw [← hz3]; exact prt_S hc E hs hg3 hu1 hu2 (by omega) (by omega)) ?_
    rintro r h ⟨hr, hg4, hz4, hs⟩
    obtain ⟨mid, ap, d4, hx⟩ : ∃ mid ap d4, partition lt D3 a bb u = (mid, ap, d4) := ⟨_, _, _, rfl⟩
    rw [hx] at hr hg4 hz4 hs
    simp only at hr hg4 hz4 hs
    subst hr
    obtain ⟨e1, e2, e3, eL, eR, c1, c2⟩ := round_part hO (partition_holds lt) hu1 hu2 (by omega) hB3 hx
    have q1 : (mid : Int) - a = ((mid - a : Nat) : Int) := by omega
    have q2 : (bb : Int) - mid = ((bb - mid : Nat) : Int) := by omega
    have q3 : (mid : Int) + 1 = ((mid + 1 : Nat) : Int) := by omega
    have q4 : ((bb - a : Nat) : Int).tdiv 8 = (((bb - a) / 8 : Nat) : Int) := by rw [Int.tdiv_eq_ediv_of_nonneg (by omega)]; omega
    simp (disch := omega) only [go_sem, reduceCtorEq, ↓reduceIte, Nat.reduceEqDiff, Nat.reduceAdd, Nat.reduceSub, Nat.reduceMul, Nat.reduceLT, Nat.reduceLeDiff, Int.reduceEq, Int.reduceNe, Int.reduceLT, Int.reduceLE, Int.reduceBEq, Int.reduceBNe, Int.reduceToNat, he, q1, q2, q4]
    refine cnd_dec (fun hlt => ?_) (fun hge => ?_)
    · simp (disch := omega) only [go_sem, reduceCtorEq, ↓reduceIte, Nat.reduceEqDiff, Nat.reduceAdd, Nat.reduceSub, Nat.reduceMul, Nat.reduceLT, Nat.reduceLeDiff, Int.reduceEq, Int.reduceNe, Int.reduceLT, Int.reduceLE, Int.reduceBEq, Int.reduceBNe, Int.reduceToNat, he, q3]
      refine call_use (by rw [← hz3, ← e3]; exact ih (mid - a) (by omega) F _ d4 a mid lim1 b cap (Nat.le_refl _) hs hg4 e1 (by omega) (by omega) eL hlim1) ?_
      rintro r h ⟨R1, p1, s1, hg5, hz5, hs⟩
      obtain ⟨f1, f2⟩ := c1 R1 p1 s1
      simp (disch := omega) only [go_sem, reduceCtorEq, ↓reduceIte, Nat.reduceEqDiff, Nat.reduceAdd, Nat.reduceSub, Nat.reduceMul, Nat.reduceLT, Nat.reduceLeDiff, Int.reduceEq, Int.reduceNe, Int.reduceLT, Int.reduceLE, Int.reduceBEq, Int.reduceBNe, Int.reduceToNat, he, q3]
      exact ⟨bb - (mid + 1), by omega, mid + 1, bb, lim1, _, ap, R1, rfl, by omega, by omega, by omega, hlim1, f1, hg5, by omega, fun R h1 h2 => hC3 R (f2 R h1 h2).1 (f2 R h1 h2).2, hs, rfl, rfl, rfl, rfl, rfl⟩
    · simp (disch := omega) only [go_sem, reduceCtorEq, ↓reduceIte, Nat.reduceEqDiff, Nat.reduceAdd, Nat.reduceSub, Nat.reduceMul, Nat.reduceLT, Nat.reduceLeDiff, Int.reduceEq, Int.reduceNe, Int.reduceLT, Int.reduceLE, Int.reduceBEq, Int.reduceBNe, Int.reduceToNat, he, q3]
      refine call_use (by rw [← hz3, ← e3]; exact ih (bb - (mid + 1)) (by omega) F _ d4 (mid + 1) bb lim1 b cap (Nat.le_refl _) hs hg4 (by omega) (by omega) (by omega) eR hlim1) ?_
      rintro r h ⟨R1, p1, s1, hg5, hz5, hs⟩
      obtain ⟨f1, f2⟩ := c2 R1 p1 s1
      simp (disch := omega) only [go_sem, reduceCtorEq, ↓reduceIte, Nat.reduceEqDiff, Nat.reduceAdd, Nat.reduceSub, Nat.reduceMul, Nat.reduceLT, Nat.reduceLeDiff, Int.reduceEq, Int.reduceNe, Int.reduceLT, Int.reduceLE, Int.reduceBEq, Int.reduceBNe, Int.reduceToNat, he, q3]
      exact ⟨mid - a, by omega, a, mid, lim1, _, ap, R1, rfl, by omega, by omega, by omega, hlim1, f1, hg5, by omega, fun R h1 h2 => hC3 R (f2 R h1 h2).1 (f2 R h1 h2).2, hs, rfl, rfl, rfl, rfl, rfl⟩
end
end Go.Proofs.Ytkclojjeepomfaa
