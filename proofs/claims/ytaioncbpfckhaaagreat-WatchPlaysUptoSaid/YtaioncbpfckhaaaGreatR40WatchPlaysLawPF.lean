/- The document's store: its writes. -/
import Derived.Test.YtaioncbpfckhaaaGreatR40WatchPlaysLawPE
set_option linter.unusedSimpArgs false
set_option linter.unusedVariables false
set_option maxRecDepth 10000
namespace Go.Proofs.YtaioncbpfckhaaaGreat
open Go.Hz

/-- The document's store, in the heap. -/
def RxP (x : Nat) (A : Sto) : Asr := fun h => ∃ o ev nw, (SlV o (A.old.map kvC) ∧ SlV nw (A.now.map kvC)) ∧ sat h [pto x (.row 5 [[.int .i64 A.rev, .int .i64 A.past, o, ev, nw]] 1), Ow 8 ev (A.chs.map evC)]
theorem rxP {x : Nat} {A : Sto} {h : Hp} {F : List Asr} : sat h (RxP x A :: F) ↔ ∃ o ev nw, (SlV o (A.old.map kvC) ∧ SlV nw (A.now.map kvC)) ∧ sat h (pto x (.row 5 [[.int .i64 A.rev, .int .i64 A.past, o, ev, nw]] 1) :: Ow 8 ev (A.chs.map evC) :: F) := by
  unfold RxP
  rw [sat_ex]; refine exists_congr fun o => ?_
  rw [sat_ex]; refine exists_congr fun ev => ?_
  rw [sat_ex]; refine exists_congr fun nw => ?_
  rw [sat_and]
  exact and_congr_right fun _ => sat_sl (l1 := [_, _]) (l := F)
/-- A write of it. -/
def RwP (w x : Nat) (A : Sto) (W : Go.Hz.Wr) : Asr := fun h => ∃ lv ev ks, SlV lv (W.cur.map kvC) ∧ sat h [pto w (.row 4 [[.ptr x 5 0 0, lv, ev, ks]] 1), Ow 8 ev (W.l.map fun c => evC ⟨A.rev + 1, c⟩), Ow 1 ks (W.l.map fun c => [.str c.key])]
theorem rwP {w x : Nat} {A : Sto} {W : Go.Hz.Wr} {h : Hp} {F : List Asr} : sat h (RwP w x A W :: F) ↔ ∃ lv ev ks, SlV lv (W.cur.map kvC) ∧ sat h (pto w (.row 4 [[.ptr x 5 0 0, lv, ev, ks]] 1) :: Ow 8 ev (W.l.map fun c => evC ⟨A.rev + 1, c⟩) :: Ow 1 ks (W.l.map fun c => [.str c.key]) :: F) := by
  unfold RwP
  rw [sat_ex]; refine exists_congr fun lv => ?_
  rw [sat_ex]; refine exists_congr fun ev => ?_
  rw [sat_ex]; refine exists_congr fun ks => ?_
  rw [sat_and]
  exact and_congr_right fun _ => sat_sl (l1 := [_, _, _]) (l := F)
section
variable {h : Hp} {F : List Asr} {x w : Nat} {A : Sto} {W : Go.Hz.Wr}
theorem rgIn {k lo hi : Key} (hs : sat h F) : Triple Tryz.prog 55 [.str k, .str lo, .str hi] h (fun r h => r = .bool (inK lo hi k) ∧ sat h F) := by
  have ek : inK lo hi k = if (hi == []) = true then k == lo else (!(Op.bytesLess k lo) && Op.bytesLess k hi) := by
    unfold inK inR
    by_cases hh : hi = []
    · subst hh; rfl
    · have : (hi == []) = false := by simpa using hh
      rw [if_neg hh, this]; rfl
  rw [ek]
  refine t55 (Nat.le_of_ble_eq_true rfl) ?_
  simp (disch := omega) only [F55, go_sem, simprocAttr]
  cases b0 : hi == []
  · cases b1 : Op.bytesLess k lo <;> cases b2 : Op.bytesLess k hi
    all_goals
      simp (disch := omega) only [go_sem, simprocAttr, b0, b1, b2]
      exact hs
  · simp (disch := omega) only [go_sem, simprocAttr, b0]
    exact hs
theorem rgPickO {l : List Kv} {lo hi : Key} {lim : Int} (hs : sat h F) (hl : l.length ≤ 1000000) : Triple Tryz.prog 34 [kvsV l, .str lo, .str hi, .int .i64 lim] h
    (fun r h => ∃ v, r = .tup [v, .int .i64 (rngL l lo hi lim).2] ∧ sat h (Ow 6 v ((rngL l lo hi lim).1.map kvC) :: F)) := by
  have lenL' : lenL (kvsV l) = some (.int .i64 l.length) := by simp [lenL]
  refine t34 (Nat.le_of_ble_eq_true rfl) ?_
  simp (disch := omega) only [F34, lenL', go_sem, simprocAttr]
  refine run_up (N := l.length) (fun i e h => ∃ v, sat h (Ow 6 v ((rngL (l.take i) lo hi lim).1.map kvC) :: F) ∧ (e 0 = kvsV l ∧ e 1 = .str lo ∧ e 2 = .str hi ∧ e 3 = .int .i64 lim ∧ e 10 = v ∧ e 11 = .int .i64 (rngL (l.take i) lo hi lim).2 ∧ e 12 = .int .i64 i)) ⟨.nils, hs.add (by unfold rngL cutL; simp; exact ow_nil), rfl, rfl, rfl, rfl, rfl, rfl, rfl⟩ ?_
  clear hs
  rintro i e h hi' ⟨v, hs, he⟩
  have m1 : (i : Int) + 1 = ((i + 1 : Nat) : Int) := by omega
  simp (disch := omega) only [go_sem, simprocAttr, he, lenL', m1]
  refine cnd_dec (fun g1 => ?_) (fun g1 => ?_)
  · have hil : i < l.length := by omega
    have hia := ia_lst (f := kvC) (l := l) (i := i) (s := 6) (k := .i64) hil (fun _ => rfl)
    have hst : rngL (l.take (i + 1)) lo hi lim = if inK lo hi l[i].key = true then ((if lim < 1 ∨ ((rngL (l.take i) lo hi lim).1.length : Int) < lim then (rngL (l.take i) lo hi lim).1 ++ [l[i]] else (rngL (l.take i) lo hi lim).1), (rngL (l.take i) lo hi lim).2 + 1) else rngL (l.take i) lo hi lim := by
      unfold rngL
      have ef : [l[i]].filter (fun x => inK lo hi x.key) = if inK lo hi l[i].key = true then [l[i]] else [] := by
        rw [List.filter_cons, List.filter_nil]
      rw [List.take_succ_eq_append_getElem hil, List.filter_append, ef]
      by_cases hx : inK lo hi l[i].key = true
      · rw [if_pos hx, if_pos hx, cutL_snoc]
        simp
      · rw [if_neg hx, if_neg hx]
        simp
    have hle : (rngL (l.take i) lo hi lim).2 ≤ i := Nat.le_trans (List.length_filter_le _ _) (by rw [List.length_take]; omega)
    have hle2 : (rngL (l.take i) lo hi lim).1.length ≤ i := Nat.le_trans (cutL_len (lim := lim)) hle
    have hcl : (rngL (l.take i) lo hi lim).1.length = if lim < 1 then (rngL (l.take i) lo hi lim).2 else min lim.toNat (rngL (l.take i) lo hi lim).2 := by
      unfold rngL cutL
      split
      · rfl
      · rw [List.length_take]
    rw [hst]
    generalize rngL (l.take i) lo hi lim = q at *
    generalize l[i] = y at hia hst ⊢
    simp only [kvC] at hia
    have m2 : (q.2 : Int) + 1 = ((q.2 + 1 : Nat) : Int) := by omega
    simp (disch := omega) only [go_sem, simprocAttr, he, hia]
    refine call_use (rgIn hs) ?_
    rintro r h ⟨hr, hs⟩
    subst hr
    simp (disch := omega) only [go_sem, simprocAttr, he]
    by_cases hx : inK lo hi y.key = true
    · by_cases l1 : lim < 1
      · rw [if_pos hx, if_pos (.inl l1)]
        simp (disch := omega) only [go_sem, simprocAttr, hx, he, m2, l1, hia]
        refine new_opq hs fun n h hs => ?_
        simp (disch := omega) only [go_sem, simprocAttr]
        refine app_sat hs.p1 (src_one hs.at) (atoms_one (by simp [AV.isAtom])) (by simp; omega) fun v' h hs ca aa => ?_
        simp (disch := omega) only [go_sem, simprocAttr, he, ca, aa, m1]
        have := hs.d1
        exact ⟨by omega, v', by simpa [kvC] using this, rfl⟩
      · rw [if_neg l1] at hcl
        by_cases l2 : (q.1.length : Int) < lim
        · have c2 : (((q.2 + 1 : Nat) : Int) ≤ lim) = True := by simp; omega
          rw [if_pos hx, if_pos (.inr l2)]
          simp (disch := omega) only [go_sem, simprocAttr, hx, he, m2, l1, c2, hia]
          refine new_opq hs fun n h hs => ?_
          simp (disch := omega) only [go_sem, simprocAttr]
          refine app_sat hs.p1 (src_one hs.at) (atoms_one (by simp [AV.isAtom])) (by simp; omega) fun v' h hs ca aa => ?_
          simp (disch := omega) only [go_sem, simprocAttr, he, ca, aa, m1]
          have := hs.d1
          exact ⟨by omega, v', by simpa [kvC] using this, rfl⟩
        · have c2 : (((q.2 + 1 : Nat) : Int) ≤ lim) = False := by simp; omega
          rw [if_pos hx, if_neg (by rintro (h | h) <;> omega)]
          simp (disch := omega) only [go_sem, simprocAttr, hx, he, m2, l1, c2, m1]
          exact ⟨by omega, v, hs, rfl⟩
    · rw [if_neg hx]
      have hx : inK lo hi y.key = false := by simpa using hx
      simp (disch := omega) only [go_sem, simprocAttr, hx, he, m1]
      exact ⟨by omega, v, hs, rfl⟩
  · simp (disch := omega) only [go_sem, simprocAttr, he]
    have hil : i = l.length := by omega
    subst hil
    rw [List.take_length] at hs ⊢
    exact ⟨v, rfl, hs⟩
theorem rgPick {lv : AV} {l : List Kv} {lo hi : Key} {lim : Int} (hv : SlV lv (l.map kvC)) (hs : sat h F) (hl : l.length ≤ 1000000) : Triple Tryz.prog 34 [lv, .str lo, .str hi, .int .i64 lim] h
    (fun r h => r = .tup [kvsV (rngL l lo hi lim).1, .int .i64 (rngL l lo hi lim).2] ∧ sat h F) :=
  Triple.vi (bs := [kvsV l, .str lo, .str hi, .int .i64 lim]) ⟨hv.vi, VI.refl _, VI.refl _, VI.refl _, trivial⟩ (Triple.lst1 6 ((rgPickO hs hl).mono fun r h ⟨v, hr, hs⟩ => ⟨v, _, _, _, hr, hs, fun h hs => ⟨rfl, hs⟩⟩))
theorem rgGetO {l : List Kv} {key : Key} (hs : sat h F) (hS : SrtK l) (hl : l.length ≤ 1000000) : Triple Tryz.prog 37 [kvsV l, .str key] h (fun r h => r = .tup [.agg (kvC ((kvget l key).getD ⟨key, [], 0, 0, 0, 0⟩)), .bool (kvget l key).isSome] ∧ sat h F) := by
  obtain ⟨k, there, hk, h1, h2, h3, h4, _⟩ := done_cut hS (.del key)
  have h4 : kvget l key = if there = true then l[k]? else none := h4
  have lenL' : lenL (kvsV l) = some (.int .i64 l.length) := by simp [lenL]
  refine t37 (Nat.le_of_ble_eq_true rfl) ?_
  simp (disch := omega) only [F37, go_sem, simprocAttr]
  refine new_opq hs fun a h hs => ?_
  have ha := hs.at
  simp (disch := omega) only [go_sem, simprocAttr, ha]
  refine call_use (rgFind (key := key) hs (by omega) hk h1 h2) ?_
  rintro r h ⟨hr, hs⟩
  subst hr
  have ha := hs.at
  by_cases hlt : k < l.length
  · have c1 : ((k : Int) < l.length) = True := by simp; omega
    have hia : iaA 6 (kvsV l) (.int .i64 (k : Int)) = some (.ro (kvC l[k])) := ia_lst (f := kvC) hlt fun _ => rfl
    cases there with
    | true =>
      obtain ⟨_, h6⟩ := h3.1 rfl
      have h6 : l[k].key = key := h6
      have hg : kvget l key = some l[k] := by rw [h4, if_pos rfl, List.getElem?_eq_getElem hlt]
      rw [hg]
      generalize l[k] = y at hia h6
      simp only [kvC] at hia
      have e1 : (y.key == key) = true := by simpa using h6
      have hs2 := hs.set (o' := .row 6 [kvC y] 1)
      have ha2 := hs2.at
      simp only [kvC] at hs2 ha2
      simp (disch := omega) only [go_sem, simprocAttr, lenL', c1, hia, e1, ha, ha2, Option.getD_some, Option.isSome_some, kvC]
      exact hs2.drop
    | false =>
      have hg : kvget l key = none := by rw [h4, if_neg (by simp)]
      have e1 : (l[k].key == key) = false := by
        rw [beq_eq_false_iff_ne]
        exact fun e => by have := h3.2 ⟨hlt, e⟩; cases this
      rw [hg]
      generalize l[k] = y at hia e1
      simp only [kvC] at hia
      have hs2 := hs.set (o' := .row 6 [[.str key, .str [], .int .i64 0, .int .i64 0, .int .i64 0, .int .i64 0]] 1)
      have ha2 := hs2.at
      simp (disch := omega) only [go_sem, simprocAttr, lenL', c1, hia, e1, ha, ha2, Option.getD_none, Option.isSome_none, kvC]
      exact hs2.drop
  · have c1 : ((k : Int) < l.length) = False := by simp; omega
    have hg : kvget l key = none := by
      rw [h4]
      cases there with
      | true => obtain ⟨h5, _⟩ := h3.1 rfl; exact absurd h5 hlt
      | false => rfl
    rw [hg]
    have hs2 := hs.set (o' := .row 6 [[.str key, .str [], .int .i64 0, .int .i64 0, .int .i64 0, .int .i64 0]] 1)
    have ha2 := hs2.at
    simp (disch := omega) only [go_sem, simprocAttr, lenL', c1, ha, ha2, Option.getD_none, Option.isSome_none, kvC]
    exact hs2.drop
theorem rgGet {lv : AV} {l : List Kv} {key : Key} (hv : SlV lv (l.map kvC)) (hs : sat h F) (hS : SrtK l) (hl : l.length ≤ 1000000) : Triple Tryz.prog 37 [lv, .str key] h (fun r h => r = .tup [.agg (kvC ((kvget l key).getD ⟨key, [], 0, 0, 0, 0⟩)), .bool (kvget l key).isSome] ∧ sat h F) :=
  Triple.vi (bs := [kvsV l, .str key]) ⟨hv.vi, VI.refl _, trivial⟩ (rgGetO hs hS hl)
theorem rgChanged {key : Key} (hs : sat h (RwP w x A W :: F)) (hz : W.l.length ≤ 1000000) : Triple Tryz.prog 35 [.ptr w 4 0 0, .str key] h (fun r h => r = .bool (wChg W key) ∧ sat h (RwP w x A W :: F)) := by
  refine t35 (Nat.le_of_ble_eq_true rfl) ?_
  simp (disch := omega) only [F35, go_sem, simprocAttr]
  refine run_up (N := W.l.length) (fun i e h => wChg ⟨[], W.l.take i⟩ key = false ∧ sat h (RwP w x A W :: F) ∧ (e 0 = .ptr w 4 0 0 ∧ e 1 = .str key ∧ e 5 = .int .i64 i)) ⟨rfl, hs, rfl, rfl, rfl⟩ ?_
  clear hs
  rintro i e h hi' ⟨hno, hs0, he⟩
  obtain ⟨lv, ev, ks, hlv, hs⟩ := rwP.1 hs0
  have m1 : (i : Int) + 1 = ((i + 1 : Nat) : Int) := by omega
  have hw := hs.at
  have hkl := hs.p2.els.len
  rw [List.length_map] at hkl
  simp (disch := omega) only [go_sem, simprocAttr, he, hw, hkl, m1]
  refine cnd_dec (fun g1 => ?_) (fun g1 => ?_)
  · have hi : i < W.l.length := by omega
    obtain ⟨b, cap, hv, hb, _⟩ := hs.p2.owr.row (i := i) (x := [.str W.l[i].key]) (by simp [hi])
    subst hv
    have hrow : (W.l.map fun c => [AV.str c.key])[i]? = some [.str W.l[i].key] := by simp [hi]
    have hll : (W.l.map fun c => [AV.str c.key]).length = W.l.length := by simp
    have hst : wChg ⟨[], W.l.take (i + 1)⟩ key = (W.l[i].key == key) := by
      unfold wChg at hno ⊢
      rw [List.take_succ_eq_append_getElem hi, List.any_append, hno]
      simp
    cases hq : W.l[i].key == key with
    | true =>
      have hw2 : wChg W key = true := by
        unfold wChg
        exact List.any_eq_true.2 ⟨_, List.getElem_mem hi, hq⟩
      simp (disch := omega) only [go_sem, simprocAttr, he, hw, hb, hrow, hll, hq, hw2, Int.toNat_natCast]
      exact hs0
    | false =>
      rw [hst]
      simp (disch := omega) only [go_sem, simprocAttr, he, hw, hb, hrow, hll, hq, m1, Int.toNat_natCast]
      exact ⟨hi, hs0⟩
  · have hi : i = W.l.length := by omega
    subst hi
    rw [List.take_length] at hno
    have hw2 : wChg W key = false := hno
    simp (disch := omega) only [go_sem, simprocAttr, he, hw2]
    exact hs0
/-- A change more. -/
theorem rgNote {c : Ch} {cr : Int} {y : Kv} (hs : sat h (RwP w x A W :: RxP x A :: F)) (hS : SrtK W.cur) (hz : W.cur.length + W.l.length ≤ 900000) (hr : A.rev ≤ 1000000000000000) (hr0 : 0 ≤ A.rev)
    (hy : y = c.kv.getD ⟨c.key, [], 0, A.rev + 1, 0, 0⟩) (hcr : y.create = if c.kv.isNone = false ∧ cr = 0 then A.rev + 1 else cr) (hm : y.mod = A.rev + 1) :
    Triple Tryz.prog 36 [.ptr w 4 0 0, .agg [.int .i64 0, .bool c.kv.isNone, .str y.key, .str y.val, .int .i64 cr, .int .i64 0, .int .i64 y.ver, .int .i64 y.lease]] h (fun r h => sat h (RwP w x A ⟨done W.cur c, W.l ++ [c]⟩ :: RxP x A :: F)) := by
  obtain ⟨lv, ev, ks, hlv, hs1⟩ := rwP.1 hs
  obtain ⟨o, xv, nw, ho, hs2⟩ := rxP.1 hs1.p3
  have hevc : evC ⟨A.rev + 1, c⟩ = [.int .i64 (A.rev + 1), .bool c.kv.isNone, .str y.key, .str y.val, .int .i64 y.create, .int .i64 y.mod, .int .i64 y.ver, .int .i64 y.lease] := by
    unfold evC; rw [hy]; rfl
  have hk : y.key = c.key := by rw [hy]; cases c <;> rfl
  have hdone := fun {h : Hp} {G : List Asr} (hs : sat h G) => rgDone (v := ⟨A.rev + 1, c⟩) hlv hs hS (by omega)
  rw [hevc] at hdone
  rw [hm] at hevc hdone
  refine t36 (Nat.le_of_ble_eq_true rfl) ?_
  simp (disch := omega) only [F36, go_sem, simprocAttr]
  refine new_opq hs2 fun a h hs => ?_
  have ha := hs.at
  have hx := hs.p1.at
  have hw := hs.p3.at
  cases hn : c.kv.isNone
  case' true =>
    rw [hn, if_neg (by simp)] at hcr
    rw [hn, hcr] at hevc hdone
    rw [hn] at hs ha
    have hs3 := hs.set (o' := .row 8 [[.int .i64 (A.rev + 1), .bool true, .str y.key, .str y.val, .int .i64 cr, .int .i64 (A.rev + 1), .int .i64 y.ver, .int .i64 y.lease]] 1)
    have ha3 := hs3.at
    have hw3 := hs3.p3.at
    simp (disch := omega) only [go_sem, simprocAttr, ha, hx, hw, ha3, hw3]
  case' false =>
    rw [hn] at hs ha
    by_cases c0 : cr = 0
    case' pos =>
      rw [hn, if_pos ⟨rfl, c0⟩] at hcr
      rw [hn, hcr] at hevc hdone
      have hs3 := hs.set (o' := .row 8 [[.int .i64 (A.rev + 1), .bool false, .str y.key, .str y.val, .int .i64 (A.rev + 1), .int .i64 (A.rev + 1), .int .i64 y.ver, .int .i64 y.lease]] 1)
      have ha3 := hs3.at
      have hw3 := hs3.p3.at
      have c1 : (cr == 0) = true := by simpa using c0
      simp (disch := omega) only [go_sem, simprocAttr, ha, hx, hw, ha3, hw3, c1]
    case' neg =>
      rw [hn, if_neg (by rintro ⟨_, h⟩; exact c0 h)] at hcr
      rw [hn, hcr] at hevc hdone
      have hs3 := hs.set (o' := .row 8 [[.int .i64 (A.rev + 1), .bool false, .str y.key, .str y.val, .int .i64 cr, .int .i64 (A.rev + 1), .int .i64 y.ver, .int .i64 y.lease]] 1)
      have ha3 := hs3.at
      have hw3 := hs3.p3.at
      have c1 : (cr == 0) = false := by simpa using c0
      simp (disch := omega) only [go_sem, simprocAttr, ha, hx, hw, ha3, hw3, c1]
  all_goals
    generalize Hp.set h a _ = h3 at hs3 ⊢
    clear ha hx hw ha3 hw3
    refine new_opq hs3 fun n h hs => ?_
    simp (disch := omega) only [go_sem, simprocAttr]
    refine app_sat hs.p5 (src_one hs.at) (atoms_one (by simp [AV.isAtom])) (by simp; omega) fun v1 h hs c1 a1 => ?_
    have hw := hs.p5.at
    have hs4 := hs.p5.set (o' := .row 4 [[.ptr x 5 0 0, lv, v1, ks]] 1)
    have hw4 := hs4.at
    have ha4 := hs4.p3.at
    simp (disch := omega) only [go_sem, simprocAttr, c1, a1, hw, hw4, ha4]
    generalize Hp.set h w _ = h4 at hs4 ⊢
    refine new_opq hs4 fun n2 h hs => ?_
    simp (disch := omega) only [go_sem, simprocAttr]
    refine app_sat hs.p7 (src_one hs.at) (atoms_one (by simp [AV.isAtom])) (by simp; omega) fun v2 h hs c2 a2 => ?_
    have hw := hs.p2.at
    have hs5 := hs.p2.set (o' := .row 4 [[.ptr x 5 0 0, lv, v1, v2]] 1)
    have hw5 := hs5.at
    have ha5 := hs5.p5.at
    simp (disch := omega) only [go_sem, simprocAttr, c2, a2, hw, hw5, ha5]
    generalize Hp.set h w _ = h5 at hs5 ⊢
    refine call_use (hdone hs5) ?_
    rintro r h ⟨hr, hs⟩
    subst hr
    have hw := hs.at
    simp (disch := omega) only [go_sem, simprocAttr, hw]
    have hs6 := hs.set (o' := .row 4 [[.ptr x 5 0 0, kvsV (done W.cur c), v1, v2]] 1)
    have hs8 := rxP.2 ⟨o, xv, nw, ho, hs6.p2.drop.p3.drop.p3.drop.p1.p2.p2.p4.p4⟩
    have hs9 := hs8.p3.p3.p3
    rw [← hevc, hk] at hs9
    refine rwP.2 ⟨kvsV (done W.cur c), v1, v2, slV_lst, ?_⟩
    simpa [List.map_append] using hs9
theorem rgWr (hs : sat h (RxP x A :: F)) : Triple Tryz.prog 10 [.ptr x 5 0 0] h (fun r h => ∃ w, r = .ptr w 4 0 0 ∧ sat h (RwP w x A ⟨A.now, []⟩ :: RxP x A :: F)) := by
  obtain ⟨o, xv, nw, ho, hs2⟩ := rxP.1 hs
  have hx := hs2.at
  have nc := ho.2.cells
  have na := ho.2.atom
  refine t10 (Nat.le_of_ble_eq_true rfl) ?_
  simp (disch := omega) only [F10, hx, nc, na, go_sem, simprocAttr]
  refine new_opq hs2 fun w h hs => ?_
  have hs3 := rxP.2 ⟨o, xv, nw, ho, hs.p2.p2⟩
  have hs4 : sat h (pto w (.row 4 [[.ptr x 5 0 0, nw, .nils, .nils]] 1) :: RxP x A :: F) := hs3.p1
  simp (disch := omega) only [go_sem, simprocAttr]
  refine ⟨w, rfl, (rwP (W := ⟨A.now, []⟩)).2 ⟨nw, .nils, .nils, ho.2, ?_⟩⟩
  exact ((hs4.add (ow_nil (s := 1))).add (ow_nil (s := 8))).p3.p2.p2.p3
theorem rgPut {key val : Key} {lease : Int} (hs : sat h (RwP w x A W :: RxP x A :: F)) (ok : StoOK A) (hw : WrOK A W) (hz : W.cur.length + W.l.length ≤ 900000) (hr : A.rev ≤ 1000000000000000) :
    Triple Tryz.prog 14 [.ptr w 4 0 0, .str key, .str val, .int .i64 lease] h (fun r h => r = .int .i64 (wPut (A.rev + 1) W key val lease).1 ∧ sat h (RwP w x A (wPut (A.rev + 1) W key val lease).2 :: RxP x A :: F)) := by
  have hS := hw.srt ok
  refine t14 (Nat.le_of_ble_eq_true rfl) ?_
  simp (disch := omega) only [F14, go_sem, simprocAttr]
  by_cases k0 : key = []
  · have ef : wPut (A.rev + 1) W key val lease = (1, W) := by rw [wPut, if_pos (.inl k0)]
    have b0 : (key == []) = true := by simpa using k0
    rw [ef]
    simp (disch := omega) only [go_sem, simprocAttr, b0]
    exact hs
  have b0 : (key == []) = false := by simpa using k0
  by_cases k1 : 100 < key.length
  · have ef : wPut (A.rev + 1) W key val lease = (1, W) := by rw [wPut, if_pos (.inr (.inl k1))]
    have b1 : ((key.length : Int) > 100) = True := by simp; omega
    rw [ef]
    simp (disch := omega) only [go_sem, simprocAttr, b0, b1]
    exact hs
  have b1 : ((key.length : Int) > 100) = False := by simp; omega
  by_cases k2 : lease < 0
  · have ef : wPut (A.rev + 1) W key val lease = (1, W) := by rw [wPut, if_pos (.inr (.inr k2))]
    rw [ef]
    simp (disch := omega) only [go_sem, simprocAttr, b0, b1, k2]
    exact hs
  have g1 : ¬ (key = [] ∨ 100 < key.length ∨ lease < 0) := by rintro (h | h | h) <;> contradiction
  by_cases k3 : 4096 < val.length
  · have ef : wPut (A.rev + 1) W key val lease = (5, W) := by rw [wPut, if_neg g1, if_pos k3]
    have b3 : ((val.length : Int) > 4096) = True := by simp; omega
    rw [ef]
    simp (disch := omega) only [go_sem, simprocAttr, b0, b1, k2, b3]
    exact hs
  have b3 : ((val.length : Int) > 4096) = False := by simp; omega
  simp (disch := omega) only [go_sem, simprocAttr, b0, b1, k2, b3]
  refine call_use (rgChanged (key := key) hs (by omega)) ?_
  rintro r h ⟨hr', hs⟩
  subst hr'
  cases k4 : wChg W key with
  | true =>
    have ef : wPut (A.rev + 1) W key val lease = (18, W) := by rw [wPut, if_neg g1, if_neg k3, if_pos k4]
    rw [ef]
    simp (disch := omega) only [go_sem, simprocAttr, k4]
    exact hs
  | false =>
    obtain ⟨lv, ev, ks, hlv, hs1⟩ := rwP.1 hs
    have hwp := hs1.at
    simp (disch := omega) only [go_sem, simprocAttr, k4, hwp]
    refine call_use (rgGet (key := key) hlv hs1 hS (by omega)) ?_
    rintro r h ⟨hr', hs⟩
    subst hr'
    simp (disch := omega) only [go_sem, simprocAttr]
    refine new_opq hs fun a h hs => ?_
    have ha := hs.at
    have lenlv := hlv.lenM
    have hr0 := ok.rev
    have hp0 := ok.past
    cases hg : kvget W.cur key with
    | none =>
      have hs3 := hs.set (o' := .row 6 [[.str key, .str [], .int .i64 0, .int .i64 0, .int .i64 0, .int .i64 0]] 1)
      have ha3 := hs3.at
      have hw3 := hs3.p1.at
      have hs4 : sat _ (RwP w x A W :: RxP x A :: F) := rwP.2 ⟨lv, ev, ks, hlv, hs3.drop⟩
      by_cases k5 : 4096 ≤ W.cur.length
      · have ef : wPut (A.rev + 1) W key val lease = (14, W) := by rw [wPut, if_neg g1, if_neg k3, if_neg (by simp [k4]), if_pos ⟨hg, k5⟩]
        have b5 : ((W.cur.length : Int) ≥ 4096) = True := by simp; omega
        rw [ef]
        simp (disch := omega) only [go_sem, simprocAttr, Option.getD_none, Option.isSome_none, kvC, ha, ha3, hw3, lenlv, b5]
        exact hs4
      · have en : wNew (A.rev + 1) W key val lease = ⟨key, val, A.rev + 1, A.rev + 1, 1, lease⟩ := by unfold wNew; rw [hg]
        have ef : wPut (A.rev + 1) W key val lease = (0, ⟨done W.cur (.put ⟨key, val, A.rev + 1, A.rev + 1, 1, lease⟩), W.l ++ [.put ⟨key, val, A.rev + 1, A.rev + 1, 1, lease⟩]⟩) := by
          rw [wPut, if_neg g1, if_neg k3, if_neg (by simp [k4]), if_neg (by rintro ⟨_, h⟩; exact k5 h), en]
        have b5 : ((W.cur.length : Int) ≥ 4096) = False := by simp; omega
        rw [ef]
        simp (disch := omega) only [go_sem, simprocAttr, Option.getD_none, Option.isSome_none, kvC, ha, ha3, hw3, lenlv, b5]
        refine call_use (rgNote (c := .put ⟨key, val, A.rev + 1, A.rev + 1, 1, lease⟩) (cr := 0) (y := ⟨key, val, A.rev + 1, A.rev + 1, 1, lease⟩) hs4 hS hz hr (by omega) rfl (by simp [Ch.kv]) rfl) ?_
        intro r h hs
        simp (disch := omega) only [go_sem, simprocAttr]
        exact hs
    | some z =>
      obtain ⟨n1, n2, n3, n4, n5, n6, n7⟩ := cur_num ok hw z (kvget_some hg).1
      have hzk := (kvget_some hg).2
      have hs3 := hs.set (o' := .row 6 [[.str z.key, .str z.val, .int .i64 z.create, .int .i64 z.mod, .int .i64 z.ver, .int .i64 z.lease]] 1)
      have ha3 := hs3.at
      have hw3 := hs3.p1.at
      have hs4 : sat _ (RwP w x A W :: RxP x A :: F) := rwP.2 ⟨lv, ev, ks, hlv, hs3.drop⟩
      have en : wNew (A.rev + 1) W key val lease = ⟨key, val, z.create, A.rev + 1, z.ver + 1, lease⟩ := by unfold wNew; rw [hg]
      have ef : wPut (A.rev + 1) W key val lease = (0, ⟨done W.cur (.put ⟨key, val, z.create, A.rev + 1, z.ver + 1, lease⟩), W.l ++ [.put ⟨key, val, z.create, A.rev + 1, z.ver + 1, lease⟩]⟩) := by
        rw [wPut, if_neg g1, if_neg k3, if_neg (by simp [k4]), if_neg (by rintro ⟨h, _⟩; rw [hg] at h; cases h), en]
      rw [ef]
      simp (disch := omega) only [go_sem, simprocAttr, Option.getD_some, Option.isSome_some, kvC, ha, ha3, hw3, lenlv]
      refine call_use (rgNote (c := .put ⟨key, val, z.create, A.rev + 1, z.ver + 1, lease⟩) (cr := z.create) (y := ⟨key, val, z.create, A.rev + 1, z.ver + 1, lease⟩) hs4 hS hz hr (by omega) rfl (by rw [if_neg]; rintro ⟨_, h⟩; omega) rfl) ?_
      intro r h hs
      simp (disch := omega) only [go_sem, simprocAttr]
      exact hs
theorem wDels_app : ∀ {ks : List Key} {W : Go.Hz.Wr}, ∃ t, (wDels W ks).2.l = W.l ++ t
  | [], W => ⟨[], by simp [wDels]⟩
  | k :: ks, W => by
    obtain ⟨t, ht⟩ := wDels_app (ks := ks) (W := (wDel1 W k).2)
    have h1 : ∃ u, (wDel1 W k).2.l = W.l ++ u := by
      unfold wDel1
      split
      · exact ⟨[], by simp⟩
      · exact ⟨[.del k], rfl⟩
    obtain ⟨u, hu⟩ := h1
    exact ⟨u ++ t, by show (wDels (wDel1 W k).2 ks).2.l = _; rw [ht, hu, List.append_assoc]⟩
theorem rgDel {lo hi : Key} (hs : sat h (RwP w x A W :: RxP x A :: F)) (ok : StoOK A) (hw : WrOK A W) (hz : A.old.length + A.chs.length + W.l.length ≤ 200000) (hr : A.rev ≤ 1000000000000000) :
    Triple Tryz.prog 12 [.ptr w 4 0 0, .str lo, .str hi] h (fun r h => r = .int .i64 (wDels W ((W.cur.filter fun y => inK lo hi y.key).map Kv.key)).1 ∧ sat h (RwP w x A (wDels W ((W.cur.filter fun y => inK lo hi y.key).map Kv.key)).2 :: RxP x A :: F)) := by
  obtain ⟨lv, ev, ks, hlv, hs1⟩ := rwP.1 hs
  have hwp := hs1.at
  have hcl := cur_le hw
  have hr0 := ok.rev
  have hp0 := ok.past
  refine t12 (Nat.le_of_ble_eq_true rfl) ?_
  simp (disch := omega) only [F12, hwp, go_sem, simprocAttr]
  refine call_use (rgPick (lo := lo) (hi := hi) (lim := 0) hlv hs (by omega)) ?_
  rintro r h ⟨hr', hs⟩
  subst hr'
  have e1 : rngL W.cur lo hi 0 = (W.cur.filter fun y => inK lo hi y.key, (W.cur.filter fun y => inK lo hi y.key).length) := rfl
  rw [e1]
  have hin : ∀ y ∈ (W.cur.filter fun y => inK lo hi y.key), kvget W.cur y.key ≠ none := by
    intro y hy e
    exact kvget_none.1 e y (List.mem_filter.1 hy).1 rfl
  have hll : (W.cur.filter fun y => inK lo hi y.key).length ≤ W.cur.length := List.length_filter_le _ _
  generalize (W.cur.filter fun y => inK lo hi y.key) = l at hin hll ⊢
  have lenl : lenL (kvsV l) = some (.int .i64 l.length) := by simp [lenL]
  simp (disch := omega) only [go_sem, simprocAttr]
  refine run_up (N := l.length) (fun i e h => sat h (RwP w x A (wDels W ((l.take i).map Kv.key)).2 :: RxP x A :: F) ∧ (e 0 = .ptr w 4 0 0 ∧ e 7 = kvsV l ∧ e 9 = .int .i64 (wDels W ((l.take i).map Kv.key)).1 ∧ e 10 = .int .i64 i)) ⟨hs, by simp [Env.upd_apply, initE, wDels]⟩ ?_
  clear hs hs1 hwp
  rintro i e h hi' ⟨hs, he⟩
  have m1 : (i : Int) + 1 = ((i + 1 : Nat) : Int) := by omega
  simp (disch := omega) only [go_sem, simprocAttr, he, lenl, m1]
  refine cnd_dec (fun g1 => ?_) (fun g1 => ?_)
  · have hil : i < l.length := by omega
    have hia := ia_lst (f := kvC) (l := l) (i := i) (s := 6) (k := .i64) hil (fun _ => rfl)
    have hkn := hin _ (List.getElem_mem hil)
    have hst : wDels W ((l.take (i + 1)).map Kv.key) = ((wDels W ((l.take i).map Kv.key)).1 + (wDel1 (wDels W ((l.take i).map Kv.key)).2 l[i].key).1, (wDel1 (wDels W ((l.take i).map Kv.key)).2 l[i].key).2) := by
      rw [List.take_succ_eq_append_getElem hil, List.map_append, List.map_cons, List.map_nil, wDels_snoc]
    have hwd := wDels_ok ok (now_keys ok) (ks := (l.take i).map Kv.key) hw
    obtain ⟨h1, h2⟩ := wDels_len (ks := (l.take i).map Kv.key) (W := W)
    obtain ⟨t, ht⟩ := wDels_app (ks := (l.take i).map Kv.key) (W := W)
    rw [List.length_map, List.length_take] at h1 h2
    have hcl2 := cur_le hwd
    rw [hst]
    generalize l[i] = y at hia hkn ⊢
    simp only [kvC] at hia
    generalize wDels W ((l.take i).map Kv.key) = V at *
    simp (disch := omega) only [go_sem, simprocAttr, he, hia]
    refine call_use (rgChanged (key := y.key) hs (by omega)) ?_
    rintro r h ⟨hr', hs⟩
    subst hr'
    cases hc : wChg V.2 y.key with
    | true =>
      have ed : wDel1 V.2 y.key = (0, V.2) := by rw [wDel1, if_pos (.inl hc)]
      rw [ed]
      simp (disch := omega) only [go_sem, simprocAttr, he, hc, m1]
      exact ⟨hil, hs⟩
    | false =>
      have hkn2 : kvget V.2.cur y.key ≠ none := by
        have hc0 : wChg W y.key = false := by
          unfold wChg at hc ⊢
          rw [ht, List.any_append] at hc
          simp only [Bool.or_eq_false_iff] at hc
          exact hc.1
        rw [now_same ok hwd hc, ← now_same ok hw hc0]
        exact hkn
      have ed : wDel1 V.2 y.key = (1, ⟨done V.2.cur (.del y.key), V.2.l ++ [.del y.key]⟩) := by rw [wDel1, if_neg (by rintro (h | h); rw [hc] at h; cases h; exact hkn2 h)]
      rw [ed]
      have m2 : (V.1 : Int) + 1 = ((V.1 + 1 : Nat) : Int) := by omega
      simp (disch := omega) only [go_sem, simprocAttr, he, hc, hia]
      refine call_use (rgNote (c := .del y.key) (cr := 0) (y := ⟨y.key, [], 0, A.rev + 1, 0, 0⟩) hs (hwd.srt ok) (by omega) hr (by omega) rfl (by simp [Ch.kv]) rfl) ?_
      intro r h hs
      simp (disch := omega) only [go_sem, simprocAttr, he, m1, m2]
      exact ⟨hil, hs⟩
  · simp (disch := omega) only [go_sem, simprocAttr, he]
    have hil : i = l.length := by omega
    subst hil
    rw [List.take_length] at hs ⊢
    exact ⟨rfl, hs⟩
theorem atoms_ev (l : List Ver) : AtomsL (l.map evC) := by
  intro e he v hv
  obtain ⟨k, _, rfl⟩ := List.mem_map.1 he
  simp only [evC, kvC, List.mem_cons, List.not_mem_nil, or_false] at hv
  rcases hv with rfl | rfl | rfl | rfl | rfl | rfl | rfl | rfl <;> rfl
theorem rgDn (hs : sat h (RwP w x A W :: RxP x A :: F)) (hw : WrOK A W) (hz : A.chs.length + W.l.length ≤ 1000000) (hr : A.rev ≤ 1000000000000000) (hr0 : 0 ≤ A.rev) :
    Triple Tryz.prog 16 [.ptr w 4 0 0] h (fun r h => r = .int .i64 (stDone A W).rev ∧ sat h (RxP x (stDone A W) :: F)) := by
  obtain ⟨lv, ev, ks, hlv, hs1⟩ := rwP.1 hs
  obtain ⟨o, xv, nw, ho, hs2⟩ := rxP.1 hs1.p3
  have hx := hs2.at
  have hwp := hs2.p2.at
  have hel := hs2.p3.els.len
  rw [List.length_map] at hel
  have nc := hlv.cells
  have na := hlv.atom
  refine t16 (Nat.le_of_ble_eq_true rfl) ?_
  simp (disch := omega) only [F16, hx, hwp, hel, go_sem, simprocAttr]
  by_cases w0 : W.l = []
  · have ed : stDone A W = A := by rw [stDone, if_pos w0]
    have c1 : ((W.l.length : Int) > 0) = False := by simp [w0]
    rw [ed]
    simp (disch := omega) only [go_sem, simprocAttr, c1, hx]
    exact rxP.2 ⟨o, xv, nw, ho, hs2.p2.drop.p2.drop.p2.drop.p1.p1⟩
  · have hlen : W.l.length ≠ 0 := fun h => w0 (List.length_eq_zero_iff.1 h)
    have c1 : ((W.l.length : Int) > 0) = True := by simp; omega
    have hnow := stDone_now hw
    have ed : stDone A W = ⟨A.rev + 1, A.past, A.old, A.chs ++ W.l.map fun c => ⟨A.rev + 1, c⟩⟩ := by rw [stDone, if_neg w0]
    have hs3 := hs2.set (o' := .row 5 [[.int .i64 (A.rev + 1), .int .i64 A.past, o, xv, lv]] 1)
    have hx3 := hs3.at
    have hw3 := hs3.p2.at
    simp (disch := omega) only [go_sem, simprocAttr, c1, hx, hx3, hw3, hwp, nc, na, hs2.set.p2.at, hs2.set.at]
    generalize Hp.set h x _ = h3 at hs3 hx3 hw3 ⊢
    refine new_opq hs3 fun n h hs => ?_
    have hwp := hs.p3.at
    simp (disch := omega) only [go_sem, simprocAttr, hwp]
    refine app_satO (hs.ow (Nat.zero_le _)) (hs.p2.els.1) (atoms_ev _) (by simp; omega) fun v1 h hs c1 a1 => ?_
    have hwp := hs.p3.at
    simp (disch := omega) only [go_sem, simprocAttr, c1, a1, hwp]
    have hat2 : AtomsL (W.l.map fun c => evC ⟨A.rev + 1, c⟩) := by
      have := atoms_ev (W.l.map fun c => (⟨A.rev + 1, c⟩ : Ver))
      rwa [List.map_map] at this
    refine app_sat hs (hs.p4.els.1) hat2 (by simp; omega) fun v2 h hs c2 a2 => ?_
    have hx := hs.p1.at
    have hs4 := hs.p1.set (o' := .row 5 [[.int .i64 (A.rev + 1), .int .i64 A.past, o, v2, lv]] 1)
    have hx4 := hs4.at
    simp (disch := omega) only [go_sem, simprocAttr, c2, a2, hx, hx4]
    have e1 : (stDone A W).rev = A.rev + 1 := by rw [ed]
    have e2 : (stDone A W).past = A.past := by rw [ed]
    have e3 : (stDone A W).old = A.old := by rw [ed]
    have e4 : (stDone A W).chs = A.chs ++ W.l.map fun c => ⟨A.rev + 1, c⟩ := by rw [ed]
    refine ⟨by rw [e1], rxP.2 ⟨o, v2, lv, ⟨by rw [e3]; exact ho.1, by rw [hnow]; exact hlv⟩, ?_⟩⟩
    rw [e1, e2, e4, List.map_append, List.map_map]
    exact hs4.p2.drop.p2.drop.p2.drop.p2.drop.p1.p1
end
end Go.Proofs.YtaioncbpfckhaaaGreat
/- The document's store: what is asked of it. -/
set_option linter.unusedSimpArgs false
set_option linter.unusedVariables false
set_option maxRecDepth 10000
namespace Go.Proofs.YtaioncbpfckhaaaGreat
open Go.Hz

section
variable {h : Hp} {F : List Asr} {x : Nat} {A : Sto} {W : Go.Hz.Wr}
/-- A change, out of a slice of one's own. -/
theorem ev_row {v : AV} {l : List Ver} (hs : sat h (Ow 8 v (l.map evC) :: F)) {i : Nat} (hi : i < l.length) : ∃ b cap, v = .arr b 8 0 l.length cap ∧ h b = some (.row 8 (l.map evC) cap) ∧ (l.map evC)[i]? = some [.int .i64 l[i].rev, .bool l[i].c.kv.isNone, .str (evKv l[i]).key, .str (evKv l[i]).val, .int .i64 (evKv l[i]).create, .int .i64 (evKv l[i]).mod, .int .i64 (evKv l[i]).ver, .int .i64 (evKv l[i]).lease] := by
  obtain ⟨b, cap, hv, hb, _⟩ := hs.owr.row (i := i) (x := evC l[i]) (by simp [hi])
  rw [List.length_map] at hv
  exact ⟨b, cap, hv, hb, by simp [hi]; rfl⟩
theorem rgAtO {r : Int} (hs : sat h (RxP x A :: F)) (hS : SrtK A.old) (hl : A.old.length + A.chs.length ≤ 1000000) :
    Triple Tryz.prog 50 [.ptr x 5 0 0, .int .i64 r] h (fun v h => SlV v ((if r = A.rev then A.now else A.at r).map kvC) ∧ sat h (RxP x A :: F)) := by
  obtain ⟨o, ev, nw, ho, hs⟩ := rxP.1 hs
  have hp := hs.at
  by_cases h0 : r = A.rev
  · have e0 : (r == A.rev) = true := by simpa using h0
    rw [if_pos h0]
    refine t50 (Nat.le_of_ble_eq_true rfl) ?_
    simp (disch := omega) only [F50, hp, e0, go_sem, simprocAttr]
    exact ⟨ho.2, rxP.2 ⟨o, ev, nw, ho, hs⟩⟩
  have e0 : (r == A.rev) = false := by simpa using h0
  rw [if_neg h0]
  have lenE := hs.p1.els.len
  rw [List.length_map] at lenE
  have hT : ∀ i (hi : i < A.chs.length), i < (A.chs.takeWhile fun v => decide (v.rev ≤ r)).length → A.chs[i].rev ≤ r := by
    intro i hi hit
    have h1 := List.all_eq_true.1 (List.all_takeWhile (p := fun v : Ver => decide (v.rev ≤ r)) (l := A.chs)) _ (List.getElem_mem hit)
    have h2 : (A.chs.takeWhile fun v => decide (v.rev ≤ r))[i] = A.chs[i] := (List.takeWhile_prefix (l := A.chs) fun v => decide (v.rev ≤ r)).getElem hit
    rw [h2] at h1
    simpa using h1
  have hN : ∀ (hi : (A.chs.takeWhile fun v => decide (v.rev ≤ r)).length < A.chs.length), ¬ A.chs[(A.chs.takeWhile fun v => decide (v.rev ≤ r)).length].rev ≤ r := by
    intro hi
    have h1 := List.takeWhile_append_dropWhile (p := fun v : Ver => decide (v.rev ≤ r)) (l := A.chs)
    have h2 := List.head?_dropWhile_not (fun v : Ver => decide (v.rev ≤ r)) A.chs
    cases hd : A.chs.dropWhile (fun v => decide (v.rev ≤ r)) with
    | nil =>
      rw [hd, List.append_nil] at h1
      have := congrArg List.length h1
      omega
    | cons y D =>
      rw [hd] at h1 h2
      have h3 : A.chs[(A.chs.takeWhile fun v => decide (v.rev ≤ r)).length]? = some y := by
        have h5 : (A.chs.takeWhile (fun v => decide (v.rev ≤ r)) ++ y :: D)[(A.chs.takeWhile fun v => decide (v.rev ≤ r)).length]? = some y := by
          rw [List.getElem?_append_right (Nat.le_refl _)]; simp
        rwa [h1] at h5
      rw [List.getElem?_eq_getElem hi] at h3
      injection h3 with h3
      rw [h3]
      simpa using h2
  have hK : (A.chs.takeWhile fun v => decide (v.rev ≤ r)).length ≤ A.chs.length := (List.takeWhile_prefix (l := A.chs) fun v => decide (v.rev ≤ r)).length_le
  have hat : A.at r = doneL A.old ((A.chs.take (A.chs.takeWhile fun v => decide (v.rev ≤ r)).length).map Ver.c) := by
    have := List.prefix_iff_eq_take.1 (List.takeWhile_prefix (l := A.chs) fun v => decide (v.rev ≤ r))
    rw [← this]; rfl
  rw [hat]
  generalize (A.chs.takeWhile fun v => decide (v.rev ≤ r)).length = K at hT hN hK ⊢
  refine t50 (Nat.le_of_ble_eq_true rfl) ?_
  simp (disch := omega) only [F50, hp, e0, go_sem, simprocAttr]
  refine run_up (N := K) (fun i e h => sat h (pto x (.row 5 [[.int .i64 A.rev, .int .i64 A.past, o, ev, nw]] 1) :: Ow 8 ev (A.chs.map evC) :: F) ∧ SlV (e 5) ((doneL A.old ((A.chs.take i).map Ver.c)).map kvC) ∧ (e 0 = .ptr x 5 0 0 ∧ e 1 = .int .i64 r ∧ e 6 = .int .i64 i)) ⟨hs, ho.1, rfl, rfl, rfl⟩ ?_
  clear hs hp
  rintro i e h hi ⟨hs, hlv, he⟩
  have hp := hs.at
  have m1 : (i : Int) + 1 = ((i + 1 : Nat) : Int) := by omega
  by_cases h2 : i < A.chs.length
  · have c1 : ((i : Int) < (A.chs.length : Int)) = True := by simp; omega
    obtain ⟨b, cap, hv, hb, hrow⟩ := ev_row hs.p1 h2
    subst hv
    by_cases h1 : i < K
    · have c2 : (A.chs[i].rev ≤ r) = True := by simpa using hT i h2 h1
      have hst : doneL A.old ((A.chs.take (i + 1)).map Ver.c) = done (doneL A.old ((A.chs.take i).map Ver.c)) A.chs[i].c := by
        rw [List.take_succ_eq_append_getElem h2, List.map_append, List.map_cons, List.map_nil, doneL_snoc]
      rw [hst]
      have hdl := doneL_le (l := A.old) (cs := (A.chs.take i).map Ver.c)
      rw [List.length_map, List.length_take] at hdl
      have hdone := fun {h : Hp} {G : List Asr} (hs : sat h G) => rgDone (v := A.chs[i]) hlv hs (doneL_srt hS) (by omega)
      generalize A.chs[i] = w at *
      generalize doneL A.old ((A.chs.take i).map Ver.c) = L at *
      simp (disch := omega) only [go_sem, simprocAttr, he, hp, lenE, c1, hb, hrow, c2, m1, Int.toNat_natCast]
      refine call_use (hdone hs) ?_
      rintro r' h ⟨hr', hs⟩
      subst hr'
      simp (disch := omega) only [go_sem, simprocAttr, he, m1]
      exact ⟨h1, hs, slV_lst⟩
    · have hi : i = K := by omega
      subst hi
      have c2 : (A.chs[i].rev ≤ r) = False := by simpa using hN h2
      generalize A.chs[i] = w at *
      simp (disch := omega) only [go_sem, simprocAttr, he, hp, lenE, c1, hb, hrow, c2, Int.toNat_natCast]
      exact ⟨hlv, rxP.2 ⟨o, _, nw, ho, hs⟩⟩
  · have c1 : ((i : Int) < (A.chs.length : Int)) = False := by simp; omega
    have hi : i = K := by omega
    subst hi
    simp (disch := omega) only [go_sem, simprocAttr, he, hp, lenE, c1]
    exact ⟨hlv, rxP.2 ⟨o, _, nw, ho, hs⟩⟩
theorem rgAtR {r : Int} (hs : sat h (RxP x A :: F)) (ok : StoOK A) (hl : A.old.length + A.chs.length ≤ 1000000) :
    Triple Tryz.prog 50 [.ptr x 5 0 0, .int .i64 r] h (fun v h => SlV v ((A.at r).map kvC) ∧ sat h (RxP x A :: F)) := by
  have e : (if r = A.rev then A.now else A.at r) = A.at r := by
    split
    · rename_i h
      rw [h, at_rev ok]
    · rfl
  have := rgAtO (r := r) hs ok.old hl
  rw [e] at this
  exact this
theorem fil_step {p : Ver → Bool} {l : List Ver} {i : Nat} (hi : i < l.length) : (l.take (i + 1)).filter p = (l.take i).filter p ++ if p l[i] = true then [l[i]] else [] := by
  rw [List.take_succ_eq_append_getElem hi, List.filter_append, List.filter_cons, List.filter_nil]
theorem rgCompact {rev : Int} (hs : sat h (RxP x A :: F)) (ok : StoOK A) (hl : A.old.length + A.chs.length ≤ 1000000) :
    Triple Tryz.prog 27 [.ptr x 5 0 0, .int .i64 rev] h (fun r h => r = .int .i64 (stCompE A rev) ∧ sat h (RxP x (if stCompE A rev = 0 then stComp A rev else A) :: F)) := by
  obtain ⟨o, ev, nw, ho, hs1⟩ := rxP.1 hs
  have hp := hs1.at
  refine t27 (Nat.le_of_ble_eq_true rfl) ?_
  simp (disch := omega) only [F27, go_sem, simprocAttr]
  by_cases c1 : rev < 1
  · have ef : stCompE A rev = 1 := by rw [stCompE, if_pos c1]
    rw [ef, if_neg (by decide)]
    simp (disch := omega) only [go_sem, simprocAttr, c1]
    exact hs
  by_cases c2 : A.rev < rev
  · have ef : stCompE A rev = 17 := by rw [stCompE, if_neg c1, if_pos c2]
    have d2 : (rev > A.rev) = True := by simp; omega
    rw [ef, if_neg (by decide)]
    simp (disch := omega) only [go_sem, simprocAttr, c1, hp, d2]
    exact hs
  have d2 : (rev > A.rev) = False := by simp; omega
  by_cases c3 : rev ≤ A.past
  · have ef : stCompE A rev = 16 := by rw [stCompE, if_neg c1, if_neg c2, if_pos c3]
    rw [ef, if_neg (by decide)]
    simp (disch := omega) only [go_sem, simprocAttr, c1, hp, d2, c3]
    exact hs
  have ef : stCompE A rev = 0 := by rw [stCompE, if_neg c1, if_neg c2, if_neg c3]
  rw [ef, if_pos rfl]
  simp (disch := omega) only [go_sem, simprocAttr, c1, hp, d2, c3]
  refine call_use (rgAtR (r := rev) hs ok hl) ?_
  rintro w h ⟨hw, hs⟩
  obtain ⟨o, ev, nw, ho, hs⟩ := rxP.1 hs
  have hp := hs.at
  have hs2 := hs.set (o' := .row 5 [[.int .i64 A.rev, .int .i64 A.past, w, ev, nw]] 1)
  have nc := hw.cells
  have na := hw.atom
  simp (disch := omega) only [go_sem, simprocAttr, hp, nc, na]
  generalize Hp.set h x _ = h2 at hs2 ⊢
  refine blk_join (Q := fun e h => ∃ v, sat h (Ow 8 v ((stComp A rev).chs.map evC) :: pto x (.row 5 [[.int .i64 A.rev, .int .i64 A.past, w, ev, nw]] 1) :: Ow 8 ev (A.chs.map evC) :: F) ∧ (e 0 = .ptr x 5 0 0 ∧ e 1 = .int .i64 rev ∧ e 5 = v)) ?_ ?_
  · refine run_up (N := A.chs.length) (fun i e h => ∃ v, sat h (Ow 8 v (((A.chs.take i).filter fun v => decide (rev < v.rev)).map evC) :: pto x (.row 5 [[.int .i64 A.rev, .int .i64 A.past, w, ev, nw]] 1) :: Ow 8 ev (A.chs.map evC) :: F) ∧ (e 0 = .ptr x 5 0 0 ∧ e 1 = .int .i64 rev ∧ e 5 = v ∧ e 6 = .int .i64 i)) ⟨.nils, hs2.add ow_nil, by simp [Env.upd_apply, initE]⟩ ?_
    clear hs hs1 hp hs2
    rintro i e h hi ⟨v, hs, he⟩
    have hp := hs.p1.at
    have lenE := hs.p2.els.len
    rw [List.length_map] at lenE
    have m1 : (i : Int) + 1 = ((i + 1 : Nat) : Int) := by omega
    simp (disch := omega) only [go_sem, simprocAttr, he, hp, lenE, m1]
    refine cnd_dec (fun g1 => ?_) (fun g1 => ?_)
    · have hil : i < A.chs.length := by omega
      obtain ⟨b, cap, hv, hb, hrow⟩ := ev_row hs.p2 hil
      subst hv
      have hfl := List.length_filter_le (fun v : Ver => decide (rev < v.rev)) (A.chs.take i)
      rw [List.length_take] at hfl
      rw [fil_step hil]
      generalize A.chs[i] = y at hrow ⊢
      by_cases c3 : rev < y.rev
      · have c4 : (y.rev > rev) = True := by simp; omega
        have c5 : decide (rev < y.rev) = true := decide_eq_true c3
        rw [c5, if_pos rfl]
        simp (disch := omega) only [go_sem, simprocAttr, he, hp, hb, hrow, c4, Int.toNat_natCast]
        refine new_opq hs fun n h hs => ?_
        simp (disch := omega) only [go_sem, simprocAttr]
        refine app_sat hs.p1 (src_one hs.at) (atoms_one (by simp [AV.isAtom])) (by simp; omega) fun v' h hs ca aa => ?_
        simp (disch := omega) only [go_sem, simprocAttr, he, ca, aa, m1]
        refine ⟨hil, v', ?_, rfl⟩
        rw [List.map_append]
        exact hs.d1
      · have c4 : (y.rev > rev) = False := by simp; omega
        have c5 : decide (rev < y.rev) = false := decide_eq_false c3
        rw [c5, if_neg (by simp), List.append_nil]
        simp (disch := omega) only [go_sem, simprocAttr, he, hp, hb, hrow, c4, Int.toNat_natCast, m1]
        exact ⟨hil, v, hs, rfl⟩
    · have hil : i = A.chs.length := by omega
      subst hil
      rw [List.take_length] at hs
      simp (disch := omega) only [go_sem, simprocAttr, he]
      exact ⟨v, hs, rfl⟩
  clear hs hs1 hp hs2
  rintro e h ⟨v, hs, he⟩
  have hp := hs.p1.at
  have hs2 := hs.p1.set (o' := .row 5 [[.int .i64 A.rev, .int .i64 rev, w, v, nw]] 1)
  have vc := hs.els.cells
  have va := hs.els.atom
  have hp2 := hs2.at
  simp (disch := omega) only [go_sem, simprocAttr, he, hp, vc, va, hp2]
  have hn := comp_now ok (r := rev)
  refine rxP.2 ⟨w, v, nw, ⟨hw, by rw [hn]; exact ho.2⟩, ?_⟩
  exact hs2.p2.drop.p1.p1
end
end Go.Proofs.YtaioncbpfckhaaaGreat
/- The document's hub of watchers. -/
set_option linter.unusedSimpArgs false
set_option linter.unusedVariables false
set_option maxRecDepth 10000
namespace Go.Proofs.YtaioncbpfckhaaaGreat
open Go.Hz

/-- A buffer: a part of a row, only read. -/
def BuP (v : AV) (l : List Ver) : Asr := fun h => (v = .nils ∧ l = []) ∨ ∃ b off cap rc es, v = .arr b 8 off l.length cap ∧ h b = some (.row 8 es rc) ∧ l.length ≤ cap ∧ off + l.length ≤ es.length ∧ (es.drop off).take l.length = l.map evC
section
variable {h : Hp} {F : List Asr} {v : AV} {l : List Ver}
theorem BuP.cases (hs : sat h (BuP v l :: F)) : (v = .nils ∧ l = []) ∨ ∃ b off cap rc es, v = .arr b 8 off l.length cap ∧ sat h (pto b (.row 8 es rc) :: F) ∧ l.length ≤ cap ∧ off + l.length ≤ es.length ∧ (es.drop off).take l.length = l.map evC := by
  obtain ⟨S, ⟨h1, h2⟩ | ⟨b, off, cap, rc, es, h1, h2, h3, h4, h5⟩, c⟩ := hs
  · exact .inl ⟨h1, h2⟩
  · exact .inr ⟨b, off, cap, rc, es, h1, ⟨S, h2, c⟩, h3, h4, h5⟩
theorem BuP.len (hs : sat h (BuP v l :: F)) : lenL v = some (.int .i64 l.length) := by
  rcases BuP.cases hs with ⟨rfl, rfl⟩ | ⟨b, off, cap, rc, es, rfl, _, _, _, _⟩
  · rfl
  · rfl
theorem BuP.cells (hs : sat h (BuP v l :: F)) : v.cells = [v] ∧ v.isAtom = true := by
  rcases BuP.cases hs with ⟨rfl, rfl⟩ | ⟨b, off, cap, rc, es, rfl, _, _, _, _⟩ <;> exact ⟨rfl, rfl⟩
theorem BuP.src (hs : sat h (BuP v l :: F)) : srcA 8 h v = some (l.map evC) := by
  rcases BuP.cases hs with ⟨rfl, rfl⟩ | ⟨b, off, cap, rc, es, rfl, h1, _, h3, h4⟩
  · rfl
  · rw [src_part h1 h3, h4]
theorem BuP.of (hs : sat h (Ow 8 v (l.map evC) :: F)) : sat h (BuP v l :: F) := by
  refine hs.imp fun h o => ?_
  rcases o with ⟨h1, h2⟩ | ⟨b, cap, h1, h2, h3⟩
  · exact .inl ⟨h1, by simpa using h2⟩
  · rw [List.length_map] at h1 h3
    exact .inr ⟨b, 0, cap, cap, _, h1, h2, h3, by simp, by rw [List.drop_zero, List.take_of_length_le (by simp)]⟩
theorem BuP.parts (hs : sat h (BuP v l :: F)) {k : Nat} (hk : k ≤ l.length) : ∃ x z, slcL 8 v none (some (.int .i64 (k : Int))) = some x ∧ slcL 8 v (some (.int .i64 (k : Int))) none = some z ∧
    (∀ h (G : List Asr), sat h (BuP v l :: G) → srcA 8 h x = some ((l.take k).map evC)) ∧ (∀ h (G : List Asr), sat h (BuP v l :: G) → sat h (BuP z (l.drop k) :: G)) ∧ z.cells = [z] ∧ z.isAtom = true := by
  rcases BuP.cases hs with ⟨rfl, rfl⟩ | ⟨b, off, cap, rc, es, rfl, _, hc, _, _⟩
  · have hk : k = 0 := by simpa using hk
    subst hk
    exact ⟨.nils, .nils, rfl, rfl, fun _ _ _ => rfl, fun h G hs => hs, rfl, rfl⟩
  · refine ⟨.arr b 8 off k cap, .arr b 8 (off + k) (l.length - k) (cap - k), ?_, ?_, fun h G hs => ?_, fun h G hs => ?_, rfl, rfl⟩
    · rw [slcL_hi (by omega) (by omega) hc, Int.toNat_natCast]
    · rw [slcL_lo (by omega) (by omega) hc, Int.toNat_natCast]
    · rcases BuP.cases hs with ⟨h1, _⟩ | ⟨b', off', cap', rc', es', h1, h2, h3, h4, h5⟩
      · cases h1
      · cases h1
        rw [src_part h2 (by omega), List.map_take, ← h5, List.take_take, Nat.min_eq_left hk]
    · refine hs.imp fun h o => ?_
      rcases o with ⟨h1, _⟩ | ⟨b', off', cap', rc', es', h1, h2, h3, h4, h5⟩
      · cases h1
      · cases h1
        refine .inr ⟨b, off + k, cap - k, rc', es', by rw [List.length_drop], h2, by rw [List.length_drop]; omega, by rw [List.length_drop]; omega, ?_⟩
        rw [List.length_drop, List.map_drop, ← h5, List.drop_take, List.drop_drop]
end

/-- A watcher of the document's, in the heap. -/
structure Wq where
  w : Wc
  p : Nat
  bv : AV
def mdB (m : Md) : Bool := match m with
  | .behind => true
  | _ => false
def mdN (m : Md) : Int := match m with
  | .ended _ why => why
  | _ => 0
abbrev rqC (w : Wc) (bv : AV) : List AV := [.int .i64 w.id, .int .i64 w.place, .str w.lo, .str w.hi, .bool (mdB w.md), bv, .int .i64 (mdN w.md)]
def RqP (y : Wq) : Asr := fun h => sat h [pto y.p (.row 7 [rqC y.w y.bv] 1), BuP y.bv (mdE y.w.md)]
theorem rqP {y : Wq} {h : Hp} {F : List Asr} : sat h (RqP y :: F) ↔ sat h (pto y.p (.row 7 [rqC y.w y.bv] 1) :: BuP y.bv (mdE y.w.md) :: F) := by
  unfold RqP
  exact sat_sl (l1 := [_, _]) (l := F)
abbrev hqRow (q x : Nat) (wv : AV) (last : Int) : Asr := pto q (.row 3 [[.ptr x 5 0 0, wv, .int .i64 last]] 1)
abbrev wqs (wv : AV) (Y : List Wq) : Asr := Ow 1 wv (Y.map fun y => [.ptr y.p 7 0 0])
def HqP (q x : Nat) (last : Int) (X : List Wc) : Asr := fun h => ∃ (wv : AV) (Y : List Wq), Y.map Wq.w = X ∧ sat h ([hqRow q x wv last, wqs wv Y] ++ Y.map RqP)
theorem hqP {q x : Nat} {last : Int} {X : List Wc} {h : Hp} {F : List Asr} : sat h (HqP q x last X :: F) ↔ ∃ (wv : AV) (Y : List Wq), Y.map Wq.w = X ∧ sat h (hqRow q x wv last :: wqs wv Y :: (Y.map RqP ++ F)) := by
  unfold HqP
  rw [sat_ex]; refine exists_congr fun m => ?_
  rw [sat_ex]; refine exists_congr fun Y => ?_
  rw [sat_and]
  exact and_congr_right fun _ => sat_sl (l1 := [_, _] ++ Y.map RqP) (l := F)
section
variable {h : Hp} {F G : List Asr} {q x p : Nat} {last : Int} {X : List Wc} {A : Sto} {l : List Ver} {wv bv : AV} {Y : List Wq}
theorem rq_split {i : Nat} (hi : i < Y.length) : Y = Y.take i ++ Y[i] :: Y.drop (i + 1) := by
  rw [← List.drop_eq_getElem_cons hi, List.take_append_drop]
theorem rq_cut {i : Nat} (hi : i < Y.length) (hs : sat h (Y.map RqP ++ F)) : sat h (pto Y[i].p (.row 7 [rqC Y[i].w Y[i].bv] 1) :: BuP Y[i].bv (mdE Y[i].w.md) :: ((Y.take i ++ Y.drop (i + 1)).map RqP ++ F)) := by
  have e : Y.map RqP = (Y.take i).map RqP ++ RqP Y[i] :: (Y.drop (i + 1)).map RqP := by
    conv => lhs; rw [rq_split hi]
    rw [List.map_append, List.map_cons]
  have h1 : sat h ((Y.take i).map RqP ++ RqP Y[i] :: ((Y.drop (i + 1)).map RqP ++ F)) := by
    rw [e, List.append_assoc, List.cons_append] at hs
    exact hs
  have h2 := rqP.1 (sat.mid h1)
  simpa using h2
theorem rq_row {i : Nat} (hi : i < Y.length) (hs : sat h (Y.map RqP ++ F)) : h Y[i].p = some (.row 7 [rqC Y[i].w Y[i].bv] 1) := (rq_cut hi hs).at
theorem ptr_row {i : Nat} (hi : i < Y.length) (hs : sat h (wqs wv Y :: F)) : ∃ b cap, wv = .arr b 1 0 Y.length cap ∧ h b = some (.row 1 (Y.map fun y => [.ptr y.p 7 0 0]) cap) ∧ (Y.map fun y => [AV.ptr y.p 7 0 0])[i]? = some [.ptr Y[i].p 7 0 0] := by
  obtain ⟨b, cap, hv, hb, _⟩ := hs.owr.row (i := i) (x := [.ptr Y[i].p 7 0 0]) (by simp [hi])
  rw [List.length_map] at hv
  exact ⟨b, cap, hv, hb, by simp [hi]⟩
/-- Where a watcher stands. -/
def AtW (X : List Wc) (id k : Int) : Prop := (k = -1 ∧ ∀ w ∈ X, w.id ≠ id) ∨ ∃ i : Nat, ∃ hi : i < X.length, k = i ∧ X[i].id = id
theorem rhAt {id : Int} (hs : sat h (hqRow q x wv last :: wqs wv Y :: (Y.map RqP ++ F))) (hl : Y.length ≤ 1000000) : Triple Tryz.prog 44 [.ptr q 3 0 0, .int .i64 id] h (fun r h => (∃ k, r = .int .i64 k ∧ AtW (Y.map Wq.w) id k) ∧ sat h (hqRow q x wv last :: wqs wv Y :: (Y.map RqP ++ F))) := by
  have hq := hs.at
  have lenW := hs.p1.els.len
  rw [List.length_map] at lenW
  refine t44 (Nat.le_of_ble_eq_true rfl) ?_
  simp (disch := omega) only [F44, go_sem, simprocAttr]
  refine run_up (N := Y.length) (fun i e h => (∀ j (hj : j < Y.length), j < i → Y[j].w.id ≠ id) ∧ sat h (hqRow q x wv last :: wqs wv Y :: (Y.map RqP ++ F)) ∧ (e 0 = .ptr q 3 0 0 ∧ e 1 = .int .i64 id ∧ e 5 = .int .i64 i)) ⟨fun j _ h => by omega, hs, rfl, rfl, rfl⟩ ?_
  clear hs hq
  rintro i e h hi ⟨hno, hs, he⟩
  have hq := hs.at
  have m1 : (i : Int) + 1 = ((i + 1 : Nat) : Int) := by omega
  by_cases hil : i < Y.length
  · have c1 : ((i : Int) < Y.length) = True := by simp; omega
    obtain ⟨b, cap, hv, hb, hrow⟩ := ptr_row hil hs.p1
    have hy := rq_row hil hs.drop.drop
    subst hv
    cases hid : Y[i].w.id == id with
    | true =>
      simp (disch := omega) only [go_sem, simprocAttr, he, hq, lenW, c1, hb, hrow, hy, Int.toNat_natCast, hid]
      refine ⟨⟨_, rfl, .inr ⟨i, by rw [List.length_map]; exact hil, rfl, ?_⟩⟩, hs⟩
      rw [List.getElem_map]; simpa using hid
    | false =>
      simp (disch := omega) only [go_sem, simprocAttr, he, hq, lenW, c1, hb, hrow, hy, Int.toNat_natCast, hid, m1]
      refine ⟨hil, fun j hj hji => ?_, hs⟩
      by_cases hjj : j = i
      · subst hjj; simpa using hid
      · exact hno j hj (by omega)
  · have c1 : ((i : Int) < Y.length) = False := by simp; omega
    simp (disch := omega) only [go_sem, simprocAttr, he, hq, lenW, c1]
    refine ⟨⟨_, rfl, .inl ⟨rfl, fun w hw => ?_⟩⟩, hs⟩
    obtain ⟨y, hy, rfl⟩ := List.mem_map.1 hw
    obtain ⟨j, hj, rfl⟩ := List.getElem_of_mem hy
    exact hno j hj (by omega)
theorem rhWatch {lo hi : Key} {from_ : Int} (hs : sat h (HqP q x last X :: F)) (hl : 0 ≤ last ∧ last ≤ 1000000000) (hX : X.length ≤ 1000000) :
    Triple Tryz.prog 20 [.ptr q 3 0 0, .str lo, .str hi, .int .i64 from_] h (fun r h => r = .int .i64 (last + 1) ∧ sat h (HqP q x (last + 1) (X ++ [⟨last + 1, lo, hi, max from_ 1, .behind⟩]) :: F)) := by
  obtain ⟨wv, Y, hY, hs2⟩ := hqP.1 hs
  have hq := hs2.at
  have hYl : Y.length = X.length := by rw [← hY, List.length_map]
  have em : (if from_ < 1 then (1 : Int) else from_) = max from_ 1 := by split <;> omega
  have hs3 := hs2.set (o' := .row 3 [[.ptr x 5 0 0, wv, .int .i64 (last + 1)]] 1)
  have hq3 := hs3.at
  refine t20 (Nat.le_of_ble_eq_true rfl) ?_
  simp (disch := omega) only [F20, hq, hq3, em, go_sem, simprocAttr]
  generalize Hp.set h q _ = h2 at hs3 hq3 ⊢
  refine new_opq hs3 fun p h hs => ?_
  simp (disch := omega) only [go_sem, simprocAttr]
  refine new_opq hs fun n h hs => ?_
  simp (disch := omega) only [go_sem, simprocAttr]
  refine app_sat hs.p3 (src_one hs.at) (atoms_one (by simp [AV.isAtom])) (by simp; omega) fun v' h hs ca aa => ?_
  have hq4 := hs.p3.at
  have hs5 := hs.p3.set (o' := .row 3 [[.ptr x 5 0 0, v', .int .i64 (last + 1)]] 1)
  have hq5 := hs5.at
  simp (disch := omega) only [go_sem, simprocAttr, ca, aa, hq4, hq5]
  generalize Hp.set h q _ = h3 at hs5 hq5 ⊢
  refine hqP.2 ⟨v', Y ++ [⟨⟨last + 1, lo, hi, max from_ 1, .behind⟩, p, .nils⟩], by rw [List.map_append, hY]; rfl, ?_⟩
  have hs6 := hs5.p2.drop.p1.p1.p2
  have hs7 : sat h3 (RqP ⟨⟨last + 1, lo, hi, max from_ 1, .behind⟩, p, .nils⟩ :: _) := rqP.2 (((hs6.add (A := BuP .nils []) (.inl ⟨rfl, rfl⟩))).p1)
  have hs8 := sat.unmid (l1 := [hqRow q x v' (last + 1), Ow 1 v' (List.map (fun y => [AV.ptr y.p 7 0 0]) Y ++ [[AV.ptr p 7 0 0]])] ++ Y.map RqP) (l2 := F) hs7
  simpa [wqs] using hs8
/-- What is heard. -/
theorem rhHeard {w : Wc} (hs : sat h (hqRow q x wv last :: pto p (.row 7 [rqC w bv] 1) :: RxP x A :: F)) (hl : A.chs.length ≤ 1000000) :
    Triple Tryz.prog 42 [.ptr q 3 0 0, .ptr p 7 0 0] h (fun r h => sat h (Ow 8 r ((A.chs.filter fun v => decide (w.place ≤ v.rev) && inK w.lo w.hi v.c.key).map evC) :: hqRow q x wv last :: pto p (.row 7 [rqC w bv] 1) :: RxP x A :: F)) := by
  obtain ⟨o, ev, nw, ho, hs2⟩ := rxP.1 hs.p1.p1.p2
  have lenE := hs2.p1.els.len
  rw [List.length_map] at lenE
  obtain ⟨P, hP⟩ : ∃ P : Ver → Bool, P = fun v => decide (w.place ≤ v.rev) && inK w.lo w.hi v.c.key := ⟨_, rfl⟩
  rw [← hP]
  refine t42 (Nat.le_of_ble_eq_true rfl) ?_
  simp (disch := omega) only [F42, go_sem, simprocAttr]
  refine run_up (N := A.chs.length) (fun i e h => ∃ v, sat h (Ow 8 v (((A.chs.take i).filter P).map evC) :: pto x (.row 5 [[.int .i64 A.rev, .int .i64 A.past, o, ev, nw]] 1) :: Ow 8 ev (A.chs.map evC) :: hqRow q x wv last :: pto p (.row 7 [rqC w bv] 1) :: F) ∧ (e 0 = .ptr q 3 0 0 ∧ e 1 = .ptr p 7 0 0 ∧ e 5 = v ∧ e 6 = .int .i64 i)) ⟨.nils, (hs2.add ow_nil), rfl, rfl, rfl, rfl⟩ ?_
  clear hs hs2
  rintro i e h hi ⟨v, hs, he⟩
  have hx := hs.p1.at
  have hq := hs.p3.at
  have m1 : (i : Int) + 1 = ((i + 1 : Nat) : Int) := by omega
  by_cases hil : i < A.chs.length
  · have c1 : ((i : Int) < A.chs.length) = True := by simp; omega
    obtain ⟨b, cap, hv, hb, hrow⟩ := ev_row2 hs.p2 hil
    have hst : (A.chs.take (i + 1)).filter P = (A.chs.take i).filter P ++ if P A.chs[i] = true then [A.chs[i]] else [] := by
      rw [List.take_succ_eq_append_getElem hil, List.filter_append, List.filter_cons, List.filter_nil]
    have hfl : ((A.chs.take i).filter P).length ≤ i := Nat.le_trans (List.length_filter_le _ _) (by rw [List.length_take]; omega)
    have hPk : P A.chs[i] = (decide (w.place ≤ A.chs[i].rev) && inK w.lo w.hi A.chs[i].c.key) := by rw [hP]
    subst hv
    generalize A.chs[i] = y at hrow hst hPk
    rw [evC_eq2] at hrow
    simp (disch := omega) only [go_sem, simprocAttr, he, hx, hq, lenE, c1, hb, hrow, Int.toNat_natCast]
    refine new_opq hs fun a h hs => ?_
    have ha := hs.at
    have hs3 := hs.set (o' := .row 8 [evC y] 1)
    rw [evC_eq2] at hs3
    have ha3 := hs3.at
    have hp3 := hs3.p5.at
    by_cases hy1 : w.place ≤ y.rev
    · have c6 : decide (y.rev ≥ w.place) = true := by simpa using hy1
      rw [show decide (w.place ≤ y.rev) = true from by simpa using hy1, Bool.true_and] at hPk
      simp (disch := omega) only [go_sem, simprocAttr, ha, ha3, he, c6, hp3, evC_eq2, evC_eq2 y]
      generalize Hp.set h a _ = h2 at hs3 ha3 hp3 ⊢
      refine call_use (rgIn (k := y.c.key) (lo := w.lo) (hi := w.hi) hs3) ?_
      rintro r h ⟨hr, hs⟩
      subst hr
      have ha := hs.at
      cases hin : inK w.lo w.hi y.c.key with
      | false =>
        rw [hin] at hPk
        simp (disch := omega) only [go_sem, simprocAttr, he, m1]
        exact ⟨hil, v, by rw [hst, hPk]; simpa using hs.drop, rfl⟩
      | true =>
        rw [hin] at hPk
        simp (disch := omega) only [go_sem, simprocAttr, he, ha]
        refine new_opq hs fun n h hs => ?_
        simp (disch := omega) only [go_sem, simprocAttr]
        refine app_sat hs.p2 (src_one hs.at) (atoms_one (by simp [AV.isAtom])) (by simp; omega) fun v' h hs ca aa => ?_
        simp (disch := omega) only [go_sem, simprocAttr, he, ca, aa, m1]
        refine ⟨hil, v', ?_, rfl⟩
        rw [hst, hPk]
        have := hs.d1.d1
        simpa [evC_eq2 y] using this
    · have c6 : decide (y.rev ≥ w.place) = false := by simpa using hy1
      rw [show decide (w.place ≤ y.rev) = false from by simpa using hy1, Bool.false_and] at hPk
      simp (disch := omega) only [go_sem, simprocAttr, ha, ha3, he, c6, hp3, evC_eq2 y, m1]
      generalize Hp.set h a _ = h2 at hs3 ha3 hp3 ⊢
      exact ⟨hil, v, by rw [hst, hPk]; simpa using hs3.drop, rfl⟩
  · have c1 : ((i : Int) < A.chs.length) = False := by simp; omega
    rw [List.take_of_length_le (by omega)] at hs
    simp (disch := omega) only [go_sem, simprocAttr, he, hx, hq, lenE, c1]
    have hs3 := rxP.2 ⟨o, ev, nw, ho, hs.p4.p4.p2.p4.p4⟩
    exact hs3.p3.p3.p3
end
end Go.Proofs.YtaioncbpfckhaaaGreat
/- The document's hub of watchers: one is closed, all are fed. -/
set_option linter.unusedSimpArgs false
set_option linter.unusedVariables false
set_option maxRecDepth 10000
namespace Go.Proofs.YtaioncbpfckhaaaGreat
open Go.Hz

section
variable {h : Hp} {F G : List Asr} {q x p : Nat} {last : Int} {X : List Wc} {A : Sto} {l : List Ver} {wv bv : AV} {Y : List Wq}
theorem atoms_wq (Y : List Wq) : AtomsL (Y.map fun y => [AV.ptr y.p 7 0 0]) := by
  intro e he v hv
  obtain ⟨k, _, rfl⟩ := List.mem_map.1 he
  simp only [List.mem_cons, List.not_mem_nil, or_false] at hv
  subst hv; rfl
theorem rx_row (hs : sat h (RxP x A :: F)) : ∃ o ev nw, h x = some (.row 5 [[.int .i64 A.rev, .int .i64 A.past, o, ev, nw]] 1) := by
  obtain ⟨o, ev, nw, _, hs2⟩ := rxP.1 hs
  exact ⟨o, ev, nw, hs2.at⟩
theorem rhClose {id : Int} (hs : sat h (hqRow q x wv last :: wqs wv Y :: (Y.map RqP ++ F))) (hl : Y.length ≤ 1000000) :
    Triple Tryz.prog 25 [.ptr q 3 0 0, .int .i64 id] h (fun r h => (r = .int .i64 2 ∧ (∀ w ∈ Y.map Wq.w, w.id ≠ id) ∧ sat h (hqRow q x wv last :: wqs wv Y :: (Y.map RqP ++ F))) ∨
      ∃ i, ∃ hi : i < Y.length, ∃ wv', r = .int .i64 0 ∧ Y[i].w.id = id ∧ sat h (hqRow q x wv' last :: wqs wv' (Y.take i ++ Y.drop (i + 1)) :: (Y.map RqP ++ F))) := by
  refine t25 (Nat.le_of_ble_eq_true rfl) ?_
  simp (disch := omega) only [F25, go_sem, simprocAttr]
  refine call_use (rhAt (id := id) hs hl) ?_
  rintro r h ⟨⟨k, hr, hk⟩, hs⟩
  subst hr
  have hq := hs.at
  rcases hk with ⟨rfl, hno⟩ | ⟨i, hi, rfl, hid⟩
  · have c1 : ((-1 : Int) < 0) = True := by simp
    simp (disch := omega) only [go_sem, simprocAttr, c1]
    exact .inl ⟨hno, hs⟩
  rw [List.length_map] at hi
  rw [List.getElem_map] at hid
  obtain ⟨b, cap, hv, hb, hrow⟩ := ptr_row hi hs.p1
  subst hv
  obtain ⟨hs2, hle1, hle⟩ := hs.p1.arr
  rw [List.length_map] at hle
  have c1 : ((i : Int) < 0) = False := by simp
  have m1 : (i : Int) + 1 = ((i + 1 : Nat) : Int) := by omega
  simp (disch := omega) only [go_sem, simprocAttr, c1, hq, slcL_hi, slcL_lo, Int.toNat_natCast, m1]
  refine new_opq hs2 fun n h hs => ?_
  have hq := hs.p2.at
  simp (disch := omega) only [go_sem, simprocAttr, hq]
  have hsrc := src_part (off := 0) (len := i) (c := cap) hs.p1 (by simp; omega)
  have hsrc2 := fun (h : Hp) (G : List Asr) (g : sat h (pto b (.row 1 (Y.map fun y => [AV.ptr y.p 7 0 0]) cap) :: G)) => src_part (off := i + 1) (len := Y.length - (i + 1)) (c := cap - (i + 1)) g (by simp; omega)
  refine app_satO (hs.ow (Nat.zero_le _)) hsrc (by rw [List.drop_zero, ← List.map_take]; exact atoms_wq _) (by simp; omega) fun v1 h hs c2 a2 => ?_
  have hq := hs.p2.at
  simp (disch := omega) only [go_sem, simprocAttr, c2, a2, hq]
  refine app_sat hs (hsrc2 _ _ hs.p1) (by rw [← List.map_drop, ← List.map_take]; exact atoms_wq _) (by simp; omega) fun v2 h hs c2 a2 => ?_
  have hq := hs.p2.at
  have hs4 := hs.p2.set (o' := .row 3 [[.ptr x 5 0 0, v2, .int .i64 last]] 1)
  have hq4 := hs4.at
  simp (disch := omega) only [go_sem, simprocAttr, c2, a2, hq, hq4]
  refine .inr ⟨i, hi, v2, hid, ?_⟩
  have e : [] ++ List.take i (List.drop 0 (Y.map fun y => [AV.ptr y.p 7 0 0])) ++ List.take (Y.length - (i + 1)) (List.drop (i + 1) (Y.map fun y => [AV.ptr y.p 7 0 0])) = (Y.take i ++ Y.drop (i + 1)).map fun y => [AV.ptr y.p 7 0 0] := by
    rw [List.drop_zero, List.nil_append, List.map_append, List.map_take, List.map_drop, List.take_of_length_le (l := List.drop _ _) (by simp)]
  rw [e] at hs4
  exact hs4.d2
theorem heard_eq (ok : StoOK A) {w : Wc} (hp : ¬ w.place ≤ A.past) : w.chg A = (A.chs.filter fun v => decide (w.place ≤ v.rev) && inK w.lo w.hi v.c.key, 0) := by
  unfold Wc.chg
  split
  · rw [List.filter_eq_nil_iff.2]
    intro v hv
    have := ok.chr v hv
    simp; omega
  · first | rfl | rw [if_neg hp]
/-- Those that have ended: why. -/
def EndOK (X : List Wc) : Prop := ∀ w ∈ X, ∀ l why, w.md = .ended l why → why ≠ 0
theorem set_map {α β : Type} {f : α → β} {l : List α} {i : Nat} {y : α} : (l.set i y).map f = (l.map f).set i (f y) := by simp
theorem take_set {X : List Wc} {f : Wc → Wc} {i : Nat} (hi : i < X.length) : ((X.take i).map f ++ X.drop i).set i (f X[i]) = (X.take (i + 1)).map f ++ X.drop (i + 1) := by
  rw [List.set_append_right _ _ (by simp; omega), List.length_map, List.length_take, Nat.min_eq_left (Nat.le_of_lt hi), Nat.sub_self, List.drop_eq_getElem_cons hi, List.set_cons_zero, List.take_succ_eq_append_getElem hi, List.map_append, List.append_assoc]
  rfl
theorem take_get {X : List Wc} {f : Wc → Wc} {i : Nat} (hi : i < X.length) : ((X.take i).map f ++ X.drop i)[i]? = some X[i] := by
  rw [List.getElem?_append_right (by simp; omega), List.length_map, List.length_take, Nat.min_eq_left (Nat.le_of_lt hi), Nat.sub_self, List.drop_eq_getElem_cons hi]; rfl
theorem wqs_set {Z : List Wq} {i : Nat} (hi : i < Z.length) {y : Wq} (hp : y.p = Z[i].p) : (Z.set i y).map (fun y => [AV.ptr y.p 7 0 0]) = Z.map fun y => [AV.ptr y.p 7 0 0] := by
  rw [set_map]
  apply List.ext_getElem?
  intro j
  rw [List.getElem?_set]
  split
  · rename_i h; subst h
    simp [hi, hp]
  · rfl
theorem rhFeed (hs : sat h (HqP q x last X :: RxP x A :: F)) (hX : HbOK last X) (hE : EndOK X) (hl : X.length ≤ 1000000) (hz : A.chs.length ≤ 1000000) (hr : A.rev ≤ 1000000000000000) (ok : StoOK A) :
    Triple Tryz.prog 18 [.ptr q 3 0 0] h (fun r h => sat h (HqP q x last (hFeed A X) :: RxP x A :: F)) := by
  obtain ⟨wv, Y, hY, hs2⟩ := hqP.1 hs
  have hr0 : 0 ≤ A.rev := by have := ok.past; have := ok.rev; omega
  have hYl : Y.length = X.length := by rw [← hY, List.length_map]
  refine t18 (Nat.le_of_ble_eq_true rfl) ?_
  simp (disch := omega) only [F18, go_sem, simprocAttr]
  refine run_up (N := X.length) (fun i e h => ∃ Z : List Wq, Z.map Wq.w = (X.take i).map (Wc.feed A) ++ X.drop i ∧ sat h (hqRow q x wv last :: wqs wv Z :: (Z.map RqP ++ RxP x A :: F)) ∧ (e 0 = .ptr q 3 0 0 ∧ e 2 = .int .i64 i)) ⟨Y, by simpa using hY, hs2, rfl, rfl⟩ ?_
  clear hs hs2 hY hYl Y
  rintro i e h hi ⟨Z, hZ, hs, he⟩
  have hZl : Z.length = X.length := by
    have := congrArg List.length hZ
    simp at this; omega
  have hq := hs.at
  have lenW := hs.p1.els.len
  rw [List.length_map, hZl] at lenW
  have m1 : (i : Int) + 1 = ((i + 1 : Nat) : Int) := by omega
  by_cases hil : i < X.length
  · have hiZ : i < Z.length := by omega
    have c1 : ((i : Int) < X.length) = True := by simp; omega
    obtain ⟨b, cap, hv, hb, hrow⟩ := ptr_row hiZ hs.p1
    have hw : Z[i].w = X[i] := by
      have h1 := take_get (f := Wc.feed A) hil
      rw [← hZ, List.getElem?_map, List.getElem?_eq_getElem hiZ] at h1
      exact Option.some.inj h1
    have hxi := List.getElem_mem hil
    have hs3 := (rq_cut hiZ hs.drop.drop)
    have hy := hs3.at
    have hs4 : sat h (pto Z[i].p (.row 7 [rqC Z[i].w Z[i].bv] 1) :: BuP Z[i].bv (mdE Z[i].w.md) :: hqRow q x wv last :: wqs wv Z :: RxP x A :: ((Z.take i ++ Z.drop (i + 1)).map RqP ++ F)) := by
      have h1 := hs
      have e : Z.map RqP = (Z.take i).map RqP ++ RqP Z[i] :: (Z.drop (i + 1)).map RqP := by
        conv => lhs; rw [rq_split hiZ]
        rw [List.map_append, List.map_cons]
      rw [e] at h1
      have h2 : sat h ((hqRow q x wv last :: wqs wv Z :: (Z.take i).map RqP) ++ RqP Z[i] :: ((Z.drop (i + 1)).map RqP ++ RxP x A :: F)) := by simpa using h1
      have h3 := rqP.1 (sat.mid h2)
      have h4 : sat h ((pto Z[i].p (.row 7 [rqC Z[i].w Z[i].bv] 1) :: BuP Z[i].bv (mdE Z[i].w.md) :: hqRow q x wv last :: wqs wv Z :: (Z.take i ++ Z.drop (i + 1)).map RqP) ++ RxP x A :: F) := by simpa using h3
      have h5 := sat.mid h4
      exact h5.p4.p4.p4.p4
    have fin : ∀ {h' : Hp} {w' : Wc} {bv' : AV}, w' = (X[i]).feed A → sat h' (pto Z[i].p (.row 7 [rqC w' bv'] 1) :: BuP bv' (mdE w'.md) :: hqRow q x wv last :: wqs wv Z :: RxP x A :: ((Z.take i ++ Z.drop (i + 1)).map RqP ++ F)) → ∃ Z2 : List Wq, Z2.map Wq.w = (X.take (i + 1)).map (Wc.feed A) ++ X.drop (i + 1) ∧ sat h' (hqRow q x wv last :: wqs wv Z2 :: (Z2.map RqP ++ RxP x A :: F)) := by
      intro h' w' bv' hw' g
      refine ⟨Z.set i ⟨w', Z[i].p, bv'⟩, ?_, ?_⟩
      · rw [set_map, hZ, hw', take_set hil]
      · have g1 := (rqP (y := ⟨w', Z[i].p, bv'⟩)).2 g
        have g2 : sat h' (RqP ⟨w', Z[i].p, bv'⟩ :: ((hqRow q x wv last :: wqs wv Z :: RxP x A :: (Z.take i).map RqP) ++ ((Z.drop (i + 1)).map RqP ++ F))) := by simpa using g1
        have g3 := sat.unmid g2
        have g4 : sat h' (RxP x A :: ((hqRow q x wv last :: wqs wv Z :: (Z.set i ⟨w', Z[i].p, bv'⟩).map RqP) ++ F)) := by
          rw [List.set_eq_take_append_cons_drop, if_pos hiZ]
          have : sat h' (hqRow q x wv last :: wqs wv Z :: RxP x A :: ((Z.take i).map RqP ++ RqP ⟨w', Z[i].p, bv'⟩ :: ((Z.drop (i + 1)).map RqP ++ F))) := by simpa using g3
          simpa using this.p1.p1.p2
        have g5 := sat.unmid g4
        have ew : wqs wv (Z.set i ⟨w', Z[i].p, bv'⟩) = wqs wv Z := by
          unfold wqs; rw [wqs_set (y := ⟨w', Z[i].p, bv'⟩) hiZ rfl]
        rw [ew]
        simpa using g5
    clear hs3
    rw [hw] at hy hs4
    obtain ⟨hpl1, hpl2⟩ := hX.pl _ hxi
    have hev := hX.ev _ hxi
    have hend := hE _ hxi
    generalize X[i] = w at hy hs4 fin hpl1 hpl2 hev hend
    generalize Z[i].bv = bv at hy hs4
    subst hv
    obtain ⟨wid, wlo, whi, wpl, md⟩ := w
    have hq := hs4.p2.at
    have hb := hs4.p3.arr.1.at
    obtain ⟨o, ev, nw, hx⟩ := rx_row hs4.p4
    cases md with
    | behind =>
      simp (disch := omega) only [go_sem, simprocAttr, he, hq, lenW, c1, hb, hrow, hy, Int.toNat_natCast, mdB, m1]
      obtain ⟨Z2, g1, g2⟩ := fin (w' := ⟨wid, wlo, whi, wpl, .behind⟩) rfl hs4
      exact ⟨hil, Z2, g1, g2⟩
    | ended l why =>
      have c2 : (why != 0) = true := by simpa using hend l why rfl
      simp (disch := omega) only [go_sem, simprocAttr, he, hq, lenW, c1, hb, hrow, hy, Int.toNat_natCast, mdB, mdN, m1, c2]
      obtain ⟨Z2, g1, g2⟩ := fin (w' := ⟨wid, wlo, whi, wpl, .ended l why⟩) rfl hs4
      exact ⟨hil, Z2, g1, g2⟩
    | hears l =>
      simp (disch := omega) only [go_sem, simprocAttr, he, hq, lenW, c1, hb, hrow, hy, Int.toNat_natCast, mdB, mdN, hx]
      by_cases hpp : wpl ≤ A.past
      · have c2 : decide (wpl ≤ A.past) = true := by simpa using hpp
        have hf : Wc.feed A ⟨wid, wlo, whi, wpl, .hears l⟩ = ⟨wid, wlo, whi, wpl, .ended l 16⟩ := by
          have hc : Wc.chg A ⟨wid, wlo, whi, wpl, .hears l⟩ = ([], 16) := by
            unfold Wc.chg
            rw [if_neg (by have := ok.rev; show ¬ A.rev < wpl; omega), if_pos hpp]
          unfold Wc.feed
          simp only []
          rw [hc, if_pos (by simp)]
        have hs5 := hs4.set (o' := .row 7 [rqC ⟨wid, wlo, whi, wpl, .ended l 16⟩ bv] 1)
        simp (disch := omega) only [go_sem, simprocAttr, he, c2, hy, m1]
        obtain ⟨Z2, g1, g2⟩ := fin hf.symm hs5
        exact ⟨hil, Z2, g1, g2⟩
      · have c2 : decide (wpl ≤ A.past) = false := by simpa using hpp
        have hch := heard_eq ok (w := ⟨wid, wlo, whi, wpl, .hears l⟩) hpp
        simp (disch := omega) only [go_sem, simprocAttr, he, c2]
        refine call_use (rhHeard (w := ⟨wid, wlo, whi, wpl, .hears l⟩) (hs4.p3.p2.p4.p3.p4) hz) ?_
        intro r h hs
        have hcl : (Wc.chg A ⟨wid, wlo, whi, wpl, .hears l⟩).1.length ≤ A.chs.length := by rw [hch]; exact List.length_filter_le _ _
        have hcl2 : (Wc.chg A ⟨wid, wlo, whi, wpl, .hears l⟩).1 = A.chs.filter fun v => decide (wpl ≤ v.rev) && inK wlo whi v.c.key := by rw [hch]
        simp only [] at hs
        rw [← hcl2] at hs
        have hce : (Wc.chg A ⟨wid, wlo, whi, wpl, .hears l⟩).2 = 0 := by rw [hch]
        have lenR := hs.els.len
        have lenB := BuP.len (hs.p4)
        have hev : l.length ≤ 16 := hev
        rw [List.length_map] at lenR
        have hy := hs.p2.at
        have lenB : lenL bv = some (.int .i64 l.length) := lenB
        simp (disch := omega) only [go_sem, simprocAttr, he, lenR, lenB, hy]
        by_cases hov : 16 < l.length + (Wc.chg A ⟨wid, wlo, whi, wpl, .hears l⟩).1.length
        · have c3 : decide ((l.length : Int) + ((Wc.chg A ⟨wid, wlo, whi, wpl, .hears l⟩).1.length : Int) > 16) = true := by simp; omega
          have hf : Wc.feed A ⟨wid, wlo, whi, wpl, .hears l⟩ = ⟨wid, wlo, whi, wpl, .ended l 14⟩ := by
            unfold Wc.feed
            simp only []
            rw [if_neg (by rw [hce]; simp), if_pos hov]
          have hs5 := hs.p2.set (o' := .row 7 [rqC ⟨wid, wlo, whi, wpl, .ended l 14⟩ bv] 1)
          simp (disch := omega) only [go_sem, simprocAttr, he, c3, hy, m1]
          obtain ⟨Z2, g1, g2⟩ := fin hf.symm (hs5.p1.drop.p2.p4.p3.p4.p4)
          exact ⟨hil, Z2, g1, g2⟩
        · have c3 : decide ((l.length : Int) + ((Wc.chg A ⟨wid, wlo, whi, wpl, .hears l⟩).1.length : Int) > 16) = false := by simp; omega
          simp (disch := omega) only [go_sem, simprocAttr, he, c3]
          refine new_opq hs fun n h hs => ?_
          have hy := hs.p3.at
          simp (disch := omega) only [go_sem, simprocAttr, he, hy]
          refine app_sat (hs.ow (Nat.zero_le _)) (BuP.src hs.p5) (atoms_ev2 _) (by simp only [List.length_nil, List.length_map]; show (0 + l.length) * 80 ≤ _; omega) fun v1 h hs ca aa => ?_
          simp (disch := omega) only [go_sem, simprocAttr, he, ca, aa]
          refine app_sat hs (hs.p1.els.1) (atoms_ev2 _) (by simp only [List.nil_append, List.length_map]; show (l.length + _) * 80 ≤ _; omega) fun v2 h hs ca aa => ?_
          have hf : Wc.feed A ⟨wid, wlo, whi, wpl, .hears l⟩ = ⟨wid, wlo, whi, max wpl (A.rev + 1), .hears (l ++ (Wc.chg A ⟨wid, wlo, whi, wpl, .hears l⟩).1)⟩ := by
            unfold Wc.feed
            simp only []
            rw [if_neg (by rw [hce]; simp), if_neg hov]
          have em : (if wpl < A.rev + 1 then A.rev + 1 else wpl) = max wpl (A.rev + 1) := by split <;> omega
          have hpl2 : wpl ≤ 9223372036854775807 := hpl2
          have hy := hs.p3.at
          have hs5 := hs.p3.set (o' := .row 7 [rqC ⟨wid, wlo, whi, wpl, .hears l⟩ v2] 1)
          have hy5 := hs5.at
          have hq5 := hs5.p3.at
          obtain ⟨o, ev, nw, hx5⟩ := rx_row hs5.p4
          have hs6 := hs.p3.set (o' := .row 7 [rqC ⟨wid, wlo, whi, max wpl (A.rev + 1), .hears l⟩ v2] 1)
          simp (disch := omega) only [go_sem, simprocAttr, he, ca, aa, hy, hy5, hq5, hx5, em, m1]
          rw [List.nil_append, ← List.map_append] at hs6
          obtain ⟨Z2, g1, g2⟩ := fin hf.symm ((BuP.of hs6.p2.drop.p4.drop.p3.p4.p4.p3.p4).p1)
          exact ⟨hil, Z2, g1, g2⟩
  · have c1 : ((i : Int) < X.length) = False := by simp; omega
    simp (disch := omega) only [go_sem, simprocAttr, he, hq, lenW, c1]
    refine hqP.2 ⟨wv, Z, ?_, hs⟩
    rw [hZ, List.take_of_length_le (by omega), List.drop_of_length_le (by omega), List.append_nil]; rfl
end
end Go.Proofs.YtaioncbpfckhaaaGreat
/- The document's hub of watchers: a poll. -/
set_option linter.unusedSimpArgs false
set_option linter.unusedVariables false
set_option maxRecDepth 10000
namespace Go.Proofs.YtaioncbpfckhaaaGreat
open Go.Hz

section
variable {h : Hp} {F G : List Asr} {q x p : Nat} {last : Int} {X : List Wc} {A : Sto} {l : List Ver} {wv bv : AV} {Y Z : List Wq}
theorem hq_cut {i : Nat} (hi : i < Z.length) (hs : sat h (hqRow q x wv last :: wqs wv Z :: (Z.map RqP ++ RxP x A :: F))) :
    sat h (pto Z[i].p (.row 7 [rqC Z[i].w Z[i].bv] 1) :: BuP Z[i].bv (mdE Z[i].w.md) :: hqRow q x wv last :: wqs wv Z :: RxP x A :: ((Z.take i ++ Z.drop (i + 1)).map RqP ++ F)) := by
  have e : Z.map RqP = (Z.take i).map RqP ++ RqP Z[i] :: (Z.drop (i + 1)).map RqP := by
    conv => lhs; rw [rq_split hi]
    rw [List.map_append, List.map_cons]
  rw [e] at hs
  have h2 : sat h ((hqRow q x wv last :: wqs wv Z :: (Z.take i).map RqP) ++ RqP Z[i] :: ((Z.drop (i + 1)).map RqP ++ RxP x A :: F)) := by simpa using hs
  have h3 := rqP.1 (sat.mid h2)
  have h4 : sat h ((pto Z[i].p (.row 7 [rqC Z[i].w Z[i].bv] 1) :: BuP Z[i].bv (mdE Z[i].w.md) :: hqRow q x wv last :: wqs wv Z :: (Z.take i ++ Z.drop (i + 1)).map RqP) ++ RxP x A :: F) := by simpa using h3
  have h5 := sat.mid h4
  exact h5.p4.p4.p4.p4
theorem hq_fin {i : Nat} (hi : i < Z.length) {w' : Wc} {bv' : AV} (hX : Z.map Wq.w = X) (hs : sat h (pto Z[i].p (.row 7 [rqC w' bv'] 1) :: BuP bv' (mdE w'.md) :: hqRow q x wv last :: wqs wv Z :: RxP x A :: ((Z.take i ++ Z.drop (i + 1)).map RqP ++ F))) :
    sat h (HqP q x last (X.set i w') :: RxP x A :: F) := by
  have g1 := (rqP (y := ⟨w', Z[i].p, bv'⟩)).2 hs
  have g2 : sat h (RqP ⟨w', Z[i].p, bv'⟩ :: ((hqRow q x wv last :: wqs wv Z :: RxP x A :: (Z.take i).map RqP) ++ ((Z.drop (i + 1)).map RqP ++ F))) := by simpa using g1
  have g3 := sat.unmid g2
  have g4 : sat h (RxP x A :: ((hqRow q x wv last :: wqs wv Z :: (Z.set i ⟨w', Z[i].p, bv'⟩).map RqP) ++ F)) := by
    rw [List.set_eq_take_append_cons_drop, if_pos hi]
    have : sat h (hqRow q x wv last :: wqs wv Z :: RxP x A :: ((Z.take i).map RqP ++ RqP ⟨w', Z[i].p, bv'⟩ :: ((Z.drop (i + 1)).map RqP ++ F))) := by simpa using g3
    simpa using this.p1.p1.p2
  have g5 := sat.unmid g4
  have ew : wqs wv (Z.set i ⟨w', Z[i].p, bv'⟩) = wqs wv Z := by
    unfold wqs; rw [wqs_set (y := ⟨w', Z[i].p, bv'⟩) hi rfl]
  refine hqP.2 ⟨wv, Z.set i ⟨w', Z[i].p, bv'⟩, by rw [set_map, hX], ?_⟩
  rw [ew]
  simpa using g5
theorem hq_gone {i : Nat} (hi : i < Z.length) {wv' : AV} (hX : Z.map Wq.w = X) (hs : sat h (hqRow q x wv' last :: wqs wv' (Z.take i ++ Z.drop (i + 1)) :: (Z.map RqP ++ RxP x A :: F))) :
    sat h (HqP q x last (X.take i ++ X.drop (i + 1)) :: RxP x A :: F) := by
  have e : Z.map RqP = (Z.take i).map RqP ++ RqP Z[i] :: (Z.drop (i + 1)).map RqP := by
    conv => lhs; rw [rq_split hi]
    rw [List.map_append, List.map_cons]
  rw [e] at hs
  have h2 : sat h ((hqRow q x wv' last :: wqs wv' (Z.take i ++ Z.drop (i + 1)) :: (Z.take i).map RqP) ++ RqP Z[i] :: ((Z.drop (i + 1)).map RqP ++ RxP x A :: F)) := by simpa using hs
  have h3 := (sat.mid h2).drop
  refine hqP.2 ⟨wv', Z.take i ++ Z.drop (i + 1), by rw [List.map_append, List.map_take, List.map_drop, hX], ?_⟩
  simpa using h3
theorem lastV_take {k : Nat} (h0 : 0 < k) (hk : k ≤ l.length) : lastV (l.take k) = (l[k - 1]'(by omega)).rev := by
  unfold lastV
  rw [List.getLast?_eq_getElem?, List.length_take, Nat.min_eq_left hk, List.getElem?_take, if_pos (by omega), List.getElem?_eq_getElem (by omega)]
theorem hPoll_at {i : Nat} (hi : i < X.length) (hn : (X.map Wc.id).Nodup) {mo : Int} : hPoll A X X[i].id mo = ((X[i].poll A mo).1, match (X[i].poll A mo).2 with
    | some w' => X.set i w'
    | none => X.take i ++ X.drop (i + 1)) := by
  have e : X = X.take i ++ X[i] :: X.drop (i + 1) := by
    rw [← List.drop_eq_getElem_cons hi, List.take_append_drop]
  have h1 : (((X.take i) ++ X[i] :: X.drop (i + 1)).map Wc.id).Nodup := e ▸ hn
  have h2 := hPoll_some (A := A) (most := mo) h1
  rw [← e] at h2
  rw [h2]
  cases (X[i].poll A mo).2 with
  | none => rfl
  | some w' => simp only []; rw [List.set_eq_take_append_cons_drop, if_pos hi]
theorem nd_at {i j : Nat} (hi : i < X.length) (hj : j < X.length) (hn : (X.map Wc.id).Nodup) (h : X[i].id = X[j].id) : i = j := by
  have h1 := List.nodup_iff_pairwise_ne.1 hn
  rw [List.pairwise_map] at h1
  have h2 := List.pairwise_iff_getElem.1 h1
  rcases Nat.lt_trichotomy i j with h3 | h3 | h3
  · exact absurd h (h2 i j hi hj h3)
  · exact h3
  · exact absurd h.symm (h2 j i hj hi h3)
set_option maxHeartbeats 1000000 in
theorem rhPollO {id mo : Int} (hs : sat h (HqP q x last X :: RxP x A :: F)) (hX : HbOK last X) (hE : EndOK X) (hl : X.length ≤ 1000000) (hmo : i64 mo) (hz : A.chs.length ≤ 1000000) (hr : A.rev ≤ 1000000000000000) (ok : StoOK A) :
    Triple Tryz.prog 22 [.ptr q 3 0 0, .int .i64 id, .int .i64 mo] h (fun r h => ∃ v, r = .tup [v, .int .i64 (hPoll A X id mo).1.2] ∧ sat h (Ow 8 v ((hPoll A X id mo).1.1.map evC) :: HqP q x last (hPoll A X id mo).2 :: RxP x A :: F)) := by
  obtain ⟨wv, Z, hY, hs2⟩ := hqP.1 hs
  have hr0 : 0 ≤ A.rev := by have := ok.past; have := ok.rev; omega
  have hZl : Z.length = X.length := by rw [← hY, List.length_map]
  have em : (if mo < 1 then (1 : Int) else mo) = max mo 1 := by split <;> omega
  refine t22 (Nat.le_of_ble_eq_true rfl) ?_
  simp (disch := omega) only [F22, go_sem, simprocAttr]
  refine call_use (rhAt (id := id) hs2 (by omega)) ?_
  rintro r h ⟨⟨k, hr, hk⟩, hs⟩
  subst hr
  rw [hY] at hk
  rcases hk with ⟨rfl, hno⟩ | ⟨i, hi, rfl, hid⟩
  · have c1 : ((-1 : Int) < 0) = True := by simp
    rw [hPoll_none hno]
    simp (disch := omega) only [go_sem, simprocAttr, c1]
    exact ⟨.nils, rfl, (hqP.2 ⟨wv, Z, hY, hs⟩).add ow_nil⟩
  have hiZ : i < Z.length := by omega
  have hw : Z[i].w = X[i] := by
    have h1 : (Z.map Wq.w)[i]? = X[i]? := by rw [hY]
    rw [List.getElem?_map, List.getElem?_eq_getElem hiZ, List.getElem?_eq_getElem hi] at h1
    exact Option.some.inj h1
  have hpo := hPoll_at (A := A) (mo := mo) hi hX.nd
  rw [hid] at hpo
  rw [hpo]
  have c1 : ((i : Int) < 0) = False := by simp
  have hxi := List.getElem_mem hi
  have hs4 := hq_cut hiZ hs
  have hq := hs4.p2.at
  obtain ⟨b, cap, hv, hb, hrow⟩ := ptr_row hiZ hs.p1
  have hy := hs4.at
  subst hv
  obtain ⟨hpl1, hpl2⟩ := hX.pl _ hxi
  have hev := hX.ev _ hxi
  have hend := hE _ hxi
  obtain ⟨o, ev, nw, hx⟩ := rx_row hs4.p4
  rw [hw] at hy hs4
  have hndi := fun j (hj : j < X.length) => nd_at hi hj hX.nd
  obtain ⟨w, hwe⟩ : ∃ w, X[i] = w := ⟨_, rfl⟩
  rw [hwe] at hy hs4 hid hpl1 hpl2 hev hend hndi ⊢
  obtain ⟨bv, hbv⟩ : ∃ bv, Z[i].bv = bv := ⟨_, rfl⟩
  rw [hbv] at hy hs4
  obtain ⟨wid, wlo, whi, wpl, md⟩ := w
  have hid : wid = id := hid
  subst hid
  cases md with
  | behind =>
    simp (disch := omega) only [go_sem, simprocAttr, c1, hq, hb, hrow, hy, Int.toNat_natCast, em, mdB, hx]
    by_cases hpp : wpl ≤ A.past
    · have c2 : decide (wpl ≤ A.past) = true := by simpa using hpp
      have e1 : Wc.poll A ⟨wid, wlo, whi, wpl, .behind⟩ mo = (([], 16), none) := by
        unfold Wc.poll
        simp only []
        rw [if_pos hpp]
      rw [e1]
      simp (disch := omega) only [go_sem, simprocAttr, c2]
      refine call_use (rhClose (id := wid) hs (by omega)) ?_
      rintro r h (⟨hr, hno, hs⟩ | ⟨j, hj, wv', hr, hjd, hs⟩)
      · exact absurd (show Z[i].w.id = wid by rw [hw, hwe]) (hno _ (List.mem_map_of_mem (List.getElem_mem hiZ)))
      · subst hr
        have hjw : Z[j].w = X[j]'(by omega) := by
          have h1 : (Z.map Wq.w)[j]? = X[j]? := by rw [hY]
          rw [List.getElem?_map, List.getElem?_eq_getElem hj, List.getElem?_eq_getElem (by omega)] at h1
          exact Option.some.inj h1
        rw [hjw] at hjd
        have hij := hndi j (by omega) hjd.symm
        subst hij
        simp (disch := omega) only [go_sem, simprocAttr]
        exact ⟨.nils, rfl, (hq_gone hj hY hs).add ow_nil⟩
    · have c2 : decide (wpl ≤ A.past) = false := by simpa using hpp
      have hch := heard_eq ok (w := ⟨wid, wlo, whi, wpl, .behind⟩) hpp
      simp (disch := omega) only [go_sem, simprocAttr, c2]
      refine call_use (rhHeard (w := ⟨wid, wlo, whi, wpl, .behind⟩) (hs4.p3.p2.p4.p3.p4) hz) ?_
      intro r h hs
      have hcl : (Wc.chg A ⟨wid, wlo, whi, wpl, .behind⟩).1.length ≤ A.chs.length := by rw [hch]; exact List.length_filter_le _ _
      have hcl2 : (Wc.chg A ⟨wid, wlo, whi, wpl, .behind⟩).1 = A.chs.filter fun v => decide (wpl ≤ v.rev) && inK wlo whi v.c.key := by rw [hch]
      simp only [] at hs
      rw [← hcl2] at hs
      have e1 : Wc.poll A ⟨wid, wlo, whi, wpl, .behind⟩ mo = if someK (Wc.chg A ⟨wid, wlo, whi, wpl, .behind⟩).1 (max mo 1) < (Wc.chg A ⟨wid, wlo, whi, wpl, .behind⟩).1.length then (((Wc.chg A ⟨wid, wlo, whi, wpl, .behind⟩).1.take (someK (Wc.chg A ⟨wid, wlo, whi, wpl, .behind⟩).1 (max mo 1)), 0), some ⟨wid, wlo, whi, lastV ((Wc.chg A ⟨wid, wlo, whi, wpl, .behind⟩).1.take (someK (Wc.chg A ⟨wid, wlo, whi, wpl, .behind⟩).1 (max mo 1))) + 1, .behind⟩)
          else (((Wc.chg A ⟨wid, wlo, whi, wpl, .behind⟩).1.take (someK (Wc.chg A ⟨wid, wlo, whi, wpl, .behind⟩).1 (max mo 1)), 0), some ⟨wid, wlo, whi, max wpl (A.rev + 1), .hears []⟩) := by
        unfold Wc.poll
        simp only []
        rw [if_neg hpp]
      rw [e1]
      have hcm : ∀ v ∈ (Wc.chg A ⟨wid, wlo, whi, wpl, .behind⟩).1, v ∈ A.chs := Wc.chg_rev
      generalize (Wc.chg A ⟨wid, wlo, whi, wpl, .behind⟩).1 = C at hs hcl hcm ⊢
      obtain ⟨R, hR⟩ : ∃ R : List Asr, R = hqRow q x (.arr b 1 0 Z.length cap) last :: pto Z[i].p (.row 7 [rqC ⟨wid, wlo, whi, wpl, .behind⟩ bv] 1) :: RxP x A :: BuP bv [] :: wqs (.arr b 1 0 Z.length cap) Z :: ((Z.take i ++ Z.drop (i + 1)).map RqP ++ F) := ⟨_, rfl⟩
      have hs : sat h (Ow 8 r (C.map evC) :: R) := by rw [hR]; exact hs
      obtain ⟨k, hk⟩ : ∃ k, someK C (max mo 1) = k := ⟨_, rfl⟩
      rw [hk]
      have hkl : k ≤ C.length := hk ▸ someK_le
      have lenE := hs.els.len
      rw [List.length_map] at lenE
      simp (disch := omega) only [go_sem, simprocAttr]
      refine blk_join (Q := fun e h => sat h (Ow 8 r (C.map evC) :: R) ∧ (e 0 = .ptr q 3 0 0 ∧ e 9 = .ptr Z[i].p 7 0 0 ∧ e 10 = r ∧ e 11 = .int .i64 k)) ?_ ?_
      · refine run_loopN (fun m e h => ∃ n, n ≤ C.length ∧ m = C.length - n ∧ someN C (max mo 1) n (C.length + 1 - n) = k ∧ sat h (Ow 8 r (C.map evC) :: R) ∧ (e 0 = .ptr q 3 0 0 ∧ e 2 = .int .i64 (max mo 1) ∧ e 9 = .ptr Z[i].p 7 0 0 ∧ e 10 = r ∧ e 11 = .int .i64 n)) C.length ⟨0, Nat.zero_le _, rfl, hk, hs, by simp [Env.upd_apply, initE]⟩ ?_
        clear hs hs4 hq hb hrow hy hx
        rintro m e h ⟨n, hn, rfl, hsk, hs, he⟩
        simp (disch := omega) only [go_sem, simprocAttr, he, lenE]
        by_cases h1 : n < C.length
        · have c1 : ((n : Int) < (C.length : Int)) = True := by simp; omega
          have e1 : someN C (max mo 1) n (C.length + 1 - n) = if 0 < n ∧ max mo 1 < (runEnd C n : Int) then n else someN C (max mo 1) (runEnd C n) (C.length - n) := by
            rw [show C.length + 1 - n = (C.length - n) + 1 by omega]
            show (if n < C.length then _ else _) = _
            rw [if_pos h1]
          have hgt := runEnd_gt h1
          have hle := runEnd_le hn
          have hin := fun k => runEnd_in (k := k) h1
          have hout := runEnd_out h1
          rw [e1] at hsk
          have m0 : (n : Int) + 1 = ((n + 1 + 0 : Nat) : Int) := by omega
          simp (disch := omega) only [go_sem, simprocAttr, c1, he, m0]
          refine blk_join (Q := fun e h => sat h (Ow 8 r (C.map evC) :: R) ∧ (e 0 = .ptr q 3 0 0 ∧ e 2 = .int .i64 (max mo 1) ∧ e 9 = .ptr Z[i].p 7 0 0 ∧ e 10 = r ∧ e 11 = .int .i64 n ∧ e 12 = .int .i64 (runEnd C n))) ?_ ?_
          · refine run_up (N := runEnd C n - (n + 1)) (fun t e h => sat h (Ow 8 r (C.map evC) :: R) ∧ (e 0 = .ptr q 3 0 0 ∧ e 2 = .int .i64 (max mo 1) ∧ e 9 = .ptr Z[i].p 7 0 0 ∧ e 10 = r ∧ e 11 = .int .i64 n ∧ e 12 = .int .i64 (n + 1 + t : Nat))) ⟨hs, by simp [Env.upd_apply, he]⟩ ?_
            clear hs he
            rintro t e h ht ⟨hs, he⟩
            have m1 : ((n + 1 + t : Nat) : Int) + 1 = ((n + 1 + (t + 1) : Nat) : Int) := by omega
            obtain ⟨b, cap, hv, hb, hrn⟩ := ev_row2 hs h1
            by_cases h2 : n + 1 + t < runEnd C n
            · obtain ⟨h3, h4⟩ := hin (n + 1 + t) (by omega) h2
              obtain ⟨_, _, _, _, hrk⟩ := ev_row2 hs h3
              have c2 : (((n + 1 + t : Nat) : Int) < (C.length : Int)) = True := by simp; omega
              have c3 : (C[n + 1 + t].rev == C[n].rev) = true := by simpa using h4
              rw [evC_eq2] at hrn hrk
              subst hv
              simp (disch := omega) only [go_sem, simprocAttr, he, lenE, c2, hb, hrn, hrk, c3, m1, Int.toNat_natCast]
              exact ⟨by omega, hs⟩
            · have h5 : n + 1 + t = runEnd C n := by omega
              by_cases h3 : n + 1 + t < C.length
              · obtain ⟨_, _, _, _, hrk⟩ := ev_row2 hs h3
                have c2 : (((n + 1 + t : Nat) : Int) < (C.length : Int)) = True := by simp; omega
                have c3 : (C[n + 1 + t].rev == C[n].rev) = false := by
                  rw [beq_eq_false_iff_ne]
                  have := hout (by omega)
                  simp only [← h5] at this
                  exact this
                rw [evC_eq2] at hrn hrk
                subst hv
                simp (disch := omega) only [go_sem, simprocAttr, he, lenE, c2, hb, hrn, hrk, c3, Int.toNat_natCast]
                exact ⟨hs, by rw [h5]⟩
              · have c2 : (((n + 1 + t : Nat) : Int) < (C.length : Int)) = False := by simp; omega
                simp (disch := omega) only [go_sem, simprocAttr, he, lenE, c2]
                exact ⟨hs, by rw [h5]⟩
          clear hs he
          rintro e h ⟨hs, he⟩
          simp (disch := omega) only [go_sem, simprocAttr, he]
          by_cases h2 : 0 < n ∧ max mo 1 < (runEnd C n : Int)
          · rw [if_pos h2] at hsk
            have c2 : ((n : Int) > 0) = True := by simp; omega
            have c3 : ((runEnd C n : Int) > max mo 1) = True := by simp only [eq_iff_iff, iff_true]; omega
            simp (disch := omega) only [go_sem, simprocAttr, he, c2, c3]
            exact ⟨hs, by rw [hsk]⟩
          · rw [if_neg h2] at hsk
            by_cases h3 : 0 < n
            case' pos =>
              have c2 : ((n : Int) > 0) = True := by simp; omega
              have c3 : ((runEnd C n : Int) > max mo 1) = False := eq_false fun h => h2 ⟨h3, by omega⟩
              simp (disch := omega) only [go_sem, simprocAttr, he, c2, c3]
            case' neg =>
              have c2 : ((n : Int) > 0) = False := eq_false (by omega)
              simp (disch := omega) only [go_sem, simprocAttr, he, c2]
            all_goals
              refine ⟨C.length - runEnd C n, by omega, runEnd C n, hle, rfl, ?_, hs, rfl⟩
              rw [← hsk]
              exact someN_fuel (by omega) (by omega) hle
        · have c1 : ((n : Int) < (C.length : Int)) = False := by simp; omega
          have e1 : someN C (max mo 1) n (C.length + 1 - n) = n := by
            rw [show C.length + 1 - n = (C.length - n) + 1 by omega]
            show (if n < C.length then _ else _) = _
            rw [if_neg h1]
          simp (disch := omega) only [go_sem, simprocAttr, c1, he]
          exact ⟨hs, by rw [← hsk, e1]⟩
      clear hs hs4 hq hb hrow hy hx
      rintro e h ⟨hs, he⟩
      have em2 : (if wpl < A.rev + 1 then A.rev + 1 else wpl) = max wpl (A.rev + 1) := by split <;> omega
      by_cases hkC : k < C.length
      · have c3 : ((k : Int) < (C.length : Int)) = True := by simp; omega
        rw [if_pos hkC]
        have hC0 : C ≠ [] := by intro h; rw [h] at hkC; simp at hkC
        have hk0 : 0 < k := hk ▸ someK_pos' hC0
        have hlv := lastV_take hk0 hkl
        obtain ⟨x1, x2, hx1, _, hsrc, _, _, _⟩ := BuP.parts (BuP.of hs) hkl
        rw [hR] at hs
        have mk : (k : Int) - 1 = ((k - 1 : Nat) : Int) := by omega
        obtain ⟨b2, cap2, hv2, hb2, hrk⟩ := ev_row2 hs (i := k - 1) (by omega)
        have hcr := ok.chr _ (hcm _ (List.getElem_mem (show k - 1 < C.length by omega)))
        have hre := ok.rev
        have hpa := ok.past
        rw [hlv]
        generalize C[k - 1]'(by omega) = y at hrk hcr ⊢
        rw [evC_eq2] at hrk
        have hy := hs.p2.at
        have hs5 := hs.p2.set (o' := .row 7 [rqC ⟨wid, wlo, whi, y.rev + 1, .behind⟩ bv] 1)
        subst hv2
        simp (disch := omega) only [go_sem, simprocAttr, he, lenE, c3, mk, hb2, hrk, hy, hx1, Int.toNat_natCast]
        generalize Hp.set h Z[i].p _ = h3 at hs5 ⊢
        refine new_opq hs5 fun n h hs => ?_
        simp (disch := omega) only [go_sem, simprocAttr, he, hx1]
        refine app_sat (hs.ow (Nat.zero_le _)) (hsrc _ _ (BuP.of hs.p2)) (atoms_ev2 _) (by simp only [List.length_nil, List.length_map, List.length_take]; omega) fun v1 h hs ca aa => ?_
        simp (disch := omega) only [go_sem, simprocAttr, he, ca, aa]
        exact ⟨v1, rfl, (hs.p2.drop.p3.p5.p4.p5.p5.p5).tl fun h g => hq_fin (w' := ⟨wid, wlo, whi, y.rev + 1, .behind⟩) hiZ hY g⟩
      · have c3 : ((k : Int) < (C.length : Int)) = False := by simp; omega
        rw [if_neg hkC]
        obtain ⟨x1, x2, hx1, _, hsrc, _, _, _⟩ := BuP.parts (BuP.of hs) hkl
        rw [hR] at hs
        have hpl2 : wpl ≤ 9223372036854775807 := hpl2
        have hq := hs.p1.at
        have hy := hs.p2.at
        obtain ⟨o, ev, nw, hx⟩ := rx_row hs.p3
        have hs5 := hs.p2.set (o' := .row 7 [rqC ⟨wid, wlo, whi, max wpl (A.rev + 1), .behind⟩ bv] 1)
        have hy5 := hs5.at
        have hs6 := hs.p2.set (o' := .row 7 [rqC ⟨wid, wlo, whi, max wpl (A.rev + 1), .hears []⟩ bv] 1)
        simp (disch := omega) only [go_sem, simprocAttr, he, lenE, c3, hq, hy, hx, em2, hy5, hx1]
        refine new_opq hs6 fun n h hs => ?_
        simp (disch := omega) only [go_sem, simprocAttr, he, hx1]
        refine app_sat (hs.ow (Nat.zero_le _)) (hsrc _ _ (BuP.of hs.p2)) (atoms_ev2 _) (by simp only [List.length_nil, List.length_map, List.length_take]; omega) fun v1 h hs ca aa => ?_
        simp (disch := omega) only [go_sem, simprocAttr, he, ca, aa]
        exact ⟨v1, rfl, (hs.p2.drop.p3.p5.p4.p5.p5.p5).tl fun h g => hq_fin (w' := ⟨wid, wlo, whi, max wpl (A.rev + 1), .hears []⟩) hiZ hY g⟩
  | hears L =>
    have hL : L.length ≤ 16 := hev
    have lenB : lenL bv = some (.int .i64 L.length) := BuP.len hs4.p1
    obtain ⟨n, hn⟩ : ∃ n, min (max mo 1).toNat L.length = n := ⟨_, rfl⟩
    have hnL : n ≤ L.length := by omega
    obtain ⟨x1, x2, hx1, hx2, hsrc, hrst, ca2, aa2⟩ := BuP.parts (l := L) hs4.p1 hnL
    have en : (if (L.length : Int) < max mo 1 then (L.length : Int) else max mo 1) = (n : Int) := by split <;> omega
    have en2 : (if max mo 1 < (L.length : Int) then max mo 1 else (L.length : Int)) = (n : Int) := by split <;> omega
    have e1 : Wc.poll A ⟨wid, wlo, whi, wpl, .hears L⟩ mo = ((L.take n, 0), some ⟨wid, wlo, whi, wpl, .hears (L.drop n)⟩) := by
      unfold Wc.poll
      simp only [hn]
    rw [e1]
    simp (disch := omega) only [go_sem, simprocAttr, c1, hq, hb, hrow, hy, Int.toNat_natCast, em, mdB, hx, lenB]
    by_cases hl0 : L.length = 0
    case' pos => have c3 : ((L.length : Int) == 0) = true := by rw [hl0]; rfl
    case' neg => have c3 : ((L.length : Int) == 0) = false := by rw [beq_eq_false_iff_ne]; omega
    all_goals
      simp (disch := omega) only [go_sem, simprocAttr, c3, hy, mdN, lenB, en, en2]
      refine new_opq hs4 fun a h hs => ?_
      have hy := hs.p1.at
      simp (disch := omega) only [go_sem, simprocAttr, hy, hx1]
      refine app_sat (hs.ow (Nat.zero_le _)) (hsrc _ _ hs.p2) (atoms_ev2 _) (by simp only [List.length_nil, List.length_map, List.length_take]; omega) fun v1 h hs ca aa => ?_
      have hy := hs.p1.at
      have hs5 := hs.p1.set (o' := .row 7 [rqC ⟨wid, wlo, whi, wpl, .hears (L.drop n)⟩ x2] 1)
      simp (disch := omega) only [go_sem, simprocAttr, hy, hx2, ca, aa, ca2, aa2]
      exact ⟨v1, rfl, (hs5.p5.p5.p5.p5.p4.p5).tl fun h g => hq_fin (w' := ⟨wid, wlo, whi, wpl, .hears (L.drop n)⟩) hiZ hY ((hrst _ _ g.p1).p1)⟩
  | ended L why =>
    have hL : L.length ≤ 16 := hev
    have lenB : lenL bv = some (.int .i64 L.length) := BuP.len hs4.p1
    have hw0 : why ≠ 0 := hend L why rfl
    have cw : (why != 0) = true := by simpa using hw0
    obtain ⟨n, hn⟩ : ∃ n, min (max mo 1).toNat L.length = n := ⟨_, rfl⟩
    have hnL : n ≤ L.length := by omega
    obtain ⟨x1, x2, hx1, hx2, hsrc, hrst, ca2, aa2⟩ := BuP.parts (l := L) hs4.p1 hnL
    have en : (if (L.length : Int) < max mo 1 then (L.length : Int) else max mo 1) = (n : Int) := by split <;> omega
    have en2 : (if max mo 1 < (L.length : Int) then max mo 1 else (L.length : Int)) = (n : Int) := by split <;> omega
    simp (disch := omega) only [go_sem, simprocAttr, c1, hq, hb, hrow, hy, Int.toNat_natCast, em, mdB, hx, lenB]
    by_cases hl0 : L.length = 0
    · have c3 : ((L.length : Int) == 0) = true := by rw [hl0]; rfl
      have e1 : Wc.poll A ⟨wid, wlo, whi, wpl, .ended L why⟩ mo = (([], why), none) := by
        unfold Wc.poll
        simp only []
        rw [hn, if_pos (by omega)]
      rw [e1]
      simp (disch := omega) only [go_sem, simprocAttr, c3, hy, mdN, lenB, cw]
      refine call_use (rhClose (id := wid) hs (by omega)) ?_
      rintro r h (⟨hr, hno, hs⟩ | ⟨j, hj, wv', hr, hjd, hs⟩)
      · exact absurd (show Z[i].w.id = wid by rw [hw, hwe]) (hno _ (List.mem_map_of_mem (List.getElem_mem hiZ)))
      · subst hr
        have hjw : Z[j].w = X[j]'(by omega) := by
          have h1 : (Z.map Wq.w)[j]? = X[j]? := by rw [hY]
          rw [List.getElem?_map, List.getElem?_eq_getElem hj, List.getElem?_eq_getElem (by omega)] at h1
          exact Option.some.inj h1
        have hjd2 := hjd
        rw [hjw] at hjd2
        have hij := hndi j (by omega) hjd2.symm
        subst hij
        have hy := rq_row hj hs.drop.drop
        rw [hw, hwe] at hy
        simp (disch := omega) only [go_sem, simprocAttr, hy, mdN]
        exact ⟨.nils, rfl, (hq_gone hj hY hs).add ow_nil⟩
    · have c3 : ((L.length : Int) == 0) = false := by rw [beq_eq_false_iff_ne]; omega
      have e1 : Wc.poll A ⟨wid, wlo, whi, wpl, .ended L why⟩ mo = ((L.take n, 0), some ⟨wid, wlo, whi, wpl, .ended (L.drop n) why⟩) := by
        unfold Wc.poll
        simp only []
        rw [hn, if_neg (by omega)]
      rw [e1]
      simp (disch := omega) only [go_sem, simprocAttr, c3, hy, mdN, lenB, en, en2]
      refine new_opq hs4 fun a h hs => ?_
      have hy := hs.p1.at
      simp (disch := omega) only [go_sem, simprocAttr, hy, hx1]
      refine app_sat (hs.ow (Nat.zero_le _)) (hsrc _ _ hs.p2) (atoms_ev2 _) (by simp only [List.length_nil, List.length_map, List.length_take]; omega) fun v1 h hs ca aa => ?_
      have hy := hs.p1.at
      have hs5 := hs.p1.set (o' := .row 7 [rqC ⟨wid, wlo, whi, wpl, .ended (L.drop n) why⟩ x2] 1)
      simp (disch := omega) only [go_sem, simprocAttr, hy, hx2, ca, aa, ca2, aa2]
      exact ⟨v1, rfl, (hs5.p5.p5.p5.p5.p4.p5).tl fun h g => hq_fin (w' := ⟨wid, wlo, whi, wpl, .ended (L.drop n) why⟩) hiZ hY ((hrst _ _ g.p1).p1)⟩
theorem rhPoll {id mo : Int} (hs : sat h (HqP q x last X :: RxP x A :: F)) (hX : HbOK last X) (hE : EndOK X) (hl : X.length ≤ 1000000) (hmo : i64 mo) (hz : A.chs.length ≤ 1000000) (hr : A.rev ≤ 1000000000000000) (ok : StoOK A) :
    Triple Tryz.prog 22 [.ptr q 3 0 0, .int .i64 id, .int .i64 mo] h (fun r h => r = .tup [evsV (hPoll A X id mo).1.1, .int .i64 (hPoll A X id mo).1.2] ∧ sat h (HqP q x last (hPoll A X id mo).2 :: RxP x A :: F)) :=
  Triple.lst1 8 ((rhPollO hs hX hE hl hmo hz hr ok).mono fun r h ⟨v, hr, hs⟩ => ⟨v, _, _, _, hr, hs, fun h hs => ⟨rfl, hs⟩⟩)
end
end Go.Proofs.YtaioncbpfckhaaaGreat
/- The law MvccRanges, walked. -/
set_option linter.unusedSimpArgs false
set_option linter.unusedVariables false
set_option maxRecDepth 10000
namespace Go.Proofs.YtaioncbpfckhaaaGreat
open Go.Hz

section
end
end Go.Proofs.YtaioncbpfckhaaaGreat
/- The law MvccFull, walked. -/
set_option linter.unusedSimpArgs false
set_option linter.unusedVariables false
set_option maxRecDepth 10000
namespace Go.Proofs.YtaioncbpfckhaaaGreat
open Go.Hz

/-! ### so many keys, rising -/
def kf (i : Nat) : Key := [107, UInt8.ofNat (i / 256), UInt8.ofNat (i % 256)]
section
variable {h : Hp} {F : List Asr}
end
end Go.Proofs.YtaioncbpfckhaaaGreat
/- Calls of a store; the law MvccEvents, walked. -/
set_option linter.unusedSimpArgs false
set_option linter.unusedVariables false
set_option maxRecDepth 10000
namespace Go.Proofs.YtaioncbpfckhaaaGreat
open Go.Hz

section
variable {h : Hp} {F : List Asr}
end
end Go.Proofs.YtaioncbpfckhaaaGreat
/- The law MvccPast, walked. -/
set_option linter.unusedSimpArgs false
set_option linter.unusedVariables false
set_option maxRecDepth 10000
namespace Go.Proofs.YtaioncbpfckhaaaGreat
open Go.Hz

section
variable {h : Hp} {F : List Asr}
/-- The document deletes what the store deletes. -/
theorem wkeys_same {A : Sto} {W : Go.Hz.Wr} {lo hi : Key} {ks : List Key} (ok : StoOK A) (hw : WrOK A W) (hk : WKeys A W lo hi ks) : wDels W ks = wDels W ((W.cur.filter fun y => inK lo hi y.key).map Kv.key) := by
  obtain ⟨h1, _, h2⟩ := hk
  by_cases hh : hi = []
  · rw [if_pos hh] at h2
    subst h2
    refine wDels_same ok hw h1 (fun k hk => ?_) fun y hy hin => ?_
    · rw [List.mem_singleton.1 hk]; unfold inK; rw [if_pos hh]; simp
    · unfold inK at hin; rw [if_pos hh] at hin; simpa using hin
  · rw [if_neg hh] at h2
    refine wDels_same ok hw h1 (fun k hk => ?_) fun y hy hin => ?_
    · unfold inK; rw [if_neg hh]; exact ((h2 k).1 hk).2
    · unfold inK at hin; rw [if_neg hh] at hin
      refine (h2 _).2 ⟨?_, hin⟩
      cases hc : wChg W y.key with
      | true => exact .inr rfl
      | false =>
        left
        have hg := kvget_mem (hw.srt ok) hy
        rw [now_same ok hw hc, ← at_rev ok] at hg
        obtain ⟨h3, _⟩ := kvget_some hg
        exact at_vers ok ok.rev h3
end
end Go.Proofs.YtaioncbpfckhaaaGreat
/- Hubs of watchers: one is closed; what stays so. -/
set_option linter.unusedSimpArgs false
set_option linter.unusedVariables false
set_option maxRecDepth 10000
namespace Go.Proofs.YtaioncbpfckhaaaGreat
open Go.Hz

section
variable {h : Hp} {F G : List Asr} {q x hb s p : Nat} {last : Int} {X : List Wc} {A : Sto} {o : AV} {l : List Ver}
def hClose (X : List Wc) (id : Int) : Int × List Wc := if X.any (fun x => decide (x.id = id)) = true then (0, X.filter fun x => decide (x.id ≠ id)) else (2, X)
theorem hClose_none {id : Int} (h : ∀ w ∈ X, w.id ≠ id) : hClose X id = (2, X) := by
  unfold hClose
  rw [if_neg]
  simpa using h
theorem hClose_at {i : Nat} (hi : i < X.length) (hn : (X.map Wc.id).Nodup) : hClose X X[i].id = (0, X.take i ++ X.drop (i + 1)) := by
  unfold hClose
  rw [if_pos, filter_at hn hi rfl]
  rw [List.any_eq_true]
  exact ⟨X[i], List.getElem_mem hi, by simp⟩
theorem hbClose {id : Int} (hs : sat h (HbP hb s last X :: StP s A o :: F)) (hX : HbOK last X) :
    Triple Tryz.prog 24 [.ptr hb 3 0 0, .int .i64 id] h (fun r h => r = .int .i64 (hClose X id).1 ∧ sat h (HbP hb s last (hClose X id).2 :: StP s A o :: F)) := by
  obtain ⟨m, Y, hY, hs2⟩ := hbP.1 hs
  have hp := hs2.at
  rcases hX.split (id := id) with hno | ⟨l1, w, l2, hX1, hid⟩
  · have hlk := fun (k : Bool) (z : AV) => lk_miss keyOK_int hs2.p1 (ok := k) (z := z) (q := id) (fun q hq e => by
      obtain ⟨y, hy, rfl⟩ := List.mem_map.1 hq
      exact hno y.w (by rw [← hY]; exact List.mem_map_of_mem hy) e)
    rw [hClose_none hno]
    refine t24 (Nat.le_of_ble_eq_true rfl) ?_
    simp (disch := omega) only [F24, hp, hlk, go_sem, simprocAttr]
    exact hs
  subst hid
  obtain ⟨Y1, Y', hYe, hY1, hY'⟩ := List.map_eq_append_iff.1 (hY.trans hX1)
  obtain ⟨y, Y2, hYe2, hyw, hY2⟩ := List.map_eq_cons_iff.1 hY'
  subst hYe2 hYe hyw hY1 hY2
  have hcl : hClose X y.w.id = (0, Y1.map Wn.w ++ Y2.map Wn.w) := by
    have h1 := hClose_at (X := X) (i := Y1.length) (by rw [hX1]; simp) hX.nd
    have h2 : X[Y1.length]'(by rw [hX1]; simp) = y.w := by simp [hX1]
    rw [h2] at h1
    rw [h1, hX1]
    have h3 : (Y1.map Wn.w).length = Y1.length := by simp
    rw [← h3, List.take_left', List.drop_append, List.drop_of_length_le (by omega), show (Y1.map Wn.w).length + 1 - (Y1.map Wn.w).length = 1 by omega]
    · rfl
    · rfl
  rw [hcl]
  subst hX1
  have hnd : (((Y1 ++ y :: Y2).map wnK).map fun q => q.1).Nodup := by
    have := hX.nd
    rw [← hY] at this
    rw [List.map_map] at this ⊢
    exact this
  have hym : (y.w.id, y.p) ∈ (Y1 ++ y :: Y2).map wnK := List.mem_map.2 ⟨y, by simp, rfl⟩
  have hlk := fun (k : Bool) (z : AV) => lk_hit keyOK_int hs2.p1 hnd hym (ok := k) (z := z)
  have hs3 := hbCut hs2
  have hp3 := hs3.p3.at
  refine t24 (Nat.le_of_ble_eq_true rfl) ?_
  simp (disch := omega) only [F24, hp, hlk, go_sem, simprocAttr]
  refine del_hit keyOK_int (hs3.drop.drop.p1.p1.p2) hnd hym fun h hs => ?_
  have hs7 := hs.p2.p2
  rw [wnK_filter (y := y) hX.nd] at hs7
  simp (disch := omega) only [go_sem, simprocAttr]
  exact hbP.2 ⟨m, Y1 ++ Y2, by simp, hbGone hs7⟩
theorem rhCloseC {id : Int} (hs : sat h (HqP q x last X :: RxP x A :: F)) (hX : HbOK last X) (hl : X.length ≤ 1000000) :
    Triple Tryz.prog 25 [.ptr q 3 0 0, .int .i64 id] h (fun r h => r = .int .i64 (hClose X id).1 ∧ sat h (HqP q x last (hClose X id).2 :: RxP x A :: F)) := by
  obtain ⟨wv, Z, hY, hs2⟩ := hqP.1 hs
  have hZl : Z.length = X.length := by rw [← hY, List.length_map]
  refine (rhClose (id := id) hs2 (by omega)).mono ?_
  rintro r h (⟨hr, hno, hs⟩ | ⟨j, hj, wv', hr, hjd, hs⟩)
  · rw [hY] at hno
    rw [hClose_none hno]
    exact ⟨hr, hqP.2 ⟨wv, Z, hY, hs⟩⟩
  · have hjw : Z[j].w = X[j]'(by omega) := by
      have h1 : (Z.map Wq.w)[j]? = X[j]? := by rw [hY]
      rw [List.getElem?_map, List.getElem?_eq_getElem hj, List.getElem?_eq_getElem (by omega)] at h1
      exact Option.some.inj h1
    rw [hjw] at hjd
    have hc := hClose_at (X := X) (i := j) (by omega) hX.nd
    rw [hjd] at hc
    rw [hc]
    exact ⟨hr, hq_gone hj hY hs⟩
theorem HbOK.sub (hX : HbOK last X) {Y : List Wc} (hs : Y.Sublist X) : HbOK last Y :=
  ⟨List.Sublist.nodup (hs.map _) hX.nd, fun x hx => hX.id x (hs.subset hx), fun x hx => hX.pl x (hs.subset hx), fun x hx => hX.ev x (hs.subset hx)⟩
theorem close_sub {id : Int} : (hClose X id).2.Sublist X := by
  unfold hClose
  split
  · exact List.filter_sublist
  · exact List.Sublist.refl _
theorem EndOK.feed (hE : EndOK X) : EndOK (hFeed A X) := by
  intro w hw l why hmd
  obtain ⟨v, hv, rfl⟩ := List.mem_map.1 hw
  unfold Wc.feed at hmd
  split at hmd
  · split at hmd
    · cases hmd; simp
    split at hmd
    · cases hmd; simp
    · cases hmd
  · exact hE v hv l why hmd
theorem poll_end {w w' : Wc} {m : Int} (h : (w.poll A m).2 = some w') (hE : ∀ l why, w.md = .ended l why → why ≠ 0) : ∀ l why, w'.md = .ended l why → why ≠ 0 := by
  unfold Wc.poll at h
  split at h
  · rename_i hm
    split at h
    · cases h
    · simp only [] at h
      split at h <;> (injection h with h; subst h)
      · intro l why hh; rw [hm] at hh; cases hh
      · intro l why hh; cases hh
  · injection h with h; subst h
    intro l why hh; cases hh
  · rename_i L y hm
    split at h
    · cases h
    · injection h with h; subst h
      intro l why hh
      injection hh with _ hh
      subst hh
      exact hE _ _ hm
theorem EndOK.poll (hX : HbOK last X) (hE : EndOK X) {id m : Int} : EndOK (hPoll A X id m).2 := by
  rcases hX.split (id := id) with h | ⟨l1, w, l2, rfl, rfl⟩
  · rw [hPoll_none h]; exact hE
  · rw [hPoll_some hX.nd]
    cases hp : (w.poll A m).2 with
    | none =>
      intro v hv
      refine hE v ?_
      simp at hv ⊢
      rcases hv with h | h
      · exact .inl h
      · exact .inr (.inr h)
    | some w' =>
      intro v hv
      have hv : v ∈ l1 ++ w' :: l2 := hv
      rw [List.mem_append, List.mem_cons] at hv
      rcases hv with h | h | h
      · exact hE v (by simp [h])
      · subst h; exact poll_end hp (hE w (by simp))
      · exact hE v (by simp [h])
theorem EndOK.sub (hE : EndOK X) {Y : List Wc} (hs : Y.Sublist X) : EndOK Y := fun w hw => hE w (hs.subset hw)
theorem poll_le (hX : HbOK last X) {id m : Int} : (hPoll A X id m).1.1.length ≤ A.chs.length + 16 ∧ (hPoll A X id m).2.length ≤ X.length := by
  rcases hX.split (id := id) with h | ⟨l1, w, l2, rfl, rfl⟩
  · rw [hPoll_none h]; exact ⟨Nat.zero_le _, Nat.le_refl _⟩
  · rw [hPoll_some hX.nd]
    have hev := hX.ev w (by simp)
    refine ⟨?_, ?_⟩
    · show (w.poll A m).1.1.length ≤ _
      have hc : (w.chg A).1.length ≤ A.chs.length := by
        unfold Wc.chg
        split
        · exact Nat.zero_le _
        split
        · exact Nat.zero_le _
        · exact List.length_filter_le _ _
      unfold Wc.poll
      split
      · split
        · exact Nat.zero_le _
        · simp only []
          split <;> (show (List.take _ _).length ≤ _; rw [List.length_take]; omega)
      · rename_i L hm
        rw [hm] at hev
        have hev : L.length ≤ 16 := hev
        show (List.take _ _).length ≤ _
        rw [List.length_take]; omega
      · rename_i L y hm
        rw [hm] at hev
        have hev : L.length ≤ 16 := hev
        split
        · exact Nat.zero_le _
        · show (List.take _ _).length ≤ _
          rw [List.length_take]; omega
    · cases (w.poll A m).2 with
      | none => simp
      | some w' => simp
/-- How many changes there are, at most. -/
def tri : Nat → Nat
  | 0 => 0
  | i + 1 => tri i + (30 * i + 30)
theorem tri_mono {i j : Nat} (h : i ≤ j) : tri i ≤ tri j := by
  induction h with
  | refl => exact Nat.le_refl _
  | step _ ih => exact Nat.le_trans ih (Nat.le_add_right _ _)
theorem tri_100 {i : Nat} (h : i ≤ 100) : tri i ≤ 151500 := Nat.le_trans (tri_mono h) (by decide)
theorem comp_len2 (ok : StoOK A) {r : Int} : (stComp A r).old.length + (stComp A r).chs.length ≤ A.old.length + A.chs.length := by
  have h1 := doneL_le (l := A.old) (cs := (A.chs.takeWhile fun v => decide (v.rev ≤ r)).map Ver.c)
  rw [List.length_map] at h1
  have h2 := congrArg List.length (chs_cut ok (r := r))
  rw [List.length_append] at h2
  have h3 : (stComp A r).old.length = (doneL A.old ((A.chs.takeWhile fun v => decide (v.rev ≤ r)).map Ver.c)).length := rfl
  omega
/-- What both hubs are at each call. -/
structure WpI (A : Sto) (X : List Wc) (last : Int) (i : Nat) : Prop where
  hub : HbOK last X
  en : EndOK X
  last : 0 ≤ last ∧ last ≤ i
  xl : X.length ≤ i
  now : A.now.length ≤ 30 * i
  len : A.old.length + A.chs.length ≤ tri i
  rev : A.rev ≤ i
theorem WpI.mono {i j : Nat} (L : WpI A X last i) (h : i ≤ j) : WpI A X last j :=
  ⟨L.hub, L.en, by have := L.last; omega, Nat.le_trans L.xl h, by have := L.now; omega, Nat.le_trans L.len (tri_mono h), by have := L.rev; omega⟩
end
end Go.Proofs.YtaioncbpfckhaaaGreat
/- The law WatchPlays, walked. -/
set_option linter.unusedSimpArgs false
set_option linter.unusedVariables false
set_option maxRecDepth 10000
namespace Go.Proofs.YtaioncbpfckhaaaGreat
open Go.Hz

section
theorem rx_new13 {h : Hp} {F : List Asr} {x : Nat} (hs : sat h (pto x (.row 5 [[.int .i64 0, .int .i64 0, .nils, .nils, .nils]] 1) :: F)) : sat h (RxP x ⟨0, 0, [], []⟩ :: F) :=
  rxP.2 ⟨.nils, .nils, .nils, ⟨slV_nil, slV_nil⟩, ((hs.add (ow_nil (s := 8))).p1)⟩
theorem WpI.zero : WpI ⟨0, 0, [], []⟩ [] 0 0 := ⟨hbOK0, fun w hw => (by cases hw), by omega, Nat.le_refl _, by simp [Sto.now, doneL], by simp [tri], by simp⟩
theorem WpI.wr {A : Sto} {X : List Wc} {last : Int} {i : Nat} {W : Go.Hz.Wr} (L : WpI A X last i) (ok : StoOK A) (hw : WrOK A W) (hwb : WB A W 30) : WpI (stDone A W) X last (i + 1) := by
  obtain ⟨d1, d2, d3, d5, d4⟩ := stDone_len (A := A) (W := W)
  have wl := hwb.len hw
  have wc := hwb.cur ok hw
  have := L.now
  have := L.len
  have := L.rev
  have hl : tri (i + 1) = tri i + (30 * i + 30) := rfl
  refine ⟨L.hub, L.en, by have := L.last; omega, Nat.le_succ_of_le L.xl, ?_, by rw [d1, d2]; omega, by omega⟩
  rw [stDone_now hw]; omega
theorem WpI.feed {A : Sto} {X : List Wc} {last : Int} {i : Nat} (L : WpI A X last i) (ok : StoOK A) (hr : A.rev ≤ 1000000000000000) : WpI A (hFeed A X) last (i + 1) :=
  ⟨L.hub.feed ok hr, L.en.feed, (L.mono (Nat.le_succ i)).last, by unfold hFeed; rw [List.length_map]; exact (L.mono (Nat.le_succ i)).xl, (L.mono (Nat.le_succ i)).now, (L.mono (Nat.le_succ i)).len, (L.mono (Nat.le_succ i)).rev⟩
theorem WpI.poll {A : Sto} {X : List Wc} {last : Int} {i : Nat} (L : WpI A X last i) (ok : StoOK A) (hr : A.rev ≤ 1000000000000000) {id m : Int} : WpI A (hPoll A X id m).2 last (i + 1) :=
  ⟨L.hub.poll ok hr, EndOK.poll L.hub L.en, (L.mono (Nat.le_succ i)).last, Nat.le_trans (poll_le L.hub).2 (L.mono (Nat.le_succ i)).xl, (L.mono (Nat.le_succ i)).now, (L.mono (Nat.le_succ i)).len, (L.mono (Nat.le_succ i)).rev⟩
theorem WpI.close {A : Sto} {X : List Wc} {last : Int} {i : Nat} (L : WpI A X last i) {id : Int} : WpI A (hClose X id).2 last (i + 1) :=
  ⟨HbOK.sub L.hub close_sub, EndOK.sub L.en close_sub, (L.mono (Nat.le_succ i)).last, Nat.le_trans close_sub.length_le (L.mono (Nat.le_succ i)).xl, (L.mono (Nat.le_succ i)).now, (L.mono (Nat.le_succ i)).len, (L.mono (Nat.le_succ i)).rev⟩
theorem WpI.comp {A : Sto} {X : List Wc} {last : Int} {i : Nat} (L : WpI A X last i) (ok : StoOK A) {r : Int} : WpI (if stCompE A r = 0 then stComp A r else A) X last (i + 1) := by
  split
  · have := comp_len2 ok (r := r)
    have h2 : _ ≤ tri (i + 1) := (L.mono (Nat.le_succ i)).len
    exact ⟨L.hub, L.en, (L.mono (Nat.le_succ i)).last, (L.mono (Nat.le_succ i)).xl, by rw [comp_now ok]; exact (L.mono (Nat.le_succ i)).now, by omega, (L.mono (Nat.le_succ i)).rev⟩
  · exact L.mono (Nat.le_succ i)
set_option maxHeartbeats 1600000 in
theorem plays13 {cs : List Cl13} (hl : cs.length ≤ 1048576) (hc : ∀ c ∈ cs, c.ok) : Triple Tryz.prog 3 [clsV13 cs] Hp.emp (fun r _ => r = .bool true) := by
  have hs : sat Hp.emp [] := trivial
  have lenC := len_clsV13 cs
  refine t3 (Nat.le_of_ble_eq_true rfl) ?_
  simp (disch := omega) only [F3, go_sem, simprocAttr]
  refine call_use (known13 hs) ?_
  rintro r h ⟨hr, hs⟩
  subst hr
  simp (disch := omega) only [go_sem, simprocAttr]
  refine call_use (mvNew hs) ?_
  rintro r h ⟨s, hr, hs⟩
  subst hr
  simp (disch := omega) only [go_sem, simprocAttr]
  refine new_opq hs fun x h hs => ?_
  simp (disch := omega) only [go_sem, simprocAttr]
  have hs := rx_new13 hs
  refine call_use (hbNew (s := s) hs.p1) ?_
  rintro r h ⟨ub, hr, hs⟩
  subst hr
  simp (disch := omega) only [go_sem, simprocAttr]
  refine new_opq hs fun q h hs => ?_
  simp (disch := omega) only [go_sem, simprocAttr]
  have hs : sat h (HqP q x 0 [] :: _) := hqP.2 ⟨.nils, [], rfl, (hs.add (ow_nil (s := 1))).p1⟩
  refine blk_join (Q := fun e h => True) ?_ ?_
  rotate_left
  · intro e h _
    simp (disch := omega) only [go_sem, simprocAttr]
  refine run_up (N := min cs.length 100) (fun i e h => ∃ (A : Sto) (o : AV) (X : List Wc) (last : Int), WpI A X last i ∧ sat h [StP s A o, HbP ub s last X, HqP q x last X, RxP x A] ∧ (e 0 = clsV13 cs ∧ e 3 = .ptr s 7 0 0 ∧ e 4 = .ptr x 5 0 0 ∧ e 5 = .ptr ub 3 0 0 ∧ e 6 = .ptr q 3 0 0 ∧ e 7 = .int .i64 i))
    ⟨_, _, [], 0, WpI.zero, hs.p3.p1.p2.p3, by simp [Env.upd_apply, initE]⟩ ?_
  clear hs
  rintro i e h hiN ⟨A, o, X, last, L, hs, he⟩
  have m1 : (i : Int) + 1 = ((i + 1 : Nat) : Int) := by omega
  by_cases hii : i < min cs.length 100
  · have c1 : ((i : Int) < cs.length) = True := by simp; omega
    have c2 : ((i : Int) < 100) = True := by simp; omega
    have hi1 : i < cs.length := by omega
    have hik := at_clsV13 hi1
    have hok := hc _ (List.getElem_mem hi1)
    generalize cs[i] = c at hik hok
    have ad := atom_keysV c.keys
    have cd := cells_keysV c.keys
    have ok := MvP.ok hs
    have hpa := ok.past
    have hre := ok.rev
    have Ll := L.len
    have Ln := L.now
    have Lr := L.rev
    have Lx := L.xl
    have La := L.last
    have ht : tri i ≤ 151500 := tri_100 (by omega)
    have hub := L.hub
    have hen := L.en
    simp (disch := omega) only [go_sem, simprocAttr, he, lenC, c1, c2, hik]
    refine new_opq hs fun p h hs => ?_
    have hp := hs.at
    have hs2 := hs.set (o' := .row 6 [[.int .i64 c.kind, .int .i64 c.n, .int .i64 c.max, .str c.lo, .str c.hi, keysV c.keys]] 1)
    have hp2 := hs2.at
    simp (disch := omega) only [go_sem, simprocAttr, hp, hp2, ad, cd]
    generalize Hp.set h p _ = h2 at hs2 hp2 ⊢
    refine call_use (few13 (c := c) hs2 hok) ?_
    rintro r h ⟨b, hr, h30, hs⟩
    subst hr
    cases b with
    | false =>
      simp (disch := omega) only [go_sem, simprocAttr, he, m1]
      exact ⟨hii, A, o, X, last, L.mono (by omega), hs.drop⟩
    | true =>
      have hd30 := h30 rfl
      have hp := hs.at
      simp (disch := omega) only [go_sem, simprocAttr, he, hp]
      refine call_use (within13 (n := 7) hs hok.1.1 hok.1.2 (by omega) (by omega)) ?_
      rintro r h ⟨j, hr, _, hj, hs⟩
      subst hr
      simp (disch := omega) only [go_sem, simprocAttr, he]
      refine cnd_join (Q := fun e h => sat h [pto p (.row 6 [[.int .i64 c.kind, .int .i64 c.n, .int .i64 c.max, .str c.lo, .str c.hi, keysV c.keys]] 1), StP s A o, HbP ub s last X, HqP q x last X, RxP x A] ∧ (e 0 = clsV13 cs ∧ e 3 = .ptr s 7 0 0 ∧ e 4 = .ptr x 5 0 0 ∧ e 5 = .ptr ub 3 0 0 ∧ e 6 = .ptr q 3 0 0 ∧ e 7 = .int .i64 i ∧ e 8 = .ptr p 6 0 0 ∧ e 9 = .int .i64 0 ∧ e 10 = .int .i64 0 ∧ e 47 = .int .i64 j ∧ e 48 = .bool (decide (j ≤ 1)))) ?_ ?_
      · refine cnd_bool (fun q => ?_) (fun q => ?_)
        · have c3 : j = 0 := by simp at q; omega
          subst c3
          simp (disch := omega) only [go_sem, simprocAttr, he]
          exact hs
        · have c3 : ((j : Int) == 1) = decide (j ≤ 1) := by
            have : j ≠ 0 := by intro h; subst h; simp at q
            rw [Bool.eq_iff_iff]; simp; omega
          simp (disch := omega) only [go_sem, simprocAttr, he, c3]
          exact hs
      clear hs he hs2 hp2 hp
      rintro e h ⟨hs, he⟩
      refine fall_joinB (Q := fun e h => ∃ (A : Sto) (o : AV) (X : List Wc) (last : Int) (n : Int), WpI A X last (i + 1) ∧ sat h [pto p (.row 6 [[.int .i64 c.kind, .int .i64 c.n, .int .i64 c.max, .str c.lo, .str c.hi, keysV c.keys]] 1), StP s A o, HbP ub s last X, HqP q x last X, RxP x A] ∧ (e 0 = clsV13 cs ∧ e 3 = .ptr s 7 0 0 ∧ e 4 = .ptr x 5 0 0 ∧ e 5 = .ptr ub 3 0 0 ∧ e 6 = .ptr q 3 0 0 ∧ e 7 = .int .i64 i ∧ e 9 = .int .i64 n ∧ e 10 = .int .i64 n)) ?_ ?_
      rotate_left
      · clear hs he L ok hpa hre hik hok ad cd hd30 hub hen Ll Ln Lr Lx La
        rintro e h ⟨A, o, X, last, n, L, hs, he⟩
        obtain ⟨wv, Z, hZ, hs3⟩ := hqP.1 (hs.drop.p3.p1.p2.p3)
        have hq := hs3.at
        have lenW := hs3.p1.els.len
        rw [List.length_map, ← List.length_map (f := Wq.w), hZ] at lenW
        have cn : (n != n) = false := by simp
        have hs4 := sat.mid (l1 := hqRow q x wv last :: wqs wv Z :: Z.map RqP) hs3
        simp (disch := omega) only [go_sem, simprocAttr, he, cn, hq, lenW]
        refine call_use' (hbLen hs4) ?_
        rintro r h ⟨hr, hs5⟩
        subst hr
        have hs6 := sat.unmid (l1 := hqRow q x wv last :: wqs wv Z :: Z.map RqP) hs5
        have hq := hs6.at
        have cx : (((X.length : Nat) : Int) != ((X.length : Nat) : Int)) = false := by simp
        simp (disch := omega) only [go_sem, simprocAttr, he, hq, cx, m1]
        have hs7 : sat h (HqP q x last X :: HbP ub s last X :: StP s A o :: RxP x A :: []) := hqP.2 ⟨wv, Z, hZ, hs6⟩
        exact ⟨hii, A, o, X, last, L, hs7.p3.p1.p2.p3⟩
      by_cases hj1 : j ≤ 1
      · have c3 : decide (j ≤ 1) = true := by simpa using hj1
        simp (disch := omega) only [go_sem, simprocAttr, he, c3]
        refine call_use (mvWrite (hs.p4.p4.p4.p3.p4)) ?_
        rintro r h ⟨w, hr, hs⟩
        subst hr
        simp (disch := omega) only [go_sem, simprocAttr, he]
        refine call_use (rgWr (hs.p4.p4.p4.p4.p4.p5)) ?_
        rintro r h ⟨v, hr, hs⟩
        subst hr
        have hs := hs.p6.p6.p6.p4.p4.p6.p6
        simp (disch := omega) only [go_sem, simprocAttr, he]
        refine blk_join (Q := fun e h => ∃ W, sat h [WtP w s A W, StP s A (.ptr w 4 0 0), RwP v x A W, RxP x A, pto p (.row 6 [[.int .i64 c.kind, .int .i64 c.n, .int .i64 c.max, .str c.lo, .str c.hi, keysV c.keys]] 1), HbP ub s last X, HqP q x last X] ∧ WB A W 30 ∧ (e 0 = clsV13 cs ∧ e 3 = .ptr s 7 0 0 ∧ e 4 = .ptr x 5 0 0 ∧ e 5 = .ptr ub 3 0 0 ∧ e 6 = .ptr q 3 0 0 ∧ e 7 = .int .i64 i ∧ e 8 = .ptr p 6 0 0 ∧ e 11 = .ptr w 4 0 0 ∧ e 12 = .ptr v 4 0 0)) ?_ ?_
        · have lenK := len_keysV c.keys
          refine run_up (N := c.keys.length) (fun k e h => ∃ W, sat h [WtP w s A W, StP s A (.ptr w 4 0 0), RwP v x A W, RxP x A, pto p (.row 6 [[.int .i64 c.kind, .int .i64 c.n, .int .i64 c.max, .str c.lo, .str c.hi, keysV c.keys]] 1), HbP ub s last X, HqP q x last X] ∧ WB A W k ∧ (e 0 = clsV13 cs ∧ e 3 = .ptr s 7 0 0 ∧ e 4 = .ptr x 5 0 0 ∧ e 5 = .ptr ub 3 0 0 ∧ e 6 = .ptr q 3 0 0 ∧ e 7 = .int .i64 i ∧ e 8 = .ptr p 6 0 0 ∧ e 11 = .ptr w 4 0 0 ∧ e 12 = .ptr v 4 0 0 ∧ e 13 = .int .i64 k)) ⟨_, hs, wb_nil, by simp [Env.upd_apply, he]⟩ ?_
          clear hs he
          rintro k e h hk ⟨W, hs, hwb, he⟩
          have hw := WrP.ok hs
          have m2 : (k : Int) + 1 = ((k + 1 : Nat) : Int) := by omega
          have wl := hwb.len hw
          have wc := hwb.cur ok hw
          have hp := hs.p4.at
          simp (disch := omega) only [go_sem, simprocAttr, he, hp, lenK, m2]
          refine cnd_dec (fun g1 => ?_) (fun g1 => ?_)
          · have hk' : k < c.keys.length := by omega
            have hia := at_keysV hk'
            generalize c.keys[k] = d at hia
            simp (disch := omega) only [go_sem, simprocAttr, he, hp]
            refine cnd_bool (fun g2 => ?_) (fun g2 => ?_)
            · simp (disch := omega) only [go_sem, simprocAttr, he, hp, hia]
              refine call_use (mvDel (lo := d) (hi := []) hs (by omega)) ?_
              rintro r h ⟨ks, hks, hr, hs⟩
              subst hr
              have hdl := WB.dels ok (ks := ks) hw hwb
              rw [wkeys_same ok hw hks] at hs hdl
              have hp := hs.p4.at
              simp (disch := omega) only [go_sem, simprocAttr, he, hp, hia]
              refine call_use (rgDel (lo := d) (hi := []) (hs.p6.p6.p6.p4.p4.p6.p6) ok hw (by omega) (by omega)) ?_
              rintro r h ⟨hr, hs⟩
              subst hr
              simp (disch := omega) only [go_sem, simprocAttr, he, m2]
              exact ⟨hk', _, hs.p6.p6.p6.p4.p4.p6.p6, hdl.mono (by omega)⟩
            · simp (disch := omega) only [go_sem, simprocAttr, he, hp, hia]
              refine call_use (mvPut (key := d) (val := [118]) (lease := 0) hs (by omega) (by omega) (by omega) (by omega)) ?_
              rintro r h ⟨hr, hs⟩
              subst hr
              have hp := hs.p4.at
              simp (disch := omega) only [go_sem, simprocAttr, he, hp, hia]
              refine call_use (rgPut (key := d) (val := [118]) (lease := 0) (hs.p6.p6.p6.p4.p4.p6.p6) ok hw (by omega) (by omega)) ?_
              rintro r h ⟨hr, hs⟩
              subst hr
              simp (disch := omega) only [go_sem, simprocAttr, he, m2]
              exact ⟨hk', _, hs.p6.p6.p6.p4.p4.p6.p6, hwb.put⟩
          · simp (disch := omega) only [go_sem, simprocAttr, he]
            exact ⟨W, hs, hwb.mono (by omega)⟩
        clear hs he
        rintro e h ⟨W, hs, hwb, he⟩
        have hw := WrP.ok hs
        have wl := hwb.len hw
        simp (disch := omega) only [go_sem, simprocAttr, he]
        refine call_use (mvDone hs (by omega) (by omega)) ?_
        rintro r h ⟨hr, hs⟩
        subst hr
        simp (disch := omega) only [go_sem, simprocAttr, he]
        refine call_use (rgDn (hs.p5.p5.p5.p3.p5.p5) hw (by omega) (by omega) (by omega)) ?_
        rintro r h ⟨hr, hs⟩
        subst hr
        simp (disch := omega) only [go_sem, simprocAttr, he]
        exact ⟨_, _, X, last, _, L.wr ok hw hwb, hs.p4.p4.p3.p4, rfl, rfl⟩
      · have c3 : decide (j ≤ 1) = false := by simpa using hj1
        have hp := hs.at
        have hj2 : j = 2 ∨ j = 3 ∨ j = 4 ∨ j = 5 ∨ j = 6 := by omega
        rcases hj2 with rfl | rfl | rfl | rfl | rfl
        · simp (disch := omega) only [go_sem, simprocAttr, he, c3]
          refine call_use (hbFeed (hs.p4.p4.p2.p3.p4) hub (by omega) (by omega) ok) ?_
          intro r h hs
          simp (disch := omega) only [go_sem, simprocAttr, he]
          refine call_use (rhFeed (hs.p1.p2.p4.p4) hub hen (by omega) (by omega) (by omega) ok) ?_
          intro r h hs
          simp (disch := omega) only [go_sem, simprocAttr, he]
          exact ⟨A, o, _, last, 0, L.feed ok (by omega), hs.p1.p1.p4.p4.p4, rfl, rfl⟩
        · simp (disch := omega) only [go_sem, simprocAttr, he, c3, hp]
          refine call_use' (hbWatch (lo := c.lo) (hi := c.hi) (from_ := c.n) (hs.p4.p4.p3.p3.p4) hub (by omega) hok.2.1) ?_
          rintro r h ⟨hr, hX2, hs⟩
          subst hr
          have hp := hs.p1.at
          simp (disch := omega) only [go_sem, simprocAttr, he, hp]
          refine call_use (rhWatch (lo := c.lo) (hi := c.hi) (from_ := c.n) (hs.p4.p3.p3.p3.p4) (by omega) (by omega)) ?_
          rintro r h ⟨hr, hs⟩
          subst hr
          simp (disch := omega) only [go_sem, simprocAttr, he]
          refine ⟨A, o, _, last + 1, last + 1, ⟨hX2, ?_, by omega, by rw [List.length_append, List.length_singleton]; omega, (L.mono (Nat.le_succ i)).now, (L.mono (Nat.le_succ i)).len, (L.mono (Nat.le_succ i)).rev⟩, hs.p4.p1.p2.p4.p4, rfl, rfl⟩
          intro w hw
          rcases List.mem_append.1 hw with hw | hw
          · exact hen w hw
          · rw [List.mem_singleton.1 hw]; intro l why hh; cases hh
        · simp (disch := omega) only [go_sem, simprocAttr, he, c3, hp]
          refine call_use (hbPoll (id := c.n) (mo := c.max) (hs.p4.p4.p2.p3.p4) hub hok.2.2.1 (by omega) (by omega) ok) ?_
          rintro r h ⟨hr, hs⟩
          subst hr
          have hp := hs.p2.at
          simp (disch := omega) only [go_sem, simprocAttr, he, hp]
          refine call_use (rhPoll (id := c.n) (mo := c.max) (hs.p1.p2.p4.p4) hub hen (by omega) hok.2.2.1 (by omega) (by omega) ok) ?_
          rintro r h ⟨hr, hs⟩
          subst hr
          have hpl := (poll_le (A := A) (id := c.n) (m := c.max) hub).1
          simp (disch := omega) only [go_sem, simprocAttr, he]
          refine call_use (sameEvs2 hs (by omega)) ?_
          rintro r h ⟨hr, hs⟩
          subst hr
          simp (disch := omega) only [go_sem, simprocAttr, he]
          exact ⟨A, o, _, last, _, L.poll ok (by omega), hs.p1.p1.p4.p4.p4, rfl, rfl⟩
        · simp (disch := omega) only [go_sem, simprocAttr, he, c3, hp]
          refine call_use' (hbClose (id := c.n) (hs.p4.p4.p2.p3.p4) hub) ?_
          rintro r h ⟨hr, hs⟩
          subst hr
          have hp := hs.p2.at
          simp (disch := omega) only [go_sem, simprocAttr, he, hp]
          refine call_use (rhCloseC (id := c.n) (hs.p1.p2.p4.p4) hub (by omega)) ?_
          rintro r h ⟨hr, hs⟩
          subst hr
          simp (disch := omega) only [go_sem, simprocAttr, he]
          exact ⟨A, o, _, last, _, L.close, hs.p1.p1.p4.p4.p4, rfl, rfl⟩
        · simp (disch := omega) only [go_sem, simprocAttr, he, c3, hp]
          refine call_use' (mvCompact (rev := c.n) (hs.p4.p4.p4.p3.p4) (by omega)) ?_
          rintro r h ⟨hr, hs⟩
          subst hr
          have hp := hs.p1.at
          simp (disch := omega) only [go_sem, simprocAttr, he, hp]
          refine call_use (rgCompact (rev := c.n) (hs.p3.p3.p3.p3.p4) ok (by omega)) ?_
          rintro r h ⟨hr, hs⟩
          subst hr
          simp (disch := omega) only [go_sem, simprocAttr, he]
          exact ⟨_, o, X, last, _, L.comp ok, hs.p4.p4.p3.p4, rfl, rfl⟩
  · have hcase : (¬ (i : Int) < cs.length) ∨ ((i : Int) < cs.length ∧ ¬ (i : Int) < 100) := by omega
    rcases hcase with c1 | ⟨c1, c2⟩
    · simp (disch := omega) only [go_sem, simprocAttr, he, lenC, c1]
    · simp (disch := omega) only [go_sem, simprocAttr, he, lenC, c1, c2]
theorem watchPlays_law (vs : List AV) (h : Ty.ones [.sl (.st tyCl13)] vs) (hN : Ty.bulks [.sl (.st tyCl13)] vs ≤ 1048576) : Triple Tryz.prog 3 vs Hp.emp (fun r _ => r = .bool true) := by
  obtain ⟨a, _, rfl, ha, h⟩ := ones_cons h
  obtain rfl := ones_nil h
  have e : Ty.bulks [.sl (.st tyCl13)] [a] = (Ty.sl (.st tyCl13)).bulk1 a + 0 := rfl
  rw [e] at hN
  obtain ⟨cs, rfl, h1, h2⟩ := cls13_of ha (by omega)
  exact plays13 h1 h2
end
end Go.Proofs.YtaioncbpfckhaaaGreat
