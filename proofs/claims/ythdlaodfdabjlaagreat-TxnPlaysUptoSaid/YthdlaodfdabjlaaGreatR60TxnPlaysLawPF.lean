/- The document's store: its writes. -/
import Derived.Test.YthdlaodfdabjlaaGreatR60TxnPlaysLawPE
set_option linter.unusedSimpArgs false
set_option linter.unusedVariables false
set_option maxRecDepth 10000
namespace Go.Proofs.YthdlaodfdabjlaaGreat
open Go.Hz

/-- The document's store, in the heap. -/
def RxP (x : Nat) (A : Sto) : Asr := fun h => ∃ o ev nw, (SlV o (A.old.map kvC) ∧ SlV nw (A.now.map kvC)) ∧ sat h [pto x (.row 5 [[.int .i64 A.rev, .int .i64 A.past, o, ev, nw]] 1), Ow 8 ev (A.chs.map evC)]
theorem rxP {x : Nat} {A : Sto} {h : Hp} {F : List Asr} : sat h (RxP x A :: F) ↔ ∃ o ev nw, (SlV o (A.old.map kvC) ∧ SlV nw (A.now.map kvC)) ∧ sat h (pto x (.row 5 [[.int .i64 A.rev, .int .i64 A.past, o, ev, nw]] 1) :: Ow 8 ev (A.chs.map evC) :: F) := by
  unfold RxP
  rw [sat_ex]; refine exists_congr fun o => ?_
  rw [sat_ex]; refine exists_congr fun ev => ?_
  rw [sat_ex]; refine exists_congr fun nw => ?_
  rw [sat_and]
  exact and_congr_right fun _ => sat_sl (l1 := [_, _]) (l := F)
/-- A write of it. -/
def RwP (w x : Nat) (A : Sto) (W : Go.Hz.Wr) : Asr := fun h => ∃ lv ev ks, SlV lv (W.cur.map kvC) ∧ sat h [pto w (.row 4 [[.ptr x 5 0 0, lv, ev, ks]] 1), Ow 8 ev (W.l.map fun c => evC ⟨A.rev + 1, c⟩), Ow 1 ks (W.l.map fun c => [.str c.key])]
theorem rwP {w x : Nat} {A : Sto} {W : Go.Hz.Wr} {h : Hp} {F : List Asr} : sat h (RwP w x A W :: F) ↔ ∃ lv ev ks, SlV lv (W.cur.map kvC) ∧ sat h (pto w (.row 4 [[.ptr x 5 0 0, lv, ev, ks]] 1) :: Ow 8 ev (W.l.map fun c => evC ⟨A.rev + 1, c⟩) :: Ow 1 ks (W.l.map fun c => [.str c.key]) :: F) := by
  unfold RwP
  rw [sat_ex]; refine exists_congr fun lv => ?_
  rw [sat_ex]; refine exists_congr fun ev => ?_
  rw [sat_ex]; refine exists_congr fun ks => ?_
  rw [sat_and]
  exact and_congr_right fun _ => sat_sl (l1 := [_, _, _]) (l := F)
section
variable {h : Hp} {F : List Asr} {x w : Nat} {A : Sto} {W : Go.Hz.Wr}
theorem rgIn {k lo hi : Key} (hs : sat h F) : Triple Tryz.prog 47 [.str k, .str lo, .str hi] h (fun r h => r = .bool (inK lo hi k) ∧ sat h F) := by
  have ek : inK lo hi k = if (hi == []) = true then k == lo else (!(Op.bytesLess k lo) && Op.bytesLess k hi) := by
    unfold inK inR
    by_cases hh : hi = []
    · subst hh; rfl
    · have : (hi == []) = false := by simpa using hh
      rw [if_neg hh, this]; rfl
  rw [ek]
  refine t47 (Nat.le_of_ble_eq_true rfl) ?_
  simp (disch := omega) only [F47, go_sem, simprocAttr]
  cases b0 : hi == []
  · cases b1 : Op.bytesLess k lo <;> cases b2 : Op.bytesLess k hi
    all_goals
      simp (disch := omega) only [go_sem, simprocAttr, b0, b1, b2]
      exact hs
  · simp (disch := omega) only [go_sem, simprocAttr, b0]
    exact hs
theorem rgPickO {l : List Kv} {lo hi : Key} {lim : Int} (hs : sat h F) (hl : l.length ≤ 1000000) : Triple Tryz.prog 60 [kvsV l, .str lo, .str hi, .int .i64 lim] h
    (fun r h => ∃ v, r = .tup [v, .int .i64 (rngL l lo hi lim).2] ∧ sat h (Ow 6 v ((rngL l lo hi lim).1.map kvC) :: F)) := by
  have lenL' : lenL (kvsV l) = some (.int .i64 l.length) := by simp [lenL]
  refine t60 (Nat.le_of_ble_eq_true rfl) ?_
  simp (disch := omega) only [F60, lenL', go_sem, simprocAttr]
  refine run_up (N := l.length) (fun i e h => ∃ v, sat h (Ow 6 v ((rngL (l.take i) lo hi lim).1.map kvC) :: F) ∧ (e 0 = kvsV l ∧ e 1 = .str lo ∧ e 2 = .str hi ∧ e 3 = .int .i64 lim ∧ e 10 = v ∧ e 11 = .int .i64 (rngL (l.take i) lo hi lim).2 ∧ e 12 = .int .i64 i)) ⟨.nils, hs.add (by unfold rngL cutL; simp; exact ow_nil), rfl, rfl, rfl, rfl, rfl, rfl, rfl⟩ ?_
  clear hs
  rintro i e h hi' ⟨v, hs, he⟩
  have m1 : (i : Int) + 1 = ((i + 1 : Nat) : Int) := by omega
  simp (disch := omega) only [go_sem, simprocAttr, he, lenL', m1]
  refine cnd_dec (fun g1 => ?_) (fun g1 => ?_)
  · have hil : i < l.length := by omega
    have hia := ia_lst (f := kvC) (l := l) (i := i) (s := 6) (k := .i64) hil (fun _ => rfl)
    have hst : rngL (l.take (i + 1)) lo hi lim = if inK lo hi l[i].key = true then ((if lim < 1 ∨ ((rngL (l.take i) lo hi lim).1.length : Int) < lim then (rngL (l.take i) lo hi lim).1 ++ [l[i]] else (rngL (l.take i) lo hi lim).1), (rngL (l.take i) lo hi lim).2 + 1) else rngL (l.take i) lo hi lim := by
      unfold rngL
      have ef : [l[i]].filter (fun x => inK lo hi x.key) = if inK lo hi l[i].key = true then [l[i]] else [] := by
        rw [List.filter_cons, List.filter_nil]
      rw [List.take_succ_eq_append_getElem hil, List.filter_append, ef]
      by_cases hx : inK lo hi l[i].key = true
      · rw [if_pos hx, if_pos hx, cutL_snoc]
        simp
      · rw [if_neg hx, if_neg hx]
        simp
    have hle : (rngL (l.take i) lo hi lim).2 ≤ i := Nat.le_trans (List.length_filter_le _ _) (by rw [List.length_take]; omega)
    have hle2 : (rngL (l.take i) lo hi lim).1.length ≤ i := Nat.le_trans (cutL_len (lim := lim)) hle
    have hcl : (rngL (l.take i) lo hi lim).1.length = if lim < 1 then (rngL (l.take i) lo hi lim).2 else min lim.toNat (rngL (l.take i) lo hi lim).2 := by
      unfold rngL cutL
      split
      · rfl
      · rw [List.length_take]
    rw [hst]
    generalize rngL (l.take i) lo hi lim = q at *
    generalize l[i] = y at hia hst ⊢
    simp only [kvC] at hia
    have m2 : (q.2 : Int) + 1 = ((q.2 + 1 : Nat) : Int) := by omega
    simp (disch := omega) only [go_sem, simprocAttr, he, hia]
    refine call_use (rgIn hs) ?_
    rintro r h ⟨hr, hs⟩
    subst hr
    simp (disch := omega) only [go_sem, simprocAttr, he]
    by_cases hx : inK lo hi y.key = true
    · by_cases l1 : lim < 1
      · rw [if_pos hx, if_pos (.inl l1)]
        simp (disch := omega) only [go_sem, simprocAttr, hx, he, m2, l1, hia]
        refine new_opq hs fun n h hs => ?_
        simp (disch := omega) only [go_sem, simprocAttr]
        refine app_sat hs.p1 (src_one hs.at) (atoms_one (by simp [AV.isAtom])) (by simp; omega) fun v' h hs ca aa => ?_
        simp (disch := omega) only [go_sem, simprocAttr, he, ca, aa, m1]
        have := hs.d1
        exact ⟨by omega, v', by simpa [kvC] using this, rfl⟩
      · rw [if_neg l1] at hcl
        by_cases l2 : (q.1.length : Int) < lim
        · have c2 : (((q.2 + 1 : Nat) : Int) ≤ lim) = True := by simp; omega
          rw [if_pos hx, if_pos (.inr l2)]
          simp (disch := omega) only [go_sem, simprocAttr, hx, he, m2, l1, c2, hia]
          refine new_opq hs fun n h hs => ?_
          simp (disch := omega) only [go_sem, simprocAttr]
          refine app_sat hs.p1 (src_one hs.at) (atoms_one (by simp [AV.isAtom])) (by simp; omega) fun v' h hs ca aa => ?_
          simp (disch := omega) only [go_sem, simprocAttr, he, ca, aa, m1]
          have := hs.d1
          exact ⟨by omega, v', by simpa [kvC] using this, rfl⟩
        · have c2 : (((q.2 + 1 : Nat) : Int) ≤ lim) = False := by simp; omega
          rw [if_pos hx, if_neg (by rintro (h | h) <;> omega)]
          simp (disch := omega) only [go_sem, simprocAttr, hx, he, m2, l1, c2, m1]
          exact ⟨by omega, v, hs, rfl⟩
    · rw [if_neg hx]
      have hx : inK lo hi y.key = false := by simpa using hx
      simp (disch := omega) only [go_sem, simprocAttr, hx, he, m1]
      exact ⟨by omega, v, hs, rfl⟩
  · simp (disch := omega) only [go_sem, simprocAttr, he]
    have hil : i = l.length := by omega
    subst hil
    rw [List.take_length] at hs ⊢
    exact ⟨v, rfl, hs⟩
theorem rgPick {lv : AV} {l : List Kv} {lo hi : Key} {lim : Int} (hv : SlV lv (l.map kvC)) (hs : sat h F) (hl : l.length ≤ 1000000) : Triple Tryz.prog 60 [lv, .str lo, .str hi, .int .i64 lim] h
    (fun r h => r = .tup [kvsV (rngL l lo hi lim).1, .int .i64 (rngL l lo hi lim).2] ∧ sat h F) :=
  Triple.vi (bs := [kvsV l, .str lo, .str hi, .int .i64 lim]) ⟨hv.vi, VI.refl _, VI.refl _, VI.refl _, trivial⟩ (Triple.lst1 6 ((rgPickO hs hl).mono fun r h ⟨v, hr, hs⟩ => ⟨v, _, _, _, hr, hs, fun h hs => ⟨rfl, hs⟩⟩))
theorem rgGetO {l : List Kv} {key : Key} (hs : sat h F) (hS : SrtK l) (hl : l.length ≤ 1000000) : Triple Tryz.prog 27 [kvsV l, .str key] h (fun r h => r = .tup [.agg (kvC ((kvget l key).getD ⟨key, [], 0, 0, 0, 0⟩)), .bool (kvget l key).isSome] ∧ sat h F) := by
  obtain ⟨k, there, hk, h1, h2, h3, h4, _⟩ := done_cut hS (.del key)
  have h4 : kvget l key = if there = true then l[k]? else none := h4
  have lenL' : lenL (kvsV l) = some (.int .i64 l.length) := by simp [lenL]
  refine t27 (Nat.le_of_ble_eq_true rfl) ?_
  simp (disch := omega) only [F27, go_sem, simprocAttr]
  refine new_opq hs fun a h hs => ?_
  have ha := hs.at
  simp (disch := omega) only [go_sem, simprocAttr, ha]
  refine call_use (rgFind (key := key) hs (by omega) hk h1 h2) ?_
  rintro r h ⟨hr, hs⟩
  subst hr
  have ha := hs.at
  by_cases hlt : k < l.length
  · have c1 : ((k : Int) < l.length) = True := by simp; omega
    have hia : iaA 6 (kvsV l) (.int .i64 (k : Int)) = some (.ro (kvC l[k])) := ia_lst (f := kvC) hlt fun _ => rfl
    cases there with
    | true =>
      obtain ⟨_, h6⟩ := h3.1 rfl
      have h6 : l[k].key = key := h6
      have hg : kvget l key = some l[k] := by rw [h4, if_pos rfl, List.getElem?_eq_getElem hlt]
      rw [hg]
      generalize l[k] = y at hia h6
      simp only [kvC] at hia
      have e1 : (y.key == key) = true := by simpa using h6
      have hs2 := hs.set (o' := .row 6 [kvC y] 1)
      have ha2 := hs2.at
      simp only [kvC] at hs2 ha2
      simp (disch := omega) only [go_sem, simprocAttr, lenL', c1, hia, e1, ha, ha2, Option.getD_some, Option.isSome_some, kvC]
      exact hs2.drop
    | false =>
      have hg : kvget l key = none := by rw [h4, if_neg (by simp)]
      have e1 : (l[k].key == key) = false := by
        rw [beq_eq_false_iff_ne]
        exact fun e => by have := h3.2 ⟨hlt, e⟩; cases this
      rw [hg]
      generalize l[k] = y at hia e1
      simp only [kvC] at hia
      have hs2 := hs.set (o' := .row 6 [[.str key, .str [], .int .i64 0, .int .i64 0, .int .i64 0, .int .i64 0]] 1)
      have ha2 := hs2.at
      simp (disch := omega) only [go_sem, simprocAttr, lenL', c1, hia, e1, ha, ha2, Option.getD_none, Option.isSome_none, kvC]
      exact hs2.drop
  · have c1 : ((k : Int) < l.length) = False := by simp; omega
    have hg : kvget l key = none := by
      rw [h4]
      cases there with
      | true => obtain ⟨h5, _⟩ := h3.1 rfl; exact absurd h5 hlt
      | false => rfl
    rw [hg]
    have hs2 := hs.set (o' := .row 6 [[.str key, .str [], .int .i64 0, .int .i64 0, .int .i64 0, .int .i64 0]] 1)
    have ha2 := hs2.at
    simp (disch := omega) only [go_sem, simprocAttr, lenL', c1, ha, ha2, Option.getD_none, Option.isSome_none, kvC]
    exact hs2.drop
theorem rgGet {lv : AV} {l : List Kv} {key : Key} (hv : SlV lv (l.map kvC)) (hs : sat h F) (hS : SrtK l) (hl : l.length ≤ 1000000) : Triple Tryz.prog 27 [lv, .str key] h (fun r h => r = .tup [.agg (kvC ((kvget l key).getD ⟨key, [], 0, 0, 0, 0⟩)), .bool (kvget l key).isSome] ∧ sat h F) :=
  Triple.vi (bs := [kvsV l, .str key]) ⟨hv.vi, VI.refl _, trivial⟩ (rgGetO hs hS hl)
theorem rgChanged {key : Key} (hs : sat h (RwP w x A W :: F)) (hz : W.l.length ≤ 1000000) : Triple Tryz.prog 58 [.ptr w 4 0 0, .str key] h (fun r h => r = .bool (wChg W key) ∧ sat h (RwP w x A W :: F)) := by
  refine t58 (Nat.le_of_ble_eq_true rfl) ?_
  simp (disch := omega) only [F58, go_sem, simprocAttr]
  refine run_up (N := W.l.length) (fun i e h => wChg ⟨[], W.l.take i⟩ key = false ∧ sat h (RwP w x A W :: F) ∧ (e 0 = .ptr w 4 0 0 ∧ e 1 = .str key ∧ e 5 = .int .i64 i)) ⟨rfl, hs, rfl, rfl, rfl⟩ ?_
  clear hs
  rintro i e h hi' ⟨hno, hs0, he⟩
  obtain ⟨lv, ev, ks, hlv, hs⟩ := rwP.1 hs0
  have m1 : (i : Int) + 1 = ((i + 1 : Nat) : Int) := by omega
  have hw := hs.at
  have hkl := hs.p2.els.len
  rw [List.length_map] at hkl
  simp (disch := omega) only [go_sem, simprocAttr, he, hw, hkl, m1]
  refine cnd_dec (fun g1 => ?_) (fun g1 => ?_)
  · have hi : i < W.l.length := by omega
    obtain ⟨b, cap, hv, hb, _⟩ := hs.p2.owr.row (i := i) (x := [.str W.l[i].key]) (by simp [hi])
    subst hv
    have hrow : (W.l.map fun c => [AV.str c.key])[i]? = some [.str W.l[i].key] := by simp [hi]
    have hll : (W.l.map fun c => [AV.str c.key]).length = W.l.length := by simp
    have hst : wChg ⟨[], W.l.take (i + 1)⟩ key = (W.l[i].key == key) := by
      unfold wChg at hno ⊢
      rw [List.take_succ_eq_append_getElem hi, List.any_append, hno]
      simp
    cases hq : W.l[i].key == key with
    | true =>
      have hw2 : wChg W key = true := by
        unfold wChg
        exact List.any_eq_true.2 ⟨_, List.getElem_mem hi, hq⟩
      simp (disch := omega) only [go_sem, simprocAttr, he, hw, hb, hrow, hll, hq, hw2, Int.toNat_natCast]
      exact hs0
    | false =>
      rw [hst]
      simp (disch := omega) only [go_sem, simprocAttr, he, hw, hb, hrow, hll, hq, m1, Int.toNat_natCast]
      exact ⟨hi, hs0⟩
  · have hi : i = W.l.length := by omega
    subst hi
    rw [List.take_length] at hno
    have hw2 : wChg W key = false := hno
    simp (disch := omega) only [go_sem, simprocAttr, he, hw2]
    exact hs0
/-- A change more. -/
theorem rgNote {c : Ch} {cr : Int} {y : Kv} (hs : sat h (RwP w x A W :: RxP x A :: F)) (hS : SrtK W.cur) (hz : W.cur.length + W.l.length ≤ 900000) (hr : A.rev ≤ 1000000000000000) (hr0 : 0 ≤ A.rev)
    (hy : y = c.kv.getD ⟨c.key, [], 0, A.rev + 1, 0, 0⟩) (hcr : y.create = if c.kv.isNone = false ∧ cr = 0 then A.rev + 1 else cr) (hm : y.mod = A.rev + 1) :
    Triple Tryz.prog 59 [.ptr w 4 0 0, .agg [.int .i64 0, .bool c.kv.isNone, .str y.key, .str y.val, .int .i64 cr, .int .i64 0, .int .i64 y.ver, .int .i64 y.lease]] h (fun r h => sat h (RwP w x A ⟨done W.cur c, W.l ++ [c]⟩ :: RxP x A :: F)) := by
  obtain ⟨lv, ev, ks, hlv, hs1⟩ := rwP.1 hs
  obtain ⟨o, xv, nw, ho, hs2⟩ := rxP.1 hs1.p3
  have hevc : evC ⟨A.rev + 1, c⟩ = [.int .i64 (A.rev + 1), .bool c.kv.isNone, .str y.key, .str y.val, .int .i64 y.create, .int .i64 y.mod, .int .i64 y.ver, .int .i64 y.lease] := by
    unfold evC; rw [hy]; rfl
  have hk : y.key = c.key := by rw [hy]; cases c <;> rfl
  have hdone := fun {h : Hp} {G : List Asr} (hs : sat h G) => rgDone (v := ⟨A.rev + 1, c⟩) hlv hs hS (by omega)
  rw [hevc] at hdone
  rw [hm] at hevc hdone
  refine t59 (Nat.le_of_ble_eq_true rfl) ?_
  simp (disch := omega) only [F59, go_sem, simprocAttr]
  refine new_opq hs2 fun a h hs => ?_
  have ha := hs.at
  have hx := hs.p1.at
  have hw := hs.p3.at
  cases hn : c.kv.isNone
  case' true =>
    rw [hn, if_neg (by simp)] at hcr
    rw [hn, hcr] at hevc hdone
    rw [hn] at hs ha
    have hs3 := hs.set (o' := .row 8 [[.int .i64 (A.rev + 1), .bool true, .str y.key, .str y.val, .int .i64 cr, .int .i64 (A.rev + 1), .int .i64 y.ver, .int .i64 y.lease]] 1)
    have ha3 := hs3.at
    have hw3 := hs3.p3.at
    simp (disch := omega) only [go_sem, simprocAttr, ha, hx, hw, ha3, hw3]
  case' false =>
    rw [hn] at hs ha
    by_cases c0 : cr = 0
    case' pos =>
      rw [hn, if_pos ⟨rfl, c0⟩] at hcr
      rw [hn, hcr] at hevc hdone
      have hs3 := hs.set (o' := .row 8 [[.int .i64 (A.rev + 1), .bool false, .str y.key, .str y.val, .int .i64 (A.rev + 1), .int .i64 (A.rev + 1), .int .i64 y.ver, .int .i64 y.lease]] 1)
      have ha3 := hs3.at
      have hw3 := hs3.p3.at
      have c1 : (cr == 0) = true := by simpa using c0
      simp (disch := omega) only [go_sem, simprocAttr, ha, hx, hw, ha3, hw3, c1]
    case' neg =>
      rw [hn, if_neg (by rintro ⟨_, h⟩; exact c0 h)] at hcr
      rw [hn, hcr] at hevc hdone
      have hs3 := hs.set (o' := .row 8 [[.int .i64 (A.rev + 1), .bool false, .str y.key, .str y.val, .int .i64 cr, .int .i64 (A.rev + 1), .int .i64 y.ver, .int .i64 y.lease]] 1)
      have ha3 := hs3.at
      have hw3 := hs3.p3.at
      have c1 : (cr == 0) = false := by simpa using c0
      simp (disch := omega) only [go_sem, simprocAttr, ha, hx, hw, ha3, hw3, c1]
  all_goals
    generalize Hp.set h a _ = h3 at hs3 ⊢
    clear ha hx hw ha3 hw3
    refine new_opq hs3 fun n h hs => ?_
    simp (disch := omega) only [go_sem, simprocAttr]
    refine app_sat hs.p5 (src_one hs.at) (atoms_one (by simp [AV.isAtom])) (by simp; omega) fun v1 h hs c1 a1 => ?_
    have hw := hs.p5.at
    have hs4 := hs.p5.set (o' := .row 4 [[.ptr x 5 0 0, lv, v1, ks]] 1)
    have hw4 := hs4.at
    have ha4 := hs4.p3.at
    simp (disch := omega) only [go_sem, simprocAttr, c1, a1, hw, hw4, ha4]
    generalize Hp.set h w _ = h4 at hs4 ⊢
    refine new_opq hs4 fun n2 h hs => ?_
    simp (disch := omega) only [go_sem, simprocAttr]
    refine app_sat hs.p7 (src_one hs.at) (atoms_one (by simp [AV.isAtom])) (by simp; omega) fun v2 h hs c2 a2 => ?_
    have hw := hs.p2.at
    have hs5 := hs.p2.set (o' := .row 4 [[.ptr x 5 0 0, lv, v1, v2]] 1)
    have hw5 := hs5.at
    have ha5 := hs5.p5.at
    simp (disch := omega) only [go_sem, simprocAttr, c2, a2, hw, hw5, ha5]
    generalize Hp.set h w _ = h5 at hs5 ⊢
    refine call_use (hdone hs5) ?_
    rintro r h ⟨hr, hs⟩
    subst hr
    have hw := hs.at
    simp (disch := omega) only [go_sem, simprocAttr, hw]
    have hs6 := hs.set (o' := .row 4 [[.ptr x 5 0 0, kvsV (done W.cur c), v1, v2]] 1)
    have hs8 := rxP.2 ⟨o, xv, nw, ho, hs6.p2.drop.p3.drop.p3.drop.p1.p2.p2.p4.p4⟩
    have hs9 := hs8.p3.p3.p3
    rw [← hevc, hk] at hs9
    refine rwP.2 ⟨kvsV (done W.cur c), v1, v2, slV_lst, ?_⟩
    simpa [List.map_append] using hs9
theorem rgWr (hs : sat h (RxP x A :: F)) : Triple Tryz.prog 34 [.ptr x 5 0 0] h (fun r h => ∃ w, r = .ptr w 4 0 0 ∧ sat h (RwP w x A ⟨A.now, []⟩ :: RxP x A :: F)) := by
  obtain ⟨o, xv, nw, ho, hs2⟩ := rxP.1 hs
  have hx := hs2.at
  have nc := ho.2.cells
  have na := ho.2.atom
  refine t34 (Nat.le_of_ble_eq_true rfl) ?_
  simp (disch := omega) only [F34, hx, nc, na, go_sem, simprocAttr]
  refine new_opq hs2 fun w h hs => ?_
  have hs3 := rxP.2 ⟨o, xv, nw, ho, hs.p2.p2⟩
  have hs4 : sat h (pto w (.row 4 [[.ptr x 5 0 0, nw, .nils, .nils]] 1) :: RxP x A :: F) := hs3.p1
  simp (disch := omega) only [go_sem, simprocAttr]
  refine ⟨w, rfl, (rwP (W := ⟨A.now, []⟩)).2 ⟨nw, .nils, .nils, ho.2, ?_⟩⟩
  exact ((hs4.add (ow_nil (s := 1))).add (ow_nil (s := 8))).p3.p2.p2.p3
theorem rgPut {key val : Key} {lease : Int} (hs : sat h (RwP w x A W :: RxP x A :: F)) (ok : StoOK A) (hw : WrOK A W) (hz : W.cur.length + W.l.length ≤ 900000) (hr : A.rev ≤ 1000000000000000) :
    Triple Tryz.prog 35 [.ptr w 4 0 0, .str key, .str val, .int .i64 lease] h (fun r h => r = .int .i64 (wPut (A.rev + 1) W key val lease).1 ∧ sat h (RwP w x A (wPut (A.rev + 1) W key val lease).2 :: RxP x A :: F)) := by
  have hS := hw.srt ok
  refine t35 (Nat.le_of_ble_eq_true rfl) ?_
  simp (disch := omega) only [F35, go_sem, simprocAttr]
  by_cases k0 : key = []
  · have ef : wPut (A.rev + 1) W key val lease = (1, W) := by rw [wPut, if_pos (.inl k0)]
    have b0 : (key == []) = true := by simpa using k0
    rw [ef]
    simp (disch := omega) only [go_sem, simprocAttr, b0]
    exact hs
  have b0 : (key == []) = false := by simpa using k0
  by_cases k1 : 100 < key.length
  · have ef : wPut (A.rev + 1) W key val lease = (1, W) := by rw [wPut, if_pos (.inr (.inl k1))]
    have b1 : ((key.length : Int) > 100) = True := by simp; omega
    rw [ef]
    simp (disch := omega) only [go_sem, simprocAttr, b0, b1]
    exact hs
  have b1 : ((key.length : Int) > 100) = False := by simp; omega
  by_cases k2 : lease < 0
  · have ef : wPut (A.rev + 1) W key val lease = (1, W) := by rw [wPut, if_pos (.inr (.inr k2))]
    rw [ef]
    simp (disch := omega) only [go_sem, simprocAttr, b0, b1, k2]
    exact hs
  have g1 : ¬ (key = [] ∨ 100 < key.length ∨ lease < 0) := by rintro (h | h | h) <;> contradiction
  by_cases k3 : 4096 < val.length
  · have ef : wPut (A.rev + 1) W key val lease = (5, W) := by rw [wPut, if_neg g1, if_pos k3]
    have b3 : ((val.length : Int) > 4096) = True := by simp; omega
    rw [ef]
    simp (disch := omega) only [go_sem, simprocAttr, b0, b1, k2, b3]
    exact hs
  have b3 : ((val.length : Int) > 4096) = False := by simp; omega
  simp (disch := omega) only [go_sem, simprocAttr, b0, b1, k2, b3]
  refine call_use (rgChanged (key := key) hs (by omega)) ?_
  rintro r h ⟨hr', hs⟩
  subst hr'
  cases k4 : wChg W key with
  | true =>
    have ef : wPut (A.rev + 1) W key val lease = (18, W) := by rw [wPut, if_neg g1, if_neg k3, if_pos k4]
    rw [ef]
    simp (disch := omega) only [go_sem, simprocAttr, k4]
    exact hs
  | false =>
    obtain ⟨lv, ev, ks, hlv, hs1⟩ := rwP.1 hs
    have hwp := hs1.at
    simp (disch := omega) only [go_sem, simprocAttr, k4, hwp]
    refine call_use (rgGet (key := key) hlv hs1 hS (by omega)) ?_
    rintro r h ⟨hr', hs⟩
    subst hr'
    simp (disch := omega) only [go_sem, simprocAttr]
    refine new_opq hs fun a h hs => ?_
    have ha := hs.at
    have lenlv := hlv.lenM
    have hr0 := ok.rev
    have hp0 := ok.past
    cases hg : kvget W.cur key with
    | none =>
      have hs3 := hs.set (o' := .row 6 [[.str key, .str [], .int .i64 0, .int .i64 0, .int .i64 0, .int .i64 0]] 1)
      have ha3 := hs3.at
      have hw3 := hs3.p1.at
      have hs4 : sat _ (RwP w x A W :: RxP x A :: F) := rwP.2 ⟨lv, ev, ks, hlv, hs3.drop⟩
      by_cases k5 : 4096 ≤ W.cur.length
      · have ef : wPut (A.rev + 1) W key val lease = (14, W) := by rw [wPut, if_neg g1, if_neg k3, if_neg (by simp [k4]), if_pos ⟨hg, k5⟩]
        have b5 : ((W.cur.length : Int) ≥ 4096) = True := by simp; omega
        rw [ef]
        simp (disch := omega) only [go_sem, simprocAttr, Option.getD_none, Option.isSome_none, kvC, ha, ha3, hw3, lenlv, b5]
        exact hs4
      · have en : wNew (A.rev + 1) W key val lease = ⟨key, val, A.rev + 1, A.rev + 1, 1, lease⟩ := by unfold wNew; rw [hg]
        have ef : wPut (A.rev + 1) W key val lease = (0, ⟨done W.cur (.put ⟨key, val, A.rev + 1, A.rev + 1, 1, lease⟩), W.l ++ [.put ⟨key, val, A.rev + 1, A.rev + 1, 1, lease⟩]⟩) := by
          rw [wPut, if_neg g1, if_neg k3, if_neg (by simp [k4]), if_neg (by rintro ⟨_, h⟩; exact k5 h), en]
        have b5 : ((W.cur.length : Int) ≥ 4096) = False := by simp; omega
        rw [ef]
        simp (disch := omega) only [go_sem, simprocAttr, Option.getD_none, Option.isSome_none, kvC, ha, ha3, hw3, lenlv, b5]
        refine call_use (rgNote (c := .put ⟨key, val, A.rev + 1, A.rev + 1, 1, lease⟩) (cr := 0) (y := ⟨key, val, A.rev + 1, A.rev + 1, 1, lease⟩) hs4 hS hz hr (by omega) rfl (by simp [Ch.kv]) rfl) ?_
        intro r h hs
        simp (disch := omega) only [go_sem, simprocAttr]
        exact hs
    | some z =>
      obtain ⟨n1, n2, n3, n4, n5, n6, n7⟩ := cur_num ok hw z (kvget_some hg).1
      have hzk := (kvget_some hg).2
      have hs3 := hs.set (o' := .row 6 [[.str z.key, .str z.val, .int .i64 z.create, .int .i64 z.mod, .int .i64 z.ver, .int .i64 z.lease]] 1)
      have ha3 := hs3.at
      have hw3 := hs3.p1.at
      have hs4 : sat _ (RwP w x A W :: RxP x A :: F) := rwP.2 ⟨lv, ev, ks, hlv, hs3.drop⟩
      have en : wNew (A.rev + 1) W key val lease = ⟨key, val, z.create, A.rev + 1, z.ver + 1, lease⟩ := by unfold wNew; rw [hg]
      have ef : wPut (A.rev + 1) W key val lease = (0, ⟨done W.cur (.put ⟨key, val, z.create, A.rev + 1, z.ver + 1, lease⟩), W.l ++ [.put ⟨key, val, z.create, A.rev + 1, z.ver + 1, lease⟩]⟩) := by
        rw [wPut, if_neg g1, if_neg k3, if_neg (by simp [k4]), if_neg (by rintro ⟨h, _⟩; rw [hg] at h; cases h), en]
      rw [ef]
      simp (disch := omega) only [go_sem, simprocAttr, Option.getD_some, Option.isSome_some, kvC, ha, ha3, hw3, lenlv]
      refine call_use (rgNote (c := .put ⟨key, val, z.create, A.rev + 1, z.ver + 1, lease⟩) (cr := z.create) (y := ⟨key, val, z.create, A.rev + 1, z.ver + 1, lease⟩) hs4 hS hz hr (by omega) rfl (by rw [if_neg]; rintro ⟨_, h⟩; omega) rfl) ?_
      intro r h hs
      simp (disch := omega) only [go_sem, simprocAttr]
      exact hs
theorem wDels_app : ∀ {ks : List Key} {W : Go.Hz.Wr}, ∃ t, (wDels W ks).2.l = W.l ++ t
  | [], W => ⟨[], by simp [wDels]⟩
  | k :: ks, W => by
    obtain ⟨t, ht⟩ := wDels_app (ks := ks) (W := (wDel1 W k).2)
    have h1 : ∃ u, (wDel1 W k).2.l = W.l ++ u := by
      unfold wDel1
      split
      · exact ⟨[], by simp⟩
      · exact ⟨[.del k], rfl⟩
    obtain ⟨u, hu⟩ := h1
    exact ⟨u ++ t, by show (wDels (wDel1 W k).2 ks).2.l = _; rw [ht, hu, List.append_assoc]⟩
theorem rgDel {lo hi : Key} (hs : sat h (RwP w x A W :: RxP x A :: F)) (ok : StoOK A) (hw : WrOK A W) (hz : A.old.length + A.chs.length + W.l.length ≤ 200000) (hr : A.rev ≤ 1000000000000000) :
    Triple Tryz.prog 36 [.ptr w 4 0 0, .str lo, .str hi] h (fun r h => r = .int .i64 (wDels W ((W.cur.filter fun y => inK lo hi y.key).map Kv.key)).1 ∧ sat h (RwP w x A (wDels W ((W.cur.filter fun y => inK lo hi y.key).map Kv.key)).2 :: RxP x A :: F)) := by
  obtain ⟨lv, ev, ks, hlv, hs1⟩ := rwP.1 hs
  have hwp := hs1.at
  have hcl := cur_le hw
  have hr0 := ok.rev
  have hp0 := ok.past
  refine t36 (Nat.le_of_ble_eq_true rfl) ?_
  simp (disch := omega) only [F36, hwp, go_sem, simprocAttr]
  refine call_use (rgPick (lo := lo) (hi := hi) (lim := 0) hlv hs (by omega)) ?_
  rintro r h ⟨hr', hs⟩
  subst hr'
  have e1 : rngL W.cur lo hi 0 = (W.cur.filter fun y => inK lo hi y.key, (W.cur.filter fun y => inK lo hi y.key).length) := rfl
  rw [e1]
  have hin : ∀ y ∈ (W.cur.filter fun y => inK lo hi y.key), kvget W.cur y.key ≠ none := by
    intro y hy e
    exact kvget_none.1 e y (List.mem_filter.1 hy).1 rfl
  have hll : (W.cur.filter fun y => inK lo hi y.key).length ≤ W.cur.length := List.length_filter_le _ _
  generalize (W.cur.filter fun y => inK lo hi y.key) = l at hin hll ⊢
  have lenl : lenL (kvsV l) = some (.int .i64 l.length) := by simp [lenL]
  simp (disch := omega) only [go_sem, simprocAttr]
  refine run_up (N := l.length) (fun i e h => sat h (RwP w x A (wDels W ((l.take i).map Kv.key)).2 :: RxP x A :: F) ∧ (e 0 = .ptr w 4 0 0 ∧ e 7 = kvsV l ∧ e 9 = .int .i64 (wDels W ((l.take i).map Kv.key)).1 ∧ e 10 = .int .i64 i)) ⟨hs, by simp [Env.upd_apply, initE, wDels]⟩ ?_
  clear hs hs1 hwp
  rintro i e h hi' ⟨hs, he⟩
  have m1 : (i : Int) + 1 = ((i + 1 : Nat) : Int) := by omega
  simp (disch := omega) only [go_sem, simprocAttr, he, lenl, m1]
  refine cnd_dec (fun g1 => ?_) (fun g1 => ?_)
  · have hil : i < l.length := by omega
    have hia := ia_lst (f := kvC) (l := l) (i := i) (s := 6) (k := .i64) hil (fun _ => rfl)
    have hkn := hin _ (List.getElem_mem hil)
    have hst : wDels W ((l.take (i + 1)).map Kv.key) = ((wDels W ((l.take i).map Kv.key)).1 + (wDel1 (wDels W ((l.take i).map Kv.key)).2 l[i].key).1, (wDel1 (wDels W ((l.take i).map Kv.key)).2 l[i].key).2) := by
      rw [List.take_succ_eq_append_getElem hil, List.map_append, List.map_cons, List.map_nil, wDels_snoc]
    have hwd := wDels_ok ok (now_keys ok) (ks := (l.take i).map Kv.key) hw
    obtain ⟨h1, h2⟩ := wDels_len (ks := (l.take i).map Kv.key) (W := W)
    obtain ⟨t, ht⟩ := wDels_app (ks := (l.take i).map Kv.key) (W := W)
    rw [List.length_map, List.length_take] at h1 h2
    have hcl2 := cur_le hwd
    rw [hst]
    generalize l[i] = y at hia hkn ⊢
    simp only [kvC] at hia
    generalize wDels W ((l.take i).map Kv.key) = V at *
    simp (disch := omega) only [go_sem, simprocAttr, he, hia]
    refine call_use (rgChanged (key := y.key) hs (by omega)) ?_
    rintro r h ⟨hr', hs⟩
    subst hr'
    cases hc : wChg V.2 y.key with
    | true =>
      have ed : wDel1 V.2 y.key = (0, V.2) := by rw [wDel1, if_pos (.inl hc)]
      rw [ed]
      simp (disch := omega) only [go_sem, simprocAttr, he, hc, m1]
      exact ⟨hil, hs⟩
    | false =>
      have hkn2 : kvget V.2.cur y.key ≠ none := by
        have hc0 : wChg W y.key = false := by
          unfold wChg at hc ⊢
          rw [ht, List.any_append] at hc
          simp only [Bool.or_eq_false_iff] at hc
          exact hc.1
        rw [now_same ok hwd hc, ← now_same ok hw hc0]
        exact hkn
      have ed : wDel1 V.2 y.key = (1, ⟨done V.2.cur (.del y.key), V.2.l ++ [.del y.key]⟩) := by rw [wDel1, if_neg (by rintro (h | h); rw [hc] at h; cases h; exact hkn2 h)]
      rw [ed]
      have m2 : (V.1 : Int) + 1 = ((V.1 + 1 : Nat) : Int) := by omega
      simp (disch := omega) only [go_sem, simprocAttr, he, hc, hia]
      refine call_use (rgNote (c := .del y.key) (cr := 0) (y := ⟨y.key, [], 0, A.rev + 1, 0, 0⟩) hs (hwd.srt ok) (by omega) hr (by omega) rfl (by simp [Ch.kv]) rfl) ?_
      intro r h hs
      simp (disch := omega) only [go_sem, simprocAttr, he, m1, m2]
      exact ⟨hil, hs⟩
  · simp (disch := omega) only [go_sem, simprocAttr, he]
    have hil : i = l.length := by omega
    subst hil
    rw [List.take_length] at hs ⊢
    exact ⟨rfl, hs⟩
theorem atoms_ev (l : List Ver) : AtomsL (l.map evC) := by
  intro e he v hv
  obtain ⟨k, _, rfl⟩ := List.mem_map.1 he
  simp only [evC, kvC, List.mem_cons, List.not_mem_nil, or_false] at hv
  rcases hv with rfl | rfl | rfl | rfl | rfl | rfl | rfl | rfl <;> rfl
theorem rgDn (hs : sat h (RwP w x A W :: RxP x A :: F)) (hw : WrOK A W) (hz : A.chs.length + W.l.length ≤ 1000000) (hr : A.rev ≤ 1000000000000000) (hr0 : 0 ≤ A.rev) :
    Triple Tryz.prog 38 [.ptr w 4 0 0] h (fun r h => r = .int .i64 (stDone A W).rev ∧ sat h (RxP x (stDone A W) :: F)) := by
  obtain ⟨lv, ev, ks, hlv, hs1⟩ := rwP.1 hs
  obtain ⟨o, xv, nw, ho, hs2⟩ := rxP.1 hs1.p3
  have hx := hs2.at
  have hwp := hs2.p2.at
  have hel := hs2.p3.els.len
  rw [List.length_map] at hel
  have nc := hlv.cells
  have na := hlv.atom
  refine t38 (Nat.le_of_ble_eq_true rfl) ?_
  simp (disch := omega) only [F38, hx, hwp, hel, go_sem, simprocAttr]
  by_cases w0 : W.l = []
  · have ed : stDone A W = A := by rw [stDone, if_pos w0]
    have c1 : ((W.l.length : Int) > 0) = False := by simp [w0]
    rw [ed]
    simp (disch := omega) only [go_sem, simprocAttr, c1, hx]
    exact rxP.2 ⟨o, xv, nw, ho, hs2.p2.drop.p2.drop.p2.drop.p1.p1⟩
  · have hlen : W.l.length ≠ 0 := fun h => w0 (List.length_eq_zero_iff.1 h)
    have c1 : ((W.l.length : Int) > 0) = True := by simp; omega
    have hnow := stDone_now hw
    have ed : stDone A W = ⟨A.rev + 1, A.past, A.old, A.chs ++ W.l.map fun c => ⟨A.rev + 1, c⟩⟩ := by rw [stDone, if_neg w0]
    have hs3 := hs2.set (o' := .row 5 [[.int .i64 (A.rev + 1), .int .i64 A.past, o, xv, lv]] 1)
    have hx3 := hs3.at
    have hw3 := hs3.p2.at
    simp (disch := omega) only [go_sem, simprocAttr, c1, hx, hx3, hw3, hwp, nc, na, hs2.set.p2.at, hs2.set.at]
    generalize Hp.set h x _ = h3 at hs3 hx3 hw3 ⊢
    refine new_opq hs3 fun n h hs => ?_
    have hwp := hs.p3.at
    simp (disch := omega) only [go_sem, simprocAttr, hwp]
    refine app_satO (hs.ow (Nat.zero_le _)) (hs.p2.els.1) (atoms_ev _) (by simp; omega) fun v1 h hs c1 a1 => ?_
    have hwp := hs.p3.at
    simp (disch := omega) only [go_sem, simprocAttr, c1, a1, hwp]
    have hat2 : AtomsL (W.l.map fun c => evC ⟨A.rev + 1, c⟩) := by
      have := atoms_ev (W.l.map fun c => (⟨A.rev + 1, c⟩ : Ver))
      rwa [List.map_map] at this
    refine app_sat hs (hs.p4.els.1) hat2 (by simp; omega) fun v2 h hs c2 a2 => ?_
    have hx := hs.p1.at
    have hs4 := hs.p1.set (o' := .row 5 [[.int .i64 (A.rev + 1), .int .i64 A.past, o, v2, lv]] 1)
    have hx4 := hs4.at
    simp (disch := omega) only [go_sem, simprocAttr, c2, a2, hx, hx4]
    have e1 : (stDone A W).rev = A.rev + 1 := by rw [ed]
    have e2 : (stDone A W).past = A.past := by rw [ed]
    have e3 : (stDone A W).old = A.old := by rw [ed]
    have e4 : (stDone A W).chs = A.chs ++ W.l.map fun c => ⟨A.rev + 1, c⟩ := by rw [ed]
    refine ⟨by rw [e1], rxP.2 ⟨o, v2, lv, ⟨by rw [e3]; exact ho.1, by rw [hnow]; exact hlv⟩, ?_⟩⟩
    rw [e1, e2, e4, List.map_append, List.map_map]
    exact hs4.p2.drop.p2.drop.p2.drop.p2.drop.p1.p1
end
end Go.Proofs.YthdlaodfdabjlaaGreat
/- The document's transactions: what is wrong with one. -/
set_option linter.unusedSimpArgs false
set_option linter.unusedVariables false
set_option maxRecDepth 10000
namespace Go.Proofs.YthdlaodfdabjlaaGreat
open Go.Hz

section
variable {h : Hp} {F : List Asr}
theorem leK {a b : Key} : (Op.bytesLess a b || a == b) = !ltK b a := by
  rw [← gtK (a := a) (b := b), Bool.not_not]
theorem rxKey {k : Key} (hs : sat h F) : Triple Tryz.prog 22 [.str k] h (fun r h => r = .bool (tKey k) ∧ sat h F) := by
  have e1 : (k != []) = !(k == []) := rfl
  have e2 : decide ((k.length : Int) ≤ 100) = decide (k.length ≤ 100) := by rw [decide_eq_decide]; omega
  refine t22 (Nat.le_of_ble_eq_true rfl) ?_
  simp (disch := omega) only [F22, go_sem, simprocAttr]
  unfold tKey
  cases hk : k == []
  · rw [hk, Bool.not_false] at e1
    simp (disch := omega) only [go_sem, simprocAttr, e1, e2]
    exact hs
  · rw [hk, Bool.not_true] at e1
    simp (disch := omega) only [go_sem, simprocAttr, e1]
    exact ⟨rfl, hs⟩
theorem rxOp {o : Op9} (hs : sat h F) (ho : o.val.length ≤ 9000000000) : Triple Tryz.prog 23 [.agg o.row] h (fun r h => r = .int .i64 (tOp o) ∧ sat h F) := by
  have ev : decide ((o.val.length : Int) > 4096) = decide (4096 < o.val.length) := by rw [decide_eq_decide]; omega
  refine t23 (Nat.le_of_ble_eq_true rfl) ?_
  simp (disch := omega) only [F23, Op9.row, go_sem, simprocAttr]
  refine new_opq hs fun p h hs => ?_
  have hp := hs.at
  unfold tOp
  by_cases a1 : o.kind < 0
  · have d1 : decide (o.kind < 0) = true := by simpa using a1
    rw [if_pos (by omega)]
    simp (disch := omega) only [go_sem, simprocAttr, hp, d1]
    exact hs.drop
  have d1 : decide (o.kind < 0) = false := by simpa using a1
  by_cases a2 : o.kind > 2
  · have d2 : decide (o.kind > 2) = true := by simpa using a2
    rw [if_pos (by omega)]
    simp (disch := omega) only [go_sem, simprocAttr, hp, d1, d2]
    exact hs.drop
  have d2 : decide (o.kind > 2) = false := by simpa using a2
  rw [if_neg (by omega)]
  simp (disch := omega) only [go_sem, simprocAttr, hp, d1, d2]
  refine call_use (rxKey (k := o.key) hs) ?_
  rintro r h ⟨hr, hs⟩
  subst hr
  have hp := hs.at
  cases hk : tKey o.key with
  | false =>
    rw [if_pos (.inl rfl)]
    simp (disch := omega) only [go_sem, simprocAttr, hp]
    exact hs.drop
  | true =>
  have nf : (o.fin != []) = !(o.fin == []) := rfl
  cases ef : o.fin == [] with
  | false =>
    rw [ef, Bool.not_false] at nf
    have hf : o.fin ≠ [] := by simpa using ef
    cases hl : ltK o.key o.fin with
    | false =>
      have e3 := leK (a := o.fin) (b := o.key)
      rw [hl] at e3
      rw [if_pos (.inr ⟨hf, rfl⟩)]
      simp (disch := omega) only [go_sem, simprocAttr, hp, nf, e3]
      exact hs.drop
    | true =>
      have e3 := leK (a := o.fin) (b := o.key)
      rw [hl] at e3
      rw [if_neg (by simp)]
      by_cases k0 : o.kind = 0
      · have d0 : (o.kind == 0) = true := by simpa using k0
        rw [if_pos ⟨k0, .inl hf⟩]
        simp (disch := omega) only [go_sem, simprocAttr, hp, nf, e3, d0]
        exact hs.drop
      · have d0 : (o.kind == 0) = false := by simpa using k0
        rw [if_neg (fun hh => k0 hh.1), if_neg (fun hh => k0 hh.1)]
        simp (disch := omega) only [go_sem, simprocAttr, hp, nf, e3, d0]
        exact hs.drop
  | true =>
    rw [ef, Bool.not_true] at nf
    have hf : o.fin = [] := by simpa using ef
    rw [if_neg (by simp [hf])]
    by_cases k0 : o.kind = 0
    rotate_left
    · have d0 : (o.kind == 0) = false := by simpa using k0
      rw [if_neg (fun hh => k0 hh.1), if_neg (fun hh => k0 hh.1)]
      simp (disch := omega) only [go_sem, simprocAttr, hp, nf, d0]
      exact hs.drop
    have d0 : (o.kind == 0) = true := by simpa using k0
    by_cases hl : o.lease < 0
    · have dl : decide (o.lease < 0) = true := by simpa using hl
      rw [if_pos ⟨k0, .inr hl⟩]
      simp (disch := omega) only [go_sem, simprocAttr, hp, nf, d0, dl]
      exact hs.drop
    have dl : decide (o.lease < 0) = false := by simpa using hl
    rw [if_neg (by rintro ⟨_, h1 | h1⟩; exact h1 hf; exact hl h1)]
    by_cases hv : 4096 < o.val.length
    · have dv : decide (4096 < o.val.length) = true := by simpa using hv
      rw [if_pos ⟨k0, hv⟩]
      simp (disch := omega) only [go_sem, simprocAttr, hp, nf, d0, dl, ev, dv]
      exact hs.drop
    · have dv : decide (4096 < o.val.length) = false := by simpa using hv
      rw [if_neg (fun hh => hv hh.2)]
      simp (disch := omega) only [go_sem, simprocAttr, hp, nf, d0, dl, ev, dv]
      exact hs.drop
theorem opsV_at {l : List Op9} {i : Nat} (hi : i < l.length) : iaA 6 (opsV l) (.int .i64 (i : Int)) = some (.ro [.int .i64 l[i].kind, .str l[i].key, .str l[i].fin, .str l[i].val, .int .i64 l[i].lease, .int .i64 l[i].lim]) := ia_lst (f := Op9.row) hi fun _ => rfl
theorem ifsV_at {l : List If9} {i : Nat} (hi : i < l.length) : iaA 5 (ifsV l) (.int .i64 (i : Int)) = some (.ro [.str l[i].key, .int .i64 l[i].tgt, .int .i64 l[i].sign, .int .i64 l[i].n, .str l[i].text]) := ia_lst (f := If9.row) hi fun _ => rfl
theorem atoms_op9 (l : List Op9) : AtomsL (l.map Op9.row) := by
  intro e he v hv
  obtain ⟨k, _, rfl⟩ := List.mem_map.1 he
  simp only [Op9.row, List.mem_cons, List.not_mem_nil, or_false] at hv
  rcases hv with rfl | rfl | rfl | rfl | rfl | rfl <;> rfl
theorem len_opsV (l : List Op9) : lenL (opsV l) = some (.int .i64 l.length) := by simp [opsV, lenL]
theorem len_ifsV (l : List If9) : lenL (ifsV l) = some (.int .i64 l.length) := by simp [ifsV, lenL]
/-- A key that is changed twice, as the document has it. -/
theorem two_eq {a b : Op9} (ha : Op9K a) (hb : Op9K b) : tTwo a b = (decide (a.kind = 0) && ((decide (b.kind = 0) && (b.key == a.key)) || (decide (b.kind = 1) && inK b.key b.fin a.key))) := by
  unfold tTwo
  by_cases k0 : a.kind = 0
  rotate_left
  · simp [k0]
  have hk := hb.kind
  have h3 : b.kind = 0 ∨ b.kind = 1 ∨ b.kind = 2 := by omega
  have e0 : tIn a.key b = (a.key == b.key || (!(b.fin == []) && (ltK b.key a.key && ltK a.key b.fin))) := rfl
  rcases h3 with h3 | h3 | h3
  · obtain ⟨hf, _, _⟩ := hb.put h3
    rw [e0, hf]
    have e5 : (a.key == b.key) = (b.key == a.key) := by rw [Bool.eq_iff_iff]; simp only [beq_iff_eq]; exact eq_comm
    simp [k0, h3, e5]
  · have : inK b.key b.fin a.key = tIn a.key b := by
      rw [e0]
      unfold inK inR
      by_cases hf : b.fin = []
      · simp [hf]
      · rw [if_neg hf]
        have hlt := hb.fin.resolve_left hf
        by_cases he : a.key = b.key
        · rw [he]; simp [hlt, ltK_irrefl]
        · have e1 : (!ltK a.key b.key) = ltK b.key a.key := by
            cases h1 : ltK a.key b.key with
            | true => simp [ltK_asym h1]
            | false =>
              cases h2 : ltK b.key a.key with
              | true => rfl
              | false => exact absurd (ltK_total h1 h2) he
          rw [e1]
          have e2 : (b.fin == []) = false := by simpa using hf
          have e4 : (a.key == b.key) = false := by simpa using he
          simp [e2, e4]
    simp [k0, h3, this]
  · simp [k0, h3]
theorem rxTwice {l : List Op9} (hs : sat h F) (hl : l.length ≤ 1000000) (hk : ∀ o ∈ l, Op9K o) : Triple Tryz.prog 24 [opsV l] h (fun r h => r = .bool (tTwice l) ∧ sat h F) := by
  have lenV := len_opsV l
  refine t24 (Nat.le_of_ble_eq_true rfl) ?_
  simp (disch := omega) only [F24, go_sem, simprocAttr]
  refine run_up (N := l.length) (fun i e h => (∀ a b (ha : a < l.length) (hb : b < l.length), a < i → a ≠ b → tTwo l[a] l[b] = false) ∧ sat h F ∧ (e 0 = opsV l ∧ e 3 = .int .i64 i)) ⟨fun a b _ _ h => by omega, hs, by simp [Env.upd_apply, initE]⟩ ?_
  clear hs
  rintro i e h hi ⟨hno, hs, he⟩
  have m1 : (i : Int) + 1 = ((i + 1 : Nat) : Int) := by omega
  by_cases hil : i < l.length
  rotate_left
  · have c1 : ((i : Int) < l.length) = False := by simp; omega
    simp (disch := omega) only [go_sem, simprocAttr, he, lenV, c1]
    exact ⟨by rw [tTwice_f fun a b ha hb hab => hno a b ha hb (by omega) hab], hs⟩
  have c1 : ((i : Int) < l.length) = True := by simp; omega
  have hia := opsV_at hil
  have ht := fun b (hb : b < l.length) (hn : i ≠ b) (h2 : tTwo l[i] l[b] = true) => tTwice_t hil hb hn h2
  have hno2 : (∀ b (hb : b < l.length), i ≠ b → tTwo l[i] l[b] = false) → ∀ a b (ha : a < l.length) (hb : b < l.length), a < i + 1 → a ≠ b → tTwo l[a] l[b] = false := by
    intro hh a b ha hb hai hab
    by_cases h1 : a = i
    · subst h1; exact hh b hb hab
    · exact hno a b ha hb (by omega) hab
  have hkx := hk _ (List.getElem_mem hil)
  obtain ⟨x, hx⟩ : ∃ x, x = l[i] := ⟨_, rfl⟩
  rw [← hx] at hia ht hno2 hkx
  by_cases k0 : x.kind = 0
  rotate_left
  · have d0 : (x.kind != 0) = true := by simpa using k0
    have hz : ∀ b, tTwo x b = false := fun b => by simp [tTwo, k0]
    simp (disch := omega) only [go_sem, simprocAttr, he, lenV, c1, hia, d0, m1]
    exact ⟨hil, hno2 fun b _ _ => hz _, hs⟩
  have d0 : (x.kind != 0) = false := by simpa using k0
  simp (disch := omega) only [go_sem, simprocAttr, he, lenV, c1, hia, d0]
  refine blk_join (Q := fun e h => (∀ b (hb : b < l.length), i ≠ b → tTwo x l[b] = false) ∧ sat h F ∧ (e 0 = opsV l ∧ e 3 = .int .i64 i)) ?_ ?_
  · refine run_up (N := l.length) (fun k e h => (∀ b (hb : b < l.length), b < k → i ≠ b → tTwo x l[b] = false) ∧ sat h F ∧ (e 0 = opsV l ∧ e 3 = .int .i64 i ∧ e 4 = .int .i64 k)) ⟨fun b _ h => by omega, hs, by simp [Env.upd_apply, he]⟩ ?_
    clear hs he
    rintro k e h hki ⟨hnk, hs, he⟩
    have m2 : (k : Int) + 1 = ((k + 1 : Nat) : Int) := by omega
    by_cases hkl : k < l.length
    rotate_left
    · have c2 : ((k : Int) < l.length) = False := by simp; omega
      simp (disch := omega) only [go_sem, simprocAttr, he, lenV, c2]
      exact ⟨fun b hb hib => hnk b hb (by omega) hib, hs⟩
    have c2 : ((k : Int) < l.length) = True := by simp; omega
    have hka := opsV_at hkl
    have htk := ht k hkl
    have hnk2 : (i ≠ k → tTwo x l[k] = false) → ∀ b (hb : b < l.length), b < k + 1 → i ≠ b → tTwo x l[b] = false := by
      intro hh b hb hbk hib
      by_cases h1 : b = k
      · subst h1; exact hh hib
      · exact hnk b hb (by omega) hib
    have htw := two_eq hkx (hk _ (List.getElem_mem hkl))
    generalize l[k] = y at hka htk hnk2 htw
    have hb1 : ((k : Int) != (i : Int)) = (k != i) := by rw [Bool.eq_iff_iff]; simp; omega
    rw [decide_eq_true k0, Bool.true_and] at htw
    cases b1 : k != i with
    | false =>
      rw [b1] at hb1
      have hik : k = i := by simpa using b1
      simp (disch := omega) only [go_sem, simprocAttr, he, lenV, c2, hb1, m2]
      exact ⟨hkl, hnk2 (fun hh => absurd hik.symm hh), hs⟩
    | true =>
    rw [b1] at hb1
    have hik : i ≠ k := fun hh => by rw [hh] at b1; simp at b1
    by_cases y0 : y.kind = 0
    · have e0 : (y.kind == 0) = true := by simpa using y0
      have e1 : (y.kind == 1) = false := by rw [y0]; rfl
      rw [decide_eq_true y0, decide_eq_false (by omega : ¬ y.kind = 1), Bool.true_and, Bool.false_and, Bool.or_false] at htw
      cases b2 : y.key == x.key with
      | true =>
        rw [b2] at htw
        simp (disch := omega) only [go_sem, simprocAttr, he, lenV, c2, hb1, hka, hia, e0, b2]
        exact ⟨by rw [htk hik htw], hs⟩
      | false =>
        rw [b2] at htw
        simp (disch := omega) only [go_sem, simprocAttr, he, lenV, c2, hb1, hka, hia, e0, b2, e1, m2]
        exact ⟨hkl, hnk2 (fun _ => htw), hs⟩
    have e0 : (y.kind == 0) = false := by simpa using y0
    rw [decide_eq_false y0, Bool.false_and, Bool.false_or] at htw
    by_cases y1 : y.kind = 1
    · have e1 : (y.kind == 1) = true := by simpa using y1
      rw [decide_eq_true y1, Bool.true_and] at htw
      simp (disch := omega) only [go_sem, simprocAttr, he, lenV, c2, hb1, hka, hia, e0, e1]
      refine call_use (rgIn (k := x.key) (lo := y.key) (hi := y.fin) hs) ?_
      rintro r h ⟨hr, hs⟩
      subst hr
      cases b2 : inK y.key y.fin x.key with
      | true =>
        rw [b2] at htw
        simp (disch := omega) only [go_sem, simprocAttr, he]
        exact ⟨by rw [htk hik htw], hs⟩
      | false =>
        rw [b2] at htw
        simp (disch := omega) only [go_sem, simprocAttr, he, m2]
        exact ⟨hkl, hnk2 (fun _ => htw), hs⟩
    · have e1 : (y.kind == 1) = false := by simpa using y1
      rw [decide_eq_false y1, Bool.false_and] at htw
      simp (disch := omega) only [go_sem, simprocAttr, he, lenV, c2, hb1, hka, hia, e0, e1, m2]
      exact ⟨hkl, hnk2 (fun _ => htw), hs⟩
  clear hs he
  rintro e h ⟨hnk, hs, he⟩
  simp (disch := omega) only [go_sem, simprocAttr, he, m1]
  exact ⟨hil, hno2 hnk, hs⟩
end
end Go.Proofs.YthdlaodfdabjlaaGreat
/- The document's transactions: what is wrong with one, what holds. -/
set_option linter.unusedSimpArgs false
set_option linter.unusedVariables false
set_option maxRecDepth 10000
namespace Go.Proofs.YthdlaodfdabjlaaGreat
open Go.Hz

section
variable {h : Hp} {F : List Asr} {x : Nat} {A : Sto}
theorem at_map {α : Type} {f : α → Int} {l : List α} {i : Nat} (hi : i < l.length) (h1 : ∀ j (hj : j < l.length), j < i → f l[j] = 0) (h2 : f l[i] ≠ 0) : eL (l.map f) = f l[i] := by
  have := eL_first (l := l.map f) (i := i) (by simpa using hi) (fun j hj hji => by rw [List.getElem_map]; exact h1 j (by simpa using hj) hji) (by rw [List.getElem_map]; exact h2)
  rwa [List.getElem_map] at this
theorem all_map {α : Type} {f : α → Int} {l : List α} (h1 : ∀ j (hj : j < l.length), f l[j] = 0) : eL (l.map f) = 0 := eL_zero.2 fun x hx => by
  obtain ⟨y, hy, rfl⟩ := List.mem_map.1 hx
  obtain ⟨j, hj, rfl⟩ := List.getElem_of_mem hy
  exact h1 j hj
theorem rxCheck {t : Tx9} (hs : sat h F) (l1 : t.ifs.length ≤ 1000000000) (l2 : t.thn.length ≤ 1000000000) (l3 : t.els.length ≤ 1000000000) (hv : ∀ o ∈ t.thn ++ t.els, o.val.length ≤ 9000000000) :
    Triple Tryz.prog 8 [.agg t.row] h (fun r h => r = .int .i64 (tCheck t) ∧ sat h F) := by
  have len1 := len_ifsV t.ifs
  have len2 := len_opsV t.thn
  have len3 := len_opsV t.els
  have a1 : (ifsV t.ifs).isAtom = true := rfl
  have a2 : (opsV t.thn).isAtom = true := rfl
  have a3 : (opsV t.els).isAtom = true := rfl
  refine t8 (Nat.le_of_ble_eq_true rfl) ?_
  simp (disch := omega) only [F8, Tx9.row, a1, a2, a3, go_sem, simprocAttr]
  refine new_opq hs fun p h hs => ?_
  have hp := hs.at
  simp (disch := omega) only [go_sem, simprocAttr, hp, len1]
  by_cases c1 : 32 < t.ifs.length ∨ 32 < t.thn.length ∨ 32 < t.els.length
  · have hc : tCheck t = 4 := by unfold tCheck; rw [if_pos c1]
    rw [hc]
    by_cases d1 : 32 < t.ifs.length
    · have e1 : decide ((t.ifs.length : Int) > 32) = true := by simp; omega
      simp (disch := omega) only [go_sem, simprocAttr, e1]
      exact hs.drop
    have e1 : decide ((t.ifs.length : Int) > 32) = false := by simp; omega
    by_cases d2 : 32 < t.thn.length
    · have e2 : decide ((t.thn.length : Int) > 32) = true := by simp; omega
      simp (disch := omega) only [go_sem, simprocAttr, e1, hp, len2, e2]
      exact hs.drop
    have e2 : decide ((t.thn.length : Int) > 32) = false := by simp; omega
    have e3 : decide ((t.els.length : Int) > 32) = true := by simp; omega
    simp (disch := omega) only [go_sem, simprocAttr, e1, hp, len2, e2, len3, e3]
    exact hs.drop
  have e1 : decide ((t.ifs.length : Int) > 32) = false := by simp; omega
  have e2 : decide ((t.thn.length : Int) > 32) = false := by simp; omega
  have e3 : decide ((t.els.length : Int) > 32) = false := by simp; omega
  have hc : tCheck t = eF (tBad t) (if tTwice t.thn = true ∨ tTwice t.els = true then 18 else 0) := by unfold tCheck; rw [if_neg c1]
  have hbe := tBad_eq (t := t)
  simp (disch := omega) only [go_sem, simprocAttr, e1, hp, len2, e2, len3, e3, len1]
  refine blk_join (Q := fun e h => eL (t.ifs.map tIf) = 0 ∧ sat h (pto p (.row 3 [[ifsV t.ifs, opsV t.thn, opsV t.els]] 1) :: F) ∧ (e 1 = .ptr p 3 0 0)) ?_ ?_
  · refine run_up (N := t.ifs.length) (fun i e h => (∀ j (hj : j < t.ifs.length), j < i → tIf t.ifs[j] = 0) ∧ sat h (pto p (.row 3 [[ifsV t.ifs, opsV t.thn, opsV t.els]] 1) :: F) ∧ (e 1 = .ptr p 3 0 0 ∧ e 3 = .int .i64 i)) ⟨fun j _ h => by omega, hs, by simp [Env.upd_apply, initE]⟩ ?_
    clear hs hp
    rintro i e h hi ⟨hno, hs, he⟩
    have m1 : (i : Int) + 1 = ((i + 1 : Nat) : Int) := by omega
    have hp := hs.at
    by_cases hil : i < t.ifs.length
    rotate_left
    · have c2 : ((i : Int) < t.ifs.length) = False := by simp; omega
      simp (disch := omega) only [go_sem, simprocAttr, he, hp, len1, c2]
      exact ⟨all_map fun j hj => hno j hj (by omega), hs⟩
    have c2 : ((i : Int) < t.ifs.length) = True := by simp; omega
    have hia := ifsV_at hil
    have hbad : tIf t.ifs[i] ≠ 0 → tCheck t = tIf t.ifs[i] := fun hh => by
      rw [hc, hbe, at_map hil hno hh]
      unfold eF
      rw [if_neg hh, if_neg hh]
    have hgood : tIf t.ifs[i] = 0 → ∀ j (hj : j < t.ifs.length), j < i + 1 → tIf t.ifs[j] = 0 := fun hh j hj hji => by
      by_cases h1 : j = i
      · subst h1; exact hh
      · exact hno j hj (by omega)
    generalize t.ifs[i] = c at hia hbad hgood
    simp (disch := omega) only [go_sem, simprocAttr, he, hp, len1, c2, hia]
    refine call_use (rxKey (k := c.key) hs) ?_
    rintro r h ⟨hr, hs⟩
    subst hr
    have hp := hs.at
    unfold tIf at hbad hgood
    cases hk : tKey c.key with
    | false =>
      rw [hk, if_pos rfl] at hbad
      simp (disch := omega) only [go_sem, simprocAttr, he]
      exact ⟨by rw [hbad (by simp)], hs.drop⟩
    | true =>
    rw [hk, if_neg (by simp)] at hbad hgood
    by_cases b1 : c.tgt < 0
    · have f1 : decide (c.tgt < 0) = true := by simpa using b1
      rw [if_neg (by omega)] at hbad
      simp (disch := omega) only [go_sem, simprocAttr, he, hp, hia, f1]
      exact ⟨by rw [hbad (by simp)], hs.drop⟩
    have f1 : decide (c.tgt < 0) = false := by simpa using b1
    by_cases b2 : c.tgt > 4
    · have f2 : decide (c.tgt > 4) = true := by simpa using b2
      rw [if_neg (by omega)] at hbad
      simp (disch := omega) only [go_sem, simprocAttr, he, hp, hia, f1, f2]
      exact ⟨by rw [hbad (by simp)], hs.drop⟩
    have f2 : decide (c.tgt > 4) = false := by simpa using b2
    by_cases b3 : c.sign < 0
    · have f3 : decide (c.sign < 0) = true := by simpa using b3
      rw [if_neg (by omega)] at hbad
      simp (disch := omega) only [go_sem, simprocAttr, he, hp, hia, f1, f2, f3]
      exact ⟨by rw [hbad (by simp)], hs.drop⟩
    have f3 : decide (c.sign < 0) = false := by simpa using b3
    by_cases b4 : c.sign > 3
    · have f4 : decide (c.sign > 3) = true := by simpa using b4
      rw [if_neg (by omega)] at hbad
      simp (disch := omega) only [go_sem, simprocAttr, he, hp, hia, f1, f2, f3, f4]
      exact ⟨by rw [hbad (by simp)], hs.drop⟩
    have f4 : decide (c.sign > 3) = false := by simpa using b4
    rw [if_pos (by omega)] at hgood
    simp (disch := omega) only [go_sem, simprocAttr, he, hp, hia, f1, f2, f3, f4, m1]
    exact ⟨hil, hgood rfl, hs⟩
  clear hs hp
  rintro e h ⟨z1, hs, he⟩
  have hp := hs.at
  simp (disch := omega) only [go_sem, simprocAttr, he, hp]
  refine new_opq hs fun n h hs => ?_
  have hp := hs.p1.at
  simp (disch := omega) only [go_sem, simprocAttr, he, hp]
  refine app_satO (hs.ow (Nat.zero_le _)) (src_lst (op_len t.thn)) (atoms_op9 t.thn) (by simp; omega) fun v1 h hs ca aa => ?_
  have hp := hs.p1.at
  simp (disch := omega) only [go_sem, simprocAttr, he, hp, ca, aa]
  refine app_sat hs (src_lst (op_len t.els)) (atoms_op9 t.els) (by simp; omega) fun v2 h hs ca aa => ?_
  rw [List.nil_append, ← List.map_append] at hs
  obtain ⟨all, hall⟩ : ∃ all, t.thn ++ t.els = all := ⟨_, rfl⟩
  rw [hall] at hs hv
  have z2 : eF (eL (t.thn.map tOp)) (eL (t.els.map tOp)) = eL (all.map tOp) := by rw [← hall, List.map_append, eL_app]
  have lall : all.length ≤ 64 := by rw [← hall, List.length_append]; omega
  rw [z1, eF_0, z2] at hbe
  have lenA := hs.els.len
  rw [List.length_map] at lenA
  simp (disch := omega) only [go_sem, simprocAttr, he, ca, aa]
  refine blk_join (Q := fun e h => (∀ o ∈ all, tOp o = 0) ∧ sat h (pto p (.row 3 [[ifsV t.ifs, opsV t.thn, opsV t.els]] 1) :: F) ∧ (e 1 = .ptr p 3 0 0)) ?_ ?_
  · refine run_up (N := all.length) (fun i e h => (∀ j (hj : j < all.length), j < i → tOp all[j] = 0) ∧ sat h (Ow 6 v2 (all.map Op9.row) :: pto p (.row 3 [[ifsV t.ifs, opsV t.thn, opsV t.els]] 1) :: F) ∧ (e 1 = .ptr p 3 0 0 ∧ e 4 = v2 ∧ e 5 = .int .i64 i)) ⟨fun j _ h => by omega, hs, by simp [Env.upd_apply, he]⟩ ?_
    clear hs hp he
    rintro i e h hi ⟨hno, hs, he⟩
    have m1 : (i : Int) + 1 = ((i + 1 : Nat) : Int) := by omega
    by_cases hil : i < all.length
    rotate_left
    · have c2 : ((i : Int) < all.length) = False := by simp; omega
      simp (disch := omega) only [go_sem, simprocAttr, he, lenA, c2]
      refine ⟨fun o ho => ?_, hs.drop⟩
      obtain ⟨j, hj, rfl⟩ := List.getElem_of_mem ho
      exact hno j hj (by omega)
    have c2 : ((i : Int) < all.length) = True := by simp; omega
    obtain ⟨q, hq1, hq2⟩ := op_at hs.els hil
    have hvo := hv _ (List.getElem_mem hil)
    have hbad : tOp all[i] ≠ 0 → tCheck t = tOp all[i] := fun hh => by
      rw [hc, hbe, at_map hil hno hh]
      unfold eF
      rw [if_neg hh]
    have hgood : tOp all[i] = 0 → ∀ j (hj : j < all.length), j < i + 1 → tOp all[j] = 0 := fun hh j hj hji => by
      by_cases h1 : j = i
      · subst h1; exact hh
      · exact hno j hj (by omega)
    generalize all[i] = o at hq2 hbad hgood hvo
    simp (disch := omega) only [go_sem, simprocAttr, he, lenA, c2, hq1, hq2, Op9.row]
    refine call_use (rxOp (o := o) hs hvo) ?_
    rintro r h ⟨hr, hs⟩
    subst hr
    by_cases h0 : tOp o = 0
    · have d0 : (tOp o != 0) = false := by simpa using h0
      simp (disch := omega) only [go_sem, simprocAttr, he, d0, m1]
      exact ⟨hil, hgood h0, hs⟩
    · have d0 : (tOp o != 0) = true := by simpa using h0
      simp (disch := omega) only [go_sem, simprocAttr, he, d0]
      exact ⟨by rw [hbad h0], hs.drop.drop⟩
  clear hs hp he
  rintro e h ⟨z3, hs, he⟩
  have zb : tBad t = 0 := by
    rw [hbe, eL_zero]
    intro y hy
    obtain ⟨o, ho, rfl⟩ := List.mem_map.1 hy
    exact z3 o ho
  rw [hc, zb, eF_0]
  have hp := hs.at
  simp (disch := omega) only [go_sem, simprocAttr, he, hp]
  refine call_use (rxTwice (l := t.thn) hs (by omega) fun o ho => tOp_ok (z3 o (hall ▸ List.mem_append_left _ ho))) ?_
  rintro r h ⟨hr, hs⟩
  subst hr
  have hp := hs.at
  cases b1 : tTwice t.thn with
  | true =>
    simp (disch := omega) only [go_sem, simprocAttr, he]
    exact ⟨by simp, hs.drop⟩
  | false =>
    simp (disch := omega) only [go_sem, simprocAttr, he, hp]
    refine call_use (rxTwice (l := t.els) hs (by omega) fun o ho => tOp_ok (z3 o (hall ▸ List.mem_append_right _ ho))) ?_
    rintro r h ⟨hr, hs⟩
    subst hr
    cases b2 : tTwice t.els
    all_goals
      simp (disch := omega) only [go_sem, simprocAttr, he]
      exact ⟨by simp, hs.drop⟩
theorem rxAgainst {a b : Int} (hs : sat h F) : Triple Tryz.prog 28 [.int .i64 a, .int .i64 b] h (fun r h => r = .int .i64 (cmpI a b) ∧ sat h F) := by
  refine t28 (Nat.le_of_ble_eq_true rfl) ?_
  simp (disch := omega) only [F28, go_sem, simprocAttr]
  unfold cmpI
  refine cnd_dec (fun h1 => ?_) (fun h1 => ?_)
  · rw [if_pos h1]
    simp (disch := omega) only [go_sem, simprocAttr]
    exact hs
  · rw [if_neg h1]
    simp (disch := omega) only [go_sem, simprocAttr]
    refine cnd_dec (fun h2 => ?_) (fun h2 => ?_)
    · rw [if_pos h2]
      simp (disch := omega) only [go_sem, simprocAttr]
      exact hs
    · rw [if_neg h2]
      simp (disch := omega) only [go_sem, simprocAttr]
      exact hs
theorem rxSign {s c : Int} (hs : sat h F) : Triple Tryz.prog 29 [.int .i64 s, .int .i64 c] h (fun r h => r = .bool (tSign s c) ∧ sat h F) := by
  have h3 : s = 0 ∨ s = 1 ∨ s = 2 ∨ s = 3 ∨ (s ≠ 0 ∧ s ≠ 1 ∧ s ≠ 2 ∧ s ≠ 3) := by omega
  have q0 : (c == 0) = decide (c = 0) := by rw [Bool.eq_iff_iff]; simp
  have q1 : (c != 0) = decide (c ≠ 0) := by rw [Bool.eq_iff_iff]; simp
  have q3 : decide (c > 0) = decide (0 < c) := rfl
  refine t29 (Nat.le_of_ble_eq_true rfl) ?_
  simp (disch := omega) only [F29, go_sem, simprocAttr]
  rcases h3 with rfl | rfl | rfl | rfl | ⟨g0, g1, g2, g3⟩
  · simp (disch := omega) only [go_sem, simprocAttr]
    exact ⟨by rw [q0]; rfl, hs⟩
  · simp (disch := omega) only [go_sem, simprocAttr]
    exact ⟨by rw [q1]; rfl, hs⟩
  · simp (disch := omega) only [go_sem, simprocAttr]
    exact ⟨rfl, hs⟩
  · simp (disch := omega) only [go_sem, simprocAttr]
    exact ⟨rfl, hs⟩
  · have d0 : (s == 0) = false := by simpa using g0
    have d1 : (s == 1) = false := by simpa using g1
    have d2 : (s == 2) = false := by simpa using g2
    have d3 : (s == 3) = false := by simpa using g3
    simp (disch := omega) only [go_sem, simprocAttr, d0, d1, d2, d3]
    exact ⟨by simp [tSign, g0, g1, g2, g3], hs⟩
theorem tAgainst_d {l : List Kv} {k : Key} {c : If9} : tAgainst ((kvget l k).getD ⟨k, [], 0, 0, 0, 0⟩) c = tAgainst ((kvget l k).getD kv0) c := by
  cases kvget l k with
  | none => simp [tAgainst, tNum, kv0]
  | some x => rfl
theorem rxHolds {l : List If9} (hs : sat h (RxP x A :: F)) (ok : StoOK A) (hl : l.length ≤ 1000000000) (hz : A.now.length ≤ 1000000) :
    Triple Tryz.prog 10 [.ptr x 5 0 0, ifsV l] h (fun r h => r = .bool (tHolds A.now l) ∧ sat h (RxP x A :: F)) := by
  have lenV := len_ifsV l
  refine t10 (Nat.le_of_ble_eq_true rfl) ?_
  simp (disch := omega) only [F10, go_sem, simprocAttr]
  refine run_up (N := l.length) (fun i e h => (∀ j (hj : j < l.length), j < i → tHold A.now l[j] = true) ∧ sat h (RxP x A :: F) ∧ (e 0 = .ptr x 5 0 0 ∧ e 1 = ifsV l ∧ e 5 = .int .i64 i)) ⟨fun j _ h => by omega, hs, by simp [Env.upd_apply, initE]⟩ ?_
  clear hs
  rintro i e h hi ⟨hno, hs, he⟩
  have m1 : (i : Int) + 1 = ((i + 1 : Nat) : Int) := by omega
  by_cases hil : i < l.length
  rotate_left
  · have c1 : ((i : Int) < l.length) = False := by simp; omega
    have : tHolds A.now l = true := by
      unfold tHolds
      rw [List.all_eq_true]
      intro x hx
      obtain ⟨j, hj, rfl⟩ := List.getElem_of_mem hx
      exact hno j hj (by omega)
    simp (disch := omega) only [go_sem, simprocAttr, he, lenV, c1]
    exact ⟨by rw [this], hs⟩
  have c1 : ((i : Int) < l.length) = True := by simp; omega
  have hia := ifsV_at hil
  have hbad : tHold A.now l[i] = false → tHolds A.now l = false := fun hh => by
    unfold tHolds
    rw [List.all_eq_false]
    exact ⟨l[i], List.getElem_mem hil, by simp [hh]⟩
  have hgood : tHold A.now l[i] = true → ∀ j (hj : j < l.length), j < i + 1 → tHold A.now l[j] = true := fun hh j hj hji => by
    by_cases h1 : j = i
    · subst h1; exact hh
    · exact hno j hj (by omega)
  generalize l[i] = c at hia hbad hgood
  obtain ⟨oo, ev, nw, ho, hsx⟩ := rxP.1 hs
  have hx := hsx.at
  simp (disch := omega) only [go_sem, simprocAttr, he, lenV, c1, hx, hia]
  refine call_use (rgGet (key := c.key) ho.2 hs (now_srt ok) hz) ?_
  rintro r h ⟨hr, hs⟩
  subst hr
  obtain ⟨y, hy⟩ : ∃ y, (kvget A.now c.key).getD ⟨c.key, [], 0, 0, 0, 0⟩ = y := ⟨_, rfl⟩
  have hth : tHold A.now c = (decide (0 ≤ c.tgt ∧ c.tgt ≤ 4) && tSign c.sign (tAgainst y c)) := by
    unfold tHold; rw [← tAgainst_d, hy]
  rw [hy]
  simp (disch := omega) only [go_sem, simprocAttr, he, kvC]
  refine new_opq hs fun a h hs => ?_
  have ha := hs.at
  have hs3 := hs.set (o' := .row 6 [kvC y] 1)
  simp only [kvC] at hs3
  have ha3 := hs3.at
  simp (disch := omega) only [go_sem, simprocAttr, he, ha, hia]
  generalize Hp.set h a _ = h9 at hs3 ha3 ⊢
  refine cnd_joinB (Q := fun e h => (0 ≤ c.tgt ∧ c.tgt ≤ 4) ∧ sat h (RxP x A :: F) ∧ (e 0 = .ptr x 5 0 0 ∧ e 1 = ifsV l ∧ e 5 = .int .i64 i ∧ e 8 = .int .i64 (tAgainst y c))) ?_ ?_
  · have h4 : c.tgt = 0 ∨ c.tgt = 1 ∨ c.tgt = 2 ∨ c.tgt = 3 ∨ c.tgt = 4 ∨ ¬ (0 ≤ c.tgt ∧ c.tgt ≤ 4) := by omega
    rcases h4 with g | g | g | g | g | g
    rotate_left 4
    · have e1 : Op.bytesLess y.val c.text = ltK y.val c.text := rfl
      have e2 := gtK (a := y.val) (b := c.text)
      rw [e1] at e2
      have ec : tAgainst y c = cmpK y.val c.text := by simp [tAgainst, g]
      rw [ec]
      unfold cmpK
      cases b1 : ltK y.val c.text with
      | true =>
        rw [b1, ltK_asym b1] at e2
        have e2 : (!(true || y.val == c.text)) = false := e2
        simp (disch := omega) only [go_sem, simprocAttr, he, ha3, hia, g, e1, b1, e2]
        first | exact hs3.drop | exact ⟨by omega, hs3.drop⟩ | exact ⟨hs3.drop, rfl⟩
      | false =>
        rw [b1] at e2
        cases b2 : ltK c.text y.val
        all_goals
          rw [b2] at e2
          simp (disch := omega) only [go_sem, simprocAttr, he, ha3, hia, g, e1, b1, e2]
          first | exact hs3.drop | exact ⟨by omega, hs3.drop⟩ | exact ⟨hs3.drop, rfl⟩
    · have d0 : (c.tgt == 0) = false := by rw [beq_eq_false_iff_ne]; omega
      have d1 : (c.tgt == 1) = false := by rw [beq_eq_false_iff_ne]; omega
      have d2 : (c.tgt == 2) = false := by rw [beq_eq_false_iff_ne]; omega
      have d3 : (c.tgt == 3) = false := by rw [beq_eq_false_iff_ne]; omega
      have d4 : (c.tgt == 4) = false := by rw [beq_eq_false_iff_ne]; omega
      rw [decide_eq_false g] at hth
      simp (disch := omega) only [go_sem, simprocAttr, he, d0, d1, d2, d3, d4]
      exact ⟨by rw [hbad hth], hs3.drop⟩
    all_goals
      simp (disch := omega) only [go_sem, simprocAttr, he, ha3, hia, g]
      refine call_use (rxAgainst hs3.drop) ?_
      rintro r h ⟨hr, hs⟩
      subst hr
      simp (disch := omega) only [go_sem, simprocAttr, he]
      first | exact ⟨by omega, hs, by simp [tAgainst, tNum, g]⟩ | exact ⟨hs, by simp [tAgainst, tNum, g]⟩
  clear hs hs3 ha ha3 hx hsx he
  rintro e h ⟨hc, hs, he⟩
  rw [decide_eq_true hc, Bool.true_and] at hth
  simp (disch := omega) only [go_sem, simprocAttr, he, hia]
  refine call_use (rxSign hs) ?_
  rintro r h ⟨hr, hs⟩
  subst hr
  rw [← hth]
  cases hb : tHold A.now c with
  | true =>
    simp (disch := omega) only [go_sem, simprocAttr, he, m1]
    exact ⟨hil, hgood hb, hs⟩
  | false =>
    simp (disch := omega) only [go_sem, simprocAttr, he]
    exact ⟨by rw [hbad hb], hs⟩
theorem rxHas {L : List Int} {id : Int} (hs : sat h F) (hl : L.length ≤ 1000000000) : Triple Tryz.prog 33 [nums L, .int .i64 id] h (fun r h => r = .bool (decide (id ∈ L)) ∧ sat h F) := by
  have lenV : lenL (nums L) = some (.int .i64 L.length) := num_len
  refine t33 (Nat.le_of_ble_eq_true rfl) ?_
  simp (disch := omega) only [F33, go_sem, simprocAttr]
  refine run_up (N := L.length) (fun i e h => (∀ j (hj : j < L.length), j < i → L[j] ≠ id) ∧ sat h F ∧ (e 0 = nums L ∧ e 1 = .int .i64 id ∧ e 5 = .int .i64 i)) ⟨fun j _ h => by omega, hs, by simp [Env.upd_apply, initE]⟩ ?_
  clear hs
  rintro i e h hi ⟨hno, hs, he⟩
  have m1 : (i : Int) + 1 = ((i + 1 : Nat) : Int) := by omega
  by_cases hil : i < L.length
  · have c1 : ((i : Int) < L.length) = True := by simp; omega
    have hia := num_at hil
    cases hid : L[i] == id with
    | true =>
      have hin : decide (id ∈ L) = true := by
        simp only [decide_eq_true_eq]
        rw [beq_iff_eq] at hid
        exact hid ▸ List.getElem_mem hil
      simp (disch := omega) only [go_sem, simprocAttr, he, lenV, c1, hia, hid]
      exact ⟨by rw [hin], hs⟩
    | false =>
      simp (disch := omega) only [go_sem, simprocAttr, he, lenV, c1, hia, hid, m1]
      refine ⟨hil, fun j hj hji => ?_, hs⟩
      by_cases hjj : j = i
      · subst hjj; simpa using hid
      · exact hno j hj (by omega)
  · have c1 : ((i : Int) < L.length) = False := by simp; omega
    have hin : decide (id ∈ L) = false := by
      simp only [decide_eq_false_iff_not]
      intro hh
      obtain ⟨j, hj, e⟩ := List.getElem_of_mem hh
      exact hno j hj (by omega) e
    simp (disch := omega) only [go_sem, simprocAttr, he, lenV, c1]
    exact ⟨by rw [hin], hs⟩
end
end Go.Proofs.YthdlaodfdabjlaaGreat
/- within, the chapter's example. -/
set_option linter.unusedSimpArgs false
set_option linter.unusedVariables false
set_option maxRecDepth 10000
namespace Go.Proofs.YthdlaodfdabjlaaGreat
open Go.Hz

section
variable {h : Hp} {F : List Asr}
end
end Go.Proofs.YthdlaodfdabjlaaGreat
/- The law MvccRanges, walked. -/
set_option linter.unusedSimpArgs false
set_option linter.unusedVariables false
set_option maxRecDepth 10000
namespace Go.Proofs.YthdlaodfdabjlaaGreat
open Go.Hz

section
end
end Go.Proofs.YthdlaodfdabjlaaGreat
/- The law MvccFull, walked. -/
set_option linter.unusedSimpArgs false
set_option linter.unusedVariables false
set_option maxRecDepth 10000
namespace Go.Proofs.YthdlaodfdabjlaaGreat
open Go.Hz

/-! ### so many keys, rising -/
def kf (i : Nat) : Key := [107, UInt8.ofNat (i / 256), UInt8.ofNat (i % 256)]
section
variable {h : Hp} {F : List Asr}
end
end Go.Proofs.YthdlaodfdabjlaaGreat
/- Calls of a store; the law MvccEvents, walked. -/
set_option linter.unusedSimpArgs false
set_option linter.unusedVariables false
set_option maxRecDepth 10000
namespace Go.Proofs.YthdlaodfdabjlaaGreat
open Go.Hz

section
variable {h : Hp} {F : List Asr}
theorem top8 (hs : sat h F) : Triple Tryz.prog 40 [] h (fun r h => r = .str (topK 101) ∧ sat h F) := by
  refine t40 (Nat.le_of_ble_eq_true rfl) ?_
  simp (disch := omega) only [F40, go_sem, simprocAttr]
  refine run_up (N := 100) (fun i e h => sat h F ∧ (e 1 = .str (topK (i + 1)) ∧ e 2 = .int .i64 i)) ⟨hs, rfl, rfl⟩ ?_
  clear hs
  rintro i e h hi ⟨hs, he⟩
  have m1 : (i : Int) + 1 = ((i + 1 : Nat) : Int) := by omega
  have e1 : topK (i + 1) ++ [255] = topK (i + 1 + 1) := by
    unfold topK
    exact List.replicate_append_replicate (n := i + 1) (m := 1)
  simp (disch := omega) only [go_sem, simprocAttr, he, m1]
  refine cnd_dec (fun g1 => ?_) (fun g1 => ?_)
  · simp (disch := omega) only [go_sem, simprocAttr, he, m1, e1]
    exact ⟨by simp [topK]; omega, by omega, hs⟩
  · have hi' : i = 100 := by omega
    subst hi'
    simp (disch := omega) only [go_sem, simprocAttr, he]
    exact hs
theorem kv_self8 (x : Kv) : eqsA [PK.s, PK.s, PK.i, PK.i, PK.i, PK.i] true (.agg (kvC x)) (.agg (kvC x)) = some (.bool false) := by
  simp [eqsA, eqCs, eqC, kvC]
theorem sameKVs1 (hs : sat h F) {l : List Kv} (hl : l.length ≤ 9223372036854775807) : Triple Tryz.prog 43 [kvsV l, kvsV l] h (fun r h => r = .bool true ∧ sat h F) := by
  have len2 : lenL (kvsV l) = some (.int .i64 l.length) := by simp [lenL]
  refine t43 (Nat.le_of_ble_eq_true rfl) ?_
  simp (disch := omega) only [F43, len2, go_sem, simprocAttr]
  refine run_up (N := l.length) (fun i e h => sat h F ∧ (e 0 = kvsV l ∧ e 1 = kvsV l ∧ e 5 = .int .i64 i)) ⟨hs, rfl, rfl, rfl⟩ ?_
  clear hs
  rintro i e h hi ⟨hs, he⟩
  have m1 : (i : Int) + 1 = ((i + 1 : Nat) : Int) := by omega
  simp (disch := omega) only [go_sem, simprocAttr, he, m1, len2]
  refine cnd_dec (fun h1 => ?_) (fun h1 => ?_)
  · have hi : i < l.length := by omega
    have ez := ia_lst (f := kvC) (l := l) (i := i) (s := 6) (k := .i64) hi (fun _ => rfl)
    have ek := kv_self8 l[i]
    simp only [kvC] at ek
    simp (disch := omega) only [go_sem, simprocAttr, he, ez, kvC, ek, m1]
    exact ⟨by omega, hs⟩
  · simp (disch := omega) only [go_sem, simprocAttr, he]
    exact hs
theorem sameKVs2 {u v : AV} (hs : sat h F) {l : List Kv} (hl : l.length ≤ 9223372036854775807) (hu : SlV u (l.map kvC)) (hv : SlV v (l.map kvC)) : Triple Tryz.prog 43 [u, v] h (fun r h => r = .bool true ∧ sat h F) :=
  Triple.vi (bs := [kvsV l, kvsV l]) ⟨hu.vi, hv.vi, trivial⟩ (sameKVs1 hs hl)
end
end Go.Proofs.YthdlaodfdabjlaaGreat
/- The store: a front is forgotten. -/
set_option linter.unusedSimpArgs false
set_option linter.unusedVariables false
set_option maxRecDepth 10000
namespace Go.Proofs.YthdlaodfdabjlaaGreat
open Go.Hz

section
variable {h : Hp} {F : List Asr} {s : Nat} {A : Sto} {o : AV}
end
end Go.Proofs.YthdlaodfdabjlaaGreat
/- The document's store: what is asked of it. -/
set_option linter.unusedSimpArgs false
set_option linter.unusedVariables false
set_option maxRecDepth 10000
namespace Go.Proofs.YthdlaodfdabjlaaGreat
open Go.Hz

section
variable {h : Hp} {F : List Asr} {x : Nat} {A : Sto} {W : Go.Hz.Wr}
/-- A change, out of a slice of one's own. -/
theorem ev_row {v : AV} {l : List Ver} (hs : sat h (Ow 8 v (l.map evC) :: F)) {i : Nat} (hi : i < l.length) : ∃ b cap, v = .arr b 8 0 l.length cap ∧ h b = some (.row 8 (l.map evC) cap) ∧ (l.map evC)[i]? = some [.int .i64 l[i].rev, .bool l[i].c.kv.isNone, .str (evKv l[i]).key, .str (evKv l[i]).val, .int .i64 (evKv l[i]).create, .int .i64 (evKv l[i]).mod, .int .i64 (evKv l[i]).ver, .int .i64 (evKv l[i]).lease] := by
  obtain ⟨b, cap, hv, hb, _⟩ := hs.owr.row (i := i) (x := evC l[i]) (by simp [hi])
  rw [List.length_map] at hv
  exact ⟨b, cap, hv, hb, by simp [hi]; rfl⟩
theorem ev_self (v : Ver) : eqsA [PK.i, PK.b, PK.s, PK.s, PK.i, PK.i, PK.i, PK.i] true (.agg (evC v)) (.agg (evC v)) = some (.bool false) := by
  simp [eqsA, eqCs, eqC, evC, kvC]
end
end Go.Proofs.YthdlaodfdabjlaaGreat
/- Events that are alike; a store and the document's are alike. -/
set_option linter.unusedSimpArgs false
set_option linter.unusedVariables false
set_option maxRecDepth 10000
namespace Go.Proofs.YthdlaodfdabjlaaGreat
open Go.Hz

section
variable {h : Hp} {F : List Asr} {s w x : Nat} {A : Sto} {W : Go.Hz.Wr} {o : AV}
theorem evKvX (v : Ver) : evC v = .int .i64 v.rev :: .bool v.c.kv.isNone :: kvC (evKv v) := rfl
theorem mvCompdX (hs : sat h (StP s A o :: F)) : Triple Tryz.prog 42 [.ptr s 7 0 0] h (fun r h => r = .int .i64 A.past ∧ sat h (StP s A o :: F)) := by
  obtain ⟨ix, vm, cv, L, X, hok, hs2⟩ := mvP.1 hs
  have hp := hs2.at
  refine t42 (Nat.le_of_ble_eq_true rfl) ?_
  simp (disch := omega) only [F42, hp, go_sem, simprocAttr]
  exact hs
theorem sameEvsXO {v : AV} {l : List Ver} (hs : sat h (Ow 8 v (l.map evC) :: F)) (hl : l.length ≤ 9223372036854775807) : Triple Tryz.prog 44 [evsV l, v] h (fun r h => r = .bool true ∧ sat h (Ow 8 v (l.map evC) :: F)) := by
  have len2 : lenL (evsV l) = some (.int .i64 l.length) := by simp [lenL]
  have lenE := hs.els.len
  rw [List.length_map] at lenE
  refine t44 (Nat.le_of_ble_eq_true rfl) ?_
  simp (disch := omega) only [F44, len2, lenE, go_sem, simprocAttr]
  refine run_up (N := l.length) (fun i e h => sat h (Ow 8 v (l.map evC) :: F) ∧ (e 0 = evsV l ∧ e 1 = v ∧ e 5 = .int .i64 i)) ⟨hs, rfl, rfl, rfl⟩ ?_
  clear hs
  rintro i e h hi ⟨hs, he⟩
  have m1 : (i : Int) + 1 = ((i + 1 : Nat) : Int) := by omega
  simp (disch := omega) only [go_sem, simprocAttr, he, m1, len2]
  refine cnd_dec (fun h1 => ?_) (fun h1 => ?_)
  · have hi : i < l.length := by omega
    have ez := ia_lst (f := evC) (l := l) (i := i) (s := 8) (k := .i64) hi (fun _ => rfl)
    obtain ⟨b, cap, hv, hb, hrow⟩ := ev_row hs hi
    subst hv
    have ek := ev_self l[i]
    simp only [evKvX, kvC] at ek ez
    simp (disch := omega) only [go_sem, simprocAttr, he, ez, hb, hrow, ek, m1, Int.toNat_natCast]
    exact ⟨by omega, hs⟩
  · simp (disch := omega) only [go_sem, simprocAttr, he]
    exact hs
theorem alikeX (hs : sat h (StP s A o :: RxP x A :: F)) (hz : A.old.length + A.chs.length ≤ 1000000) (hr : A.rev ≤ 1000000000000000) : Triple Tryz.prog 14 [.ptr s 7 0 0, .ptr x 5 0 0] h (fun r h => r = .bool true ∧ sat h (StP s A o :: RxP x A :: F)) := by
  have ok := MvP.ok hs
  have hpa := ok.past
  have hre := ok.rev
  have en := range_now ok
  have es : stSince A (A.past + 1) = (A.chs, 0) := by
    rw [stSince, if_neg (by omega), if_neg (by omega)]
    congr 1
    rw [List.filter_eq_self]
    intro v hv
    have := (ok.chr v hv).1
    simp; omega
  have nb : ∀ z : Int, (z == z) = true := fun z => by simp
  refine t14 (Nat.le_of_ble_eq_true rfl) ?_
  simp (disch := omega) only [F14, go_sem, simprocAttr]
  refine call_use (top8 hs) ?_
  rintro r h ⟨hr, hs⟩
  subst hr
  simp (disch := omega) only [go_sem, simprocAttr]
  refine call_use (mvRange hs (by omega)) ?_
  rintro r h ⟨hr, hs⟩
  subst hr
  simp (disch := omega) only [go_sem, simprocAttr, en]
  obtain ⟨ov, ev, nw, ho, hs⟩ := rxP.1 hs.p1
  have hx := hs.at
  simp (disch := omega) only [go_sem, simprocAttr, hx]
  refine call_use (mvSince (rev := A.past + 1) hs.p2 (by omega)) ?_
  rintro r h ⟨hr, hs⟩
  subst hr
  simp (disch := omega) only [go_sem, simprocAttr, es]
  have hx := hs.p1.at
  simp (disch := omega) only [go_sem, simprocAttr, hx]
  refine call_use' (mvRev hs) ?_
  rintro r h ⟨hr', hs⟩
  subst hr'
  have hx := hs.p1.at
  simp (disch := omega) only [go_sem, simprocAttr, hx, nb]
  refine call_use' (mvCompdX hs) ?_
  rintro r h ⟨hr', hs⟩
  subst hr'
  have hx := hs.p1.at
  have lnw := ho.2.lenM
  simp (disch := omega) only [go_sem, simprocAttr, hx, nb, lnw]
  have hnl : A.now.length ≤ 1000000 := by
    have h1 := doneL_le (l := A.old) (cs := A.chs.map Ver.c)
    rw [List.length_map] at h1
    exact Nat.le_trans h1 hz
  refine call_use (sameKVs2 (l := A.now) hs (by omega) slV_lst ho.2) ?_
  rintro r h ⟨hr', hs⟩
  subst hr'
  have hx := hs.p1.at
  simp (disch := omega) only [go_sem, simprocAttr, hx]
  refine call_use (sameEvsXO hs.p2 (by omega)) ?_
  rintro r h ⟨hr', hs⟩
  subst hr'
  simp (disch := omega) only [go_sem, simprocAttr]
  exact (rxP.2 ⟨ov, ev, nw, ho, hs.p1.p1.p2⟩).p1
theorem rgWRangeX {lo hi : Key} {lim : Int} (hs : sat h (RwP w x A W :: F)) (hl : W.cur.length ≤ 1000000) : Triple Tryz.prog 37 [.ptr w 4 0 0, .str lo, .str hi, .int .i64 lim] h
    (fun r h => r = .tup [kvsV (rngL W.cur lo hi lim).1, .int .i64 (rngL W.cur lo hi lim).2] ∧ sat h (RwP w x A W :: F)) := by
  obtain ⟨lv, ev, ks, hlv, hs1⟩ := rwP.1 hs
  have hwp := hs1.at
  refine t37 (Nat.le_of_ble_eq_true rfl) ?_
  simp (disch := omega) only [F37, hwp, go_sem, simprocAttr]
  refine call_use (rgPick (lo := lo) (hi := hi) (lim := lim) hlv hs hl) ?_
  rintro r h ⟨hr, hs⟩
  subst hr
  simp (disch := omega) only [go_sem, simprocAttr]
  exact hs
end
end Go.Proofs.YthdlaodfdabjlaaGreat
/- The document's transactions: one is done. -/
set_option linter.unusedSimpArgs false
set_option linter.unusedVariables false
set_option maxRecDepth 10000
namespace Go.Proofs.YthdlaodfdabjlaaGreat
open Go.Hz

section
variable {h : Hp} {F : List Asr} {x : Nat} {A : Sto}
/-- Rows of results, some of which have nil for no keys. -/
def RowsR (rows : List (List AV)) (res : List Res) : Prop := rows.length = res.length ∧ (∀ e ∈ rows, ∀ v ∈ e, v.isAtom = true) ∧ ∀ i (h1 : i < rows.length) (h2 : i < (res.map resC).length), VIs rows[i] (res.map resC)[i]
theorem RowsR.nil : RowsR [] [] := ⟨rfl, by simp, fun i h1 => by simp at h1⟩
theorem RowsR.snoc {rows : List (List AV)} {res : List Res} {y : Res} {kv : AV} (h : RowsR rows res) (hk : VI kv (kvsV y.kvs)) (ha : kv.isAtom = true) : RowsR (rows ++ [[.int .i64 y.n, kv]]) (res ++ [y]) := by
  obtain ⟨h1, h2, h3⟩ := h
  refine ⟨by simp [h1], ?_, fun i a b => ?_⟩
  · intro e he v hv
    rcases List.mem_append.1 he with he | he
    · exact h2 e he v hv
    · rw [List.mem_singleton.1 he] at hv
      simp only [List.mem_cons, List.not_mem_nil, or_false] at hv
      rcases hv with rfl | rfl
      · rfl
      · exact ha
  · by_cases hi : i < rows.length
    · rw [List.getElem_append_left hi]
      simp only [List.map_append]
      rw [List.getElem_append_left (by simp; omega)]
      exact h3 i hi (by simp; omega)
    · have : i = rows.length := by simp at a; omega
      subst this
      rw [List.getElem_append_right (Nat.le_refl _)]
      simp only [List.map_append]
      rw [List.getElem_append_right (by simp; omega)]
      simp only [List.length_map, h1, Nat.sub_self, List.map_cons, List.map_nil, List.getElem_cons_zero]
      exact ⟨VI.refl _, hk, trivial⟩
set_option maxHeartbeats 1600000 in
theorem rxDo {t : Tx9} {L : List Int} (hs : sat h (RxP x A :: F)) (ok : StoOK A) (l1 : t.ifs.length ≤ 1000000000) (l2 : t.thn.length ≤ 1000000000) (l3 : t.els.length ≤ 1000000000) (hv : ∀ o ∈ t.thn ++ t.els, o.val.length ≤ 9000000000) (hL : L.length ≤ 1000000000)
    (hz : A.old.length + A.chs.length + A.now.length ≤ 100000) (hr : A.rev ≤ 100000000000000) :
    Triple Tryz.prog 12 [.ptr x 5 0 0, nums L, .agg t.row] h (fun r h => r = .tup [.bool (tDo A (fun id => decide (id ∈ L)) t).1.1, ressV (tDo A (fun id => decide (id ∈ L)) t).1.2.1, .int .i64 (tDo A (fun id => decide (id ∈ L)) t).1.2.2] ∧ sat h (RxP x (tDo A (fun id => decide (id ∈ L)) t).2 :: F)) := by
  have hpa := ok.past
  have hre := ok.rev
  obtain ⟨has, hhas⟩ : ∃ has : Int → Bool, (fun id => decide (id ∈ L)) = has := ⟨_, rfl⟩
  have hhas2 : ∀ id, decide (id ∈ L) = has id := fun id => by rw [← hhas]
  rw [hhas]
  have a1 : (ifsV t.ifs).isAtom = true := rfl
  have a2 : (opsV t.thn).isAtom = true := rfl
  have a3 : (opsV t.els).isAtom = true := rfl
  refine Triple.lst2v 2 ?_
  refine t12 (Nat.le_of_ble_eq_true rfl) ?_
  simp (disch := omega) only [F12, Tx9.row, a1, a2, a3, go_sem, simprocAttr]
  refine new_opq hs fun p h hs => ?_
  have hp := hs.at
  simp (disch := omega) only [go_sem, simprocAttr, hp]
  refine call_use (rxCheck (t := t) hs l1 l2 l3 hv) ?_
  rintro r h ⟨hr2, hs⟩
  subst hr2
  by_cases hc : tCheck t = 0
  rotate_left
  · have c1 : (tCheck t != 0) = true := by simpa using hc
    rw [tDo_bad rfl hc]
    simp (disch := omega) only [go_sem, simprocAttr, c1]
    exact ⟨_, .nils, _, [], [], _, rfl, ⟨rfl, fun i h1 => by simp at h1⟩, hs.drop.add ow_nil, fun h hs => ⟨rfl, hs⟩⟩
  have c1 : (tCheck t != 0) = false := by simpa using hc
  have hp := hs.at
  have hT := tCheck_ok hc
  simp (disch := omega) only [go_sem, simprocAttr, c1, hp]
  refine call_use (rxHolds (l := t.ifs) (hs.p1) ok l1 (by omega)) ?_
  rintro r h ⟨hr2, hs⟩
  subst hr2
  have hp := hs.p1.at
  obtain ⟨ho1, ho2⟩ := tOps_ok (now := A.now) hT
  obtain ⟨ops, hops⟩ : ∃ ops, tOps A.now t = ops := ⟨_, rfl⟩
  have lenV := len_opsV ops
  simp (disch := omega) only [go_sem, simprocAttr, hp]
  refine cnd_join (Q := fun e h => sat h (RxP x A :: F) ∧ (e 0 = .ptr x 5 0 0 ∧ e 1 = nums L ∧ e 10 = .bool (tHolds A.now t.ifs) ∧ e 11 = opsV ops)) ?_ ?_
  · cases b1 : tHolds A.now t.ifs with
    | true =>
      have e1 : ops = t.thn := by rw [← hops]; unfold tOps; rw [if_pos b1]
      rw [e1]
      simp (disch := omega) only [go_sem, simprocAttr, hp, b1]
      exact hs.d1.imp fun _ g => g
    | false =>
      have e1 : ops = t.els := by rw [← hops]; unfold tOps; rw [if_neg (by simp [b1])]
      rw [e1]
      simp (disch := omega) only [go_sem, simprocAttr, hp, b1]
      exact hs.d1
  clear hs hp a1 a2 a3
  rintro e h ⟨hs, he⟩
  rw [hops] at ho1 ho2
  simp (disch := omega) only [go_sem, simprocAttr, he]
  refine blk_join (Q := fun e h => ops.any (tNoL has) = false ∧ sat h (RxP x A :: F) ∧ (e 0 = .ptr x 5 0 0 ∧ e 10 = .bool (tHolds A.now t.ifs) ∧ e 11 = opsV ops)) ?_ ?_
  · refine run_up (N := ops.length) (fun i e h => (∀ j (hj : j < ops.length), j < i → tNoL has ops[j] = false) ∧ sat h (RxP x A :: F) ∧ (e 0 = .ptr x 5 0 0 ∧ e 1 = nums L ∧ e 10 = .bool (tHolds A.now t.ifs) ∧ e 11 = opsV ops ∧ e 12 = .int .i64 i)) ⟨fun j _ h => by omega, hs, by simp [Env.upd_apply, he]⟩ ?_
    clear hs he
    rintro i e h hi ⟨hno, hs, he⟩
    have m1 : (i : Int) + 1 = ((i + 1 : Nat) : Int) := by omega
    by_cases hil : i < ops.length
    rotate_left
    · have c2 : ((i : Int) < ops.length) = False := by simp; omega
      have hany : ops.any (tNoL has) = false := by
        rw [List.any_eq_false]
        intro x hx
        obtain ⟨j, hj, rfl⟩ := List.getElem_of_mem hx
        simp [hno j hj (by omega)]
      simp (disch := omega) only [go_sem, simprocAttr, he, lenV, c2]
      exact ⟨hany, hs⟩
    have c2 : ((i : Int) < ops.length) = True := by simp; omega
    have hia := opsV_at hil
    have hbad : tNoL has ops[i] = true → ops.any (tNoL has) = true := fun hh => List.any_eq_true.2 ⟨_, List.getElem_mem hil, hh⟩
    have hgood : tNoL has ops[i] = false → ∀ j (hj : j < ops.length), j < i + 1 → tNoL has ops[j] = false := fun hh j hj hji => by
      by_cases h1 : j = i
      · subst h1; exact hh
      · exact hno j hj (by omega)
    generalize ops[i] = o at hia hbad hgood
    have n0 : decide (o.kind = 0) = (o.kind == 0) := by rw [Bool.eq_iff_iff]; simp
    have n1 : (!decide (o.lease = 0)) = (o.lease != 0) := by rw [Bool.eq_iff_iff]; simp
    have hnl : tNoL has o = (decide (o.kind = 0) && (!decide (o.lease = 0) && !has o.lease)) := rfl
    rw [n0, n1] at hnl
    simp (disch := omega) only [go_sem, simprocAttr, he, lenV, c2, hia]
    cases b1 : o.kind == 0 with
    | false =>
      rw [b1] at hnl
      simp (disch := omega) only [go_sem, simprocAttr, he, b1, m1]
      exact ⟨hil, hgood hnl, hs⟩
    | true =>
    cases b2 : o.lease != 0 with
    | false =>
      rw [b1, b2] at hnl
      simp (disch := omega) only [go_sem, simprocAttr, he, b1, hia, b2, m1]
      exact ⟨hil, hgood hnl, hs⟩
    | true =>
      rw [b1, b2] at hnl
      simp (disch := omega) only [go_sem, simprocAttr, he, b1, hia, b2]
      refine call_use (rxHas (id := o.lease) hs hL) ?_
      rintro r h ⟨hr2, hs⟩
      rw [hhas2] at hr2
      subst hr2
      cases b3 : has o.lease with
      | true =>
        rw [b3] at hnl
        simp (disch := omega) only [go_sem, simprocAttr, he, m1]
        exact ⟨hil, hgood hnl, hs⟩
      | false =>
        rw [b3] at hnl
        rw [tDo_less hc (by rw [hops]; exact hbad hnl)]
        simp (disch := omega) only [go_sem, simprocAttr, he]
        exact ⟨_, .nils, _, [], [], _, rfl, ⟨rfl, fun i h1 => by simp at h1⟩, hs.add ow_nil, fun h hs => ⟨rfl, hs⟩⟩
  clear hs he
  rintro e h ⟨hany, hs, he⟩
  simp (disch := omega) only [go_sem, simprocAttr, he]
  refine call_use (rgWr hs) ?_
  rintro r h ⟨w, hr2, hs⟩
  subst hr2
  simp (disch := omega) only [go_sem, simprocAttr, he]
  obtain ⟨Q0, hQ0⟩ : ∃ Q0, tRun (A.rev + 1) ⟨A.now, []⟩ ops = Q0 := ⟨_, rfl⟩
  have hdo : tDo A has t = if Q0.2.1 ≠ 0 then ((false, [], Q0.2.1), A) else if 65536 < Q0.1.2 then ((false, [], 5), A) else ((tHolds A.now t.ifs, Q0.1.1, 0), stDone A Q0.2.2) := by
    unfold tDo
    rw [if_neg (by simp [hc]), hops, if_neg (by simp [hany]), hQ0]
  rw [hdo]
  have hnil : tRun (A.rev + 1) ⟨A.now, []⟩ (ops.drop 0) = Q0 := by rw [List.drop_zero]; exact hQ0
  refine blk_join (Q := fun e h => ∃ (W : Go.Hz.Wr) (res : List Res) (sz : Nat) (ov : AV) (rows : List (List AV)), RowsR rows res ∧ Q0 = ((res, sz), 0, W) ∧ WrOK A W ∧ WB A W 32 ∧ sat h (RwP w x A W :: RxP x A :: Ow 2 ov rows :: F) ∧ (e 10 = .bool (tHolds A.now t.ifs) ∧ e 13 = .ptr w 4 0 0 ∧ e 14 = ov ∧ e 15 = .int .i64 sz)) ?_ ?_
  · refine run_up (N := ops.length) (fun i e h => ∃ (W : Go.Hz.Wr) (res : List Res) (sz : Nat) (ov : AV) (rows : List (List AV)), RowsR rows res ∧ Q0 = ((res ++ (tRun (A.rev + 1) W (ops.drop i)).1.1, sz + (tRun (A.rev + 1) W (ops.drop i)).1.2), (tRun (A.rev + 1) W (ops.drop i)).2.1, (tRun (A.rev + 1) W (ops.drop i)).2.2) ∧ WrOK A W ∧ WB A W i ∧ sz ≤ i * 200000000000 ∧ res.length = i ∧ sat h (RwP w x A W :: RxP x A :: Ow 2 ov rows :: F) ∧ (e 10 = .bool (tHolds A.now t.ifs) ∧ e 11 = opsV ops ∧ e 13 = .ptr w 4 0 0 ∧ e 14 = ov ∧ e 15 = .int .i64 sz ∧ e 16 = .int .i64 i)) ⟨⟨A.now, []⟩, [], 0, .nils, [], RowsR.nil, ?_, wrOK_nil A, wb_nil, by omega, rfl, ((hs.add (ow_nil (s := 2))).p2.p2), by simp [Env.upd_apply, he]⟩ ?_
    · rw [hnil]; simp
    clear hs he
    rintro i e h hi ⟨W, res, sz, ov, rows, hrr, hq, hw, hwb, hsz, hrl, hs, he⟩
    have m1 : (i : Int) + 1 = ((i + 1 : Nat) : Int) := by omega
    by_cases hil : i < ops.length
    rotate_left
    · have c2 : ((i : Int) < ops.length) = False := by simp; omega
      have hil : i = ops.length := by omega
      subst hil
      rw [List.drop_length] at hq
      simp (disch := omega) only [go_sem, simprocAttr, he, lenV, c2]
      exact ⟨W, res, sz, ov, rows, hrr, by rw [hq]; simp [tRun], hw, hwb.mono ho1, hs, rfl, rfl⟩
    have c2 : ((i : Int) < ops.length) = True := by simp; omega
    have hia := opsV_at hil
    have wl := hwb.len hw
    have wc := hwb.cur ok hw
    have hst := tRun_step (r := A.rev + 1) (W := W) hil
    have hok := ho2 _ (List.getElem_mem hil)
    rw [hst] at hq
    generalize ops[i] = o at hia hq hok
    have hss := tStep_size ok hw (o := o)
    have hb2 := tStep_wb ok hw hwb (o := o)
    have hw2 := tStep_ok ok hw (o := o)
    simp (disch := omega) only [go_sem, simprocAttr, he, lenV, c2, hia]
    refine new_opq hs fun a h hs => ?_
    have ha := hs.at
    have hs3 := hs.set (o' := .row 6 [o.row] 1)
    simp only [Op9.row] at hs3
    have ha3 := hs3.at
    simp (disch := omega) only [go_sem, simprocAttr, he, ha]
    generalize Hp.set h a _ = h9 at hs3 ha3 ⊢
    refine new_opq hs3 fun b h hs => ?_
    have ha := hs.p1.at
    simp (disch := omega) only [go_sem, simprocAttr, he, ha]
    refine cnd_joinB (Q := fun e h => (tStep (A.rev + 1) W o).1.2.2 = 0 ∧ ∃ kv, VI kv (kvsV (tStep (A.rev + 1) W o).1.1.kvs) ∧ kv.isAtom = true ∧ kv.cells = [kv] ∧ sat h (pto b (.row 2 [[.int .i64 (tStep (A.rev + 1) W o).1.1.n, kv]] 1) :: RwP w x A (tStep (A.rev + 1) W o).2 :: RxP x A :: Ow 2 ov rows :: F) ∧ (e 10 = .bool (tHolds A.now t.ifs) ∧ e 11 = opsV ops ∧ e 13 = .ptr w 4 0 0 ∧ e 14 = ov ∧ e 15 = .int .i64 ((sz + (tStep (A.rev + 1) W o).1.2.1 : Nat) : Int) ∧ e 16 = .int .i64 i ∧ e 18 = .ptr b 2 0 0)) ?_ ?_
    rotate_left
    · clear hs hs3 ha ha3 he
      rintro e h ⟨hz0, kv, hk1, hk2, hk3, hs, he⟩
      rw [if_neg (by simpa using hz0)] at hq
      generalize tStep (A.rev + 1) W o = T at *
      have hb := hs.at
      have hrl2 := hrr.1
      simp (disch := omega) only [go_sem, simprocAttr, he, hb, hk2, hk3]
      refine new_opq hs fun n h hs => ?_
      simp (disch := omega) only [go_sem, simprocAttr, he]
      refine app_sat hs.p4 (src_one hs.at) (atoms_one (by simp only [List.all_cons, List.all_nil, hk2, atom_int]; rfl)) (by simp only [hrl2, hrl, List.length_singleton]; omega) fun v' h hs ca aa => ?_
      simp (disch := omega) only [go_sem, simprocAttr, he, ca, aa, m1]
      refine ⟨hil, T.2, res ++ [T.1.1], sz + T.1.2.1, v', rows ++ [[.int .i64 T.1.1.n, kv]], hrr.snoc hk1 hk2, ?_, hw2, hb2, by omega, by simp [hrl], ?_, rfl, rfl⟩
      · rw [hq]
        simp only [List.append_assoc, List.singleton_append, Nat.add_assoc]
      · have := hs.p1.drop.p1.drop.p2.p2
        simpa using this
    obtain ⟨lv, ev, ks, hlv, hs1⟩ := rwP.1 (hs.p4.p4.p3.p3.p4)
    have hwp := hs1.at
    have hb := hs.at
    by_cases k0 : o.kind = 0
    · have d0 : (o.kind == 0) = true := by simpa using k0
      have e1 : tStep (A.rev + 1) W o = ((⟨if (kvget W.cur o.key).isSome = true then 1 else 0, []⟩, 0, (wPut (A.rev + 1) W o.key o.val o.lease).1), (wPut (A.rev + 1) W o.key o.val o.lease).2) := by
        unfold tStep; rw [if_pos k0]
      rw [e1] at hq hb2 hw2 hss ⊢
      simp (disch := omega) only [go_sem, simprocAttr, he, d0, hwp, ha]
      refine call_use (rgGet (key := o.key) hlv hs (hw.srt ok) (by omega)) ?_
      rintro r h ⟨hr2, hs⟩
      subst hr2
      simp (disch := omega) only [go_sem, simprocAttr, he, kvC]
      refine new_opq hs fun c h hs => ?_
      have hc0 := hs.at
      have hs4 := hs.set (o' := .row 6 [kvC ((kvget W.cur o.key).getD ⟨o.key, [], 0, 0, 0, 0⟩)] 1)
      simp only [kvC] at hs4
      have hb := hs4.p1.at
      have ha := hs4.p2.at
      simp (disch := omega) only [go_sem, simprocAttr, he, hc0]
      generalize Hp.set h c _ = h8 at hs4 hb ha ⊢
      refine cnd_join (Q := fun e h => sat h (pto b (.row 2 [[.int .i64 (if (kvget W.cur o.key).isSome = true then 1 else 0), .nils]] 1) :: pto a (.row 6 [[.int .i64 o.kind, .str o.key, .str o.fin, .str o.val, .int .i64 o.lease, .int .i64 o.lim]] 1) :: RwP w x A W :: RxP x A :: Ow 2 ov rows :: F) ∧ (e 10 = .bool (tHolds A.now t.ifs) ∧ e 11 = opsV ops ∧ e 13 = .ptr w 4 0 0 ∧ e 14 = ov ∧ e 15 = .int .i64 sz ∧ e 16 = .int .i64 i ∧ e 17 = .ptr a 6 0 0 ∧ e 18 = .ptr b 2 0 0)) ?_ ?_
      · cases hi2 : (kvget W.cur o.key).isSome with
        | true =>
          rw [if_pos rfl]
          have hs5 := hs4.p1.set (o' := .row 2 [[.int .i64 1, .nils]] 1)
          simp (disch := omega) only [go_sem, simprocAttr, he, hb]
          exact hs5.p1.drop.p4.p4.p4.p4.p4
        | false =>
          rw [if_neg (by simp)]
          simp (disch := omega) only [go_sem, simprocAttr, he]
          exact hs4.drop
      clear hs hs4 hb ha hc0 he hs1 hwp hs3 ha3
      rintro e h ⟨hs, he⟩
      have ha := hs.p1.at
      simp (disch := omega) only [go_sem, simprocAttr, he, ha]
      refine call_use (rgPut (key := o.key) (val := o.val) (lease := o.lease) (hs.p4.p2.p2.p4.p4) ok hw (by omega) (by omega)) ?_
      rintro r h ⟨hr2, hs⟩
      subst hr2
      by_cases he0 : (wPut (A.rev + 1) W o.key o.val o.lease).1 = 0
      · have c3 : ((wPut (A.rev + 1) W o.key o.val o.lease).1 != 0) = false := by simpa using he0
        simp (disch := omega) only [go_sem, simprocAttr, he, c3]
        exact ⟨he0, .nils, VI.nils, rfl, rfl, hs.p3.drop.p3.p2.p2.p3⟩
      · have c3 : ((wPut (A.rev + 1) W o.key o.val o.lease).1 != 0) = true := by simpa using he0
        rw [if_pos he0] at hq
        have hq3 : Q0.2.1 = (wPut (A.rev + 1) W o.key o.val o.lease).1 := by rw [hq]
        rw [if_pos (c := ¬ Q0.2.1 = 0) (by rw [hq3]; exact he0), hq3]
        simp (disch := omega) only [go_sem, simprocAttr, he, c3]
        exact ⟨_, .nils, _, [], [], _, rfl, ⟨rfl, fun i h1 => by simp at h1⟩, (hs.drop.p1.drop.p1.drop.p1.drop).add ow_nil, fun h hs => ⟨rfl, hs⟩⟩
    by_cases k1 : o.kind = 1
    · have d0 : (o.kind == 0) = false := by simpa using k0
      have d1 : (o.kind == 1) = true := by simpa using k1
      have e1 : tStep (A.rev + 1) W o = ((⟨(wDels W ((W.cur.filter fun y => inK o.key o.fin y.key).map Kv.key)).1, []⟩, 0, 0), (wDels W ((W.cur.filter fun y => inK o.key o.fin y.key).map Kv.key)).2) := by
        unfold tStep; rw [if_neg k0, if_pos k1]
      rw [e1] at hq hb2 hw2 hss ⊢
      simp (disch := omega) only [go_sem, simprocAttr, he, d0, d1, ha]
      refine call_use (rgDel (lo := o.key) (hi := o.fin) (hs.p4.p2.p2.p4.p4) ok hw (by omega) (by omega)) ?_
      rintro r h ⟨hr2, hs⟩
      subst hr2
      have hb := hs.p2.at
      have hs5 := hs.p2.set (o' := .row 2 [[.int .i64 (wDels W ((W.cur.filter fun y => inK o.key o.fin y.key).map Kv.key)).1, .nils]] 1)
      simp (disch := omega) only [go_sem, simprocAttr, he, hb]
      exact ⟨.nils, VI.nils, rfl, rfl, hs5.p3.drop.p3.p3.p3.p3⟩
    have k2 : o.kind = 2 := by have := hok.kind; omega
    have d0 : (o.kind == 0) = false := by simpa using k0
    have d1 : (o.kind == 1) = false := by simpa using k1
    have d2 : (o.kind == 2) = true := by simpa using k2
    have e1 : tStep (A.rev + 1) W o = ((⟨(rngL W.cur o.key o.fin o.lim).2, (rngL W.cur o.key o.fin o.lim).1⟩, kvSize (rngL W.cur o.key o.fin o.lim).1, 0), W) := by
      unfold tStep; rw [if_neg k0, if_neg k1]
    rw [e1] at hq hb2 hw2 hss ⊢
    simp (disch := omega) only [go_sem, simprocAttr, he, d0, d1, d2, ha]
    refine call_use (rgWRangeX (lo := o.key) (hi := o.fin) (lim := o.lim) (hs.p4.p4.p3.p3.p4) (by omega)) ?_
    rintro r h ⟨hr2, hs⟩
    subst hr2
    have hmem := rngL_mem (l := W.cur) (lo := o.key) (hi := o.fin) (lim := o.lim)
    have hlen := rngL_len (l := W.cur) (lo := o.key) (hi := o.fin) (lim := o.lim)
    generalize rngL W.cur o.key o.fin o.lim = R at *
    have hsm : ∀ x ∈ R.1, x.key.length ≤ 100 ∧ x.val.length ≤ 4096 := fun x hx => ⟨(cur_keys ok hw x (hmem x hx)).2, (cur_num ok hw x (hmem x hx)).2.2.2.2.2.2⟩
    have lenR : lenL (kvsV R.1) = some (.int .i64 R.1.length) := by simp [lenL]
    have hb := hs.p1.at
    have hs5 := hs.p1.set (o' := .row 2 [[.int .i64 R.2, kvsV R.1]] 1)
    have hb5 := hs.p1.set (o' := .row 2 [[.int .i64 0, kvsV R.1]] 1) |>.at
    simp (disch := omega) only [go_sem, simprocAttr, he, hb, hb5]
    clear hb hb5
    generalize Hp.set _ b _ = h9 at hs5 ⊢
    refine blk_join (Q := fun e h => sat h (pto b (.row 2 [[.int .i64 R.2, kvsV R.1]] 1) :: RwP w x A W :: RxP x A :: Ow 2 ov rows :: F) ∧ (e 10 = .bool (tHolds A.now t.ifs) ∧ e 11 = opsV ops ∧ e 13 = .ptr w 4 0 0 ∧ e 14 = ov ∧ e 15 = .int .i64 ((sz + kvSize R.1 : Nat) : Int) ∧ e 16 = .int .i64 i ∧ e 18 = .ptr b 2 0 0)) ?_ ?_
    · refine run_up (N := R.1.length) (fun j e h => sat h (pto b (.row 2 [[.int .i64 R.2, kvsV R.1]] 1) :: RwP w x A W :: RxP x A :: Ow 2 ov rows :: F) ∧ (e 10 = .bool (tHolds A.now t.ifs) ∧ e 11 = opsV ops ∧ e 13 = .ptr w 4 0 0 ∧ e 14 = ov ∧ e 15 = .int .i64 ((sz + kvSize (R.1.take j) : Nat) : Int) ∧ e 16 = .int .i64 i ∧ e 18 = .ptr b 2 0 0 ∧ e 21 = .int .i64 j)) ⟨hs5.p2.drop.p3.p3.p3.p3, by simp [Env.upd_apply, he, kvSize]⟩ ?_
      clear hs hs5 he
      rintro j e h hj ⟨hs, he⟩
      have m1 : (j : Int) + 1 = ((j + 1 : Nat) : Int) := by omega
      have hb := hs.at
      by_cases hjl : j < R.1.length
      · have c1 : ((j : Int) < R.1.length) = True := by simp; omega
        have hia := ia_lst (f := kvC) (l := R.1) (i := j) (s := 6) (k := .i64) hjl (fun _ => rfl)
        have hst : kvSize (R.1.take (j + 1)) = kvSize (R.1.take j) + (R.1[j].key.length + R.1[j].val.length + 40) := by
          unfold kvSize
          rw [List.take_succ_eq_append_getElem hjl, List.map_append, List.sum_append]; simp
        have hbk := kvSize_le (l := R.1.take j) fun x hx => hsm x (List.mem_of_mem_take hx)
        rw [List.length_take] at hbk
        have hb2 := hsm _ (List.getElem_mem hjl)
        rw [hst]
        generalize R.1[j] = y at hia hb2
        have msz : ((sz + kvSize (R.1.take j) : Nat) : Int) + (y.key.length : Int) + (y.val.length : Int) + 40 = ((sz + (kvSize (R.1.take j) + (y.key.length + y.val.length + 40)) : Nat) : Int) := by omega
        simp only [kvC] at hia
        simp (disch := omega) only [go_sem, simprocAttr, he, c1, hb, lenR, hia, msz, m1]
        exact ⟨hjl, hs⟩
      · have c1 : ((j : Int) < R.1.length) = False := by simp; omega
        rw [List.take_of_length_le (by omega)] at he
        simp (disch := omega) only [go_sem, simprocAttr, he, c1, hb, lenR]
        exact hs
    clear hs hs5 he
    rintro e h ⟨hs, he⟩
    simp (disch := omega) only [go_sem, simprocAttr, he]
    exact ⟨kvsV R.1, VI.refl _, rfl, rfl, hs⟩
  clear hs he
  rintro e h ⟨W, res, sz, ov, rows, hrr, hq, hw, hwb, hs, he⟩
  have wl := hwb.len hw
  rw [hq]
  simp only [ne_eq, not_true_eq_false, if_false]
  by_cases hsz : 65536 < sz
  · have c3 : decide ((sz : Int) > 65536) = true := by simp; omega
    rw [if_pos hsz]
    simp (disch := omega) only [go_sem, simprocAttr, he, c3]
    exact ⟨_, .nils, _, [], [], _, rfl, ⟨rfl, fun i h1 => by simp at h1⟩, (hs.drop.p1.drop).add ow_nil, fun h hs => ⟨rfl, hs⟩⟩
  · have c3 : decide ((sz : Int) > 65536) = false := by simp; omega
    rw [if_neg hsz]
    simp (disch := omega) only [go_sem, simprocAttr, he, c3]
    refine call_use (rgDn hs hw (by omega) (by omega) (by omega)) ?_
    rintro r h ⟨hr2, hs⟩
    subst hr2
    simp (disch := omega) only [go_sem, simprocAttr, he]
    exact ⟨_, ov, _, rows, res.map resC, _, rfl, ⟨by rw [hrr.1, List.length_map], hrr.2.2⟩, hs.p1, fun h hs => ⟨rfl, hs⟩⟩
end
end Go.Proofs.YthdlaodfdabjlaaGreat
/- The law TxnPlays, walked. -/
set_option linter.unusedSimpArgs false
set_option linter.unusedVariables false
set_option maxRecDepth 10000
namespace Go.Proofs.YthdlaodfdabjlaaGreat
open Go.Hz

section
variable {h : Hp} {F : List Asr}
/-- What `Few` says. -/
structure Fw9 (t : Tx9) : Prop where
  l1 : t.ifs.length ≤ 300
  l2 : t.thn.length ≤ 300
  l3 : t.els.length ≤ 300
  v : ∀ o ∈ t.thn ++ t.els, o.val.length ≤ 50000
theorem lst_els {α : Type} {f : α → List AV} {t : Nat} {l : List α} (hf : ∀ x, (f x).length = t) : Els h t (.lst (l.map f)) (l.map f) := by
  refine ⟨?_, fun l hl => by cases hl⟩
  unfold srcA
  simp [hf]
set_option maxHeartbeats 1600000 in
theorem few9 {t : Tx9} (hs : sat h F) (hb : t.ok) : Triple Tryz.prog 6 [.agg t.row] h (fun r h => ∃ b, r = .bool b ∧ (b = true → Fw9 t) ∧ sat h F) := by
  obtain ⟨ifs, thn, els⟩ := t
  obtain ⟨l1, l2, l3, k1, k2, k3⟩ := hb
  simp only at l1 l2 l3 k1 k2 k3
  have len1 := len_ifsV ifs
  have len2 := len_opsV thn
  have len3 := len_opsV els
  have a1 : (ifsV ifs).isAtom = true := rfl
  have a2 : (opsV thn).isAtom = true := rfl
  have a3 : (opsV els).isAtom = true := rfl
  have z1 : (ifsV ifs).cells = [ifsV ifs] := rfl
  have z2 : (opsV thn).cells = [opsV thn] := rfl
  have z3 : (opsV els).cells = [opsV els] := rfl
  refine t6 (Nat.le_of_ble_eq_true rfl) ?_
  simp (disch := omega) only [F6, Tx9.row, a1, a2, a3, z1, z2, z3, go_sem, simprocAttr]
  refine new_opq hs fun a h hs => ?_
  have hp := hs.at
  simp (disch := omega) only [go_sem, simprocAttr, hp]
  refine blk_join (Q := fun e h => sat h (pto a (.row 3 [[ifsV ifs, opsV thn, opsV els]] 1) :: F) ∧ ∃ n : Nat, n ≤ 300 * 2097152 ∧ (e 1 = .ptr a 3 0 0 ∧ e 3 = .int .i64 n)) ?_ ?_
  · refine run_up (N := min ifs.length 300) (fun i e h => sat h (pto a (.row 3 [[ifsV ifs, opsV thn, opsV els]] 1) :: F) ∧ ∃ n : Nat, n ≤ i * 2097152 ∧ (e 1 = .ptr a 3 0 0 ∧ e 3 = .int .i64 n ∧ e 4 = .int .i64 i)) ⟨hs, 0, by omega, by simp [Env.upd_apply, initE]⟩ ?_
    clear hs hp
    rintro i e h hi ⟨hs, n, hn, he⟩
    have hp := hs.at
    have m1 : (i : Int) + 1 = ((i + 1 : Nat) : Int) := by omega
    by_cases g1 : i < min ifs.length 300
    · have hi' : i < ifs.length := by omega
      have c1 : ((i : Int) < ifs.length) = True := by simp; omega
      have c2 : ((i : Int) < 300) = True := by simp; omega
      have hia := ifsV_at hi'
      obtain ⟨b1, b2, _⟩ := k1 _ (List.getElem_mem hi')
      generalize ifs[i] = c at hia b1 b2
      have mm : (n : Int) + (c.key.length : Int) + (c.text.length : Int) = ((n + c.key.length + c.text.length : Nat) : Int) := by omega
      simp (disch := omega) only [go_sem, simprocAttr, he, hp, len1, c1, c2, hia, mm, m1]
      exact ⟨g1, hs, _, by omega, rfl⟩
    · by_cases g2 : i < ifs.length
      · have c1 : ((i : Int) < ifs.length) = True := by simp; omega
        have c2 : ((i : Int) < 300) = False := by simp; omega
        simp (disch := omega) only [go_sem, simprocAttr, he, hp, len1, c1, c2]
        exact ⟨hs, n, by omega, rfl⟩
      · have c1 : ((i : Int) < ifs.length) = False := by simp; omega
        simp (disch := omega) only [go_sem, simprocAttr, he, hp, len1, c1]
        exact ⟨hs, n, by omega, rfl⟩
  clear hs hp
  rintro e h ⟨hs, n0, hn0, he⟩
  have hp := hs.at
  simp (disch := omega) only [go_sem, simprocAttr, he]
  refine blk_join (Q := fun e h => sat h (pto a (.row 3 [[ifsV ifs, opsV thn, opsV els]] 1) :: F) ∧ ∃ n : Nat, n ≤ 300 * 2097152 + 300 * 3145728 ∧ (thn.length ≤ 300 → ∀ j (hj : j < thn.length), thn[j].val.length ≤ n) ∧ (e 1 = .ptr a 3 0 0 ∧ e 3 = .int .i64 n)) ?_ ?_
  · refine run_up (N := min thn.length 300) (fun i e h => sat h (pto a (.row 3 [[ifsV ifs, opsV thn, opsV els]] 1) :: F) ∧ ∃ n : Nat, n ≤ 300 * 2097152 + i * 3145728 ∧ (∀ j (hj : j < thn.length), j < i → thn[j].val.length ≤ n) ∧ (e 1 = .ptr a 3 0 0 ∧ e 3 = .int .i64 n ∧ e 5 = .int .i64 i)) ⟨hs, n0, by omega, fun j _ h => by omega, by simp [Env.upd_apply, he]⟩ ?_
    clear hs hp he
    rintro i e h hi ⟨hs, n, hn, hv, he⟩
    have hp := hs.at
    have m1 : (i : Int) + 1 = ((i + 1 : Nat) : Int) := by omega
    by_cases g1 : i < min thn.length 300
    · have hi' : i < thn.length := by omega
      have c1 : ((i : Int) < thn.length) = True := by simp; omega
      have c2 : ((i : Int) < 300) = True := by simp; omega
      have hia := opsV_at hi'
      obtain ⟨b1, b2, b3, _⟩ := k2 _ (List.getElem_mem hi')
      have hv2 : ∀ j (hj : j < thn.length), j < i + 1 → thn[j].val.length ≤ n + thn[i].key.length + thn[i].fin.length + thn[i].val.length := fun j hj hji => by
        by_cases hjj : j = i
        · subst hjj; omega
        · have := hv j hj (by omega); omega
      generalize thn[i] = c at hia b1 b2 b3 hv2
      have mm : (n : Int) + (c.key.length : Int) + (c.fin.length : Int) + (c.val.length : Int) = ((n + c.key.length + c.fin.length + c.val.length : Nat) : Int) := by omega
      simp (disch := omega) only [go_sem, simprocAttr, he, hp, len2, c1, c2, hia, mm, m1]
      exact ⟨g1, hs, _, by omega, hv2, rfl⟩
    · by_cases g2 : i < thn.length
      · have c1 : ((i : Int) < thn.length) = True := by simp; omega
        have c2 : ((i : Int) < 300) = False := by simp; omega
        simp (disch := omega) only [go_sem, simprocAttr, he, hp, len2, c1, c2]
        exact ⟨hs, n, by omega, fun hh => by omega, rfl⟩
      · have c1 : ((i : Int) < thn.length) = False := by simp; omega
        simp (disch := omega) only [go_sem, simprocAttr, he, hp, len2, c1]
        exact ⟨hs, n, by omega, fun hh j hj => hv j hj (by omega), rfl⟩
  clear hs hp he hn0
  rintro e h ⟨hs, n0, hn0, hv0, he⟩
  have hp := hs.at
  simp (disch := omega) only [go_sem, simprocAttr, he]
  refine blk_join (Q := fun e h => sat h (pto a (.row 3 [[ifsV ifs, opsV thn, opsV els]] 1) :: F) ∧ ∃ n : Nat, n ≤ 300 * 2097152 + 600 * 3145728 ∧ n0 ≤ n ∧ (els.length ≤ 300 → ∀ j (hj : j < els.length), els[j].val.length ≤ n) ∧ (e 1 = .ptr a 3 0 0 ∧ e 3 = .int .i64 n)) ?_ ?_
  · refine run_up (N := min els.length 300) (fun i e h => sat h (pto a (.row 3 [[ifsV ifs, opsV thn, opsV els]] 1) :: F) ∧ ∃ n : Nat, n ≤ 300 * 2097152 + 300 * 3145728 + i * 3145728 ∧ n0 ≤ n ∧ (∀ j (hj : j < els.length), j < i → els[j].val.length ≤ n) ∧ (e 1 = .ptr a 3 0 0 ∧ e 3 = .int .i64 n ∧ e 6 = .int .i64 i)) ⟨hs, n0, by omega, Nat.le_refl _, fun j _ h => by omega, by simp [Env.upd_apply, he]⟩ ?_
    clear hs hp he
    rintro i e h hi ⟨hs, n, hn, hnn, hv, he⟩
    have hp := hs.at
    have m1 : (i : Int) + 1 = ((i + 1 : Nat) : Int) := by omega
    by_cases g1 : i < min els.length 300
    · have hi' : i < els.length := by omega
      have c1 : ((i : Int) < els.length) = True := by simp; omega
      have c2 : ((i : Int) < 300) = True := by simp; omega
      have hia := opsV_at hi'
      obtain ⟨b1, b2, b3, _⟩ := k3 _ (List.getElem_mem hi')
      have hv2 : ∀ j (hj : j < els.length), j < i + 1 → els[j].val.length ≤ n + els[i].key.length + els[i].fin.length + els[i].val.length := fun j hj hji => by
        by_cases hjj : j = i
        · subst hjj; omega
        · have := hv j hj (by omega); omega
      generalize els[i] = c at hia b1 b2 b3 hv2
      have mm : (n : Int) + (c.key.length : Int) + (c.fin.length : Int) + (c.val.length : Int) = ((n + c.key.length + c.fin.length + c.val.length : Nat) : Int) := by omega
      simp (disch := omega) only [go_sem, simprocAttr, he, hp, len3, c1, c2, hia, mm, m1]
      exact ⟨g1, hs, _, by omega, by omega, hv2, rfl⟩
    · by_cases g2 : i < els.length
      · have c1 : ((i : Int) < els.length) = True := by simp; omega
        have c2 : ((i : Int) < 300) = False := by simp; omega
        simp (disch := omega) only [go_sem, simprocAttr, he, hp, len3, c1, c2]
        exact ⟨hs, n, by omega, hnn, fun hh => by omega, rfl⟩
      · have c1 : ((i : Int) < els.length) = False := by simp; omega
        simp (disch := omega) only [go_sem, simprocAttr, he, hp, len3, c1]
        exact ⟨hs, n, by omega, hnn, fun hh j hj => hv j hj (by omega), rfl⟩
  clear hs hp he hn0
  rintro e h ⟨hs, n, hn, hnn, hv, he⟩
  have hp := hs.at
  have go : n ≤ 50000 → ifs.length ≤ 300 → thn.length ≤ 300 → els.length ≤ 300 → Fw9 ⟨ifs, thn, els⟩ := fun h1 h2 h3 h4 => ⟨h2, h3, h4, fun o ho => by
    rcases List.mem_append.1 ho with ho | ho
    · obtain ⟨j, hj, rfl⟩ := List.getElem_of_mem ho
      exact Nat.le_trans (hv0 h3 j hj) (by omega)
    · obtain ⟨j, hj, rfl⟩ := List.getElem_of_mem ho
      exact Nat.le_trans (hv h4 j hj) (by omega)⟩
  cases c0 : decide ((n : Int) ≤ 50000) with
  | false =>
    simp (disch := omega) only [go_sem, simprocAttr, he, c0]
    exact ⟨false, rfl, nofun, hs.drop⟩
  | true =>
  cases c1 : decide ((ifs.length : Int) ≤ 300) with
  | false =>
    simp (disch := omega) only [go_sem, simprocAttr, he, hp, len1, c0, c1]
    exact ⟨false, rfl, nofun, hs.drop⟩
  | true =>
  cases c2 : decide ((thn.length : Int) ≤ 300) with
  | false =>
    simp (disch := omega) only [go_sem, simprocAttr, he, hp, len1, len2, c0, c1, c2]
    exact ⟨false, rfl, nofun, hs.drop⟩
  | true =>
  cases c3 : decide ((els.length : Int) ≤ 300) with
  | false =>
    simp (disch := omega) only [go_sem, simprocAttr, he, hp, len1, len2, len3, c0, c1, c2, c3]
    exact ⟨false, rfl, nofun, hs.drop⟩
  | true =>
    simp (disch := omega) only [go_sem, simprocAttr, he, hp, len1, len2, len3, c0, c1, c2, c3]
    simp only [decide_eq_true_eq] at c0 c1 c2 c3
    exact ⟨true, rfl, fun _ => go (by omega) (by omega) (by omega) (by omega), hs.drop⟩
theorem sameReply9 (hs : sat h F) {x : Rp} (hx : RpOK x) : Triple Tryz.prog 39 [rpV x, rpV x] h (fun r h => r = .bool true ∧ sat h F) := by
  obtain ⟨h1, h2⟩ := hx
  refine t39 (Nat.le_of_ble_eq_true rfl) ?_
  simp (disch := omega) only [F39, rpC, go_sem, simprocAttr]
  refine new_opq hs fun a h hs => ?_
  simp (disch := omega) only [go_sem, simprocAttr, rpC]
  refine new_opq hs fun b h hs => ?_
  have ha := hs.p1.at
  have hb := hs.at
  have len2 : lenL (ressV x.res) = some (.int .i64 x.res.length) := by simp [lenL]
  simp (disch := omega) only [go_sem, simprocAttr, ha, hb, len2]
  refine run_up (N := x.res.length) (fun i e h => sat h (pto b (.row 5 [rpC x] 1) :: pto a (.row 5 [rpC x] 1) :: F) ∧ (e 2 = .ptr a 5 0 0 ∧ e 3 = .ptr b 5 0 0 ∧ e 5 = .int .i64 i)) ⟨hs, rfl, rfl, rfl⟩ ?_
  clear hs ha hb
  rintro i e h hi ⟨hs, he⟩
  have m1 : (i : Int) + 1 = ((i + 1 : Nat) : Int) := by omega
  have ha := hs.p1.at
  have hb := hs.at
  simp only [rpC] at ha hb
  simp (disch := omega) only [go_sem, simprocAttr, he, ha, hb, m1, len2]
  refine cnd_dec (fun h1 => ?_) (fun h1 => ?_)
  · have hi : i < x.res.length := by omega
    have ez := ia_lst (f := resC) (l := x.res) (i := i) (s := 2) (k := .i64) hi (fun _ => rfl)
    have hq := h2 _ (List.getElem_mem hi)
    simp (disch := omega) only [go_sem, simprocAttr, he, ha, hb, ez, resC]
    refine call_use (sameKVs1 hs (l := x.res[i].kvs) (by omega)) ?_
    rintro r h ⟨hr, hs⟩
    subst hr
    simp (disch := omega) only [go_sem, simprocAttr, he, m1]
    exact ⟨by omega, hs⟩
  · simp (disch := omega) only [go_sem, simprocAttr, he]
    exact hs.drop.drop
theorem sameRes9 {l : List Res} (hs : sat h F) (h1 : l.length ≤ 1000000) (h2 : ∀ q ∈ l, q.kvs.length * 64 ≤ 140737488355328) : Triple Tryz.prog 13 [ressV l, ressV l] h (fun r h => r = .bool true ∧ sat h F) := by
  refine t13 (Nat.le_of_ble_eq_true rfl) ?_
  simp (disch := omega) only [F13, go_sem, simprocAttr]
  refine call_use (sameReply9 (x := ⟨0, 0, false, l, 0⟩) hs ⟨h1, h2⟩) ?_
  rintro r h ⟨hr, hs⟩
  subst hr
  simp (disch := omega) only [go_sem, simprocAttr]
  exact hs
/-- What holds of the store behind `i` transactions. -/
structure TpI (A : Sto) (i : Nat) : Prop where
  now : A.now.length ≤ 32 * i
  len : A.old.length + A.chs.length ≤ triK 32 i
  rev : A.rev ≤ i
theorem TpI.mono {A : Sto} {i j : Nat} (L : TpI A i) (h : i ≤ j) : TpI A j := ⟨by have := L.now; omega, Nat.le_trans L.len (triK_mono h), by have := L.rev; omega⟩
theorem TpI.step {A : Sto} {i : Nat} (L : TpI A i) (ok : StoOK A) {has : Int → Bool} {t : Tx9} : TpI (tDo A has t).2 (i + 1) := by
  obtain ⟨W, hw, hwb, e⟩ := tDo_st (has := has) (t := t) ok
  rw [e]
  obtain ⟨d1, d2, d3, d5, d4⟩ := stDone_len (A := A) (W := W)
  have wl := hwb.len hw
  have wc := hwb.cur ok hw
  have := L.now
  have := L.len
  have := L.rev
  have hl : triK 32 (i + 1) = triK 32 i + (32 * i + 32) := rfl
  refine ⟨?_, by rw [d1, d2]; omega, by omega⟩
  rw [stDone_now hw]; omega
theorem triK_40 {i : Nat} (h : i ≤ 40) : triK 32 i ≤ 26240 := Nat.le_trans (triK_mono h) (by decide)
theorem rx_new9 {x : Nat} (hs : sat h (pto x (.row 5 [[.int .i64 0, .int .i64 0, .nils, .nils, .nils]] 1) :: F)) : sat h (RxP x ⟨0, 0, [], []⟩ :: F) :=
  rxP.2 ⟨.nils, .nils, .nils, ⟨slV_nil, slV_nil⟩, ((hs.add (ow_nil (s := 8))).p1)⟩
theorem tDo_res {A : Sto} {has : Int → Bool} {t : Tx9} (ok : StoOK A) (h : A.now.length ≤ 100000) : (tDo A has t).1.2.1.length ≤ 1000000 ∧ ∀ q ∈ (tDo A has t).1.2.1, q.kvs.length * 64 ≤ 140737488355328 := by
  have z : ([] : List Res).length ≤ 1000000 ∧ ∀ q ∈ ([] : List Res), q.kvs.length * 64 ≤ 140737488355328 := ⟨by simp, by simp⟩
  unfold tDo
  split
  · exact z
  rename_i hc
  split
  · exact z
  dsimp only
  split
  · exact z
  split
  · exact z
  have hx := tCheck_ok (Classical.not_not.1 hc)
  have ho : (tOps A.now t).length ≤ 32 := by
    unfold tOps
    split
    · exact hx.n2
    · exact hx.n3
  obtain ⟨h1, h2⟩ := tRun_res ok (l := tOps A.now t) (N := 200000) (wrOK_nil A) wb_nil (by omega)
  exact ⟨by show (tRun _ _ _).1.1.length ≤ _; omega, fun q hq => by have := h2 q hq; omega⟩
set_option maxHeartbeats 1600000 in
theorem plays9 {l : List Tx9} {L : List Int} (hl : l.length ≤ 1048576) (hc : ∀ c ∈ l, c.ok) (hL0 : L.length ≤ 9223372036854775807) : Triple Tryz.prog 3 [txsV l, nums L] Hp.emp (fun r _ => r = .bool true) := by
  have hs : sat Hp.emp [] := trivial
  have lenT := len_txsV l
  have lenL := num_len (l := L)
  have an : (nums L).isAtom = true := rfl
  have zn : (nums L).cells = [nums L] := rfl
  refine t3 (Nat.le_of_ble_eq_true rfl) ?_
  simp (disch := omega) only [F3, go_sem, simprocAttr]
  refine call_use (known9 hs) ?_
  rintro r h ⟨hr, hs⟩
  subst hr
  simp (disch := omega) only [go_sem, simprocAttr]
  by_cases k1 : 20 < L.length
  · have c1 : decide ((L.length : Int) > 20) = true := by simp; omega
    simp (disch := omega) only [go_sem, simprocAttr, lenL, c1]
  have c1 : decide ((L.length : Int) > 20) = false := by simp; omega
  simp (disch := omega) only [go_sem, simprocAttr, lenL, c1]
  refine call_use (mvNew hs) ?_
  rintro r h ⟨s, hr, hs⟩
  subst hr
  simp (disch := omega) only [go_sem, simprocAttr]
  refine new_opq hs fun x h hs => ?_
  have hs := rx_new9 hs
  simp (disch := omega) only [go_sem, simprocAttr]
  refine blk_join (Q := fun e h => True) ?_ ?_
  rotate_left
  · intro e h _
    simp (disch := omega) only [go_sem, simprocAttr]
  refine run_up (N := min l.length 40) (fun i e h => ∃ (A : Sto) (o : AV), TpI A i ∧ sat h [StP s A o, RxP x A] ∧ (e 0 = txsV l ∧ e 1 = nums L ∧ e 5 = .ptr s 7 0 0 ∧ e 6 = .ptr x 5 0 0 ∧ e 7 = .int .i64 i))
    ⟨_, _, ⟨by simp [Sto.now, doneL], by simp [triK], by simp⟩, hs.p1, by simp [Env.upd_apply, initE]⟩ ?_
  clear hs
  rintro i e h hiN ⟨A, o, I, hs, he⟩
  have m1 : (i : Int) + 1 = ((i + 1 : Nat) : Int) := by omega
  by_cases hii : i < min l.length 40
  · have c1 : ((i : Int) < l.length) = True := by simp; omega
    have c2 : ((i : Int) < 40) = True := by simp; omega
    have hi1 : i < l.length := by omega
    have hik := at_txsV hi1
    have hok := hc _ (List.getElem_mem hi1)
    generalize l[i] = t at hik hok
    have ok := MvP.ok hs
    have Ln := I.now
    have Ll := I.len
    have Lr := I.rev
    have ht : triK 32 i ≤ 26240 := triK_40 (by omega)
    simp (disch := omega) only [go_sem, simprocAttr, he, lenT, c1, c2, hik]
    refine call_use (few9 (t := t) hs hok) ?_
    rintro r h ⟨b, hr, hfw, hs⟩
    subst hr
    cases b with
    | false =>
      simp (disch := omega) only [go_sem, simprocAttr, he, m1]
      exact ⟨hii, A, o, I.mono (by omega), hs⟩
    | true =>
    obtain ⟨f1, f2, f3, f4⟩ := hfw rfl
    have fv : ∀ o ∈ t.thn ++ t.els, o.val.length ≤ 9000000000 := fun o ho => by have := f4 o ho; omega
    have E1 : ∀ h : Hp, Els h 5 (ifsV t.ifs) (t.ifs.map If9.row) := fun h => lst_els fun _ => rfl
    have E2 : ∀ h : Hp, Els h 6 (opsV t.thn) (t.thn.map Op9.row) := fun h => lst_els fun _ => rfl
    have E3 : ∀ h : Hp, Els h 6 (opsV t.els) (t.els.map Op9.row) := fun h => lst_els fun _ => rfl
    simp (disch := omega) only [go_sem, simprocAttr, he, hik]
    refine call_use' (txCheck (t := t) hs (fun h _ => E1 h) (fun h _ => E2 h) (fun h _ => E3 h) (by omega) (by omega) (by omega) fv) ?_
    rintro r h ⟨hr, hs⟩
    subst hr
    simp (disch := omega) only [go_sem, simprocAttr, he, hik]
    refine call_use (rxCheck (t := t) hs (by omega) (by omega) (by omega) fv) ?_
    rintro r h ⟨hr, hs⟩
    subst hr
    have n0 : ((tCheck t) != (tCheck t)) = false := by simp
    simp (disch := omega) only [go_sem, simprocAttr, he, hik, n0]
    refine call_use' (txHolds (l := t.ifs) hs (fun h _ => E1 h) (by omega) (by omega)) ?_
    rintro r h ⟨hr, hs⟩
    subst hr
    simp (disch := omega) only [go_sem, simprocAttr, he, hik]
    refine call_use (rxHolds (l := t.ifs) (hs.p1) ok (by omega) (by omega)) ?_
    rintro r h ⟨hr, hs⟩
    subst hr
    simp (disch := omega) only [go_sem, simprocAttr, he, hik, an, zn]
    refine new_opq hs fun a h hs => ?_
    simp (disch := omega) only [go_sem, simprocAttr, he, hik]
    refine call_use (txDo (t := t) (lv := .iface tl9 (.ptr a 1 0 0)) (has := fun id => decide (id ∈ L)) (hs.p1.p1.p2) (fun h _ => E1 h) (fun h _ => E2 h) (fun h _ => E3 h) (by omega) (by omega) (by omega) fv (has9 (L := L) (fun h g => lst_els fun _ => rfl) (by omega)) (by omega) (by omega)) ?_
    rintro r h ⟨o', hr, hs⟩
    subst hr
    simp (disch := omega) only [go_sem, simprocAttr, he, hik]
    refine call_use (rxDo (t := t) (L := L) (hs.p1.p1.p2) ok (by omega) (by omega) (by omega) fv (by omega) (by omega) (by omega)) ?_
    rintro r h ⟨hr, hs⟩
    subst hr
    have hres := tDo_res (has := fun id => decide (id ∈ L)) (t := t) ok (by omega)
    have I2 := I.step ok (has := fun id => decide (id ∈ L)) (t := t)
    generalize tDo A (fun id => decide (id ∈ L)) t = D at hs hres I2 ⊢
    have n1 : (D.1.2.2 != D.1.2.2) = false := by simp
    have Ln := I2.now
    have Ll := I2.len
    have Lr := I2.rev
    have ht : triK 32 (i + 1) ≤ 26240 := triK_40 (by omega)
    simp (disch := omega) only [go_sem, simprocAttr, he, n1]
    refine call_use (sameRes9 hs hres.1 hres.2) ?_
    rintro r h ⟨hr, hs⟩
    subst hr
    simp (disch := omega) only [go_sem, simprocAttr, he]
    refine call_use (alikeX (hs.p2.p1.p2) (by omega) (by omega)) ?_
    rintro r h ⟨hr, hs⟩
    subst hr
    simp (disch := omega) only [go_sem, simprocAttr, he, m1]
    exact ⟨hii, _, o', I2, hs.p2.drop.p1.p1⟩
  · have hcase : (¬ (i : Int) < l.length) ∨ ((i : Int) < l.length ∧ ¬ (i : Int) < 40) := by omega
    rcases hcase with c1 | ⟨c1, c2⟩
    · simp (disch := omega) only [go_sem, simprocAttr, he, lenT, c1]
    · simp (disch := omega) only [go_sem, simprocAttr, he, lenT, c1, c2]
theorem txnPlays_law (vs : List AV) (h : Ty.ones [.sl (.st tyTx9), .sl (.int .i64)] vs) (hN : Ty.bulks [.sl (.st tyTx9), .sl (.int .i64)] vs ≤ 1048576) : Triple Tryz.prog 3 vs Hp.emp (fun r _ => r = .bool true) := by
  obtain ⟨a, _, rfl, ha, h⟩ := ones_cons h
  obtain ⟨b, _, rfl, hb, h⟩ := ones_cons h
  obtain rfl := ones_nil h
  have e : Ty.bulks [.sl (.st tyTx9), .sl (.int .i64)] [a, b] = (Ty.sl (.st tyTx9)).bulk1 a + ((Ty.sl (.int .i64)).bulk1 b + 0) := rfl
  rw [e] at hN
  obtain ⟨ts, rfl, h1, h2⟩ := txs_of ha (by omega)
  obtain ⟨L, rfl, h3, h4⟩ := nums_of hb
  exact plays9 h1 h2 h3
end
end Go.Proofs.YthdlaodfdabjlaaGreat
