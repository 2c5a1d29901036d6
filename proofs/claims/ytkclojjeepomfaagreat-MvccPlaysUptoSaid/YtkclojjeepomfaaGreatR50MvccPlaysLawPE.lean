/- The store: a key at a revision. -/
import Derived.Test.YtkclojjeepomfaaGreatR50MvccPlaysLawPD
set_option linter.unusedSimpArgs false
set_option linter.unusedVariables false
set_option maxRecDepth 10000
namespace Go.Proofs.YtkclojjeepomfaaGreat
open Go.Hz

abbrev tp : Nat := 89
abbrev td : Nat := 97
abbrev StP (s : Nat) (A : Sto) (o : AV) : Asr := MvP tp td s A o

section
variable {h : Hp} {F : List Asr} {s : Nat} {A : Sto} {o : AV}

theorem putKey {kv : Kv} (hs : sat h F) : Triple Tryz.prog 146 [.agg (kvC kv)] h (fun r h => r = .str kv.key ∧ sat h F) := by
  refine t146 (Nat.le_of_ble_eq_true rfl) ?_
  simp (disch := omega) only [F146, kvC, go_sem, simprocAttr]
  refine new_opq hs fun a h hs => ?_
  have ha := hs.at
  simp (disch := omega) only [go_sem, simprocAttr, ha]
  exact hs.drop
theorem delKey {k : Key} (hs : sat h F) : Triple Tryz.prog 147 [.agg [.str k]] h (fun r h => r = .str k ∧ sat h F) := by
  refine t147 (Nat.le_of_ble_eq_true rfl) ?_
  simp (disch := omega) only [F147, go_sem, simprocAttr]
  refine new_opq hs fun a h hs => ?_
  have ha := hs.at
  simp (disch := omega) only [go_sem, simprocAttr, ha]
  exact hs.drop
theorem meth_put : methOf Tryz.prog tp "horologe/mvcc.key" = some 146 := by kernel_rfl
theorem meth_del : methOf Tryz.prog td "horologe/mvcc.key" = some 147 := by kernel_rfl
/-- A change's key. -/
theorem inv_key {st : List Fr} {e : Env} {k : Kt} {d : Option Nat} {r : List (AItem × List AItem)} {obl : List AItem} (hs : sat h F) (c : Ch)
    (hk : ∀ h', sat h' F → obls Tryz.prog obl (e.put d (.str c.key)) h' ∧ runS Tryz.prog r st (e.put d (.str c.key)) h' k) : effR Tryz.prog (invE Tryz.prog "horologe/mvcc.key" (chV tp td c) [] h) obl d r st e k := by
  unfold effR
  cases c with
  | put kv =>
    simp only [invE, chV, meth_put]
    exact ⟨okFn_ok rfl, (putKey hs).mono fun v h' ⟨h1, h2⟩ => by subst h1; exact hk h' h2⟩
  | del k =>
    simp only [invE, chV, meth_del]
    exact ⟨okFn_ok rfl, (delKey hs).mono fun v h' ⟨h1, h2⟩ => by subst h1; exact hk h' h2⟩
theorem mvRev (hs : sat h (StP s A o :: F)) : Triple Tryz.prog 29 [.ptr s 7 0 0] h (fun r h => r = .int .i64 A.rev ∧ sat h (StP s A o :: F)) := by
  obtain ⟨ix, vm, cv, L, X, hok, hs2⟩ := mvP.1 hs
  have hp := hs2.at
  refine t29 (Nat.le_of_ble_eq_true rfl) ?_
  simp (disch := omega) only [F29, hp, go_sem, simprocAttr]
  exact mvP.2 ⟨ix, vm, cv, L, X, hok, hs2⟩
theorem at1 {b c q : Nat} {vs : List Ver} {rev : Int} {cap : Nat} (hs : sat h (pto b (.row 1 [[.arr q 2 0 vs.length cap]] 1) :: pto c (.row 1 [[.int .i64 rev]] 1) :: pto q (.row 2 (vs.map (verC tp td)) cap) :: F)) {i : Nat} (hi : i < vs.length) :
    Triple Tryz.prog 80 [.int .i64 i, .ptr b 1 0 0, .ptr c 1 0 0] h (fun r h => r = .bool (decide (vs[i].rev > rev)) ∧ sat h (pto b (.row 1 [[.arr q 2 0 vs.length cap]] 1) :: pto c (.row 1 [[.int .i64 rev]] 1) :: pto q (.row 2 (vs.map (verC tp td)) cap) :: F)) := by
  have hb := hs.at
  have hc := hs.p1.at
  have hq := hs.p2.at
  have hrow : (vs.map (verC tp td))[i]? = some (verC tp td vs[i]) := by simp [hi]
  refine t80 (Nat.le_of_ble_eq_true rfl) ?_
  simp (disch := omega) only [F80, hb, hc, hq, hrow, verC, Int.toNat_natCast, go_sem, simprocAttr]
  exact hs
/-- A key at a revision. -/
theorem mvAt {key : Key} {rev : Int} (hs : sat h (StP s A o :: F)) (hz : A.chs.length ≤ 100000000) : Triple Tryz.prog 47 [.ptr s 7 0 0, .str key, .int .i64 rev] h (fun r h =>
    r = .tup [.agg (kvC ((vAt (A.vers key) rev).getD kv0)), .bool (vAt (A.vers key) rev).isSome] ∧ sat h (StP s A o :: F)) := by
  obtain ⟨ix, vm, cv, L, X, hok, hs2⟩ := mvP.1 hs
  refine t47 (Nat.le_of_ble_eq_true rfl) ?_
  simp (disch := omega) only [F47, go_sem, simprocAttr]
  refine new_opq hs2 fun a h hs => ?_
  simp (disch := omega) only [go_sem, simprocAttr]
  refine new_opq hs fun b h hs => ?_
  have hp := hs.p2.at
  have back : ∀ {h : Hp} {R : List Asr}, sat h (pto b (.row 6 [kvC kv0] 1) :: R) → True := fun _ => trivial
  have mk : ∀ {h : Hp}, sat h (MvL tp td s ix vm cv o A L X ++ F) → sat h (StP s A o :: F) := fun hs => mvP.2 ⟨ix, vm, cv, L, X, hok, hs⟩
  by_cases hx : ∃ x ∈ X, x.key = key
  · obtain ⟨x, hx, rfl⟩ := hx
    have hl := lk_hit keyOK_str (show sat h (MpA (fun k : Key => AV.str k) Vn.key Vn.v vm X :: _) from hs.p5) hok.2.2.1 hx (ok := false) (z := .nils)
    simp only [Bool.false_eq_true, if_false] at hl
    simp (disch := omega) only [go_sem, simprocAttr, hp, hl]
    refine new_opq hs fun c h hs => ?_
    have hc := hs.at
    obtain ⟨hv1, hv2⟩ := hok.2.2.2.1 x hx
    obtain ⟨l1, l2, rfl⟩ := List.append_of_mem hx
    have hs : sat h ((pto c (.row 1 [[.nils]] 1) :: pto b (.row 6 [kvC kv0] 1) :: pto a (.row 1 [[.int .i64 rev]] 1) :: ([pto s (.row 7 [[.int .i64 A.rev, .int .i64 A.past, .int .i64 A.now.length, .ptr ix 2 0 0, .map vm, cv, o]] 1), IxP ix L, Ow 2 cv (A.chs.map (verC tp td)), MpA (fun k : Key => AV.str k) Vn.key Vn.v vm (l1 ++ x :: l2)] ++ l1.map (VnP tp td))) ++ VnP tp td x :: (l2.map (VnP tp td) ++ F)) := by
      simpa [MvL, kvC, kv0] using hs
    have hs := hs.mid
    have mk2 : ∀ {h : Hp}, sat h (VnP tp td x :: (([pto s (.row 7 [[.int .i64 A.rev, .int .i64 A.past, .int .i64 A.now.length, .ptr ix 2 0 0, .map vm, cv, o]] 1), IxP ix L, Ow 2 cv (A.chs.map (verC tp td)), MpA (fun k : Key => AV.str k) Vn.key Vn.v vm (l1 ++ x :: l2)] ++ l1.map (VnP tp td)) ++ (l2.map (VnP tp td) ++ F))) → sat h (StP s A o :: F) := by
      intro h hs
      refine mk ?_
      have := hs.unmid
      simpa [MvL] using this
    have hs : sat h (VnP tp td x :: pto c (.row 1 [[.nils]] 1) :: pto b (.row 6 [kvC kv0] 1) :: pto a (.row 1 [[.int .i64 rev]] 1) :: (([pto s (.row 7 [[.int .i64 A.rev, .int .i64 A.past, .int .i64 A.now.length, .ptr ix 2 0 0, .map vm, cv, o]] 1), IxP ix L, Ow 2 cv (A.chs.map (verC tp td)), MpA (fun k : Key => AV.str k) Vn.key Vn.v vm (l1 ++ x :: l2)] ++ l1.map (VnP tp td)) ++ (l2.map (VnP tp td) ++ F))) := hs
    generalize (([pto s (.row 7 [[.int .i64 A.rev, .int .i64 A.past, .int .i64 A.now.length, .ptr ix 2 0 0, .map vm, cv, o]] 1), IxP ix L, Ow 2 cv (A.chs.map (verC tp td)), MpA (fun k : Key => AV.str k) Vn.key Vn.v vm (l1 ++ x :: l2)] ++ l1.map (VnP tp td)) ++ (l2.map (VnP tp td) ++ F)) = R at hs mk2
    obtain ⟨xk, xv, vs⟩ := x
    simp only [] at hv1 hv2
    have hris := vers_ris hok.1 xk
    have hlen := vers_le (A := A) xk
    rw [← hv1] at hris hlen
    rcases hs.cases with ⟨_, hn0, _⟩ | ⟨q, cap, hv, hs3, hle⟩
    · exact absurd (List.map_eq_nil_iff.1 hn0) hv2
    simp only [] at hv
    subst hv
    have hll : (vs.map (verC tp td)).length = vs.length := by simp
    simp only [hll] at hs3 hle hc mk2
    have hs4 := hs3.p1.set (o' := .row 1 [[.arr q 2 0 vs.length cap]] 1)
    have hc4 := hs4.at
    simp (disch := omega) only [go_sem, simprocAttr, hc, hc4, hll]
    generalize Hp.set h c _ = h2 at hs4 hc4 ⊢
    refine call_use (search (N := vs.length) (f := 80) (caps := [.ptr c 1 0 0, .ptr a 1 0 0]) (pr := fun i => match vs[i]? with | some w => decide (w.rev > rev) | none => true) hs4.p2.p2.p3.p3 (by omega) rfl ?_ ?_) ?_
    · intro i j hij hj hi
      rw [List.getElem?_eq_getElem (by omega)] at hi ⊢
      have h3 : vs[i].rev > rev := by simpa using hi
      have : vs[i].rev ≤ vs[j].rev := by
        rcases Nat.lt_or_eq_of_le hij with h | h
        · exact Int.le_of_lt (List.pairwise_iff_getElem.1 hris i j (by omega) hj h)
        · subst h; exact Int.le_refl _
      simp; omega
    · intro i h hi hs
      refine (at1 hs hi).mono fun r h ⟨h1, h2⟩ => ⟨?_, h2⟩
      rw [h1, List.getElem?_eq_getElem hi]
    rintro r h ⟨k, hr, hk, hk1, hk2, hs⟩
    subst hr
    have hva := vAt_k (l := vs) (r := rev) hk (fun i hi hik => by
      have := hk1 i hik
      rw [List.getElem?_eq_getElem hi] at this
      have : ¬ vs[i].rev > rev := by simpa using this
      omega) (fun i hi hik => by
      have := hk2 i hik hi
      rw [List.getElem?_eq_getElem hi] at this
      simpa using this)
    have hva2 : vAt (A.vers xk) rev = if hk0 : 0 < k then (vs[k - 1]'(by omega)).c.kv else none := by rw [← hv1]; exact hva
    have hc := hs.at
    have hb := hs.p3.at
    have hq := hs.p2.at
    have mk3 : ∀ {h : Hp}, sat h (pto q (.row 2 (vs.map (verC tp td)) cap) :: R) → sat h (StP s A o :: F) := by
      intro h hs
      have := hs.ow (by simpa using hle)
      rw [hll] at this
      exact mk2 this
    by_cases hk0 : 0 < k
    · rw [dif_pos hk0] at hva2
      have e0 : ((k : Int) == 0) = false := by simp; omega
      have e1 : (k : Int) - 1 = ((k - 1 : Nat) : Int) := by omega
      have hrow : (vs.map (verC tp td))[k - 1]? = some (verC tp td (vs[k - 1]'(by omega))) := by rw [List.getElem?_map, List.getElem?_eq_getElem (by omega)]; rfl
      generalize (vs[k - 1]'(by omega)) = w at hva2 hrow
      rw [hva2]
      obtain ⟨wr, wc⟩ := w
      cases wc with
      | put kv =>
        simp (disch := omega) only [go_sem, simprocAttr, e0, hc, e1, hq, hrow, verC, chV, Int.toNat_natCast, taA, tp, td, kvC]
        refine new_opq hs fun y h hs => ?_
        have hy := hs.at
        have hs5 := hs.set (o' := .row 6 [kvC kv] 1)
        have hy5 := hs5.at
        have hb5 := hs5.p4.at
        simp only [kvC, kv0] at hy5 hb5 hs5
        simp (disch := omega) only [go_sem, simprocAttr, hy, hy5, hb5, kvC]
        exact ⟨rfl, mk3 hs5.p4.set.drop.drop.drop.drop⟩
      | del dk =>
        simp (disch := omega) only [go_sem, simprocAttr, e0, hc, e1, hq, hrow, verC, chV, Int.toNat_natCast, taA, tp, td, kvC]
        refine new_opq hs fun y h hs => ?_
        have hy := hs.at
        have hs5 := hs.set (o' := .row 6 [kvC kv0] 1)
        have hy5 := hs5.at
        have hb5 := hs5.p4.at
        simp only [kvC, kv0] at hy5 hb5 hs5
        simp (disch := omega) only [go_sem, simprocAttr, hy, hy5, hb5, kvC]
        exact ⟨rfl, mk3 hs5.p4.set.drop.drop.drop.drop⟩
    · rw [dif_neg hk0] at hva2
      have : k = 0 := by omega
      subst this
      have e0 : (((0 : Nat) : Int) == 0) = true := rfl
      rw [hva2]
      simp (disch := omega) only [go_sem, simprocAttr, e0, hb, kvC, kv0]
      exact ⟨rfl, mk3 hs.p3.set.drop.drop.drop⟩
  · have hv0 : A.vers key = [] := by
      cases hh : A.vers key with
      | nil => rfl
      | cons y l => exact absurd (hok.2.2.2.2 key (by rw [hh]; simp)) hx
    have hl := lk_miss keyOK_str (show sat h (MpA (fun k : Key => AV.str k) Vn.key Vn.v vm X :: _) from hs.p5) (q := key) (fun x h1 h2 => hx ⟨x, h1, h2⟩) (ok := false) (z := .nils)
    simp only [Bool.false_eq_true, if_false] at hl
    simp (disch := omega) only [go_sem, simprocAttr, hp, hl]
    refine new_opq hs fun c h hs => ?_
    have hc := hs.at
    simp (disch := omega) only [go_sem, simprocAttr, hc]
    have hs5 := hs.set (o' := .row 1 [[.nils]] 1)
    generalize Hp.set h c _ = h2 at hs5 ⊢
    refine call_use (search (N := 0) (f := 80) (caps := [.ptr c 1 0 0, .ptr a 1 0 0]) (pr := fun i => true) hs5 (by omega) rfl (fun _ _ _ _ _ => rfl) (fun i h hi => absurd hi (by omega))) ?_
    rintro r h ⟨k, hr, hk, _, _, hs⟩
    subst hr
    have : k = 0 := by omega
    subst this
    have e0 : (((0 : Nat) : Int) == 0) = true := rfl
    have hb := hs.p1.at
    rw [hv0]
    simp (disch := omega) only [go_sem, simprocAttr, e0, hb, kvC, kv0]
    exact ⟨rfl, mk hs.p1.set.drop.drop.drop⟩
end
end Go.Proofs.YtkclojjeepomfaaGreat
/- The store: the keys of a range; a range; a new store; a write that begins. -/
set_option linter.unusedSimpArgs false
set_option linter.unusedVariables false
set_option maxRecDepth 10000
namespace Go.Proofs.YtkclojjeepomfaaGreat
open Go.Hz

section
variable {h : Hp} {F : List Asr} {s : Nat} {A : Sto} {o : AV}

theorem mvNew (hs : sat h F) : Triple Tryz.prog 5 [] h (fun r h => ∃ s, r = .ptr s 7 0 0 ∧ sat h (StP s ⟨0, 0, [], []⟩ .nilp :: F)) := by
  refine t5 (Nat.le_of_ble_eq_true rfl) ?_
  simp (disch := omega) only [F5, go_sem, simprocAttr]
  refine call_use (ixNew hs) ?_
  rintro r h ⟨b, hr, hs⟩
  subst hr
  simp (disch := omega) only [go_sem, simprocAttr]
  refine new_opq hs fun m h hs => ?_
  simp (disch := omega) only [go_sem, simprocAttr]
  refine new_opq hs fun q h hs => ?_
  simp (disch := omega) only [go_sem, simprocAttr]
  refine ⟨q, rfl, mvP.2 ⟨b, m, .nils, [], [], ⟨?_, ?_, ?_⟩, ?_⟩⟩
  · exact ⟨Int.le_refl _, Int.le_refl _, .nil, by simp, .nil, by simp, by simp, fun a v b h => by simp at h, by simp⟩
  · exact ⟨WfL.nil, fun k => rfl⟩
  · exact ⟨.nil, by simp, fun k h => absurd rfl h⟩
  · have h1 := mpA_new (K := fun k : Key => AV.str k) (key := Vn.key) (v := Vn.v) hs.p1
    have h2 : sat h (Ow 2 .nils [] :: MpA (fun k : Key => AV.str k) Vn.key Vn.v m [] :: pto q (.row 7 [[.int .i64 0, .int .i64 0, .int .i64 0, .ptr b 2 0 0, .map m, .nils, .nilp]] 1) :: IxQ b [] :: F) := h1.add ow_nil
    have h3 : sat h (IxP b [] :: pto q (.row 7 [[.int .i64 0, .int .i64 0, .int .i64 0, .ptr b 2 0 0, .map m, .nils, .nilp]] 1) :: Ow 2 .nils [] :: MpA (fun k : Key => AV.str k) Vn.key Vn.v m [] :: F) := sat_ixp.2 ⟨[], rfl, h2.p1.p1.p2.p3⟩
    exact h3.p1
/-- The keys of a range that there were ever. -/
def StKeys (A : Sto) (lo hi : Key) (ks : List Key) : Prop := SrtS ks ∧ ks.length ≤ A.old.length + A.chs.length + 1 ∧ if hi = [] then ks = [lo] else ∀ k, k ∈ ks ↔ A.vers k ≠ [] ∧ inR lo hi k = true
theorem mvKeys {lo hi : Key} (hs : sat h (StP s A o :: F)) (hz : A.old.length + A.chs.length ≤ 100000000) : Triple Tryz.prog 46 [.ptr s 7 0 0, .str lo, .str hi] h (fun r h => ∃ ks, StKeys A lo hi ks ∧ sat h (Ow 1 r (ks.map fun k => [.str k]) :: StP s A o :: F)) := by
  obtain ⟨ix, vm, cv, L, X, hok, hs2⟩ := mvP.1 hs
  refine t46 (Nat.le_of_ble_eq_true rfl) ?_
  simp (disch := omega) only [F46, go_sem, simprocAttr]
  by_cases hh : hi = []
  · subst hh
    have e0 : (([] : List UInt8) == []) = true := rfl
    simp (disch := omega) only [go_sem, simprocAttr, e0]
    refine new_opq hs fun a h hs => ?_
    simp (disch := omega) only [go_sem, simprocAttr]
    refine ⟨[lo], ⟨List.pairwise_singleton _ _, by simp, by simp⟩, ?_⟩
    have := hs.ow (by simp)
    simpa using this
  · have e0 : (hi == []) = false := by simpa using hh
    have hp := hs2.at
    simp (disch := omega) only [go_sem, simprocAttr, e0, hp]
    have hs3 : sat h (IxP ix L :: pto s (.row 7 [[.int .i64 A.rev, .int .i64 A.past, .int .i64 A.now.length, .ptr ix 2 0 0, .map vm, cv, o]] 1) :: Ow 2 cv (A.chs.map (verC tp td)) :: MpA (fun k : Key => AV.str k) Vn.key Vn.v vm X :: (X.map (VnP tp td) ++ F)) := hs2.p1
    refine call_use (ixKeysO (lo := lo) (hi := hi) hs3 hok.2.1.1 (by have := ix_num hok.2.1; omega)) ?_
    intro r h hs
    simp (disch := omega) only [go_sem, simprocAttr]
    refine ⟨keysL L lo hi, ⟨keysL_srt hok.2.1.1.1, ?_, ?_⟩, ?_⟩
    · have h1 := ix_num hok.2.1
      have : (keysL L lo hi).length ≤ L.length := by unfold keysL; exact Nat.le_trans (List.length_filter_le _ _) (by simp)
      omega
    · rw [if_neg hh]
      exact fun k => keysL_mem hok.2.1
    · have hs4 := hs.tl fun h hs => (mvP.2 ⟨ix, vm, cv, L, X, hok, hs.p1⟩ : sat h (StP s A o :: F))
      exact hs4
theorem stkeys_at {ks : List Key} {lo hi : Key} (ok : StoOK A) (hk : StKeys A lo hi ks) {r : Int} (hr : A.past ≤ r) : ks.filterMap (fun k => vAt (A.vers k) r) = (A.at r).filter fun x => inK lo hi x.key := by
  by_cases hh : hi = []
  · subst hh
    have := hk.2.2
    rw [if_pos rfl] at this
    subst this
    exact rng_at1 ok hr
  · have h1 := hk.2.2
    rw [if_neg hh] at h1
    have e : (fun k => vAt (A.vers k) r) = kvget (A.at r) := funext fun k => vAt_at ok hr k
    rw [e]
    refine pick_keys (at_srt ok r) hk.1 (fun k hk' => ?_) fun x hx hin => ?_
    · rw [inK, if_neg hh]; exact ((h1 k).1 hk').2
    · rw [inK, if_neg hh] at hin
      exact (h1 _).2 ⟨at_vers ok hr hx, hin⟩
end
end Go.Proofs.YtkclojjeepomfaaGreat
/- The store: a range. -/
set_option linter.unusedSimpArgs false
set_option linter.unusedVariables false
set_option maxRecDepth 10000
namespace Go.Proofs.YtkclojjeepomfaaGreat
open Go.Hz

section
variable {h : Hp} {F : List Asr} {s : Nat} {A : Sto} {o : AV}

theorem mvKeysR {lo hi : Key} (hs : sat h (StP s A o :: F)) (hz : A.old.length + A.chs.length ≤ 100000000) : Triple Tryz.prog 46 [.ptr s 7 0 0, .str lo, .str hi] h (fun r h => ∃ ks, StKeys A lo hi ks ∧ r = strsV ks ∧ sat h (StP s A o :: F)) :=
  Triple.lst 1 ((mvKeys hs hz).mono fun r h ⟨ks, h1, hs⟩ => ⟨_, _, hs, fun h hs => ⟨ks, h1, rfl, hs⟩⟩)
theorem mvRangeO {lo hi : Key} {rev lim : Int} (hs : sat h (StP s A o :: F)) (hz : A.old.length + A.chs.length ≤ 100000000) : Triple Tryz.prog 21 [.ptr s 7 0 0, .str lo, .str hi, .int .i64 rev, .int .i64 lim] h
    (fun r h => ∃ v, r = .tup [v, .int .i64 (stRange A lo hi rev lim).2.1, .int .i64 (stRange A lo hi rev lim).2.2] ∧ sat h (Ow 6 v ((stRange A lo hi rev lim).1.map kvC) :: StP s A o :: F)) := by
  have ok := MvP.ok hs
  have hz2 : A.chs.length ≤ 100000000 := by omega
  obtain ⟨ix, vm, cv, L, X, hok, hs2⟩ := mvP.1 hs
  have hp := hs2.at
  have mk : ∀ {h : Hp}, sat h (MvL tp td s ix vm cv o A L X ++ F) → sat h (StP s A o :: F) := fun hs => mvP.2 ⟨ix, vm, cv, L, X, hok, hs⟩
  refine t21 (Nat.le_of_ble_eq_true rfl) ?_
  simp (disch := omega) only [F21, go_sem, simprocAttr]
  by_cases c1 : rev < 0
  · have ef : stRange A lo hi rev lim = ([], 0, 1) := by rw [stRange, if_pos c1]
    rw [ef]
    simp (disch := omega) only [go_sem, simprocAttr, c1]
    exact ⟨.nils, rfl, (mk hs2).add ow_nil⟩
  by_cases c2 : A.rev < rev
  · have ef : stRange A lo hi rev lim = ([], 0, 17) := by rw [stRange, if_neg c1, if_pos c2]
    rw [ef]
    simp (disch := omega) only [go_sem, simprocAttr, c1, hp, show (rev > A.rev) = True by simp; omega]
    exact ⟨.nils, rfl, (mk hs2).add ow_nil⟩
  have d2 : (rev > A.rev) = False := by simp; omega
  by_cases c3 : 0 < rev ∧ rev < A.past
  · have ef : stRange A lo hi rev lim = ([], 0, 16) := by rw [stRange, if_neg c1, if_neg c2, if_pos c3]
    rw [ef]
    simp (disch := omega) only [go_sem, simprocAttr, c1, hp, d2, show (rev > 0) = True by simp; omega, show (rev < A.past) = True by simp; omega]
    exact ⟨.nils, rfl, (mk hs2).add ow_nil⟩
  obtain ⟨r, hr, hrp⟩ : ∃ r, r = (if rev = 0 then A.rev else rev) ∧ A.past ≤ r := ⟨_, rfl, by have := ok.rev; split <;> omega⟩
  have ef : stRange A lo hi rev lim = ((rngL (A.at r) lo hi lim).1, (rngL (A.at r) lo hi lim).2, 0) := by rw [stRange, if_neg c1, if_neg c2, if_neg c3, hr]
  rw [ef]
  refine cnd_join (Q := fun e h => sat h (StP s A o :: F) ∧ (e 0 = .ptr s 7 0 0 ∧ e 1 = .str lo ∧ e 2 = .str hi ∧ e 3 = .int .i64 r ∧ e 4 = .int .i64 lim)) ?_ ?_
  · by_cases r0 : rev = 0
    · subst r0
      rw [if_pos rfl] at hr
      subst hr
      simp (disch := omega) only [go_sem, simprocAttr, c1, hp, d2]
      exact mk hs2
    · rw [if_neg r0] at hr
      subst hr
      have e0 : (r == 0) = false := by simpa using r0
      simp (disch := omega) only [go_sem, simprocAttr, c1, hp, d2, show (r > 0) = True by simp; omega, show (r < A.past) = False by simp; omega, e0]
      exact mk hs2
  clear hs hs2 hp
  rintro e h ⟨hs, he⟩
  simp (disch := omega) only [go_sem, simprocAttr, he]
  refine call_use (mvKeysR (lo := lo) (hi := hi) hs hz) ?_
  rintro v h ⟨ks, hk, hv, hs⟩
  subst hv
  have hsel := stkeys_at ok hk hrp
  have hkl := hk.2.1
  have lenK : lenL (strsV ks) = some (.int .i64 ks.length) := by simp [strsV, lenL]
  simp (disch := omega) only [go_sem, simprocAttr, lenK]
  generalize hpf : (fun k => vAt (A.vers k) r) = pf at hsel
  have hpf2 : ∀ k, vAt (A.vers k) r = pf k := fun k => by rw [← hpf]
  refine run_up (N := ks.length) (fun i e h => sat h (Ow 6 (e 13) ((cutL lim ((ks.take i).filterMap pf)).map kvC) :: StP s A o :: F) ∧ (e 0 = .ptr s 7 0 0 ∧ e 3 = .int .i64 r ∧ e 4 = .int .i64 lim ∧ e 14 = .int .i64 ((ks.take i).filterMap pf).length ∧ e 50 = strsV ks ∧ e 51 = .int .i64 ks.length ∧ e 52 = .int .i64 i)) ⟨?_, ?_⟩ ?_
  · have : (cutL lim (([] : List Key).filterMap pf)).map kvC = [] := by simp [cutL]
    rw [List.take_zero, this]
    exact hs.add ow_nil
  · simp [Env.upd_apply, he]
  clear hs he
  rintro i e h hi ⟨hs, he⟩
  have m1 : (i : Int) + 1 = ((i + 1 : Nat) : Int) := by omega
  simp (disch := omega) only [go_sem, simprocAttr, he, m1]
  refine cnd_dec (fun h1 => ?_) (fun h1 => ?_)
  · have hi : i < ks.length := by omega
    have hik : iaA 1 (strsV ks) (.int .i64 (i : Int)) = some (.ro [.str ks[i]]) := ia_lst (f := fun k => [AV.str k]) hi fun _ => rfl
    have hfl : ((ks.take i).filterMap pf).length ≤ 100000001 := by
      have := List.length_filterMap_le pf (ks.take i)
      rw [List.length_take] at this
      omega
    have hst : (ks.take (i + 1)).filterMap pf = (ks.take i).filterMap pf ++ (pf ks[i]).toList := by
      rw [List.take_succ_eq_append_getElem hi, List.filterMap_append]
      cases h : pf ks[i] <;> simp [h]
    simp (disch := omega) only [go_sem, simprocAttr, he, hik]
    refine call_use (mvAt (key := ks[i]) (rev := r) hs.p1 hz2) ?_
    rintro r h ⟨hr, hs⟩
    subst hr
    simp (disch := omega) only [go_sem, simprocAttr, hpf2]
    refine new_opq hs fun a h hs => ?_
    have ha := hs.at
    cases hpk : pf ks[i] with
    | none =>
      rw [hpk, Option.toList_none, List.append_nil] at hst
      have hs := hs.set (o' := .row 6 [kvC kv0] 1)
      simp only [kvC, kv0] at hs
      simp (disch := omega) only [go_sem, simprocAttr, ha, hpk, Option.getD_none, Option.isSome_none, kvC, kv0, he, m1]
      rw [hst]
      exact ⟨by omega, hs.drop.p1, rfl⟩
    | some kv =>
      rw [hpk, Option.toList_some] at hst
      have hs2 := hs.set (o' := .row 6 [kvC kv] 1)
      have ha2 := hs2.at
      simp only [kvC] at hs2 ha2
      simp (disch := omega) only [go_sem, simprocAttr, ha, hpk, Option.getD_some, Option.isSome_some, kvC, he]
      generalize Hp.set h a _ = h3 at hs2 ha2 ⊢
      have hol := hs2.p2.els.len
      have hcl : (cutL lim ((ks.take i).filterMap pf)).length ≤ 100000001 := Nat.le_trans cutL_len hfl
      have hsn := cutL_snoc (lim := lim) (l := (ks.take i).filterMap pf) (x := kv)
      have hlen14 : ((((ks.take i).filterMap pf).length : Nat) : Int) + 1 = (((ks.take i).filterMap pf ++ [kv]).length : Int) := by simp
      rw [List.length_map] at hol
      by_cases l1 : lim < 1
      · rw [if_pos (.inl l1)] at hsn
        simp (disch := omega) only [go_sem, simprocAttr, l1, he, ha2]
        refine new_opq hs2 fun b h hs => ?_
        simp (disch := omega) only [go_sem, simprocAttr]
        refine app_sat hs.p3 (src_one hs.at) (atoms_one (by simp [AV.isAtom])) (by simp; omega) fun v' h hs ca aa => ?_
        simp (disch := omega) only [go_sem, simprocAttr, he, m1]
        rw [hst, hsn]
        refine ⟨by omega, ?_, ?_⟩
        · have := hs.p1.drop.p1.drop.p1.p1
          simpa [kvC] using this
        · rw [hlen14]
      · by_cases l2 : ((cutL lim ((ks.take i).filterMap pf)).length : Int) < lim
        · rw [if_pos (.inr l2)] at hsn
          simp (disch := omega) only [go_sem, simprocAttr, l1, l2, hol, he, ha2]
          refine new_opq hs2 fun b h hs => ?_
          simp (disch := omega) only [go_sem, simprocAttr]
          refine app_sat hs.p3 (src_one hs.at) (atoms_one (by simp [AV.isAtom])) (by simp; omega) fun v' h hs ca aa => ?_
          simp (disch := omega) only [go_sem, simprocAttr, he, m1]
          rw [hst, hsn]
          refine ⟨by omega, ?_, ?_⟩
          · have := hs.p1.drop.p1.drop.p1.p1
            simpa [kvC] using this
          · rw [hlen14]
        · rw [if_neg (by intro hh; rcases hh with hh | hh; exact l1 hh; exact l2 hh)] at hsn
          simp (disch := omega) only [go_sem, simprocAttr, l1, l2, hol, he, m1]
          rw [hst, hsn]
          exact ⟨by omega, hs2.drop.p1, by rw [hlen14]⟩
  · have hi : i = ks.length := by omega
    subst hi
    simp (disch := omega) only [go_sem, simprocAttr, he]
    rw [List.take_length, hsel] at hs
    refine ⟨_, ?_, hs⟩
    rw [List.take_length, hsel]
    rfl
theorem mvRange {lo hi : Key} {rev lim : Int} (hs : sat h (StP s A o :: F)) (hz : A.old.length + A.chs.length ≤ 100000000) : Triple Tryz.prog 21 [.ptr s 7 0 0, .str lo, .str hi, .int .i64 rev, .int .i64 lim] h
    (fun r h => r = .tup [kvsV (stRange A lo hi rev lim).1, .int .i64 (stRange A lo hi rev lim).2.1, .int .i64 (stRange A lo hi rev lim).2.2] ∧ sat h (StP s A o :: F)) :=
  Triple.lst1 6 ((mvRangeO hs hz).mono fun r h ⟨v, hr, hs⟩ => ⟨v, _, _, _, hr, hs, fun h hs => ⟨rfl, hs⟩⟩)
end
end Go.Proofs.YtkclojjeepomfaaGreat
/- The store: the changes from a revision on. -/
set_option linter.unusedSimpArgs false
set_option linter.unusedVariables false
set_option maxRecDepth 10000
namespace Go.Proofs.YtkclojjeepomfaaGreat
open Go.Hz

/-- A change, as it is told. -/
def evC (v : Ver) : List AV := .int .i64 v.rev :: .bool v.c.kv.isNone :: kvC (v.c.kv.getD ⟨v.c.key, [], 0, v.rev, 0, 0⟩)
abbrev evsV (l : List Ver) : AV := .lst (l.map evC)
def stSince (A : Sto) (r : Int) : List Ver × Int := if r < 1 then ([], 1) else if r ≤ A.past then ([], 16) else (A.chs.filter fun v => decide (r ≤ v.rev), 0)
theorem drop_filter {α : Type} {p : α → Bool} {l : List α} {k : Nat} (h1 : ∀ i (hi : i < l.length), i < k → p l[i] = false) (h2 : ∀ i (hi : i < l.length), k ≤ i → p l[i] = true) : l.filter p = l.drop k := by
  have e : l.filter p = (l.take k).filter p ++ (l.drop k).filter p := by rw [← List.filter_append, List.take_append_drop]
  rw [e, List.filter_eq_nil_iff.2, List.nil_append, List.filter_eq_self.2]
  · intro x hx
    obtain ⟨i, hi, rfl⟩ := List.getElem_of_mem hx
    rw [List.length_drop] at hi
    rw [List.getElem_drop]
    exact h2 _ (by omega) (by omega)
  · intro x hx
    obtain ⟨i, hi, rfl⟩ := List.getElem_of_mem hx
    rw [List.length_take] at hi
    rw [List.getElem_take, h1 i (by omega) (by omega)]; simp
section
variable {h : Hp} {F : List Asr} {s : Nat} {A : Sto} {o : AV}
theorem mvEvent {v : Ver} (hs : sat h F) : Triple Tryz.prog 49 [.agg (verC tp td v)] h (fun r h => r = .agg (evC v) ∧ sat h F) := by
  have cc := chV_cells (tp := tp) (td := td) v.c
  have ca := chV_atom (tp := tp) (td := td) v.c
  refine t49 (Nat.le_of_ble_eq_true rfl) ?_
  simp (disch := omega) only [F49, verC, ca, go_sem, simprocAttr]
  refine new_opq hs fun a h hs => ?_
  simp (disch := omega) only [go_sem, simprocAttr]
  refine new_opq hs fun b h hs => ?_
  have ha := hs.p1.at
  obtain ⟨rv, c⟩ := v
  cases c with
  | put kv =>
    simp (disch := omega) only [go_sem, simprocAttr, ha, taA, chV, tp, td, kvC]
    refine new_opq hs fun y h hs => ?_
    have hy := hs.at
    have hs5 := hs.set (o' := .row 6 [kvC kv] 1)
    have hy5 := hs5.at
    have hb5 := hs5.p1.at
    have ha5 := hs5.p2.at
    simp only [kvC, kv0, chV] at hy5 hb5 ha5 hs5
    simp (disch := omega) only [go_sem, simprocAttr, hy, hy5, hb5, ha5, kvC]
    have hs6 := hs5.p1.set (o' := .row 8 [evC ⟨rv, .put kv⟩] 1)
    refine ⟨by simp [evC, Ch.kv, kvC], hs6.drop.drop.drop⟩
  | del k =>
    simp (disch := omega) only [go_sem, simprocAttr, ha, taA, chV, tp, td, kvC]
    refine new_opq hs fun y h hs => ?_
    have hy := hs.at
    have hs5 := hs.set (o' := .row 6 [kvC kv0] 1)
    have ha5 := hs5.p2.at
    simp only [kvC, kv0, chV] at ha5 hs5
    simp (disch := omega) only [go_sem, simprocAttr, hy, ha5, kvC]
    generalize Hp.set h y _ = h3 at hs5 ha5 ⊢
    refine inv_key hs5 (.del k) fun h hs => ?_
    have ha := hs.p2.at
    have hb := hs.p1.at
    simp (disch := omega) only [go_sem, simprocAttr, ha, hb]
    refine ⟨by simp [evC, Ch.kv, Ch.key, kvC], ?_⟩
    exact hs.p1.set.drop.drop.drop
theorem since1 {b c cap ix vm q : Nat} {vs : List Ver} {rev r p n : Int} (hs : sat h (pto b (.row 1 [[.ptr s 7 0 0]] 1) :: pto c (.row 1 [[.int .i64 rev]] 1) :: pto s (.row 7 [[.int .i64 r, .int .i64 p, .int .i64 n, .ptr ix 2 0 0, .map vm, .arr q 2 0 vs.length cap, o]] 1) :: pto q (.row 2 (vs.map (verC tp td)) cap) :: F)) {i : Nat} (hi : i < vs.length) :
    Triple Tryz.prog 48 [.int .i64 i, .ptr b 1 0 0, .ptr c 1 0 0] h (fun r' h => r' = .bool (decide (rev ≤ vs[i].rev)) ∧ sat h (pto b (.row 1 [[.ptr s 7 0 0]] 1) :: pto c (.row 1 [[.int .i64 rev]] 1) :: pto s (.row 7 [[.int .i64 r, .int .i64 p, .int .i64 n, .ptr ix 2 0 0, .map vm, .arr q 2 0 vs.length cap, o]] 1) :: pto q (.row 2 (vs.map (verC tp td)) cap) :: F)) := by
  have hb := hs.at
  have hc := hs.p1.at
  have hq := hs.p3.at
  have hp := hs.p2.at
  have hrow : (vs.map (verC tp td))[i]? = some (verC tp td vs[i]) := by simp [hi]
  refine t48 (Nat.le_of_ble_eq_true rfl) ?_
  simp (disch := omega) only [F48, hb, hc, hq, hp, hrow, verC, Int.toNat_natCast, go_sem, simprocAttr]
  exact hs
theorem mvSinceO {rev : Int} (hs : sat h (StP s A o :: F)) (hz : A.chs.length ≤ 100000000) : Triple Tryz.prog 23 [.ptr s 7 0 0, .int .i64 rev] h
    (fun r h => ∃ v, r = .tup [v, .int .i64 (stSince A rev).2] ∧ sat h (Ow 8 v ((stSince A rev).1.map evC) :: StP s A o :: F)) := by
  obtain ⟨ix, vm, cv, L, X, hok, hs2⟩ := mvP.1 hs
  have mk : ∀ {h : Hp}, sat h (MvL tp td s ix vm cv o A L X ++ F) → sat h (StP s A o :: F) := fun hs => mvP.2 ⟨ix, vm, cv, L, X, hok, hs⟩
  refine t23 (Nat.le_of_ble_eq_true rfl) ?_
  simp (disch := omega) only [F23, go_sem, simprocAttr]
  refine new_opq hs2 fun b h hs => ?_
  simp (disch := omega) only [go_sem, simprocAttr]
  refine new_opq hs fun c h hs => ?_
  have hb := hs.p1.at
  have hc := hs.at
  have hp := hs.p2.at
  by_cases c1 : rev < 1
  · have ef : stSince A rev = ([], 1) := by rw [stSince, if_pos c1]
    rw [ef]
    simp (disch := omega) only [go_sem, simprocAttr, hb, hc, c1]
    exact ⟨.nils, rfl, (mk hs.drop.drop).add ow_nil⟩
  by_cases c2 : rev ≤ A.past
  · have ef : stSince A rev = ([], 16) := by rw [stSince, if_neg c1, if_pos c2]
    rw [ef]
    simp (disch := omega) only [go_sem, simprocAttr, hb, hc, hp, c1, c2]
    exact ⟨.nils, rfl, (mk hs.drop.drop).add ow_nil⟩
  have ef : stSince A rev = (A.chs.filter fun v => decide (rev ≤ v.rev), 0) := by rw [stSince, if_neg c1, if_neg c2]
  rw [ef]
  have hlv := hs.p4.els.len
  rw [List.length_map] at hlv
  simp (disch := omega) only [go_sem, simprocAttr, hb, hc, hp, c1, c2, hlv]
  rcases hs.p4.cases with ⟨hv, hn0, hs3⟩ | ⟨q, cap, hv, hs3, hle⟩
  · have hn1 : A.chs = [] := List.map_eq_nil_iff.1 hn0
    subst hv
    rw [hn1, List.length_nil]
    refine call_use (search (N := 0) (f := 48) (caps := [.ptr b 1 0 0, .ptr c 1 0 0]) (pr := fun i => true) hs (by omega) rfl (fun _ _ _ _ _ => rfl) (fun i h hi => absurd hi (by omega))) ?_
    rintro r h ⟨k, hr, hk, _, _, hs⟩
    subst hr
    have : k = 0 := by omega
    subst this
    have hb := hs.p1.at
    have hp := hs.p2.at
    have hsl : slcL 2 .nils (some (.int .i64 0)) none = some .nils := rfl
    simp (disch := omega) only [go_sem, simprocAttr, hb, hp, hsl]
    refine run_up (N := 0) (fun i e h => sat h (StP s A o :: F) ∧ (e 7 = .nils ∧ e 34 = .int .i64 i ∧ e 33 = .int .i64 0)) ⟨mk hs.drop.drop, by simp [Env.upd_apply]⟩ ?_
    clear hs hb hp hc hlv
    rintro i e h hi ⟨hs, he⟩
    have : i = 0 := by omega
    subst this
    simp (disch := omega) only [go_sem, simprocAttr, he]
    exact ⟨.nils, rfl, hs.add ow_nil⟩
  · subst hv
    have hll : (A.chs.map (verC tp td)).length = A.chs.length := by simp
    simp only [hll] at hs3 hle
    have hs4 : sat h (pto b (.row 1 [[.ptr s 7 0 0]] 1) :: pto c (.row 1 [[.int .i64 rev]] 1) :: pto s (.row 7 [[.int .i64 A.rev, .int .i64 A.past, .int .i64 A.now.length, .ptr ix 2 0 0, .map vm, .arr q 2 0 A.chs.length cap, o]] 1) :: pto q (.row 2 (A.chs.map (verC tp td)) cap) :: IxP ix L :: MpA (fun k : Key => AV.str k) Vn.key Vn.v vm X :: (X.map (VnP tp td) ++ F)) := hs3.p5.p5.p2.p5.p4.p5
    simp only [hll] at hlv mk
    refine call_use (search (N := A.chs.length) (f := 48) (caps := [.ptr b 1 0 0, .ptr c 1 0 0]) (pr := fun i => match A.chs[i]? with | some w => decide (rev ≤ w.rev) | none => true) hs4 (by omega) rfl ?_ ?_) ?_
    · intro i j hij hj hi
      rw [List.getElem?_eq_getElem (by omega)] at hi ⊢
      have h3 : rev ≤ A.chs[i].rev := by simpa using hi
      have : A.chs[i].rev ≤ A.chs[j].rev := by
        rcases Nat.lt_or_eq_of_le hij with h | h
        · exact (List.pairwise_iff_getElem.1 hok.1.chs i j (by omega) hj h).1
        · subst h; exact Int.le_refl _
      simp; omega
    · intro i h hi hs
      refine (since1 hs hi).mono fun r h ⟨h1, h2⟩ => ⟨?_, h2⟩
      rw [h1, List.getElem?_eq_getElem hi]
    rintro r h ⟨k, hr, hk, hk1, hk2, hs⟩
    subst hr
    have hflt : (A.chs.filter fun v => decide (rev ≤ v.rev)) = A.chs.drop k := drop_filter (fun i hi hik => by
      have := hk1 i hik
      rw [List.getElem?_eq_getElem hi] at this
      exact this) (fun i hi hik => by
      have := hk2 i hik hi
      rw [List.getElem?_eq_getElem hi] at this
      exact this)
    rw [hflt]
    have hb := hs.at
    have hp := hs.p2.at
    have hsl : slcL 2 (.arr q 2 0 A.chs.length cap) (some (.int .i64 (k : Int))) none = some (.arr q 2 k (A.chs.length - k) (cap - k)) := by
      rw [slcL_lo (by omega) (by omega) hle]; simp
    simp (disch := omega) only [go_sem, simprocAttr, hb, hp, hsl]
    have mk2 : ∀ {h : Hp}, sat h (pto s (.row 7 [[.int .i64 A.rev, .int .i64 A.past, .int .i64 A.now.length, .ptr ix 2 0 0, .map vm, .arr q 2 0 A.chs.length cap, o]] 1) :: pto q (.row 2 (A.chs.map (verC tp td)) cap) :: IxP ix L :: MpA (fun k : Key => AV.str k) Vn.key Vn.v vm X :: (X.map (VnP tp td) ++ F)) → sat h (StP s A o :: F) := by
      intro h hs
      have := hs.p1.ow (by simpa using hle)
      rw [hll] at this
      exact mk this.p3.p1.p3.p3
    refine run_up (N := A.chs.length - k) (fun i e h => sat h (Ow 8 (e 7) (((A.chs.drop k).take i).map evC) :: pto s (.row 7 [[.int .i64 A.rev, .int .i64 A.past, .int .i64 A.now.length, .ptr ix 2 0 0, .map vm, .arr q 2 0 A.chs.length cap, o]] 1) :: pto q (.row 2 (A.chs.map (verC tp td)) cap) :: IxP ix L :: MpA (fun k : Key => AV.str k) Vn.key Vn.v vm X :: (X.map (VnP tp td) ++ F)) ∧
      (e 32 = .arr q 2 k (A.chs.length - k) (cap - k) ∧ e 33 = .int .i64 (A.chs.length - k : Nat) ∧ e 34 = .int .i64 i)) ⟨?_, ?_⟩ ?_
    · rw [List.take_zero]
      exact (hs.drop.drop).add ow_nil
    · simp [Env.upd_apply]
    clear hs hs3 hs4 hb hp hc hlv
    rintro i e h hi ⟨hs, he⟩
    have m1 : (i : Int) + 1 = ((i + 1 : Nat) : Int) := by omega
    simp (disch := omega) only [go_sem, simprocAttr, he, m1]
    refine cnd_dec (fun h1 => ?_) (fun h1 => ?_)
    · have hi' : k + i < A.chs.length := by omega
      have hq := hs.p2.at
      have hrow : (A.chs.map (verC tp td))[k + i]? = some (verC tp td A.chs[k + i]) := by simp [hi']
      have ca := chV_atom (tp := tp) (td := td) A.chs[k + i].c
      have cc := chV_cells (tp := tp) (td := td) A.chs[k + i].c
      have hst : (A.chs.drop k).take (i + 1) = (A.chs.drop k).take i ++ [A.chs[k + i]] := by
        rw [List.take_succ_eq_append_getElem (by rw [List.length_drop]; omega), List.getElem_drop]
      rw [hst]
      generalize A.chs[k + i] = v at *
      simp (disch := omega) only [go_sem, simprocAttr, he, hq, hrow, Int.toNat_natCast, verC]
      refine new_opq hs fun y h hs => ?_
      have hy := hs.at
      have hs2 := hs.set (o' := .row 2 [verC tp td v] 1)
      have hy2 := hs2.at
      simp only [verC] at hy2 hs2
      simp (disch := omega) only [go_sem, simprocAttr, hy, ca, cc, hy2, he]
      generalize Hp.set h y _ = h3 at hs2 hy2 ⊢
      refine call_use (mvEvent (v := v) hs2) ?_
      rintro r h ⟨hr, hs⟩
      subst hr
      simp (disch := omega) only [go_sem, simprocAttr, evC, kvC]
      refine new_opq hs fun z h hs => ?_
      simp (disch := omega) only [go_sem, simprocAttr]
      refine app_sat hs.p2 (src_one hs.at) (atoms_one (by simp [AV.isAtom])) (by simp; omega) fun v' h hs ca' aa => ?_
      simp (disch := omega) only [go_sem, simprocAttr, he, m1]
      refine ⟨by omega, ?_⟩
      have := hs.p1.drop.p1.drop.p4.p4.p4.p4.p4
      simpa [evC, kvC] using this
    · have hi' : i = A.chs.length - k := by omega
      subst hi'
      rw [List.take_of_length_le (by rw [List.length_drop]; omega)] at hs
      simp (disch := omega) only [go_sem, simprocAttr, he]
      rw [← show (stSince A rev).1 = A.chs.drop k by rw [ef]; exact hflt] at hs
      exact ⟨_, rfl, by rw [ef] at hs; rw [← hflt]; exact hs.tl fun _ h => mk2 h⟩
theorem mvSince {rev : Int} (hs : sat h (StP s A o :: F)) (hz : A.chs.length ≤ 100000000) : Triple Tryz.prog 23 [.ptr s 7 0 0, .int .i64 rev] h
    (fun r h => r = .tup [evsV (stSince A rev).1, .int .i64 (stSince A rev).2] ∧ sat h (StP s A o :: F)) :=
  Triple.lst1 8 ((mvSinceO hs hz).mono fun r h ⟨v, hr, hs⟩ => ⟨v, _, _, _, hr, hs, fun h hs => ⟨rfl, hs⟩⟩)
end
end Go.Proofs.YtkclojjeepomfaaGreat
/- The document's store: a key's place, a change done, the keys at a revision. -/
set_option linter.unusedSimpArgs false
set_option linter.unusedVariables false
set_option maxRecDepth 10000
namespace Go.Proofs.YtkclojjeepomfaaGreat
open Go.Hz

section
variable {h : Hp} {F : List Asr}

theorem rgFind {l : List Kv} {key : Key} {k : Nat} (hs : sat h F) (hl : l.length ≤ 1000000000) (hk : k ≤ l.length) (h1 : ∀ i (hi : i < l.length), i < k → ltK l[i].key key = true) (h2 : ∀ i (hi : i < l.length), k ≤ i → ltK l[i].key key = false) :
    Triple Tryz.prog 69 [kvsV l, .str key] h (fun r h => r = .int .i64 k ∧ sat h F) := by
  have len2 : lenL (kvsV l) = some (.int .i64 l.length) := by simp [lenL]
  refine t69 (Nat.le_of_ble_eq_true rfl) ?_
  simp (disch := omega) only [F69, len2, go_sem, simprocAttr]
  refine run_loopN (fun n e h => ∃ i j : Nat, n = j - i ∧ i ≤ k ∧ k ≤ j ∧ j ≤ l.length ∧ sat h F ∧ (e 0 = kvsV l ∧ e 1 = .str key ∧ e 5 = .int .i64 i ∧ e 6 = .int .i64 j)) l.length ⟨0, l.length, rfl, Nat.zero_le _, hk, Nat.le_refl _, hs, rfl, rfl, rfl, rfl⟩ ?_
  clear hs
  rintro n e h ⟨i, j, rfl, hik, hkj, hjl, hs, he⟩
  simp (disch := omega) only [go_sem, simprocAttr, he]
  refine cnd_dec (fun hlt => ?_) (fun hge => ?_)
  · have hlt : i < j := by omega
    have em : ((i : Int) + j).tdiv 2 = (((i + j) / 2 : Nat) : Int) := by rw [Int.tdiv_eq_ediv_of_nonneg (by omega)]; omega
    obtain ⟨m, hm, hm1, hm2⟩ : ∃ m, m = (i + j) / 2 ∧ i ≤ m ∧ m < j := ⟨_, rfl, by omega, by omega⟩
    rw [← hm] at em
    have hia : iaA 6 (kvsV l) (.int .i64 (m : Int)) = some (.ro (kvC (l[m]'(by omega)))) := ia_lst (f := kvC) (by omega) fun _ => rfl
    by_cases hmk : m < k
    · have hb : Op.bytesLess (l[m]'(by omega)).key key = true := h1 m (by omega) hmk
      have m1 : (m : Int) + 1 = ((m + 1 : Nat) : Int) := by omega
      simp (disch := omega) only [go_sem, simprocAttr, he, em, hia, kvC, hb, m1]
      exact ⟨j - (m + 1), by omega, m + 1, j, rfl, by omega, hkj, hjl, hs, rfl, rfl⟩
    · have hb : Op.bytesLess (l[m]'(by omega)).key key = false := h2 m (by omega) (by omega)
      simp (disch := omega) only [go_sem, simprocAttr, he, em, hia, kvC, hb]
      exact ⟨m - i, by omega, i, m, rfl, hik, by omega, by omega, hs, rfl, rfl⟩
  · simp (disch := omega) only [go_sem, simprocAttr, he]
    exact ⟨by rw [show i = k by omega], hs⟩
theorem evC_key {v : Ver} : (v.c.kv.getD ⟨v.c.key, [], 0, v.rev, 0, 0⟩).key = v.c.key := by
  cases v.c <;> rfl
theorem rgDoneO {l : List Kv} {v : Ver} (hs : sat h F) (hS : SrtK l) (hl : l.length ≤ 1000000) : Triple Tryz.prog 70 [kvsV l, .agg (evC v)] h (fun r h => sat h (Ow 6 r ((done l v.c).map kvC) :: F)) := by
  obtain ⟨k, there, hk, h1, h2, h3, _, h4⟩ := done_cut hS v.c
  have len2 : lenL (kvsV l) = some (.int .i64 l.length) := by simp [lenL]
  have ek := evC_key (v := v)
  have em : (v.c.kv.isNone = true ∧ v.c.kv = none) ∨ (v.c.kv.isNone = false ∧ v.c.kv = some (v.c.kv.getD ⟨v.c.key, [], 0, v.rev, 0, 0⟩)) := by
    cases v.c <;> simp [Ch.kv]
  unfold evC
  generalize v.c.kv.getD ⟨v.c.key, [], 0, v.rev, 0, 0⟩ = x at ek em
  refine t70 (Nat.le_of_ble_eq_true rfl) ?_
  simp (disch := omega) only [F70, kvC, go_sem, simprocAttr]
  refine new_opq hs fun a h hs => ?_
  have ha := hs.at
  rw [ek] at ha hs
  simp (disch := omega) only [go_sem, simprocAttr, ha]
  refine call_use (rgFind hs (by omega) hk h1 h2) ?_
  rintro r h ⟨hr, hs⟩
  subst hr
  have ha := hs.at
  have hkl : (k < l.length ∧ ∃ y, iaA 6 (kvsV l) (.int .i64 (k : Int)) = some (.ro (kvC y)) ∧ (y.key == v.c.key) = there) ∨ (¬ k < l.length ∧ there = false) := by
    by_cases hlt : k < l.length
    · refine .inl ⟨hlt, l[k], ia_lst (f := kvC) hlt fun _ => rfl, ?_⟩
      cases there with
      | true => obtain ⟨_, h6⟩ := h3.1 rfl; simpa using h6
      | false =>
        rw [beq_eq_false_iff_ne]
        exact fun e => by have := h3.2 ⟨hlt, e⟩; cases this
    · refine .inr ⟨hlt, ?_⟩
      cases there with
      | true => obtain ⟨h5, _⟩ := h3.1 rfl; exact absurd h5 hlt
      | false => rfl
  have s1 : slcL 6 (kvsV l) none (some (.int .i64 (k : Int))) = some (kvsV (l.take k)) := by
    have := slc_lstHi (es := l.map kvC) (s := 6) (n := k) (k := .i64) (by simpa using hk) (kvC_len l)
    rw [← List.map_take] at this; exact this
  have s2 : ∀ j : Nat, j ≤ l.length → slcL 6 (kvsV l) (some (.int .i64 (j : Int))) none = some (kvsV (l.drop j)) := by
    intro j hj
    have := slc_lstLo (es := l.map kvC) (s := 6) (n := j) (k := .i64) (by simpa using hj) (kvC_len l)
    rw [← List.map_drop] at this; exact this
  have s3 := s2 k hk
  have m1 : (k : Int) + 1 = ((k + 1 : Nat) : Int) := by omega
  simp (disch := omega) only [go_sem, simprocAttr, len2]
  refine cnd_join1 (Q := fun e h => sat h (pto a (.row 8 [[.int .i64 v.rev, .bool v.c.kv.isNone, .str v.c.key, .str x.val, .int .i64 x.create, .int .i64 x.mod, .int .i64 x.ver, .int .i64 x.lease]] 1) :: F) ∧ (e 0 = kvsV l ∧ e 3 = .ptr a 8 0 0 ∧ e 5 = .int .i64 k ∧ e 6 = .bool there)) ?_ ?_
  · rcases hkl with ⟨hlt, y, hy, hyt⟩ | ⟨hlt, hth⟩
    · have c1 : ((k : Int) < l.length) = True := by simp; omega
      simp (disch := omega) only [go_sem, simprocAttr, c1, hy, ha, kvC, hyt]
      exact hs
    · have c1 : ((k : Int) < l.length) = False := by simp; omega
      rw [hth]
      simp (disch := omega) only [go_sem, simprocAttr, c1]
      exact hs
  clear hs ha
  rintro e h ⟨hs, he⟩
  simp (disch := omega) only [go_sem, simprocAttr, he, s1]
  refine app_sat (hs.add ow_nil) (src_lst (kvC_len _)) (atoms_kv _) (by simp; omega) fun v1 h hs c1 a1 => ?_
  have ha := hs.p1.at
  simp (disch := omega) only [go_sem, simprocAttr, c1, a1, he, ha]
  refine cnd_join (Q := fun e h => sat h (Ow 6 (e 7) ((l.take k ++ v.c.kv.toList).map kvC) :: F) ∧ (e 0 = kvsV l ∧ e 5 = .int .i64 k ∧ e 6 = .bool there)) ?_ ?_
  · rcases em with ⟨e1, e2⟩ | ⟨e1, e2⟩
    · simp (disch := omega) only [go_sem, simprocAttr, e1, he]
      rw [e2, Option.toList_none, List.append_nil]
      exact hs.d1
    · simp (disch := omega) only [go_sem, simprocAttr, e1, he, ha]
      refine new_opq hs fun z h hs => ?_
      simp (disch := omega) only [go_sem, simprocAttr]
      refine app_sat hs.p1 (src_one hs.at) (atoms_one (by simp [AV.isAtom])) (by simp; omega) fun v2 h hs c2 a2 => ?_
      simp (disch := omega) only [go_sem, simprocAttr, c2, a2, he]
      rw [e2, Option.toList_some, List.map_append]
      have hkx : kvC x = [.str v.c.key, .str x.val, .int .i64 x.create, .int .i64 x.mod, .int .i64 x.ver, .int .i64 x.lease] := by rw [← ek]; rfl
      rw [List.map_cons, List.map_nil, hkx]
      simpa using hs.d1.d1
  clear hs he ha
  rintro e h ⟨hs, he⟩
  simp (disch := omega) only [go_sem, simprocAttr, he]
  refine cnd_join (Q := fun e h => sat h (Ow 6 (e 7) ((l.take k ++ v.c.kv.toList).map kvC) :: F) ∧ (e 0 = kvsV l ∧ e 5 = .int .i64 (if there = true then k + 1 else k : Nat))) ?_ ?_
  · cases there with
    | true =>
      simp (disch := omega) only [go_sem, simprocAttr, he, m1]
      exact hs
    | false =>
      simp (disch := omega) only [go_sem, simprocAttr, he]
      exact hs
  clear hs he
  rintro e h ⟨hs, he⟩
  have hj : (if there = true then k + 1 else k) ≤ l.length := by
    cases there with
    | true => obtain ⟨h5, _⟩ := h3.1 rfl; rw [if_pos rfl]; omega
    | false => rw [if_neg (by simp)]; exact hk
  have s4 := s2 _ hj
  generalize (if there = true then k + 1 else k) = j at he h4 hj s4
  simp (disch := omega) only [go_sem, simprocAttr, he, s4]
  refine app_sat hs (src_lst (kvC_len _)) (atoms_kv _) (by simp; cases v.c.kv <;> simp <;> omega) fun v1 h hs c1 a1 => ?_
  simp (disch := omega) only [go_sem, simprocAttr, c1, a1, he]
  rw [h4]
  simpa using hs
theorem rgDone {l : List Kv} {v : Ver} {lv : AV} (hv : SlV lv (l.map kvC)) (hs : sat h F) (hS : SrtK l) (hl : l.length ≤ 1000000) : Triple Tryz.prog 70 [lv, .agg (evC v)] h (fun r h => r = kvsV (done l v.c) ∧ sat h F) :=
  Triple.vi (bs := [kvsV l, .agg (evC v)]) ⟨hv.vi, VI.refl _, trivial⟩ (Triple.lst 6 ((rgDoneO hs hS hl).mono fun r h hs => ⟨_, _, hs, fun h hs => ⟨rfl, hs⟩⟩))
end
end Go.Proofs.YtkclojjeepomfaaGreat
/- The store: a write that begins; what it says of a key; a change laid down; Put. -/
set_option linter.unusedSimpArgs false
set_option linter.unusedVariables false
set_option maxRecDepth 10000
namespace Go.Proofs.YtkclojjeepomfaaGreat
open Go.Hz

abbrev WtP (w s : Nat) (A : Sto) (W : Wr) : Asr := WrP tp td w s A W
section
variable {h : Hp} {F : List Asr} {s w : Nat} {A : Sto} {o : AV} {W : Wr}

theorem mvWrite (hs : sat h (StP s A o :: F)) : Triple Tryz.prog 8 [.ptr s 7 0 0] h (fun r h => ∃ w, r = .ptr w 4 0 0 ∧ sat h (WtP w s A ⟨A.now, []⟩ :: StP s A (.ptr w 4 0 0) :: F)) := by
  obtain ⟨ix, vm, cv, L, X, hok, hs2⟩ := mvP.1 hs
  refine t8 (Nat.le_of_ble_eq_true rfl) ?_
  simp (disch := omega) only [F8, go_sem, simprocAttr]
  refine new_opq hs2 fun m h hs => ?_
  have hp := hs.p1.at
  simp (disch := omega) only [go_sem, simprocAttr, hp]
  refine new_opq hs fun w h hs => ?_
  have hp := hs.p2.at
  simp (disch := omega) only [go_sem, simprocAttr, hp]
  have hs3 : sat (h.set s (.row 7 [[.int .i64 A.rev, .int .i64 A.past, .int .i64 A.now.length, .ptr ix 2 0 0, .map vm, cv, .ptr w 4 0 0]] 1)) (pto s (.row 7 [[.int .i64 A.rev, .int .i64 A.past, .int .i64 A.now.length, .ptr ix 2 0 0, .map vm, cv, .ptr w 4 0 0]] 1) :: pto w (.row 4 [[.ptr s 7 0 0, .nils, .map m, .int .i64 A.now.length]] 1) :: pto m (.mp [] 0) :: IxP ix L :: Ow 2 cv (A.chs.map (verC tp td)) :: MpA (fun k : Key => AV.str k) Vn.key Vn.v vm X :: (X.map (VnP tp td) ++ F)) := hs.p2.set
  refine ⟨w, rfl, wrP.2 ⟨.nils, m, wrOK_nil A, ?_⟩⟩
  have hs4 := hs3.p2.p2
  exact hs4.tl fun _ h => (mpA_new (h.tl fun _ h => (mvP.2 ⟨ix, vm, cv, L, X, hok, h⟩ : sat _ (StP s A (.ptr w 4 0 0) :: F)))).add ow_nil
theorem mvClosed (hs : sat h (WtP w s A W :: StP s A (.ptr w 4 0 0) :: F)) : Triple Tryz.prog 32 [.ptr w 4 0 0] h (fun r h => r = .bool false ∧ sat h (WtP w s A W :: StP s A (.ptr w 4 0 0) :: F)) := by
  obtain ⟨lv, bm, hw, hs1⟩ := wrP.1 hs
  obtain ⟨ix, vm, cv, L, X, hok, hs2⟩ := mvP.1 hs1.p3
  have hp := hs2.at
  have hq := hs1.at
  refine t32 (Nat.le_of_ble_eq_true rfl) ?_
  simp (disch := omega) only [F32, hp, hq, go_sem, simprocAttr]
  exact hs
/-- What a write says of a key. -/
theorem mvNow {key : Key} (hs : sat h (WtP w s A W :: StP s A o :: F)) (hz : A.chs.length ≤ 100000000) : Triple Tryz.prog 31 [.ptr w 4 0 0, .str key] h (fun r h =>
    r = .tup [.agg (kvC ((kvget W.cur key).getD kv0)), .bool (kvget W.cur key).isSome] ∧ sat h (WtP w s A W :: StP s A o :: F)) := by
  have ok := MvP.ok hs.p1
  obtain ⟨lv, bm, hw, hs1⟩ := wrP.1 hs
  have mk : ∀ {h : Hp}, sat h (pto w (.row 4 [[.ptr s 7 0 0, lv, .map bm, .int .i64 W.cur.length]] 1) :: Ow 1 lv (W.l.map fun c => [chV tp td c]) :: MpA (fun k : Key => AV.str k) Ch.key (chV tp td) bm W.l :: StP s A o :: F) → sat h (WtP w s A W :: StP s A o :: F) := fun hs => wrP.2 ⟨lv, bm, hw, hs⟩
  refine t31 (Nat.le_of_ble_eq_true rfl) ?_
  simp (disch := omega) only [F31, go_sem, simprocAttr]
  refine new_opq hs1 fun a h hs => ?_
  have hp := hs.p1.at
  cases hc : wChg W key with
  | true =>
    obtain ⟨c, hcm, rfl⟩ := wChg_t hc
    have hl := lk_hit keyOK_str hs.p3 hw.nd hcm (ok := true) (z := .nili)
    have hnow := now_chg ok hw hcm
    rw [hnow]
    simp (disch := omega) only [go_sem, simprocAttr, hp, hl]
    cases c with
    | put kv =>
      simp (disch := omega) only [go_sem, simprocAttr, chV, taA, tp, td, kvC]
      refine new_opq hs fun y h hs => ?_
      have hy := hs.at
      have hs5 := hs.set (o' := .row 6 [kvC kv] 1)
      have hy5 := hs5.at
      have hb5 := hs5.p1.at
      simp only [kvC, kv0] at hy5 hb5 hs5
      simp (disch := omega) only [go_sem, simprocAttr, hy, hy5, hb5, kvC]
      exact ⟨rfl, mk hs5.p1.set.drop.drop⟩
    | del dk =>
      simp (disch := omega) only [go_sem, simprocAttr, chV, taA, tp, td, kvC]
      refine new_opq hs fun y h hs => ?_
      have hy := hs.at
      have hs5 := hs.set (o' := .row 6 [kvC kv0] 1)
      have hy5 := hs5.at
      have hb5 := hs5.p1.at
      simp only [kvC, kv0] at hy5 hb5 hs5
      simp (disch := omega) only [go_sem, simprocAttr, hy, hy5, hb5, kvC]
      exact ⟨rfl, mk hs5.p1.set.drop.drop⟩
  | false =>
    have hl := lk_miss keyOK_str hs.p3 (q := key) (wChg_f hc) (ok := true) (z := .nili)
    simp (disch := omega) only [go_sem, simprocAttr, hp, hl]
    obtain ⟨ix, vm, cv, L, X, hok, hs2⟩ := mvP.1 hs.p4
    have hq := hs2.at
    simp (disch := omega) only [go_sem, simprocAttr, hp, hq]
    refine call_use (mvAt (key := key) (rev := A.rev) hs.p4 hz) ?_
    rintro r h ⟨hr, hs⟩
    subst hr
    simp (disch := omega) only [go_sem, simprocAttr]
    have hv : vAt (A.vers key) A.rev = kvget W.cur key := by rw [vAt_at ok ok.rev, at_rev ok, now_same ok hw hc]
    rw [hv]
    have ha := hs.p1.at
    simp (disch := omega) only [go_sem, simprocAttr, ha, kvC]
    exact mk hs.p1.set.drop.p3.p3.p3
/-- A change, laid down. -/
theorem mvLay {c : Ch} {lv : AV} {bm : Nat} {n : Int} (hw : WrOK A W) (hs : sat h (pto w (.row 4 [[.ptr s 7 0 0, lv, .map bm, .int .i64 n]] 1) :: Ow 1 lv (W.l.map fun c => [chV tp td c]) :: MpA (fun k : Key => AV.str k) Ch.key (chV tp td) bm W.l :: F)) (hz : W.l.length ≤ 100000000) (hc : wChg W c.key = false) (hk : c.key ≠ [] ∧ c.key.length ≤ 100) (hd : c.kv = none → kvget W.cur c.key ≠ none) (hnum : ∀ kv, c = .put kv → kv.mod = A.rev + 1 ∧ KvIn (A.rev + 1) kv) : Triple Tryz.prog 33 [.ptr w 4 0 0, chV tp td c] h (fun r h =>
    ∃ lv, WrOK A ⟨done W.cur c, W.l ++ [c]⟩ ∧ sat h (pto w (.row 4 [[.ptr s 7 0 0, lv, .map bm, .int .i64 n]] 1) :: Ow 1 lv ((W.l ++ [c]).map fun c => [chV tp td c]) :: MpA (fun k : Key => AV.str k) Ch.key (chV tp td) bm (W.l ++ [c]) :: F)) := by
  have hp := hs.at
  have ca := chV_atom (tp := tp) (td := td) c
  have cc := chV_cells (tp := tp) (td := td) c
  refine t33 (Nat.le_of_ble_eq_true rfl) ?_
  simp (disch := omega) only [F33, hp, cc, ca, go_sem, simprocAttr]
  refine new_opq hs fun a h hs => ?_
  simp (disch := omega) only [go_sem, simprocAttr]
  refine app_sat hs.p2 (src_one hs.at) (atoms_one (by simp [ca])) (by simp; omega) fun v' h hs ca' aa => ?_
  have hp := hs.p2.at
  have hs2 := hs.p2.set (o' := .row 4 [[.ptr s 7 0 0, v', .map bm, .int .i64 n]] 1)
  have hp2 := hs2.at
  simp (disch := omega) only [go_sem, simprocAttr, hp, ca', aa, hp2]
  generalize Hp.set h w _ = h3 at hs2 hp2 ⊢
  refine inv_key hs2 c fun h hs => ?_
  have hp := hs.at
  simp (disch := omega) only [go_sem, simprocAttr, hp]
  refine mup_new keyOK_str hs.p3 (y := c) (wChg_f hc) fun h hs => ?_
  simp (disch := omega) only [go_sem, simprocAttr]
  refine ⟨v', hw.lay hc hk hd hnum, ?_⟩
  simpa using hs.p3.drop.p2.p2
theorem mvPut {key val : Key} {lease : Int} (hs : sat h (WtP w s A W :: StP s A (.ptr w 4 0 0) :: F)) (hz : A.chs.length ≤ 100000000) (hzl : W.l.length ≤ 100000000) (hzc : W.cur.length ≤ 200000000) (hr : A.rev ≤ 1000000000000000) :
    Triple Tryz.prog 10 [.ptr w 4 0 0, .str key, .str val, .int .i64 lease] h (fun r h => r = .int .i64 (wPut (A.rev + 1) W key val lease).1 ∧ sat h (WtP w s A (wPut (A.rev + 1) W key val lease).2 :: StP s A (.ptr w 4 0 0) :: F)) := by
  have ok := MvP.ok hs.p1
  have hw := WrP.ok hs
  have hpast := ok.past
  have hrev := ok.rev
  obtain ⟨lv, bm, _, hs1⟩ := wrP.1 hs
  have hp := hs1.at
  obtain ⟨tw, hl⟩ : ∃ v, lkA true true .nili h (.map bm) (.str key) = some (.tup [v, .bool (wChg W key)]) := by
    cases hc : wChg W key with
    | true =>
      obtain ⟨c, hcm, rfl⟩ := wChg_t hc
      exact ⟨_, lk_hit keyOK_str hs1.p2 hw.nd hcm⟩
    | false => exact ⟨_, lk_miss keyOK_str hs1.p2 (wChg_f hc)⟩
  refine t10 (Nat.le_of_ble_eq_true rfl) ?_
  simp (disch := omega) only [F10, hp, hl, go_sem, simprocAttr]
  refine call_use (mvNow (key := key) hs hz) ?_
  rintro r h ⟨hr, hs⟩
  subst hr
  simp (disch := omega) only [go_sem, simprocAttr]
  refine new_opq hs fun a h hs => ?_
  have ha := hs.at
  generalize hkv : (kvget W.cur key).getD kv0 = kv
  have hs2 := hs.set (o' := .row 6 [kvC kv] 1)
  have ha2 := hs2.at
  simp only [kvC] at hs2 ha2
  simp (disch := omega) only [go_sem, simprocAttr, ha, kvC]
  generalize Hp.set h a _ = h2 at hs2 ha2 ⊢
  by_cases k0 : key = []
  · subst k0
    have ef : wPut (A.rev + 1) W [] val lease = (1, W) := by simp [wPut]
    rw [ef]
    have e0 : (([] : List UInt8) == []) = true := rfl
    simp (disch := omega) only [go_sem, simprocAttr, e0]
    exact hs2.drop
  have e0 : (key == []) = false := by simpa using k0
  by_cases k1 : 100 < key.length
  · have ef : wPut (A.rev + 1) W key val lease = (1, W) := by simp [wPut, k1]
    rw [ef]
    simp (disch := omega) only [go_sem, simprocAttr, e0, show ((key.length : Int) > 100) = True by simp; omega]
    exact hs2.drop
  have e1 : ((key.length : Int) > 100) = False := by simp; omega
  by_cases k2 : lease < 0
  · have ef : wPut (A.rev + 1) W key val lease = (1, W) := by simp [wPut, k2]
    rw [ef]
    simp (disch := omega) only [go_sem, simprocAttr, e0, e1, k2]
    exact hs2.drop
  have hn1 : ¬ (key = [] ∨ 100 < key.length ∨ lease < 0) := by rintro (h | h | h); exact k0 h; exact k1 h; exact k2 h
  by_cases k3 : 4096 < val.length
  · have ef : wPut (A.rev + 1) W key val lease = (5, W) := by rw [wPut, if_neg hn1, if_pos k3]
    rw [ef]
    simp (disch := omega) only [go_sem, simprocAttr, e0, e1, k2, show ((val.length : Int) > 4096) = True by simp; omega]
    exact hs2.drop
  have e3 : ((val.length : Int) > 4096) = False := by simp; omega
  cases hchg : wChg W key with
  | true =>
    have ef : wPut (A.rev + 1) W key val lease = (18, W) := by rw [wPut, if_neg hn1, if_neg k3, if_pos hchg]
    rw [ef]
    simp (disch := omega) only [go_sem, simprocAttr, e0, e1, k2, e3, hchg]
    exact hs2.drop
  | false =>
  have hnc : ¬ wChg W key = true := by simp [hchg]
  obtain ⟨lv2, bm2, _, hs3⟩ := wrP.1 hs2.p1
  obtain ⟨ix, vm, cv, L, X, hok, hs4⟩ := mvP.1 hs2.p2
  have hp := hs3.at
  have hq := hs4.at
  cases hg : kvget W.cur key with
  | none =>
    rw [hg, Option.getD_none] at hkv
    subst hkv
    by_cases k4 : 4096 ≤ W.cur.length
    · have ef : wPut (A.rev + 1) W key val lease = (14, W) := by rw [wPut, if_neg hn1, if_neg k3, if_neg hnc, if_pos ⟨hg, k4⟩]
      rw [ef]
      simp (disch := omega) only [go_sem, simprocAttr, e0, e1, k2, e3, hchg, hg, Option.isSome_none, hp, show ((W.cur.length : Int) ≥ 4096) = True by simp; omega]
      exact hs2.drop
    have ef : wPut (A.rev + 1) W key val lease = (0, ⟨done W.cur (.put (wNew (A.rev + 1) W key val lease)), W.l ++ [.put (wNew (A.rev + 1) W key val lease)]⟩) := by rw [wPut, if_neg hn1, if_neg k3, if_neg hnc, if_neg (fun h => k4 h.2)]
    rw [ef]
    simp (disch := omega) only [go_sem, simprocAttr, e0, e1, k2, e3, hchg, hg, Option.isSome_none, hp, show ((W.cur.length : Int) ≥ 4096) = False by simp; omega]
    refine call_use (mvClosed hs2.p2.p2) ?_
    rintro r h ⟨hr, hs⟩
    subst hr
    simp (disch := omega) only [go_sem, simprocAttr, Option.isSome_none]
    obtain ⟨lv3, bm3, _, hs5⟩ := wrP.1 hs
    obtain ⟨ix, vm, cv, L, X, hok, hs6⟩ := mvP.1 hs5.p3
    have hp := hs5.at
    have hq := hs6.at
    have ha := hs5.p4.at
    simp (disch := omega) only [go_sem, simprocAttr, hp, hq, ha, Option.isSome_none]
    have hsA := hs5.p4.set (o' := .row 6 [[.str key, .str [], .int .i64 (A.rev + 1), .int .i64 0, .int .i64 0, .int .i64 0]] 1)
    have hwA := hsA.p1.at
    have haA := hsA.at
    generalize Hp.set h a _ = h4 at hsA hwA haA ⊢
    have hsB := hsA.p1.set (o' := .row 4 [[.ptr s 7 0 0, lv3, .map bm3, .int .i64 (W.cur.length + 1)]] 1)
    have haB := hsB.p1.at
    simp (disch := omega) only [go_sem, simprocAttr, hwA, haA, haB]
    generalize Hp.set h4 w _ = h5 at hsB haB ⊢
    have hsC := hsB.p1.set (o' := .row 6 [[.str key, .str val, .int .i64 (A.rev + 1), .int .i64 (A.rev + 1), .int .i64 1, .int .i64 lease]] 1)
    have hwn : wNew (A.rev + 1) W key val lease = ⟨key, val, A.rev + 1, A.rev + 1, 1, lease⟩ := by simp [wNew, hg]
    have hlay : Triple Tryz.prog 33 [.ptr w 4 0 0, chV tp td (.put ⟨key, val, A.rev + 1, A.rev + 1, 1, lease⟩)] _ _ := mvLay hw hsC.p4.p4.p4.p4 hzl (by rw [← hwn]; exact wNew_chg hchg) (by rw [← hwn]; exact wNew_len k0 (by omega)) (fun h => by cases h) (by rw [← hwn]; exact wNew_num ok hw hchg (by omega) (by omega))
    rw [hwn]
    refine call_use hlay ?_
    rintro r h ⟨lv4, hok', hs⟩
    simp (disch := omega) only [go_sem, simprocAttr]
    have hdl := done_len (c := .put ⟨key, val, A.rev + 1, A.rev + 1, 1, lease⟩) (hw.srt ok)
    rw [show (Ch.put ⟨key, val, A.rev + 1, A.rev + 1, 1, lease⟩).key = key from rfl, hg] at hdl
    have hdl2 : ((done W.cur (.put ⟨key, val, A.rev + 1, A.rev + 1, 1, lease⟩)).length : Int) = (W.cur.length : Int) + 1 := by rw [hdl]; simp [Ch.kv]
    refine wrP.2 ⟨lv4, bm3, hok', ?_⟩
    rw [hdl2]
    exact hs.p4.drop.p3.p3.p3.p3
  | some x =>
    rw [hg, Option.getD_some] at hkv
    subst hkv
    have ef : wPut (A.rev + 1) W key val lease = (0, ⟨done W.cur (.put (wNew (A.rev + 1) W key val lease)), W.l ++ [.put (wNew (A.rev + 1) W key val lease)]⟩) := by rw [wPut, if_neg hn1, if_neg k3, if_neg hnc, if_neg (fun h => by rw [hg] at h; cases h.1)]
    rw [ef]
    simp (disch := omega) only [go_sem, simprocAttr, e0, e1, k2, e3, hchg, hg, Option.isSome_some]
    refine call_use (mvClosed hs2.p2.p2) ?_
    rintro r h ⟨hr, hs⟩
    subst hr
    simp (disch := omega) only [go_sem, simprocAttr, Option.isSome_some]
    obtain ⟨lv3, bm3, _, hs5⟩ := wrP.1 hs
    obtain ⟨ix, vm, cv, L, X, hok, hs6⟩ := mvP.1 hs5.p3
    have hp := hs5.at
    have hq := hs6.at
    have ha := hs5.p4.at
    have hxm := cur_num ok hw x (kvget_some hg).1
    have hxk := (kvget_some hg).2
    unfold KvIn at hxm
    have hwn : wNew (A.rev + 1) W key val lease = ⟨key, val, x.create, A.rev + 1, x.ver + 1, lease⟩ := by simp [wNew, hg]
    simp (disch := omega) only [go_sem, simprocAttr, hp, hq, ha, Option.isSome_some]
    have hsC := hs5.p4.set (o' := .row 6 [[.str x.key, .str val, .int .i64 x.create, .int .i64 (A.rev + 1), .int .i64 (x.ver + 1), .int .i64 lease]] 1)
    rw [hxk] at hsC ⊢
    have hlay : Triple Tryz.prog 33 [.ptr w 4 0 0, chV tp td (.put ⟨key, val, x.create, A.rev + 1, x.ver + 1, lease⟩)] _ _ := mvLay hw hsC.p4.p4.p4.p4 hzl (by rw [← hwn]; exact wNew_chg hchg) (by rw [← hwn]; exact wNew_len k0 (by omega)) (fun h => by cases h) (by rw [← hwn]; exact wNew_num ok hw hchg (by omega) (by omega))
    rw [hwn]
    refine call_use hlay ?_
    rintro r h ⟨lv4, hok', hs⟩
    simp (disch := omega) only [go_sem, simprocAttr]
    have hdl := done_len (c := .put ⟨key, val, x.create, A.rev + 1, x.ver + 1, lease⟩) (hw.srt ok)
    rw [show (Ch.put ⟨key, val, x.create, A.rev + 1, x.ver + 1, lease⟩).key = key from rfl, hg] at hdl
    have hdl2 : (done W.cur (.put ⟨key, val, x.create, A.rev + 1, x.ver + 1, lease⟩)).length = W.cur.length := by rw [hdl]; simp [Ch.kv]
    refine wrP.2 ⟨lv4, bm3, hok', ?_⟩
    rw [hdl2]
    exact hs.p4.drop.p3.p3.p3.p3
end
end Go.Proofs.YtkclojjeepomfaaGreat
/- slices: insertion sort. -/
set_option linter.unusedSimpArgs false
set_option linter.unusedVariables false
set_option maxRecDepth 10000
namespace Go.Proofs.YtkclojjeepomfaaGreat
open Go.Hz Go.Sort

section
variable {h : Hp} {F : List Asr} {G : List AV → Prop} {lt : List AV → List AV → Bool}

theorem ins_S (hc : LessT Tryz.prog false G lt 103) (E : GoodE 1 false G) {d : Array (List AV)} {a bb b cap : Nat} (hs : sat h (pto b (.row 1 d.toList cap) :: F)) (hg : GA G d) (ha : a ≤ bb) (hb : bb ≤ d.size) (hsz : d.size ≤ 1000000000000) :
    Triple Tryz.prog 97 [.arr b 1 0 d.size cap, .int .i64 a, .int .i64 bb] h (fun r h => GA G (insertionSort lt d a bb) ∧ (insertionSort lt d a bb).size = d.size ∧ sat h (pto b (.row 1 (insertionSort lt d a bb).toList cap) :: F)) := by
  refine t97 (Nat.le_of_ble_eq_true rfl) ?_
  simp (disch := omega) only [F97, go_sem, simprocAttr]
  refine run_loopN (fun n e h => ∃ (i : Nat) (d' : Array (List AV)), n = bb + 1 - i ∧ a + 1 ≤ i ∧ i ≤ bb + 1 ∧ insOuter lt a bb i d' = insertionSort lt d a bb ∧ GA G d' ∧ d'.size = d.size ∧ sat h (pto b (.row 1 d'.toList cap) :: F) ∧
    (e 0 = .arr b 1 0 d.size cap ∧ e 1 = .int .i64 a ∧ e 2 = .int .i64 bb ∧ e 6 = .int .i64 i)) (bb + 1 - (a + 1)) ⟨a + 1, d, rfl, Nat.le_refl _, by omega, rfl, hg, rfl, hs, rfl, rfl, rfl, rfl⟩ ?_
  rintro n e h ⟨i, d', rfl, hi1, hi2, hI, hg', hz', hs, he⟩
  simp (disch := omega) only [go_sem, simprocAttr, he]
  refine cnd_dec (fun hlt => ?_) (fun hge => ?_)
  · simp (disch := omega) only [go_sem, simprocAttr, he]
    refine blk_join (Q := fun e h => ∃ d2 : Array (List AV), d2 = insInner lt a i d' ∧ GA G d2 ∧ d2.size = d.size ∧ sat h (pto b (.row 1 d2.toList cap) :: F) ∧
      (e 0 = .arr b 1 0 d.size cap ∧ e 1 = .int .i64 a ∧ e 2 = .int .i64 bb ∧ e 6 = .int .i64 i)) ?_ ?_
    · refine run_loopN (fun n e h => ∃ (j : Nat) (d2 : Array (List AV)), n = j ∧ j ≤ i ∧ insInner lt a j d2 = insInner lt a i d' ∧ GA G d2 ∧ d2.size = d.size ∧ sat h (pto b (.row 1 d2.toList cap) :: F) ∧
        (e 0 = .arr b 1 0 d.size cap ∧ e 1 = .int .i64 a ∧ e 2 = .int .i64 bb ∧ e 6 = .int .i64 i ∧ e 7 = .int .i64 j)) i ⟨i, d', rfl, Nat.le_refl _, rfl, hg', hz', hs, ?_⟩ ?_
      · simp only [Env.upd_apply, he, and_self, reduceIte, Nat.reduceEqDiff]
      · rintro j e h ⟨_, d2, rfl, hj, hJ, hg2, hz2, hs, he⟩
        simp (disch := omega) only [go_sem, simprocAttr, he]
        refine cnd_dec (fun hgt => ?_) (fun hle => ?_)
        · obtain ⟨j, rfl⟩ : ∃ k, j = k + 1 := ⟨j - 1, by omega⟩
          have hm : ((j + 1 : Nat) : Int) - 1 = (j : Int) := by omega
          have r1 := rd_o E hg2 (i := j + 1) (by omega)
          have r2 := rd_o E hg2 (i := j) (by omega)
          simp (disch := omega) only [go_sem, simprocAttr, he, hm, hs.at, r1, r2]
          refine call_use (hc _ _ _ _ (hg2 _ (by omega)) (hg2 _ (by omega)) hs) ?_
          rintro r h ⟨hr, hs⟩
          subst hr
          simp (disch := omega) only [go_sem, simprocAttr, he, hm, hgt]
          have hst : insInner lt a (j + 1) d2 = if lt d2[j + 1]! d2[j]! = true then insInner lt a j (swp d2 (j + 1) j) else d2 := by
            rw [insInner]; simp only [show (j + 1 > a) from by omega, decide_true, Bool.true_and]
          cases hq : lt d2[j + 1]! d2[j]!
          · simp (disch := omega) only [go_sem, simprocAttr, he]
            refine ⟨d2, ?_, hg2, hz2, hs⟩
            rw [← hJ, hst, hq]; rfl
          · simp (disch := omega) only [go_sem, simprocAttr, he]
            obtain ⟨k1, k2, k3, k4, k5, k6, k7, k8, k9, k10, k11, ⟨ky, y1, y2, y3, y4⟩, hw⟩ := sw_o E hg2 (i := j + 1) (j := j) (by omega) (by omega)
            simp (disch := omega) only [go_sem, simprocAttr, he, hm, hs.at, k1, k2, k3, k4, k5, k6, k7, k8, k9, k10, k11, y1, y2, y3, y4, hw]
            refine ⟨j, by omega, j, swp d2 (j + 1) j, rfl, by omega, ?_, hg2.swp (by omega) (by omega), by rw [Go.Sort.swp_size]; exact hz2, hs.set, rfl⟩
            rw [← hJ, hst, hq]; rfl
        · simp (disch := omega) only [go_sem, simprocAttr, he, hle]
          refine ⟨d2, ?_, hg2, hz2, hs⟩
          rw [← hJ]
          cases j with
          | zero => rw [insInner]
          | succ j => rw [insInner, if_neg]; simp; omega
    · rintro e h ⟨d2, hd2, hg2, hz2, hs, he⟩
      simp (disch := omega) only [go_sem, simprocAttr, he]
      refine ⟨_, ?_, i + 1, d2, rfl, by omega, by omega, ?_, hg2, hz2, hs, rfl⟩
      · omega
      · rw [← hI, insOuter.eq_1 lt a bb i, if_pos (by omega), hd2]
  · simp (disch := omega) only [go_sem, simprocAttr, he]
    rw [insOuter, if_neg (by omega)] at hI
    subst hI
    exact ⟨hg', hz', hs⟩

theorem sift_step {α : Type} [Inhabited α] {lt : α → α → Bool} {hi first root : Nat} {d : Array α} (h : 2 * root + 1 < hi) {w : Bool} (hw : w = (decide (2 * root + 1 + 1 < hi) && lt d[first + (2 * root + 1)]! d[first + (2 * root + 1) + 1]!)) {c : Nat} (hc : c = if w = true then 2 * root + 2 else 2 * root + 1) :
    siftDown lt hi first root d = if lt d[first + root]! d[first + c]! = true then siftDown lt hi first c (swp d (first + root) (first + c)) else d := by
  rw [siftDown, dif_neg (by omega)]
  cases w with
  | true =>
    simp only [if_true] at hc
    rw [← hw, if_pos rfl, ← hc, dif_pos (by have := hw; simp at this; omega)]
    cases lt d[first + root]! d[first + c]! <;> rfl
  | false =>
    simp only [Bool.false_eq_true, if_false] at hc
    rw [← hw, if_neg (by simp), ← hc]
    cases lt d[first + root]! d[first + c]! <;> rfl

theorem sift_S (hc : LessT Tryz.prog false G lt 103) (E : GoodE 1 false G) {d : Array (List AV)} {root hi first b cap : Nat} (hs : sat h (pto b (.row 1 d.toList cap) :: F)) (hg : GA G d) (hr : root ≤ hi) (hb : first + hi ≤ d.size) (hsz : d.size ≤ 1000000000000) :
    Triple Tryz.prog 112 [.arr b 1 0 d.size cap, .int .i64 root, .int .i64 hi, .int .i64 first] h (fun r h => GA G (siftDown lt hi first root d) ∧ (siftDown lt hi first root d).size = d.size ∧ sat h (pto b (.row 1 (siftDown lt hi first root d).toList cap) :: F)) := by
  refine t112 (Nat.le_of_ble_eq_true rfl) ?_
  simp (disch := omega) only [F112, go_sem, simprocAttr]
  refine run_loopN (fun n e h => ∃ (i : Nat) (d' : Array (List AV)), n = hi - i ∧ i ≤ hi ∧ siftDown lt hi first i d' = siftDown lt hi first root d ∧ GA G d' ∧ d'.size = d.size ∧ sat h (pto b (.row 1 d'.toList cap) :: F) ∧
    (e 0 = .arr b 1 0 d.size cap ∧ e 2 = .int .i64 hi ∧ e 3 = .int .i64 first ∧ e 8 = .int .i64 i)) (hi - root) ⟨root, d, rfl, hr, rfl, hg, rfl, hs, rfl, rfl, rfl, rfl⟩ ?_
  rintro n e h ⟨i, d', rfl, hi1, hI, hg', hz', hs, he⟩
  have n1 : (2 : Int) * i + 1 = ((2 * i + 1 : Nat) : Int) := by omega
  simp (disch := omega) only [go_sem, simprocAttr, he, n1]
  refine cnd_dec (fun hge => ?_) (fun hlt => ?_)
  · simp (disch := omega) only [go_sem, simprocAttr, he]
    rw [siftDown, dif_pos (by omega)] at hI
    subst hI
    exact ⟨hg', hz', hs⟩
  · have n2 : ((2 * i + 1 : Nat) : Int) + 1 = ((2 * i + 2 : Nat) : Int) := by omega
    simp (disch := omega) only [go_sem, simprocAttr, he, n1, n2]
    obtain ⟨w, hw⟩ : ∃ w, w = (decide (2 * i + 1 + 1 < hi) && lt d'[first + (2 * i + 1)]! d'[first + (2 * i + 1) + 1]!) := ⟨_, rfl⟩
    obtain ⟨c', hc'⟩ : ∃ c', c' = if w = true then 2 * i + 2 else 2 * i + 1 := ⟨_, rfl⟩
    refine cnd_join (Q := fun e' h' => ∃ (q : Bool) (v : AV), (if q = true then v else AV.bool false) = .bool w ∧ sat h' (pto b (.row 1 d'.toList cap) :: F) ∧
      (e' 21 = .bool q ∧ e' 35 = v ∧ e' 0 = .arr b 1 0 d.size cap ∧ e' 2 = .int .i64 hi ∧ e' 3 = .int .i64 first ∧ e' 8 = .int .i64 i ∧ e' 9 = .int .i64 (2 * i + 1 : Nat))) ?_ ?_
    · refine cnd_dec (fun h1 => ?_) (fun h1 => ?_)
      · have m1 : (first : Int) + ((2 * i + 1 : Nat) : Int) = ((first + (2 * i + 1) : Nat) : Int) := by omega
        have m2 : ((first + (2 * i + 1) : Nat) : Int) + 1 = ((first + (2 * i + 1) + 1 : Nat) : Int) := by omega
        have r1 := rd_o E hg' (i := first + (2 * i + 1)) (by omega)
        have r2 := rd_o E hg' (i := first + (2 * i + 1) + 1) (by omega)
        simp (disch := omega) only [go_sem, simprocAttr, he, hs.at, r1, r2, m1, m2, h1, n1]
        refine call_use (hc _ _ _ _ (hg' _ (by omega)) (hg' _ (by omega)) hs) ?_
        rintro r h ⟨hr, hs⟩
        subst hr
        simp (disch := omega) only [go_sem, simprocAttr, he, h1, n1]
        refine ⟨_, _, ?_, hs, rfl, rfl⟩
        rw [if_pos rfl, hw, decide_eq_true (show 2 * i + 1 + 1 < hi from by omega), Bool.true_and]
      · simp (disch := omega) only [go_sem, simprocAttr, he, h1, n1]
        refine ⟨_, _, ?_, hs, rfl, rfl⟩
        rw [if_neg (by simp), hw, decide_eq_false (show ¬ 2 * i + 1 + 1 < hi from by omega), Bool.false_and]
    · rintro e h ⟨q, v, hq, hs, he⟩
      simp (disch := omega) only [go_sem, simprocAttr, he, hq]
      refine cnd_join (Q := fun e' h' => sat h' (pto b (.row 1 d'.toList cap) :: F) ∧
        (e' 0 = .arr b 1 0 d.size cap ∧ e' 2 = .int .i64 hi ∧ e' 3 = .int .i64 first ∧ e' 8 = .int .i64 i ∧ e' 9 = .int .i64 c')) ?_ ?_
      · cases w with
        | true =>
          rw [if_pos rfl] at hc'
          have n2 : ((2 * i + 1 : Nat) : Int) + 1 = (c' : Int) := by omega
          have : c' < hi := by simp at hw; omega
          simp (disch := omega) only [go_sem, simprocAttr, he, n2]
          exact hs
        | false =>
          rw [if_neg (by simp)] at hc'
          subst hc'
          simp (disch := omega) only [go_sem, simprocAttr, he]
          exact hs
      · have hch : c' < hi := by
          cases w with
          | true => rw [if_pos rfl] at hc'; simp at hw; omega
          | false => rw [if_neg (by simp)] at hc'; omega
        have hci : i < c' := by
          cases w with
          | true => rw [if_pos rfl] at hc'; omega
          | false => rw [if_neg (by simp)] at hc'; omega
        have hst := sift_step (d := d') (lt := lt) (first := first) (root := i) (by omega) hw hc'
        rintro e h ⟨hs, he⟩
        have m1 : (first : Int) + (i : Int) = ((first + i : Nat) : Int) := by omega
        have m2 : (first : Int) + (c' : Int) = ((first + c' : Nat) : Int) := by omega
        have r1 := rd_o E hg' (i := first + i) (by omega)
        have r2 := rd_o E hg' (i := first + c') (by omega)
        simp (disch := omega) only [go_sem, simprocAttr, he, hs.at, r1, r2, m1, m2]
        refine call_use (hc _ _ _ _ (hg' _ (by omega)) (hg' _ (by omega)) hs) ?_
        rintro r h ⟨hr, hs⟩
        subst hr
        simp (disch := omega) only [go_sem, simprocAttr, he]
        cases hq : lt d'[first + i]! d'[first + c']!
        · simp (disch := omega) only [go_sem, simprocAttr, he]
          rw [← hI, hst, hq]
          exact ⟨hg', hz', hs⟩
        · simp (disch := omega) only [go_sem, simprocAttr, he]
          obtain ⟨k1, k2, k3, k4, k5, k6, k7, k8, k9, k10, k11, ⟨ky, y1, y2, y3, y4⟩, hw⟩ := sw_o E hg' (i := first + i) (j := first + c') (by omega) (by omega)
          simp (disch := omega) only [go_sem, simprocAttr, he, m1, m2, hs.at, k1, k2, k3, k4, k5, k6, k7, k8, k9, k10, k11, y1, y2, y3, y4, hw]
          refine ⟨hi - c', by omega, c', swp d' (first + i) (first + c'), rfl, by omega, ?_, hg'.swp (by omega) (by omega), by rw [Go.Sort.swp_size]; exact hz', hs.set, rfl⟩
          rw [← hI, hst, hq]; rfl
theorem heap_S (hc : LessT Tryz.prog false G lt 103) (E : GoodE 1 false G) {d : Array (List AV)} {a bb b cap : Nat} (hs : sat h (pto b (.row 1 d.toList cap) :: F)) (hg : GA G d) (ha : a ≤ bb) (hb : bb ≤ d.size) (hsz : d.size ≤ 1000000000000) :
    Triple Tryz.prog 98 [.arr b 1 0 d.size cap, .int .i64 a, .int .i64 bb] h (fun r h => GA G (heapSort lt d a bb) ∧ (heapSort lt d a bb).size = d.size ∧ sat h (pto b (.row 1 (heapSort lt d a bb).toList cap) :: F)) := by
  obtain ⟨hi, hhi⟩ : ∃ hi, hi = bb - a := ⟨_, rfl⟩
  have n1 : (bb : Int) - a = (hi : Int) := by omega
  have n2 : ((hi : Int) - 1).tdiv 2 = (((hi - 1) / 2 + 1 : Nat) : Int) - 1 := by
    rcases Nat.eq_zero_or_pos hi with h0 | h0
    · subst h0; decide
    · rw [Int.tdiv_eq_ediv_of_nonneg (by omega)]; omega
  refine t98 (Nat.le_of_ble_eq_true rfl) ?_
  simp (disch := omega) only [F98, n1, n2, go_sem, simprocAttr]
  refine blk_join (Q := fun e h => ∃ d2 : Array (List AV), d2 = heapBuild lt hi a ((hi - 1) / 2 + 1) d ∧ GA G d2 ∧ d2.size = d.size ∧ sat h (pto b (.row 1 d2.toList cap) :: F) ∧
    (e 0 = .arr b 1 0 d.size cap ∧ e 6 = .int .i64 a ∧ e 7 = .int .i64 0 ∧ e 8 = .int .i64 hi)) ?_ ?_
  · refine run_loopN (fun n e h => ∃ (k : Nat) (d2 : Array (List AV)), n = k ∧ k ≤ (hi - 1) / 2 + 1 ∧ heapBuild lt hi a k d2 = heapBuild lt hi a ((hi - 1) / 2 + 1) d ∧ GA G d2 ∧ d2.size = d.size ∧ sat h (pto b (.row 1 d2.toList cap) :: F) ∧
      (e 0 = .arr b 1 0 d.size cap ∧ e 6 = .int .i64 a ∧ e 7 = .int .i64 0 ∧ e 8 = .int .i64 hi ∧ e 9 = .int .i64 ((k : Int) - 1))) ((hi - 1) / 2 + 1) ⟨_, d, rfl, Nat.le_refl _, rfl, hg, rfl, hs, rfl, rfl, rfl, rfl, rfl⟩ ?_
    rintro k e h ⟨_, d2, rfl, hk, hI, hg2, hz2, hs, he⟩
    simp (disch := omega) only [go_sem, simprocAttr, he]
    refine cnd_dec (fun hge => ?_) (fun hlt => ?_)
    · obtain ⟨k, rfl⟩ : ∃ j, k = j + 1 := ⟨k - 1, by omega⟩
      have m1 : ((k + 1 : Nat) : Int) - 1 = (k : Int) := by omega
      simp (disch := omega) only [go_sem, simprocAttr, he, m1]
      refine call_use (by rw [← hz2]; exact sift_S hc E hs hg2 (by omega) (by omega) (by omega)) ?_
      rintro r h ⟨hg3, hz3, hs⟩
      simp (disch := omega) only [go_sem, simprocAttr, he, m1]
      refine ⟨k, by omega, k, _, rfl, by omega, ?_, hg3, by rw [hz3]; exact hz2, hs, rfl⟩
      rw [← hI]; rfl
    · obtain rfl : k = 0 := by omega
      simp (disch := omega) only [go_sem, simprocAttr, he]
      exact ⟨d2, hI, hg2, hz2, hs⟩
  · rintro e h ⟨d2, hd2, hg2, hz2, hs, he⟩
    simp (disch := omega) only [go_sem, simprocAttr, he]
    refine run_loopN (fun n e h => ∃ (k : Nat) (d3 : Array (List AV)), n = k ∧ k ≤ hi ∧ heapPop lt a k d3 = heapPop lt a hi d2 ∧ GA G d3 ∧ d3.size = d.size ∧ sat h (pto b (.row 1 d3.toList cap) :: F) ∧
      (e 0 = .arr b 1 0 d.size cap ∧ e 6 = .int .i64 a ∧ e 7 = .int .i64 0 ∧ e 10 = .int .i64 ((k : Int) - 1))) hi ⟨_, d2, rfl, Nat.le_refl _, rfl, hg2, hz2, hs, ?_⟩ ?_
    · simp only [Env.upd_apply, he, and_self, reduceIte, Nat.reduceEqDiff]
    · rintro k e h ⟨_, d3, rfl, hk, hI, hg3, hz3, hs, he⟩
      simp (disch := omega) only [go_sem, simprocAttr, he]
      refine cnd_dec (fun hge => ?_) (fun hlt => ?_)
      · obtain ⟨k, rfl⟩ : ∃ j, k = j + 1 := ⟨k - 1, by omega⟩
        have m1 : ((k + 1 : Nat) : Int) - 1 = (k : Int) := by omega
        have m2 : (a : Int) + k = ((a + k : Nat) : Int) := by omega
        obtain ⟨k1, k2, k3, k4, k5, k6, k7, k8, k9, k10, k11, ⟨ky, y1, y2, y3, y4⟩, hw⟩ := sw_o E hg3 (i := a) (j := a + k) (by omega) (by omega)
        simp (disch := omega) only [go_sem, simprocAttr, he, m1, m2, hs.at, k1, k2, k3, k4, k5, k6, k7, k8, k9, k10, k11, y1, y2, y3, y4, hw]
        have hs2 := hs.set (o' := .row 1 (swp d3 a (a + k)).toList cap)
        refine call_use (by rw [← hz3, ← Go.Sort.swp_size d3 a (a + k)]; exact sift_S (root := 0) hc E hs2 (hg3.swp (by omega) (by omega)) (Nat.zero_le _) (by rw [Go.Sort.swp_size]; omega) (by rw [Go.Sort.swp_size]; omega)) ?_
        rintro r h ⟨hg4, hz4, hs⟩
        simp (disch := omega) only [go_sem, simprocAttr, he, m1]
        refine ⟨k, by omega, k, _, rfl, by omega, ?_, hg4, by rw [hz4, Go.Sort.swp_size]; exact hz3, hs, rfl⟩
        rw [← hI]; rfl
      · obtain rfl : k = 0 := by omega
        simp (disch := omega) only [go_sem, simprocAttr, he]
        have : d3 = heapSort lt d a bb := by
          rw [heapSort, ← hhi, ← hd2, ← hI]; rfl
        subst this
        exact ⟨hg3, hz3, hs⟩
end
end Go.Proofs.YtkclojjeepomfaaGreat
/- slices: the pivot; reverseRange. -/
set_option linter.unusedSimpArgs false
set_option linter.unusedVariables false
set_option maxRecDepth 10000
namespace Go.Proofs.YtkclojjeepomfaaGreat
open Go.Hz Go.Sort

section
variable {h : Hp} {F : List Asr} {G : List AV → Prop} {lt : List AV → List AV → Bool}

theorem ord_S (hc : LessT Tryz.prog false G lt 103) (E : GoodE 1 false G) {d : Array (List AV)} {x y n b cap q : Nat} (hs : sat h (pto b (.row 1 d.toList cap) :: pto q (.row 1 [[.int .i64 n]] 1) :: F)) (hg : GA G d) (hx : x < d.size) (hy : y < d.size) (hn : n ≤ 1000) (hsz : d.size ≤ 1000000000000) :
    Triple Tryz.prog 124 [.arr b 1 0 d.size cap, .int .i64 x, .int .i64 y, .ptr q 1 0 0] h (fun r h => ∃ u v m : Nat, r = .tup [.int .i64 u, .int .i64 v] ∧ (u = x ∧ v = y ∨ u = y ∧ v = x) ∧ m ≤ n + 1 ∧ sat h (pto b (.row 1 d.toList cap) :: pto q (.row 1 [[.int .i64 m]] 1) :: F)) := by
  have r1 := rd_o E hg hy
  have r2 := rd_o E hg hx
  refine t124 (Nat.le_of_ble_eq_true rfl) ?_
  simp (disch := omega) only [F124, hs.at, r1, r2, go_sem, simprocAttr]
  refine call_use (hc _ _ _ _ (hg _ hy) (hg _ hx) hs) ?_
  rintro r h ⟨hr, hs⟩
  subst hr
  simp (disch := omega) only [go_sem, simprocAttr]
  cases hq : lt d[y]! d[x]!
  · simp (disch := omega) only [go_sem, simprocAttr]
    exact ⟨x, y, n, rfl, .inl ⟨rfl, rfl⟩, by omega, hs⟩
  · simp (disch := omega) only [go_sem, simprocAttr, hs.p1.at]
    have e : ((n : Int) + 1) = ((n + 1 : Nat) : Int) := by omega
    refine ⟨y, x, n + 1, rfl, .inr ⟨rfl, rfl⟩, by omega, ?_⟩
    rw [← e]
    exact hs.p1.set.p1
theorem med_S (hc : LessT Tryz.prog false G lt 103) (E : GoodE 1 false G) {d : Array (List AV)} {x y z n b cap q : Nat} (hs : sat h (pto b (.row 1 d.toList cap) :: pto q (.row 1 [[.int .i64 n]] 1) :: F)) (hg : GA G d) (hx : x < d.size) (hy : y < d.size) (hz : z < d.size) (hn : n ≤ 990) (hsz : d.size ≤ 1000000000000) :
    Triple Tryz.prog 116 [.arr b 1 0 d.size cap, .int .i64 x, .int .i64 y, .int .i64 z, .ptr q 1 0 0] h (fun r h => ∃ u m : Nat, r = .int .i64 u ∧ (u = x ∨ u = y ∨ u = z) ∧ m ≤ n + 3 ∧ sat h (pto b (.row 1 d.toList cap) :: pto q (.row 1 [[.int .i64 m]] 1) :: F)) := by
  refine t116 (Nat.le_of_ble_eq_true rfl) ?_
  simp (disch := omega) only [F116, go_sem, simprocAttr]
  refine call_use (ord_S hc E hs hg hx hy (by omega) hsz) ?_
  rintro r h ⟨u1, v1, n1, hr, h1, m1, hs⟩
  subst hr
  simp (disch := omega) only [go_sem, simprocAttr]
  refine call_use (ord_S hc E hs hg (by omega) hz (by omega) hsz) ?_
  rintro r h ⟨u2, v2, n2, hr, h2, m2, hs⟩
  subst hr
  simp (disch := omega) only [go_sem, simprocAttr]
  refine call_use (ord_S hc E hs hg (by omega) (by omega) (by omega) hsz) ?_
  rintro r h ⟨u3, v3, n3, hr, h3, m3, hs⟩
  subst hr
  simp (disch := omega) only [go_sem, simprocAttr]
  exact ⟨v3, n3, rfl, by omega, by omega, hs⟩
theorem mea_S (hc : LessT Tryz.prog false G lt 103) (E : GoodE 1 false G) {d : Array (List AV)} {x n b cap q : Nat} (hs : sat h (pto b (.row 1 d.toList cap) :: pto q (.row 1 [[.int .i64 n]] 1) :: F)) (hg : GA G d) (hx0 : 1 ≤ x) (hx : x + 1 < d.size) (hn : n ≤ 990) (hsz : d.size ≤ 1000000000000) :
    Triple Tryz.prog 115 [.arr b 1 0 d.size cap, .int .i64 x, .ptr q 1 0 0] h (fun r h => ∃ u m : Nat, r = .int .i64 u ∧ x ≤ u + 1 ∧ u ≤ x + 1 ∧ m ≤ n + 3 ∧ sat h (pto b (.row 1 d.toList cap) :: pto q (.row 1 [[.int .i64 m]] 1) :: F)) := by
  have n1 : (x : Int) - 1 = ((x - 1 : Nat) : Int) := by omega
  have n2 : (x : Int) + 1 = ((x + 1 : Nat) : Int) := by omega
  refine t115 (Nat.le_of_ble_eq_true rfl) ?_
  simp (disch := omega) only [F115, n1, n2, go_sem, simprocAttr]
  refine call_use (med_S hc E hs hg (by omega) (by omega) (by omega) (by omega) hsz) ?_
  rintro r h ⟨u, m, hr, h1, m1, hs⟩
  subst hr
  simp (disch := omega) only [go_sem, simprocAttr]
  exact ⟨u, m, rfl, by omega, by omega, by omega, hs⟩
theorem piv_S (hc : LessT Tryz.prog false G lt 103) (E : GoodE 1 false G) {d : Array (List AV)} {a bb b cap : Nat} (hs : sat h (pto b (.row 1 d.toList cap) :: F)) (hg : GA G d) (ha : a + 12 < bb) (hb : bb ≤ d.size) (hsz : d.size ≤ 1000000000000) :
    Triple Tryz.prog 100 [.arr b 1 0 d.size cap, .int .i64 a, .int .i64 bb] h (fun r h => ∃ (u : Nat) (t : Nat), r = .tup [.int .i64 u, .int .i64 t] ∧ a ≤ u ∧ u < bb ∧ t ≤ 2 ∧ sat h (pto b (.row 1 d.toList cap) :: F)) := by
  obtain ⟨l, hl⟩ : ∃ l, l = bb - a := ⟨_, rfl⟩
  have n0 : (bb : Int) - a = (l : Int) := by omega
  obtain ⟨g, hgg⟩ : ∃ g, g = l / 4 := ⟨_, rfl⟩
  have n1 : (l : Int).tdiv 4 = (g : Int) := by rw [Int.tdiv_eq_ediv_of_nonneg (by omega)]; omega
  have n2 : (a : Int) + (g : Int) = ((a + g : Nat) : Int) := by omega
  have n3 : (a : Int) + (g : Int) * 2 = ((a + g * 2 : Nat) : Int) := by omega
  have n4 : (a : Int) + (g : Int) * 3 = ((a + g * 3 : Nat) : Int) := by omega
  have n5 : (8 : Int) ≤ (l : Int) := by omega
  refine t100 (Nat.le_of_ble_eq_true rfl) ?_
  simp (disch := omega) only [F100, n0, go_sem, simprocAttr]
  refine new_sat hs fun q hq hs => ?_
  have hs := hs.p1
  simp (disch := omega) only [go_sem, simprocAttr, n0, n1, n2, n3, n4, n5, Int.mul_one]
  refine cnd_join (Q := fun e h => ∃ i j k m : Nat, a ≤ i ∧ i < bb ∧ a ≤ j ∧ j < bb ∧ a ≤ k ∧ k < bb ∧ m ≤ 9 ∧ sat h (pto b (.row 1 d.toList cap) :: pto q (.row 1 [[.int .i64 m]] 1) :: F) ∧
    (e 0 = .arr b 1 0 d.size cap ∧ e 9 = .ptr q 1 0 0 ∧ e 10 = .int .i64 i ∧ e 11 = .int .i64 j ∧ e 12 = .int .i64 k)) ?_ ?_
  · refine cnd_dec (fun h50 => ?_) (fun h50 => ?_)
    · simp (disch := omega) only [go_sem, simprocAttr]
      refine call_use (mea_S (n := 0) hc E hs hg (by omega) (by omega) (by omega) hsz) ?_
      rintro r h ⟨u1, m1, hr, h1, h1', hm1, hs⟩
      subst hr
      simp (disch := omega) only [go_sem, simprocAttr]
      refine call_use (mea_S hc E hs hg (by omega) (by omega) (by omega) hsz) ?_
      rintro r h ⟨u2, m2, hr, h2, h2', hm2, hs⟩
      subst hr
      simp (disch := omega) only [go_sem, simprocAttr]
      refine call_use (mea_S hc E hs hg (by omega) (by omega) (by omega) hsz) ?_
      rintro r h ⟨u3, m3, hr, h3, h3', hm3, hs⟩
      subst hr
      simp (disch := omega) only [go_sem, simprocAttr]
      exact ⟨u1, u2, u3, m3, by omega, by omega, by omega, by omega, by omega, by omega, by omega, hs, rfl, rfl, rfl⟩
    · simp (disch := omega) only [go_sem, simprocAttr]
      exact ⟨a + g, a + g * 2, a + g * 3, 0, by omega, by omega, by omega, by omega, by omega, by omega, by omega, hs, rfl, rfl, rfl⟩
  · rintro e h ⟨i, j, k, m, i1, i2, j1, j2, k1, k2, hm, hs, he⟩
    simp (disch := omega) only [go_sem, simprocAttr, he]
    refine call_use (med_S hc E hs hg (by omega) (by omega) (by omega) (by omega) hsz) ?_
    rintro r h ⟨u, m', hr, hu, hm', hs⟩
    subst hr
    simp (disch := omega) only [go_sem, simprocAttr, he, hs.p1.at]
    have hd := hs.p1.drop
    cases e0 : ((m' : Int) == 0)
    · cases e1 : ((m' : Int) == 12)
      · simp (disch := omega) only [go_sem, simprocAttr, he, e0, e1]
        exact ⟨u, 0, rfl, by omega, by omega, by omega, hd⟩
      · simp (disch := omega) only [go_sem, simprocAttr, he, e0, e1]
        exact ⟨u, 2, rfl, by omega, by omega, by omega, hd⟩
    · simp (disch := omega) only [go_sem, simprocAttr, he, e0]
      exact ⟨u, 1, rfl, by omega, by omega, by omega, hd⟩
theorem rev_S (E : GoodE 1 false G) {d : Array (List AV)} {a bb b cap : Nat} {cf : AV} (hs : sat h (pto b (.row 1 d.toList cap) :: F)) (hg : GA G d) (ha : a < bb) (hb : bb ≤ d.size) (hsz : d.size ≤ 1000000000000) :
    Triple Tryz.prog 101 [.arr b 1 0 d.size cap, .int .i64 a, .int .i64 bb] h (fun r h => PermIn a bb d (reverseRange d a bb) ∧ GA G (reverseRange d a bb) ∧ (reverseRange d a bb).size = d.size ∧ sat h (pto b (.row 1 (reverseRange d a bb).toList cap) :: F)) := by
  have n1 : (bb : Int) - 1 = ((bb - 1 : Nat) : Int) := by omega
  have hP := reverseRange_holds d a bb (by omega) hb
  refine t101 (Nat.le_of_ble_eq_true rfl) ?_
  simp (disch := omega) only [F101, n1, go_sem, simprocAttr]
  refine run_loopN (fun n e h => ∃ (i j : Nat) (d2 : Array (List AV)), n = j + 1 - i ∧ a ≤ i ∧ i ≤ j + 1 ∧ j < bb ∧ reverseLoop i j d2 = reverseRange d a bb ∧ GA G d2 ∧ d2.size = d.size ∧ sat h (pto b (.row 1 d2.toList cap) :: F) ∧
    (e 0 = .arr b 1 0 d.size cap ∧ e 6 = .int .i64 i ∧ e 7 = .int .i64 j)) _ ⟨a, bb - 1, d, rfl, Nat.le_refl _, by omega, by omega, rfl, hg, rfl, hs, rfl, rfl, rfl⟩ ?_
  rintro n e h ⟨i, j, d2, rfl, hi, hij, hj, hI, hg2, hz2, hs, he⟩
  simp (disch := omega) only [go_sem, simprocAttr, he]
  refine cnd_dec (fun hlt => ?_) (fun hge => ?_)
  · have m1 : (i : Int) + 1 = ((i + 1 : Nat) : Int) := by omega
    have m2 : (j : Int) - 1 = ((j - 1 : Nat) : Int) := by omega
    obtain ⟨k1, k2, k3, k4, k5, k6, k7, k8, k9, k10, k11, ⟨ky, y1, y2, y3, y4⟩, hw⟩ := sw_o E hg2 (i := i) (j := j) (by omega) (by omega)
    simp (disch := omega) only [go_sem, simprocAttr, he, m1, m2, hs.at, k1, k2, k3, k4, k5, k6, k7, k8, k9, k10, k11, y1, y2, y3, y4, hw]
    refine ⟨j - 1 + 1 - (i + 1), by omega, i + 1, j - 1, _, rfl, by omega, by omega, by omega, ?_, hg2.swp (by omega) (by omega), by rw [Go.Sort.swp_size]; exact hz2, hs.set, rfl, rfl⟩
    rw [← hI, reverseLoop.eq_1 i j, if_pos (by omega)]
  · simp (disch := omega) only [go_sem, simprocAttr, he]
    rw [reverseLoop, if_neg (by omega)] at hI
    subst hI
    exact ⟨hP, hg2, hz2, hs⟩
end
end Go.Proofs.YtkclojjeepomfaaGreat
/- math/bits.Len, slices.nextPowerOfTwo, xorshift, breakPatterns. -/
set_option linter.unusedSimpArgs false
set_option linter.unusedVariables false
set_option maxRecDepth 10000
namespace Go.Proofs.YtkclojjeepomfaaGreat
open Go.Hz Go.Sort

section
variable {h : Hp} {F : List Asr} {G : List AV → Prop} {lt : List AV → List AV → Bool}

theorem len64 {n : Nat} (hs : sat h F) (hn : n < 4294967296) : Triple Tryz.prog 107 [.int .u64 n] h (fun r h => ∃ t : Nat, r = .int .i64 t ∧ n < 2 ^ t ∧ (1 ≤ n → 2 ^ t ≤ 2 * n) ∧ t ≤ 32 ∧ sat h F) := by
  have s16 : (n : Int).fdiv (2 ^ min 16 64) = ((n / 65536 : Nat) : Int) := by simp [Int.fdiv_eq_ediv]
  refine t107 (Nat.le_of_ble_eq_true rfl) ?_
  simp (disch := omega) only [F107, go_sem, simprocAttr]
  refine cnd_dec (fun h1 => absurd h1 (by omega)) (fun h1 => ?_)
  simp (disch := omega) only [go_sem, simprocAttr]
  refine cnd_join (Q := fun e h => ∃ k t : Nat, k = n / 2 ^ t ∧ (t = 0 ∨ t = 16 ∧ 1 ≤ k) ∧ k < 65536 ∧ sat h F ∧ (e 0 = .int .u64 k ∧ e 2 = .int .i64 t)) ?_ ?_
  · refine cnd_dec (fun h2 => ?_) (fun h2 => ?_)
    · simp (disch := omega) only [go_sem, simprocAttr, s16]
      exact ⟨n / 65536, 16, rfl, .inr ⟨rfl, by omega⟩, by omega, hs, rfl, rfl⟩
    · simp (disch := omega) only [go_sem, simprocAttr]
      exact ⟨n, 0, by simp, .inl rfl, by omega, hs, rfl, rfl⟩
  · rintro e h ⟨k, t, hk, ht, hk2, hs, he⟩
    have s8 : (k : Int).fdiv (2 ^ min 8 64) = ((k / 256 : Nat) : Int) := by simp [Int.fdiv_eq_ediv]
    simp (disch := omega) only [go_sem, simprocAttr, he]
    refine cnd_join (Q := fun e h => ∃ k t : Nat, k = n / 2 ^ t ∧ (t = 0 ∨ t ≤ 24 ∧ 1 ≤ k) ∧ k < 256 ∧ sat h F ∧ (e 0 = .int .u64 k ∧ e 2 = .int .i64 t)) ?_ ?_
    · refine cnd_dec (fun h2 => ?_) (fun h2 => ?_)
      · have w2 : (t : Int) + 8 = ((t + 8 : Nat) : Int) := by omega
        simp (disch := omega) only [go_sem, simprocAttr, he, s8, w2]
        exact ⟨k / 256, t + 8, by rw [Nat.pow_add, ← Nat.div_div_eq_div_mul, ← hk], .inr ⟨by omega, by omega⟩, by omega, hs, rfl, rfl⟩
      · simp (disch := omega) only [go_sem, simprocAttr, he]
        exact ⟨k, t, hk, by omega, by omega, hs, rfl, rfl⟩
    · rintro e h ⟨k, t, hk, ht, hk2, hs, he⟩
      have w3 : IntKind.u8.wrap (k : Int) = (k : Int) := by simp [IntKind.wrap, IntKind.signed, IntKind.bits]; omega
      simp (disch := omega) only [go_sem, simprocAttr, he, w3]
      refine ixs_use (by kernel_rfl) hk2 fun u hu1 hu2 hu3 => ?_
      have w4 : IntKind.i64.wrap (u : Int) = (u : Int) := by simp [IntKind.wrap, IntKind.signed, IntKind.bits]; omega
      have w5 : (t : Int) + (u : Int) = ((t + u : Nat) : Int) := by omega
      simp (disch := omega) only [go_sem, simprocAttr, he, w4, w5]
      have p0 : 0 < 2 ^ t := Nat.pow_pos (by omega)
      have e1 : 2 ^ t * k ≤ n := by rw [hk]; exact Nat.mul_div_le n _
      have e2 : n < 2 ^ t * (k + 1) := by rw [hk]; exact Nat.lt_mul_div_succ n p0
      refine ⟨t + u, rfl, ?_, fun hn1 => ?_, by omega, hs⟩
      · rw [Nat.pow_add]
        exact Nat.lt_of_lt_of_le e2 (Nat.mul_le_mul_left _ hu1)
      · rw [Nat.pow_add]
        have hk1 : 1 ≤ k := by
          rcases ht with h0 | h0
          · subst h0; simp at hk; omega
          · exact h0.2
        calc 2 ^ t * 2 ^ u ≤ 2 ^ t * (2 * k) := Nat.mul_le_mul_left _ (hu2 hk1)
          _ = 2 * (2 ^ t * k) := by rw [← Nat.mul_assoc, Nat.mul_comm (2 ^ t) 2, Nat.mul_assoc]
          _ ≤ 2 * n := Nat.mul_le_mul_left _ e1

theorem len0 {n : Nat} (hs : sat h F) (hn : n < 4294967296) : Triple Tryz.prog 91 [.int .u64 n] h (fun r h => ∃ t : Nat, r = .int .i64 t ∧ n < 2 ^ t ∧ (1 ≤ n → 2 ^ t ≤ 2 * n) ∧ t ≤ 32 ∧ sat h F) := by
  refine t91 (Nat.le_of_ble_eq_true rfl) ?_
  simp (disch := omega) only [F91, go_sem, simprocAttr]
  refine call_use (len64 hs hn) ?_
  rintro r h ⟨t, hr, h1, h2, h3, hs⟩
  subst hr
  simp (disch := omega) only [go_sem, simprocAttr]
  exact ⟨t, rfl, h1, h2, h3, hs⟩

theorem npow {n : Nat} (hs : sat h F) (hn : n < 1000000000) (hn1 : 1 ≤ n) : Triple Tryz.prog 113 [.int .i64 n] h (fun r h => ∃ t : Nat, r = .int .u64 ((2 ^ t : Nat) : Int) ∧ n < 2 ^ t ∧ 2 ^ t ≤ 2 * n ∧ t ≤ 32 ∧ sat h F) := by
  have w1 : IntKind.u64.wrap (n : Int) = (n : Int) := by simp [IntKind.wrap, IntKind.signed, IntKind.bits]; omega
  refine t113 (Nat.le_of_ble_eq_true rfl) ?_
  simp (disch := omega) only [F113, w1, go_sem, simprocAttr]
  refine call_use (len0 hs (by omega)) ?_
  rintro r h ⟨t, hr, h1, h2, h3, hs⟩
  subst hr
  have w2 : IntKind.u64.wrap (1 * 2 ^ min t 64) = ((2 ^ t : Nat) : Int) := by
    rw [Nat.min_eq_left (by omega)]
    have : (2 : Nat) ^ t < 2 ^ 33 := Nat.pow_lt_pow_right (by omega) (by omega)
    have e : (1 : Int) * 2 ^ t = ((2 ^ t : Nat) : Int) := by simp
    rw [e]
    exact wu64 (by omega)
  simp (disch := omega) only [go_sem, simprocAttr, Int.toNat_natCast, w2]
  exact ⟨by omega, t, rfl, h1, h2 hn1, h3, hs⟩

theorem xnext {q : Nat} {z : Int} (hs : sat h (pto q (.row 1 [[.int .u64 z]] 1) :: F)) : Triple Tryz.prog 114 [.ptr q 1 0 0] h (fun r h => ∃ z' : Int, r = .int .u64 z' ∧ sat h (pto q (.row 1 [[.int .u64 z']] 1) :: F)) := by
  refine t114 (Nat.le_of_ble_eq_true rfl) ?_
  simp (disch := omega) only [F114, hs.at, go_sem, simprocAttr]
  exact ⟨_, rfl, hs.set⟩
theorem brk_S (E : GoodE 1 false G) {d : Array (List AV)} {a bb b cap : Nat} {cf : AV} (hs : sat h (pto b (.row 1 d.toList cap) :: F)) (hg : GA G d) (ha : a + 12 < bb) (hb : bb ≤ d.size) (hsz : d.size ≤ 100000000) :
    Triple Tryz.prog 99 [.arr b 1 0 d.size cap, .int .i64 a, .int .i64 bb] h (fun r h => ∃ d2 : Array (List AV), PermIn a bb d d2 ∧ GA G d2 ∧ d2.size = d.size ∧ sat h (pto b (.row 1 d2.toList cap) :: F)) := by
  obtain ⟨l, hl⟩ : ∃ l, l = bb - a := ⟨_, rfl⟩
  have n0 : (bb : Int) - a = (l : Int) := by omega
  obtain ⟨g, hgg⟩ : ∃ g, g = l / 4 := ⟨_, rfl⟩
  have n1 : (l : Int).tdiv 4 = (g : Int) := by rw [Int.tdiv_eq_ediv_of_nonneg (by omega)]; omega
  have n2 : (a : Int) + (g : Int) * 2 = ((a + g * 2 : Nat) : Int) := by omega
  have n3 : ((a + g * 2 : Nat) : Int) - 1 = ((a + g * 2 - 1 : Nat) : Int) := by omega
  have n4 : ((a + g * 2 : Nat) : Int) + 1 = ((a + g * 2 + 1 : Nat) : Int) := by omega
  have n5 : (8 : Int) ≤ (l : Int) := by omega
  have w1 := wu64 (n := l) (by omega)
  refine t99 (Nat.le_of_ble_eq_true rfl) ?_
  simp (disch := omega) only [F99, n0, n5, w1, go_sem, simprocAttr]
  refine new_opq hs fun q h hs => ?_
  simp (disch := omega) only [go_sem, simprocAttr, hs.at, n0, w1]
  refine call_use (npow (hs.set (o' := .row 1 [[.int .u64 l]] 1)) (n := l) (by omega) (by omega)) ?_
  rintro r h ⟨t, hr, h1, h2, h3, hs⟩
  subst hr
  simp (disch := omega) only [go_sem, simprocAttr, n1, n2, n3]
  have ht : (2 : Nat) ^ t < 2 ^ 33 := Nat.pow_lt_pow_right (by omega) (by omega)
  refine run_loopN (fun n e h => ∃ (i : Nat) (d2 : Array (List AV)) (z : Int), n = a + g * 2 + 2 - i ∧ a + g * 2 - 1 ≤ i ∧ i ≤ a + g * 2 + 2 ∧ PermIn a bb d d2 ∧ GA G d2 ∧ d2.size = d.size ∧ sat h (pto q (.row 1 [[.int .u64 z]] 1) :: pto b (.row 1 d2.toList cap) :: F) ∧
    (e 0 = .arr b 1 0 d.size cap ∧ e 1 = .int .i64 a ∧ e 6 = .int .i64 l ∧ e 7 = .ptr q 1 0 0 ∧ e 8 = .int .u64 ((2 ^ t : Nat) : Int) ∧ e 9 = .int .i64 i)) _ ⟨a + g * 2 - 1, d, _, rfl, Nat.le_refl _, by omega, permIn_refl d a bb, hg, rfl, hs, rfl, rfl, rfl, rfl, rfl, rfl⟩ ?_
  rintro n e h ⟨i, d2, z, rfl, hi1, hi2, hp, hg2, hz2, hs, he⟩
  simp (disch := omega) only [go_sem, simprocAttr, he, n1, n2, n4]
  refine cnd_dec (fun hle => ?_) (fun hgt => ?_)
  · simp (disch := omega) only [go_sem, simprocAttr, he]
    refine call_use (xnext hs) ?_
    rintro r h ⟨z', hr, hs⟩
    subst hr
    have m1 : ((2 ^ t : Nat) : Int) - 1 = ((2 ^ t - 1 : Nat) : Int) := by omega
    obtain ⟨o, ho, hol⟩ := and_lt z' (m := 2 ^ t - 1) (by omega)
    have w2 := wi64 (n := o) (by omega)
    have w3 := wu64 (n := 2 ^ t - 1) (by omega)
    simp (disch := omega) only [go_sem, simprocAttr, he, m1, w3, ho, w2]
    refine cnd_join (Q := fun e h => ∃ u : Nat, u < l ∧ sat h (pto q (.row 1 [[.int .u64 z']] 1) :: pto b (.row 1 d2.toList cap) :: F) ∧
      (e 0 = .arr b 1 0 d.size cap ∧ e 1 = .int .i64 a ∧ e 6 = .int .i64 l ∧ e 7 = .ptr q 1 0 0 ∧ e 8 = .int .u64 ((2 ^ t : Nat) : Int) ∧ e 9 = .int .i64 i ∧ e 10 = .int .i64 u)) ?_ ?_
    · refine cnd_dec (fun hge => ?_) (fun hlt => ?_)
      · have m2 : (o : Int) - (l : Int) = ((o - l : Nat) : Int) := by omega
        simp (disch := omega) only [go_sem, simprocAttr, he, m2]
        exact ⟨o - l, by omega, hs, rfl⟩
      · simp (disch := omega) only [go_sem, simprocAttr, he]
        exact ⟨o, by omega, hs, rfl⟩
    · rintro e h ⟨u, hu, hs, he⟩
      have hs := hs.p1
      have m3 : (a : Int) + (u : Int) = ((a + u : Nat) : Int) := by omega
      have m4 : (i : Int) + 1 = ((i + 1 : Nat) : Int) := by omega
      obtain ⟨k1, k2, k3, k4, k5, k6, k7, k8, k9, k10, k11, ⟨ky, y1, y2, y3, y4⟩, hw⟩ := sw_o E hg2 (i := i) (j := a + u) (by omega) (by omega)
      simp (disch := omega) only [go_sem, simprocAttr, he, m3, m4, hs.at, k1, k2, k3, k4, k5, k6, k7, k8, k9, k10, k11, y1, y2, y3, y4, hw]
      have hs2 := (hs.set (o' := .row 1 (swp d2 i (a + u)).toList cap)).p1
      exact ⟨a + g * 2 + 2 - (i + 1), by omega, i + 1, _, z', rfl, by omega, by omega, permIn_trans _ _ _ _ _ hp (swp_permIn d2 a bb i (a + u) (by omega) (by omega) (by omega) (by omega) (by omega)), hg2.swp (by omega) (by omega), by rw [Go.Sort.swp_size]; exact hz2, hs2, rfl⟩
  · simp (disch := omega) only [go_sem, simprocAttr, he]
    exact ⟨d2, hp, hg2, hz2, hs.drop⟩
end
end Go.Proofs.YtkclojjeepomfaaGreat
/- slices: partial insertion sort, the partitions. -/
set_option linter.unusedSimpArgs false
set_option linter.unusedVariables false
set_option maxRecDepth 10000
namespace Go.Proofs.YtkclojjeepomfaaGreat
open Go.Hz Go.Sort

section
variable {h : Hp} {F : List Asr} {G : List AV → Prop} {lt : List AV → List AV → Bool}

theorem par_S (hc : LessT Tryz.prog false G lt 103) (E : GoodE 1 false G) {d : Array (List AV)} {a bb b cap : Nat} (hs : sat h (pto b (.row 1 d.toList cap) :: F)) (hg : GA G d) (ha : a < bb) (hb : bb ≤ d.size) (hsz : d.size ≤ 1000000000000) :
    Triple Tryz.prog 102 [.arr b 1 0 d.size cap, .int .i64 a, .int .i64 bb] h (fun r h => r = .bool (partialInsertionSort lt d a bb).2 ∧ GA G (partialInsertionSort lt d a bb).1 ∧ (partialInsertionSort lt d a bb).1.size = d.size ∧ sat h (pto b (.row 1 (partialInsertionSort lt d a bb).1.toList cap) :: F)) := by
  have w0 : (a : Int) + 1 = ((a + 1 : Nat) : Int) := by omega
  refine t102 (Nat.le_of_ble_eq_true rfl) ?_
  simp (disch := omega) only [F102, w0, go_sem, simprocAttr]
  refine run_loopN (fun n e h => ∃ (k i : Nat) (d1 : Array (List AV)), n = 5 - k ∧ k ≤ 5 ∧ a + 1 ≤ i ∧ i ≤ bb ∧ partialIns lt a bb (5 - k) i d1 = partialInsertionSort lt d a bb ∧ GA G d1 ∧ d1.size = d.size ∧ sat h (pto b (.row 1 d1.toList cap) :: F) ∧
    (e 0 = .arr b 1 0 d.size cap ∧ e 1 = .int .i64 a ∧ e 2 = .int .i64 bb ∧ e 7 = .int .i64 i ∧ e 8 = .int .i64 k)) 5 ⟨0, a + 1, d, rfl, by omega, Nat.le_refl _, by omega, rfl, hg, rfl, hs, rfl, rfl, rfl, rfl, rfl⟩ ?_
  rintro n e h ⟨k, i, d1, rfl, hk, hi1, hi2, hI, hg1, hz1, hs, he⟩
  simp (disch := omega) only [go_sem, simprocAttr, he]
  refine cnd_dec (fun hk5 => ?_) (fun hk5 => ?_)
  rotate_left
  · obtain rfl : k = 5 := by omega
    simp (disch := omega) only [go_sem, simprocAttr, he]
    rw [← hI]
    exact ⟨rfl, hg1, hz1, hs⟩
  obtain ⟨s, hs5⟩ : ∃ s, 5 - k = s + 1 := ⟨4 - k, by omega⟩
  rw [hs5, partialIns_succ] at hI
  simp (disch := omega) only [go_sem, simprocAttr, he]
  refine blk_join (Q := fun e h => ∃ i2 : Nat, i2 = scanSorted lt d1 bb i ∧ i ≤ i2 ∧ i2 ≤ bb ∧ sat h (pto b (.row 1 d1.toList cap) :: F) ∧
    (e 0 = .arr b 1 0 d.size cap ∧ e 1 = .int .i64 a ∧ e 2 = .int .i64 bb ∧ e 7 = .int .i64 i2 ∧ e 8 = .int .i64 k)) ?_ ?_
  · refine run_loopN (fun n e h => ∃ i2 : Nat, n = bb - i2 ∧ scanSorted lt d1 bb i2 = scanSorted lt d1 bb i ∧ i ≤ i2 ∧ i2 ≤ bb ∧ sat h (pto b (.row 1 d1.toList cap) :: F) ∧
      (e 0 = .arr b 1 0 d.size cap ∧ e 1 = .int .i64 a ∧ e 2 = .int .i64 bb ∧ e 7 = .int .i64 i2 ∧ e 8 = .int .i64 k)) _ ⟨i, rfl, rfl, Nat.le_refl _, hi2, hs, ?_⟩ ?_
    · simp only [Env.upd_apply, he, and_self, reduceIte, Nat.reduceEqDiff]
    rintro n e h ⟨i2, rfl, hJ, hj1, hj2, hs, he⟩
    simp (disch := omega) only [go_sem, simprocAttr, he]
    refine cnd_dec (fun hlt => ?_) (fun hge => ?_)
    · have m1 : (i2 : Int) - 1 = ((i2 - 1 : Nat) : Int) := by omega
      have m2 : (i2 : Int) + 1 = ((i2 + 1 : Nat) : Int) := by omega
      have r1 := rd_o E hg1 (i := i2) (by omega)
      have r2 := rd_o E hg1 (i := i2 - 1) (by omega)
      simp (disch := omega) only [go_sem, simprocAttr, he, hs.at, r1, r2, m1]
      refine call_use (hc _ _ _ _ (hg1 _ (by omega)) (hg1 _ (by omega)) hs) ?_
      rintro r h ⟨hr, hs⟩
      subst hr
      simp (disch := omega) only [go_sem, simprocAttr, he, hlt, m1]
      have hst : scanSorted lt d1 bb i2 = if lt d1[i2]! d1[i2 - 1]! = true then i2 else scanSorted lt d1 bb (i2 + 1) := by
        rw [scanSorted.eq_1 lt d1 bb i2]
        cases lt d1[i2]! d1[i2 - 1]! <;> simp [show i2 < bb from by omega]
      cases hq : lt d1[i2]! d1[i2 - 1]!
      · simp (disch := omega) only [go_sem, simprocAttr, he, m2]
        exact ⟨bb - (i2 + 1), by omega, i2 + 1, rfl, by rw [← hJ, hst, hq]; rfl, by omega, by omega, hs, rfl⟩
      · simp (disch := omega) only [go_sem, simprocAttr, he]
        exact ⟨i2, by rw [← hJ, hst, hq]; rfl, by omega, by omega, hs, rfl⟩
    · simp (disch := omega) only [go_sem, simprocAttr, he, hge]
      exact ⟨i2, by rw [← hJ, scanSorted, if_neg (by simp; omega)], by omega, by omega, hs, rfl⟩
  · rintro e h ⟨i2, hi2', hi3, hi4, hs, he⟩
    rw [← hi2'] at hI
    have hbe : ((i2 : Int) == (bb : Int)) = decide (i2 = bb) := by
      by_cases hq : i2 = bb
      · subst hq; simp
      · simp [hq]; omega
    simp (disch := omega) only [go_sem, simprocAttr, he, hbe]
    refine cnd_bool (fun hq => ?_) (fun hq => ?_)
    · have hq : i2 = bb := by simpa using hq
      rw [if_pos hq] at hI
      simp (disch := omega) only [go_sem, simprocAttr, he]
      rw [← hI]
      exact ⟨rfl, hg1, hz1, hs⟩
    have hq : i2 ≠ bb := by simpa using hq
    rw [if_neg hq] at hI
    have m0 : (bb : Int) - a = ((bb - a : Nat) : Int) := by omega
    simp (disch := omega) only [go_sem, simprocAttr, he, m0]
    refine cnd_dec (fun h50 => ?_) (fun h50 => ?_)
    · rw [if_pos (by omega)] at hI
      simp (disch := omega) only [go_sem, simprocAttr, he]
      rw [← hI]
      exact ⟨rfl, hg1, hz1, hs⟩
    rw [if_neg (by omega)] at hI
    have m1 : (i2 : Int) - 1 = ((i2 - 1 : Nat) : Int) := by omega
    have m2 : (i2 : Int) - a = ((i2 - a : Nat) : Int) := by omega
    simp (disch := omega) only [go_sem, simprocAttr, he]
    obtain ⟨k1, k2, k3, k4, k5, k6, k7, k8, k9, k10, k11, ⟨ky, y1, y2, y3, y4⟩, hw⟩ := sw_o E hg1 (i := i2) (j := i2 - 1) (by omega) (by omega)
    simp (disch := omega) only [go_sem, simprocAttr, he, m1, m2, hs.at, k1, k2, k3, k4, k5, k6, k7, k8, k9, k10, k11, y1, y2, y3, y4, hw]
    have hs2 := hs.set (o' := .row 1 (swp d1 i2 (i2 - 1)).toList cap)
    have hg2 := hg1.swp (i := i2) (j := i2 - 1) (by omega) (by omega)
    have hz2 : (swp d1 i2 (i2 - 1)).size = d.size := by rw [Go.Sort.swp_size]; exact hz1
    generalize swp d1 i2 (i2 - 1) = dS at *
    refine cnd_join (Q := fun e h => ∃ d3 : Array (List AV), d3 = fixDown lt a i2 dS ∧ GA G d3 ∧ d3.size = d.size ∧ sat h (pto b (.row 1 d3.toList cap) :: F) ∧
      (e 0 = .arr b 1 0 d.size cap ∧ e 1 = .int .i64 a ∧ e 2 = .int .i64 bb ∧ e 7 = .int .i64 i2 ∧ e 8 = .int .i64 k)) ?_ ?_
    · refine cnd_dec (fun hge => ?_) (fun hlt => ?_)
      rotate_left
      · simp (disch := omega) only [go_sem, simprocAttr, he]
        exact ⟨dS, by rw [fixDown, if_neg (by omega)], hg2, hz2, hs2⟩
      simp (disch := omega) only [go_sem, simprocAttr, he, m1]
      refine run_loopN (fun n e h => ∃ (j : Nat) (d3 : Array (List AV)), n = j ∧ j ≤ i2 - 1 ∧ shiftDown lt j d3 = fixDown lt a i2 dS ∧ GA G d3 ∧ d3.size = d.size ∧ sat h (pto b (.row 1 d3.toList cap) :: F) ∧
        (e 0 = .arr b 1 0 d.size cap ∧ e 1 = .int .i64 a ∧ e 2 = .int .i64 bb ∧ e 7 = .int .i64 i2 ∧ e 8 = .int .i64 k ∧ e 9 = .int .i64 j)) (i2 - 1) ⟨i2 - 1, dS, rfl, Nat.le_refl _, by rw [fixDown, if_pos (by omega)], hg2, hz2, hs2, ?_⟩ ?_
      · simp only [Env.upd_apply, he, and_self, reduceIte, Nat.reduceEqDiff]
      rintro j e h ⟨_, d3, rfl, hj, hJ, hg3, hz3, hs, he⟩
      simp (disch := omega) only [go_sem, simprocAttr, he]
      refine cnd_dec (fun hj1 => ?_) (fun hj1 => ?_)
      · obtain ⟨j, rfl⟩ : ∃ q, j = q + 1 := ⟨j - 1, by omega⟩
        have m3 : ((j + 1 : Nat) : Int) - 1 = (j : Int) := by omega
        have r1 := rd_o E hg3 (i := j + 1) (by omega)
        have r2 := rd_o E hg3 (i := j) (by omega)
        simp (disch := omega) only [go_sem, simprocAttr, he, hs.at, r1, r2, m3]
        refine call_use (hc _ _ _ _ (hg3 _ (by omega)) (hg3 _ (by omega)) hs) ?_
        rintro r h ⟨hr, hs⟩
        subst hr
        simp (disch := omega) only [go_sem, simprocAttr, he, m3]
        rw [shiftDown] at hJ
        cases hq2 : lt d3[j + 1]! d3[j]!
        · simp (disch := omega) only [go_sem, simprocAttr, he]
          exact ⟨d3, by rw [← hJ, hq2]; rfl, hg3, hz3, hs⟩
        · simp (disch := omega) only [go_sem, simprocAttr, he]
          obtain ⟨k1, k2, k3, k4, k5, k6, k7, k8, k9, k10, k11, ⟨ky, y1, y2, y3, y4⟩, hw⟩ := sw_o E hg3 (i := j + 1) (j := j) (by omega) (by omega)
          simp (disch := omega) only [go_sem, simprocAttr, he, m3, hs.at, k1, k2, k3, k4, k5, k6, k7, k8, k9, k10, k11, y1, y2, y3, y4, hw]
          exact ⟨j, by omega, j, _, rfl, by omega, by rw [← hJ, hq2]; rfl, hg3.swp (by omega) (by omega), by rw [Go.Sort.swp_size]; exact hz3, hs.set, rfl⟩
      · obtain rfl : j = 0 := by omega
        simp (disch := omega) only [go_sem, simprocAttr, he]
        exact ⟨d3, by rw [← hJ, shiftDown], hg3, hz3, hs⟩
    · rintro e h ⟨d3, hd3, hg3, hz3, hs, he⟩
      have m4 : (bb : Int) - i2 = ((bb - i2 : Nat) : Int) := by omega
      have m5 : (i2 : Int) + 1 = ((i2 + 1 : Nat) : Int) := by omega
      have m6 : (k : Int) + 1 = ((k + 1 : Nat) : Int) := by omega
      rw [← hd3] at hI
      have hk5' : 5 - (k + 1) = s := by omega
      simp (disch := omega) only [go_sem, simprocAttr, he, m4]
      refine cnd_join (Q := fun e h => ∃ d4 : Array (List AV), d4 = fixUp lt bb i2 d3 ∧ GA G d4 ∧ d4.size = d.size ∧ sat h (pto b (.row 1 d4.toList cap) :: F) ∧
        (e 0 = .arr b 1 0 d.size cap ∧ e 1 = .int .i64 a ∧ e 2 = .int .i64 bb ∧ e 7 = .int .i64 i2 ∧ e 8 = .int .i64 k)) ?_ ?_
      · refine cnd_dec (fun hge => ?_) (fun hlt => ?_)
        rotate_left
        · simp (disch := omega) only [go_sem, simprocAttr, he]
          exact ⟨d3, by rw [fixUp, if_neg (by omega)], hg3, hz3, hs⟩
        simp (disch := omega) only [go_sem, simprocAttr, he, m5]
        refine run_loopN (fun n e h => ∃ (j : Nat) (d4 : Array (List AV)), n = bb - j ∧ i2 + 1 ≤ j ∧ j ≤ bb ∧ shiftUp lt bb j d4 = fixUp lt bb i2 d3 ∧ GA G d4 ∧ d4.size = d.size ∧ sat h (pto b (.row 1 d4.toList cap) :: F) ∧
          (e 0 = .arr b 1 0 d.size cap ∧ e 1 = .int .i64 a ∧ e 2 = .int .i64 bb ∧ e 7 = .int .i64 i2 ∧ e 8 = .int .i64 k ∧ e 10 = .int .i64 j)) _ ⟨i2 + 1, d3, rfl, Nat.le_refl _, by omega, by rw [fixUp, if_pos (by omega)], hg3, hz3, hs, ?_⟩ ?_
        · simp only [Env.upd_apply, he, and_self, reduceIte, Nat.reduceEqDiff]
        rintro n e h ⟨j, d4, rfl, hj, hj2, hJ, hg4, hz4, hs, he⟩
        simp (disch := omega) only [go_sem, simprocAttr, he]
        refine cnd_dec (fun hj1 => ?_) (fun hj1 => ?_)
        · have m3 : (j : Int) - 1 = ((j - 1 : Nat) : Int) := by omega
          have m7 : (j : Int) + 1 = ((j + 1 : Nat) : Int) := by omega
          have r1 := rd_o E hg4 (i := j) (by omega)
          have r2 := rd_o E hg4 (i := j - 1) (by omega)
          simp (disch := omega) only [go_sem, simprocAttr, he, hs.at, r1, r2, m3]
          refine call_use (hc _ _ _ _ (hg4 _ (by omega)) (hg4 _ (by omega)) hs) ?_
          rintro r h ⟨hr, hs⟩
          subst hr
          simp (disch := omega) only [go_sem, simprocAttr, he, m3]
          rw [shiftUp, if_pos (by omega)] at hJ
          cases hq2 : lt d4[j]! d4[j - 1]!
          · simp (disch := omega) only [go_sem, simprocAttr, he]
            exact ⟨d4, by rw [← hJ, hq2]; rfl, hg4, hz4, hs⟩
          · simp (disch := omega) only [go_sem, simprocAttr, he]
            obtain ⟨k1, k2, k3, k4, k5, k6, k7, k8, k9, k10, k11, ⟨ky, y1, y2, y3, y4⟩, hw⟩ := sw_o E hg4 (i := j) (j := j - 1) (by omega) (by omega)
            simp (disch := omega) only [go_sem, simprocAttr, he, m3, m7, hs.at, k1, k2, k3, k4, k5, k6, k7, k8, k9, k10, k11, y1, y2, y3, y4, hw]
            exact ⟨bb - (j + 1), by omega, j + 1, _, rfl, by omega, by omega, by rw [← hJ, hq2]; rfl, hg4.swp (by omega) (by omega), by rw [Go.Sort.swp_size]; exact hz4, hs.set, rfl⟩
        · simp (disch := omega) only [go_sem, simprocAttr, he]
          exact ⟨d4, by rw [← hJ, shiftUp, if_neg (by omega)], hg4, hz4, hs⟩
      · rintro e h ⟨d4, hd4, hg4, hz4, hs, he⟩
        rw [← hd4] at hI
        simp (disch := omega) only [go_sem, simprocAttr, he, m6]
        exact ⟨5 - (k + 1), by omega, k + 1, i2, d4, rfl, by omega, by omega, by omega, by rw [hk5']; exact hI, hg4, hz4, hs, rfl, rfl⟩
end
end Go.Proofs.YtkclojjeepomfaaGreat
/- slices: the partitions. -/
set_option linter.unusedSimpArgs false
set_option linter.unusedVariables false
set_option maxRecDepth 10000
namespace Go.Proofs.YtkclojjeepomfaaGreat
open Go.Hz Go.Sort

section
variable {h : Hp} {F : List Asr} {G : List AV → Prop} {lt : List AV → List AV → Bool}

theorem peq_S (hc : LessT Tryz.prog false G lt 103) (E : GoodE 1 false G) {d : Array (List AV)} {a bb p b cap : Nat} (hs : sat h (pto b (.row 1 d.toList cap) :: F)) (hg : GA G d) (hp1 : a ≤ p) (hp2 : p < bb) (hb : bb ≤ d.size) (hsz : d.size ≤ 1000000000000) :
    Triple Tryz.prog 104 [.arr b 1 0 d.size cap, .int .i64 a, .int .i64 bb, .int .i64 p] h (fun r h => r = .int .i64 (partitionEqual lt d a bb p).1 ∧ GA G (partitionEqual lt d a bb p).2 ∧ (partitionEqual lt d a bb p).2.size = d.size ∧ sat h (pto b (.row 1 (partitionEqual lt d a bb p).2.toList cap) :: F)) := by
  have w0 : (a : Int) + 1 = ((a + 1 : Nat) : Int) := by omega
  have w1 : (bb : Int) - 1 = ((bb - 1 : Nat) : Int) := by omega
  obtain ⟨k1, k2, k3, k4, k5, k6, k7, k8, k9, k10, k11, ⟨ky, y1, y2, y3, y4⟩, hw⟩ := sw_o E hg (i := a) (j := p) (by omega) (by omega)
  refine t104 (Nat.le_of_ble_eq_true rfl) ?_
  simp (disch := omega) only [F104, w0, w1, hs.at, k1, k2, k3, k4, k5, k6, k7, k8, k9, k10, k11, y1, y2, y3, y4, hw, go_sem, simprocAttr]
  have hs2 := hs.set (o' := .row 1 (swp d a p).toList cap)
  have hg2 := hg.swp (i := a) (j := p) (by omega) (by omega)
  have hz2 : (swp d a p).size = d.size := by rw [Go.Sort.swp_size]
  have hR : partEqLoop lt a (a + 1) (bb - 1) (swp d a p) = partitionEqual lt d a bb p := rfl
  refine run_loopN (fun n e h => ∃ (i j : Nat) (D : Array (List AV)), n = j + 1 - i ∧ a < i ∧ i ≤ j + 1 ∧ j < bb ∧ partEqLoop lt a i j D = partitionEqual lt d a bb p ∧ GA G D ∧ D.size = d.size ∧ sat h (pto b (.row 1 D.toList cap) :: F) ∧
    (e 0 = .arr b 1 0 d.size cap ∧ e 1 = .int .i64 a ∧ e 9 = .int .i64 i ∧ e 10 = .int .i64 j)) _ ⟨a + 1, bb - 1, _, rfl, by omega, by omega, by omega, hR, hg2, hz2, hs2, rfl, rfl, rfl, rfl⟩ ?_
  rintro n e h ⟨i, j, D, rfl, hai, hij, hjb, hI, hgD, hzD, hs, he⟩
  rw [partEqLoop_eq] at hI
  simp (disch := omega) only [go_sem, simprocAttr, he]
  refine blk_join (Q := fun e h => ∃ i2 : Nat, i2 = scanUp (fun x => !lt D[a]! x) D j i ∧ i ≤ i2 ∧ i2 ≤ j + 1 ∧ sat h (pto b (.row 1 D.toList cap) :: F) ∧ (e 0 = .arr b 1 0 d.size cap ∧ e 1 = .int .i64 a ∧ e 9 = .int .i64 i2 ∧ e 10 = .int .i64 j)) ?_ ?_
  · refine run_loopN (fun n e h => ∃ i2 : Nat, n = j + 1 - i2 ∧ scanUp (fun x => !lt D[a]! x) D j i2 = scanUp (fun x => !lt D[a]! x) D j i ∧ i ≤ i2 ∧ i2 ≤ j + 1 ∧ sat h (pto b (.row 1 D.toList cap) :: F) ∧ (e 0 = .arr b 1 0 d.size cap ∧ e 1 = .int .i64 a ∧ e 9 = .int .i64 i2 ∧ e 10 = .int .i64 j)) _ ⟨i, rfl, rfl, Nat.le_refl _, by omega, hs, ?_⟩ ?_
    · simp only [Env.upd_apply, he, and_self, reduceIte, Nat.reduceEqDiff]
    rintro n e h ⟨i2, rfl, hJ, hj1, hj2, hs, he⟩
    simp (disch := omega) only [go_sem, simprocAttr, he]
    refine cnd_dec (fun hl1 => ?_) (fun hl1 => ?_)
    · have m2 : (i2 : Int) + 1 = ((i2 + 1 : Nat) : Int) := by omega
      have r1 := rd_o E hgD (i := i2) (by omega)
      have r2 := rd_o E hgD (i := a) (by omega)
      simp (disch := omega) only [go_sem, simprocAttr, he, hs.at, r1, r2]
      refine call_use (hc _ _ _ _ (hgD _ (by omega)) (hgD _ (by omega)) hs) ?_
      rintro r h ⟨hr, hs⟩
      subst hr
      simp (disch := omega) only [go_sem, simprocAttr, he, hl1]
      have hst : scanUp (fun x => !lt D[a]! x) D j i2 = if (!lt D[a]! D[i2]!) = true then scanUp (fun x => !lt D[a]! x) D j (i2 + 1) else i2 := by
        rw [scanUp.eq_1 _ _ _ i2]
        simp only [show i2 ≤ j from by omega, decide_true, Bool.true_and]
      cases hq : lt D[a]! D[i2]!
      · simp (disch := omega) only [go_sem, simprocAttr, he, m2]
        exact ⟨j + 1 - (i2 + 1), by omega, i2 + 1, rfl, by rw [← hJ, hst, hq]; rfl, by omega, by omega, hs, rfl⟩
      · simp (disch := omega) only [go_sem, simprocAttr, he, m2]
        exact ⟨i2, by rw [← hJ, hst, hq]; rfl, by omega, by omega, hs, rfl⟩
    · simp (disch := omega) only [go_sem, simprocAttr, he, hl1]
      exact ⟨i2, by rw [← hJ, scanUp.eq_1 _ _ _ i2, if_neg (by simp; omega)], by omega, by omega, hs, rfl⟩

  rintro e h ⟨i2, hi2, hi3, hi4, hs, he⟩
  rw [← hi2] at hI
  simp (disch := omega) only [go_sem, simprocAttr, he]
  refine blk_join (Q := fun e h => ∃ j2 : Nat, j2 = scanDown (fun x => lt D[a]! x) D i2 j ∧ j2 ≤ j ∧ i2 ≤ j2 + 1 ∧ sat h (pto b (.row 1 D.toList cap) :: F) ∧ (e 0 = .arr b 1 0 d.size cap ∧ e 1 = .int .i64 a ∧ e 9 = .int .i64 i2 ∧ e 10 = .int .i64 j2)) ?_ ?_
  · refine run_loopN (fun n e h => ∃ j2 : Nat, n = j2 ∧ scanDown (fun x => lt D[a]! x) D i2 j2 = scanDown (fun x => lt D[a]! x) D i2 j ∧ j2 ≤ j ∧ i2 ≤ j2 + 1 ∧ sat h (pto b (.row 1 D.toList cap) :: F) ∧ (e 0 = .arr b 1 0 d.size cap ∧ e 1 = .int .i64 a ∧ e 9 = .int .i64 i2 ∧ e 10 = .int .i64 j2)) _ ⟨j, rfl, rfl, Nat.le_refl _, by omega, hs, ?_⟩ ?_
    · simp only [Env.upd_apply, he, and_self, reduceIte, Nat.reduceEqDiff]
    rintro j2 e h ⟨_, rfl, hJ, hj1, hj2, hs, he⟩
    simp (disch := omega) only [go_sem, simprocAttr, he]
    refine cnd_dec (fun hl1 => ?_) (fun hl1 => ?_)
    · obtain ⟨j2, rfl⟩ : ∃ q, j2 = q + 1 := ⟨j2 - 1, by omega⟩
      have m2 : ((j2 + 1 : Nat) : Int) - 1 = (j2 : Int) := by omega
      have r1 := rd_o E hgD (i := j2 + 1) (by omega)
      have r2 := rd_o E hgD (i := a) (by omega)
      simp (disch := omega) only [go_sem, simprocAttr, he, hs.at, r1, r2]
      refine call_use (hc _ _ _ _ (hgD _ (by omega)) (hgD _ (by omega)) hs) ?_
      rintro r h ⟨hr, hs⟩
      subst hr
      simp (disch := omega) only [go_sem, simprocAttr, he, hl1]
      have hst : scanDown (fun x => lt D[a]! x) D i2 (j2 + 1) = if (lt D[a]! D[j2 + 1]!) = true then scanDown (fun x => lt D[a]! x) D i2 j2 else j2 + 1 := by
        rw [scanDown]
        simp only [show i2 ≤ j2 + 1 from by omega, decide_true, Bool.true_and]
      cases hq : lt D[a]! D[j2 + 1]!
      · simp (disch := omega) only [go_sem, simprocAttr, he, m2]
        exact ⟨j2 + 1, by rw [← hJ, hst, hq]; rfl, by omega, by omega, hs, rfl⟩
      · simp (disch := omega) only [go_sem, simprocAttr, he, m2]
        exact ⟨j2, by omega, j2, rfl, by rw [← hJ, hst, hq]; rfl, by omega, by omega, hs, rfl⟩
    · simp (disch := omega) only [go_sem, simprocAttr, he, hl1]
      refine ⟨j2, ?_, by omega, by omega, hs, rfl⟩
      rw [← hJ]
      cases j2 with
      | zero => rw [scanDown]
      | succ j2 => rw [scanDown, if_neg (by simp; omega)]

  rintro e h ⟨j2, hj2, hj3, hj4, hs, he⟩
  rw [← hj2] at hI
  simp (disch := omega) only [go_sem, simprocAttr, he]
  refine cnd_dec (fun hgt => ?_) (fun hle => ?_)
  · rw [if_pos (by omega)] at hI
    simp (disch := omega) only [go_sem, simprocAttr, he]
    rw [← hI]
    exact ⟨rfl, hgD, hzD, hs⟩
  · rw [if_neg (by omega)] at hI
    have m1 : (i2 : Int) + 1 = ((i2 + 1 : Nat) : Int) := by omega
    have m2 : (j2 : Int) - 1 = ((j2 - 1 : Nat) : Int) := by omega
    have hne : i2 ≠ j2 := fun hh => by
      have u := (scanUp_spec (fun x => !lt D[a]! x) D j _ i rfl).2.2.2
      have v := (scanDown_spec (fun x => lt D[a]! x) D i2 j).2.2.2
      rw [← hi2] at u
      rw [← hj2] at v
      have u := u (by omega)
      have v := v (by omega) (by omega)
      rw [← hh] at v
      simp at u v
      rw [u] at v; cases v
    simp (disch := omega) only [go_sem, simprocAttr, he]
    obtain ⟨k1, k2, k3, k4, k5, k6, k7, k8, k9, k10, k11, ⟨ky, y1, y2, y3, y4⟩, hw⟩ := sw_o E hgD (i := i2) (j := j2) (by omega) (by omega)
    simp (disch := omega) only [go_sem, simprocAttr, he, m1, m2, hs.at, k1, k2, k3, k4, k5, k6, k7, k8, k9, k10, k11, y1, y2, y3, y4, hw]
    exact ⟨j2 - 1 + 1 - (i2 + 1), by omega, i2 + 1, j2 - 1, _, rfl, by omega, by omega, by omega, hI, hgD.swp (by omega) (by omega), by rw [Go.Sort.swp_size]; exact hzD, hs.set, rfl, rfl⟩
theorem prt_S (hc : LessT Tryz.prog false G lt 103) (E : GoodE 1 false G) {d : Array (List AV)} {a bb p b cap : Nat} (hs : sat h (pto b (.row 1 d.toList cap) :: F)) (hg : GA G d) (hp1 : a ≤ p) (hp2 : p < bb) (hb : bb ≤ d.size) (hsz : d.size ≤ 1000000000000) :
    Triple Tryz.prog 105 [.arr b 1 0 d.size cap, .int .i64 a, .int .i64 bb, .int .i64 p] h (fun r h => r = .tup [.int .i64 (partition lt d a bb p).1, .bool (partition lt d a bb p).2.1] ∧ GA G (partition lt d a bb p).2.2 ∧ (partition lt d a bb p).2.2.size = d.size ∧ sat h (pto b (.row 1 (partition lt d a bb p).2.2.toList cap) :: F)) := by
  have w0 : (a : Int) + 1 = ((a + 1 : Nat) : Int) := by omega
  have w1 : (bb : Int) - 1 = ((bb - 1 : Nat) : Int) := by omega
  obtain ⟨k1, k2, k3, k4, k5, k6, k7, k8, k9, k10, k11, ⟨ky, y1, y2, y3, y4⟩, hw⟩ := sw_o E hg (i := a) (j := p) (by omega) (by omega)
  refine t105 (Nat.le_of_ble_eq_true rfl) ?_
  simp (disch := omega) only [F105, w0, w1, hs.at, k1, k2, k3, k4, k5, k6, k7, k8, k9, k10, k11, y1, y2, y3, y4, hw, go_sem, simprocAttr]
  have hs := hs.set (o' := .row 1 (swp d a p).toList cap)
  have hg2 := hg.swp (i := a) (j := p) (by omega) (by omega)
  have hz2 : (swp d a p).size = d.size := by rw [Go.Sort.swp_size]
  clear k1 k2 k3 k4 k5 k6 k7 k8 k9 k10 k11 y1 y2 y3 y4 hw
  have hpd : partition lt d a bb p = partition lt d a bb p := rfl
  conv at hpd => lhs; unfold partition
  simp only at hpd
  generalize partition lt d a bb p = res at *
  generalize swp d a p = D at *
  obtain ⟨B, hB⟩ : ∃ B, B = bb - 1 := ⟨_, rfl⟩
  obtain ⟨A, hA⟩ : ∃ A, A = a + 1 := ⟨_, rfl⟩
  rw [← hB, ← hA] at hpd
  refine run_cut (fun e h => sat h (pto b (.row 1 D.toList cap) :: F) ∧ (e 0 = .arr b 1 0 d.size cap ∧ e 1 = .int .i64 a ∧ e 10 = .int .i64 A ∧ e 11 = .int .i64 B)) ⟨hs, rfl, rfl, by rw [hA]; rfl, by rw [hB]; rfl⟩ ?_
  rintro e h ⟨hs, he⟩
  refine blk_join (Q := fun e h => ∃ i2 : Nat, i2 = scanUp (fun x => lt x D[a]!) D B A ∧ A ≤ i2 ∧ i2 ≤ B + 1 ∧ sat h (pto b (.row 1 D.toList cap) :: F) ∧ (e 0 = .arr b 1 0 d.size cap ∧ e 1 = .int .i64 a ∧ e 10 = .int .i64 i2 ∧ e 11 = .int .i64 B)) ?_ ?_
  · refine run_loopN (fun n e h => ∃ i2 : Nat, n = B + 1 - i2 ∧ scanUp (fun x => lt x D[a]!) D B i2 = scanUp (fun x => lt x D[a]!) D B A ∧ A ≤ i2 ∧ i2 ≤ B + 1 ∧ sat h (pto b (.row 1 D.toList cap) :: F) ∧ (e 0 = .arr b 1 0 d.size cap ∧ e 1 = .int .i64 a ∧ e 10 = .int .i64 i2 ∧ e 11 = .int .i64 B)) _ ⟨A, rfl, rfl, Nat.le_refl _, by omega, hs, ?_⟩ ?_
    · simp only [Env.upd_apply, he, and_self, reduceIte, Nat.reduceEqDiff]
    rintro n e h ⟨i2, rfl, hJ, hj1, hj2, hs, he⟩
    simp (disch := omega) only [go_sem, simprocAttr, he]
    refine cnd_dec (fun hl1 => ?_) (fun hl1 => ?_)
    · have m2 : (i2 : Int) + 1 = ((i2 + 1 : Nat) : Int) := by omega
      have r1 := rd_o E hg2 (i := i2) (by omega)
      have r2 := rd_o E hg2 (i := a) (by omega)
      simp (disch := omega) only [go_sem, simprocAttr, he, hs.at, r1, r2]
      refine call_use (hc _ _ _ _ (hg2 _ (by omega)) (hg2 _ (by omega)) hs) ?_
      rintro r h ⟨hr, hs⟩
      subst hr
      simp (disch := omega) only [go_sem, simprocAttr, he, hl1]
      have hst : scanUp (fun x => lt x D[a]!) D B i2 = if (lt D[i2]! D[a]!) = true then scanUp (fun x => lt x D[a]!) D B (i2 + 1) else i2 := by
        rw [scanUp.eq_1 _ _ _ i2]
        simp only [show i2 ≤ B from by omega, decide_true, Bool.true_and]
      cases hq : lt D[i2]! D[a]!
      · simp (disch := omega) only [go_sem, simprocAttr, he, m2]
        exact ⟨i2, by rw [← hJ, hst, hq]; rfl, by omega, by omega, hs, rfl⟩
      · simp (disch := omega) only [go_sem, simprocAttr, he, m2]
        exact ⟨B + 1 - (i2 + 1), by omega, i2 + 1, rfl, by rw [← hJ, hst, hq]; rfl, by omega, by omega, hs, rfl⟩
    · simp (disch := omega) only [go_sem, simprocAttr, he, hl1]
      exact ⟨i2, by rw [← hJ, scanUp.eq_1 _ _ _ i2, if_neg (by simp; omega)], by omega, by omega, hs, rfl⟩

  rintro e h ⟨i1, hi1, hi3, hi4, hs, he⟩
  rw [← hi1] at hpd
  simp (disch := omega) only [go_sem, simprocAttr, he]
  refine blk_join (Q := fun e h => ∃ j2 : Nat, j2 = scanDown (fun x => !lt x D[a]!) D i1 B ∧ j2 ≤ B ∧ i1 ≤ j2 + 1 ∧ sat h (pto b (.row 1 D.toList cap) :: F) ∧ (e 0 = .arr b 1 0 d.size cap ∧ e 1 = .int .i64 a ∧ e 10 = .int .i64 i1 ∧ e 11 = .int .i64 j2)) ?_ ?_
  · refine run_loopN (fun n e h => ∃ j2 : Nat, n = j2 ∧ scanDown (fun x => !lt x D[a]!) D i1 j2 = scanDown (fun x => !lt x D[a]!) D i1 B ∧ j2 ≤ B ∧ i1 ≤ j2 + 1 ∧ sat h (pto b (.row 1 D.toList cap) :: F) ∧ (e 0 = .arr b 1 0 d.size cap ∧ e 1 = .int .i64 a ∧ e 10 = .int .i64 i1 ∧ e 11 = .int .i64 j2)) _ ⟨B, rfl, rfl, Nat.le_refl _, by omega, hs, ?_⟩ ?_
    · simp only [Env.upd_apply, he, and_self, reduceIte, Nat.reduceEqDiff]
    rintro j2 e h ⟨_, rfl, hJ, hj1, hj2, hs, he⟩
    simp (disch := omega) only [go_sem, simprocAttr, he]
    refine cnd_dec (fun hl1 => ?_) (fun hl1 => ?_)
    · obtain ⟨j2, rfl⟩ : ∃ q, j2 = q + 1 := ⟨j2 - 1, by omega⟩
      have m2 : ((j2 + 1 : Nat) : Int) - 1 = (j2 : Int) := by omega
      have r1 := rd_o E hg2 (i := j2 + 1) (by omega)
      have r2 := rd_o E hg2 (i := a) (by omega)
      simp (disch := omega) only [go_sem, simprocAttr, he, hs.at, r1, r2]
      refine call_use (hc _ _ _ _ (hg2 _ (by omega)) (hg2 _ (by omega)) hs) ?_
      rintro r h ⟨hr, hs⟩
      subst hr
      simp (disch := omega) only [go_sem, simprocAttr, he, hl1]
      have hst : scanDown (fun x => !lt x D[a]!) D i1 (j2 + 1) = if (!lt D[j2 + 1]! D[a]!) = true then scanDown (fun x => !lt x D[a]!) D i1 j2 else j2 + 1 := by
        rw [scanDown]
        simp only [show i1 ≤ j2 + 1 from by omega, decide_true, Bool.true_and]
      cases hq : lt D[j2 + 1]! D[a]!
      · simp (disch := omega) only [go_sem, simprocAttr, he, m2]
        exact ⟨j2, by omega, j2, rfl, by rw [← hJ, hst, hq]; rfl, by omega, by omega, hs, rfl⟩
      · simp (disch := omega) only [go_sem, simprocAttr, he, m2]
        exact ⟨j2 + 1, by rw [← hJ, hst, hq]; rfl, by omega, by omega, hs, rfl⟩
    · simp (disch := omega) only [go_sem, simprocAttr, he, hl1]
      refine ⟨j2, ?_, by omega, by omega, hs, rfl⟩
      rw [← hJ]
      cases j2 with
      | zero => rw [scanDown]
      | succ j2 => rw [scanDown, if_neg (by simp; omega)]

  rintro e h ⟨j1, hj1, hj3, hj4, hs, he⟩
  rw [← hj1] at hpd
  simp (disch := omega) only [go_sem, simprocAttr, he]
  refine cnd_dec (fun hgt => ?_) (fun hle => ?_)
  · rw [if_pos (by omega)] at hpd
    simp (disch := omega) only [go_sem, simprocAttr, he]
    obtain ⟨k1, k2, k3, k4, k5, k6, k7, k8, k9, k10, k11, ⟨ky, y1, y2, y3, y4⟩, hw⟩ := sw_o E hg2 (i := j1) (j := a) (by omega) (by omega)
    simp (disch := omega) only [go_sem, simprocAttr, he, hs.at, k1, k2, k3, k4, k5, k6, k7, k8, k9, k10, k11, y1, y2, y3, y4, hw]
    rw [← hpd]
    exact ⟨rfl, hg2.swp (by omega) (by omega), by rw [Go.Sort.swp_size]; exact hz2, hs.set⟩
  rw [if_neg (by omega)] at hpd
  have m1 : (i1 : Int) + 1 = ((i1 + 1 : Nat) : Int) := by omega
  have m2 : (j1 : Int) - 1 = ((j1 - 1 : Nat) : Int) := by omega
  have hne : i1 ≠ j1 := fun hh => by
    have u := (scanUp_spec (fun x => lt x D[a]!) D B _ A rfl).2.2.2
    have v := (scanDown_spec (fun x => !lt x D[a]!) D i1 B).2.2.2
    rw [← hi1] at u
    rw [← hj1] at v
    have u := u (by omega)
    have v := v (by omega) (by omega)
    rw [← hh] at v
    simp at u v
    rw [u] at v; cases v
  simp (disch := omega) only [go_sem, simprocAttr, he]
  obtain ⟨k1, k2, k3, k4, k5, k6, k7, k8, k9, k10, k11, ⟨ky, y1, y2, y3, y4⟩, hw⟩ := sw_o E hg2 (i := i1) (j := j1) (by omega) (by omega)
  simp (disch := omega) only [go_sem, simprocAttr, he, m1, m2, hs.at, k1, k2, k3, k4, k5, k6, k7, k8, k9, k10, k11, y1, y2, y3, y4, hw]
  have hs := hs.set (o' := .row 1 (swp D i1 j1).toList cap)
  have hg4 := hg2.swp (i := i1) (j := j1) (by omega) (by omega)
  have hz4 : (swp D i1 j1).size = d.size := by rw [Go.Sort.swp_size]; exact hz2
  clear k1 k2 k3 k4 k5 k6 k7 k8 k9 k10 k11 y1 y2 y3 y4 hw
  generalize swp D i1 j1 = D2 at *
  refine blk_join (Q := fun e h => ∃ (j : Nat) (D3 : Array (List AV)), (j, D3) = partLoop lt a (i1 + 1) (j1 - 1) D2 ∧ a ≤ j ∧ j < bb ∧ GA G D3 ∧ D3.size = d.size ∧ sat h (pto b (.row 1 D3.toList cap) :: F) ∧
    (e 0 = .arr b 1 0 d.size cap ∧ e 1 = .int .i64 a ∧ e 11 = .int .i64 j)) ?_ ?_
  · refine run_loopN (fun n e h => ∃ (i j : Nat) (D3 : Array (List AV)), n = j + 1 - i ∧ a < i ∧ i ≤ j + 1 ∧ j < bb ∧ partLoop lt a i j D3 = partLoop lt a (i1 + 1) (j1 - 1) D2 ∧ GA G D3 ∧ D3.size = d.size ∧ sat h (pto b (.row 1 D3.toList cap) :: F) ∧
      (e 0 = .arr b 1 0 d.size cap ∧ e 1 = .int .i64 a ∧ e 10 = .int .i64 i ∧ e 11 = .int .i64 j)) _ ⟨i1 + 1, j1 - 1, _, rfl, by omega, by omega, by omega, rfl, hg4, hz4, hs, ?_⟩ ?_
    · simp only [Env.upd_apply, he, and_self, reduceIte, Nat.reduceEqDiff]
    rintro n e h ⟨i, j, D3, rfl, hai, hij, hjb, hI, hgD, hzD, hs, he⟩
    rw [partLoop_eq] at hI
    simp (disch := omega) only [go_sem, simprocAttr, he]
    refine blk_join (Q := fun e h => ∃ i2 : Nat, i2 = scanUp (fun x => lt x D3[a]!) D3 j i ∧ i ≤ i2 ∧ i2 ≤ j + 1 ∧ sat h (pto b (.row 1 D3.toList cap) :: F) ∧ (e 0 = .arr b 1 0 d.size cap ∧ e 1 = .int .i64 a ∧ e 10 = .int .i64 i2 ∧ e 11 = .int .i64 j)) ?_ ?_
    · refine run_loopN (fun n e h => ∃ i2 : Nat, n = j + 1 - i2 ∧ scanUp (fun x => lt x D3[a]!) D3 j i2 = scanUp (fun x => lt x D3[a]!) D3 j i ∧ i ≤ i2 ∧ i2 ≤ j + 1 ∧ sat h (pto b (.row 1 D3.toList cap) :: F) ∧ (e 0 = .arr b 1 0 d.size cap ∧ e 1 = .int .i64 a ∧ e 10 = .int .i64 i2 ∧ e 11 = .int .i64 j)) _ ⟨i, rfl, rfl, Nat.le_refl _, by omega, hs, ?_⟩ ?_
      · simp only [Env.upd_apply, he, and_self, reduceIte, Nat.reduceEqDiff]
      rintro n e h ⟨i2, rfl, hJ, hj1, hj2, hs, he⟩
      simp (disch := omega) only [go_sem, simprocAttr, he]
      refine cnd_dec (fun hl1 => ?_) (fun hl1 => ?_)
      · have m2 : (i2 : Int) + 1 = ((i2 + 1 : Nat) : Int) := by omega
        have r1 := rd_o E hgD (i := i2) (by omega)
        have r2 := rd_o E hgD (i := a) (by omega)
        simp (disch := omega) only [go_sem, simprocAttr, he, hs.at, r1, r2]
        refine call_use (hc _ _ _ _ (hgD _ (by omega)) (hgD _ (by omega)) hs) ?_
        rintro r h ⟨hr, hs⟩
        subst hr
        simp (disch := omega) only [go_sem, simprocAttr, he, hl1]
        have hst : scanUp (fun x => lt x D3[a]!) D3 j i2 = if (lt D3[i2]! D3[a]!) = true then scanUp (fun x => lt x D3[a]!) D3 j (i2 + 1) else i2 := by
          rw [scanUp.eq_1 _ _ _ i2]
          simp only [show i2 ≤ j from by omega, decide_true, Bool.true_and]
        cases hq : lt D3[i2]! D3[a]!
        · simp (disch := omega) only [go_sem, simprocAttr, he, m2]
          exact ⟨i2, by rw [← hJ, hst, hq]; rfl, by omega, by omega, hs, rfl⟩
        · simp (disch := omega) only [go_sem, simprocAttr, he, m2]
          exact ⟨j + 1 - (i2 + 1), by omega, i2 + 1, rfl, by rw [← hJ, hst, hq]; rfl, by omega, by omega, hs, rfl⟩
      · simp (disch := omega) only [go_sem, simprocAttr, he, hl1]
        exact ⟨i2, by rw [← hJ, scanUp.eq_1 _ _ _ i2, if_neg (by simp; omega)], by omega, by omega, hs, rfl⟩

    rintro e h ⟨i2, hi2, hi3, hi4, hs, he⟩
    rw [← hi2] at hI
    simp (disch := omega) only [go_sem, simprocAttr, he]
    refine blk_join (Q := fun e h => ∃ j2 : Nat, j2 = scanDown (fun x => !lt x D3[a]!) D3 i2 j ∧ j2 ≤ j ∧ i2 ≤ j2 + 1 ∧ sat h (pto b (.row 1 D3.toList cap) :: F) ∧ (e 0 = .arr b 1 0 d.size cap ∧ e 1 = .int .i64 a ∧ e 10 = .int .i64 i2 ∧ e 11 = .int .i64 j2)) ?_ ?_
    · refine run_loopN (fun n e h => ∃ j2 : Nat, n = j2 ∧ scanDown (fun x => !lt x D3[a]!) D3 i2 j2 = scanDown (fun x => !lt x D3[a]!) D3 i2 j ∧ j2 ≤ j ∧ i2 ≤ j2 + 1 ∧ sat h (pto b (.row 1 D3.toList cap) :: F) ∧ (e 0 = .arr b 1 0 d.size cap ∧ e 1 = .int .i64 a ∧ e 10 = .int .i64 i2 ∧ e 11 = .int .i64 j2)) _ ⟨j, rfl, rfl, Nat.le_refl _, by omega, hs, ?_⟩ ?_
      · simp only [Env.upd_apply, he, and_self, reduceIte, Nat.reduceEqDiff]
      rintro j2 e h ⟨_, rfl, hJ, hj1, hj2, hs, he⟩
      simp (disch := omega) only [go_sem, simprocAttr, he]
      refine cnd_dec (fun hl1 => ?_) (fun hl1 => ?_)
      · obtain ⟨j2, rfl⟩ : ∃ q, j2 = q + 1 := ⟨j2 - 1, by omega⟩
        have m2 : ((j2 + 1 : Nat) : Int) - 1 = (j2 : Int) := by omega
        have r1 := rd_o E hgD (i := j2 + 1) (by omega)
        have r2 := rd_o E hgD (i := a) (by omega)
        simp (disch := omega) only [go_sem, simprocAttr, he, hs.at, r1, r2]
        refine call_use (hc _ _ _ _ (hgD _ (by omega)) (hgD _ (by omega)) hs) ?_
        rintro r h ⟨hr, hs⟩
        subst hr
        simp (disch := omega) only [go_sem, simprocAttr, he, hl1]
        have hst : scanDown (fun x => !lt x D3[a]!) D3 i2 (j2 + 1) = if (!lt D3[j2 + 1]! D3[a]!) = true then scanDown (fun x => !lt x D3[a]!) D3 i2 j2 else j2 + 1 := by
          rw [scanDown]
          simp only [show i2 ≤ j2 + 1 from by omega, decide_true, Bool.true_and]
        cases hq : lt D3[j2 + 1]! D3[a]!
        · simp (disch := omega) only [go_sem, simprocAttr, he, m2]
          exact ⟨j2, by omega, j2, rfl, by rw [← hJ, hst, hq]; rfl, by omega, by omega, hs, rfl⟩
        · simp (disch := omega) only [go_sem, simprocAttr, he, m2]
          exact ⟨j2 + 1, by rw [← hJ, hst, hq]; rfl, by omega, by omega, hs, rfl⟩
      · simp (disch := omega) only [go_sem, simprocAttr, he, hl1]
        refine ⟨j2, ?_, by omega, by omega, hs, rfl⟩
        rw [← hJ]
        cases j2 with
        | zero => rw [scanDown]
        | succ j2 => rw [scanDown, if_neg (by simp; omega)]

    rintro e h ⟨j2, hj2, hj3, hj4, hs, he⟩
    rw [← hj2] at hI
    simp (disch := omega) only [go_sem, simprocAttr, he]
    refine cnd_dec (fun hgt => ?_) (fun hle => ?_)
    · rw [if_pos (by omega)] at hI
      simp (disch := omega) only [go_sem, simprocAttr, he]
      exact ⟨j2, D3, hI, by omega, by omega, hgD, hzD, hs, rfl⟩
    · rw [if_neg (by omega)] at hI
      have m1 : (i2 : Int) + 1 = ((i2 + 1 : Nat) : Int) := by omega
      have m2 : (j2 : Int) - 1 = ((j2 - 1 : Nat) : Int) := by omega
      have hne : i2 ≠ j2 := fun hh => by
        have u := (scanUp_spec (fun x => lt x D3[a]!) D3 j _ i rfl).2.2.2
        have v := (scanDown_spec (fun x => !lt x D3[a]!) D3 i2 j).2.2.2
        rw [← hi2] at u
        rw [← hj2] at v
        have u := u (by omega)
        have v := v (by omega) (by omega)
        rw [← hh] at v
        simp at u v
        rw [u] at v; cases v
      simp (disch := omega) only [go_sem, simprocAttr, he]
      obtain ⟨k1, k2, k3, k4, k5, k6, k7, k8, k9, k10, k11, ⟨ky, y1, y2, y3, y4⟩, hw⟩ := sw_o E hgD (i := i2) (j := j2) (by omega) (by omega)
      simp (disch := omega) only [go_sem, simprocAttr, he, m1, m2, hs.at, k1, k2, k3, k4, k5, k6, k7, k8, k9, k10, k11, y1, y2, y3, y4, hw]
      exact ⟨j2 - 1 + 1 - (i2 + 1), by omega, i2 + 1, j2 - 1, _, rfl, by omega, by omega, by omega, hI, hgD.swp (by omega) (by omega), by rw [Go.Sort.swp_size]; exact hzD, hs.set, rfl, rfl⟩
  · rintro e h ⟨j, D3, hI, haj, hjb, hgD, hzD, hs, he⟩
    rw [← hI] at hpd
    simp (disch := omega) only [go_sem, simprocAttr, he]
    obtain ⟨k1, k2, k3, k4, k5, k6, k7, k8, k9, k10, k11, ⟨ky, y1, y2, y3, y4⟩, hw⟩ := sw_o E hgD (i := j) (j := a) (by omega) (by omega)
    simp (disch := omega) only [go_sem, simprocAttr, he, hs.at, k1, k2, k3, k4, k5, k6, k7, k8, k9, k10, k11, y1, y2, y3, y4, hw]
    rw [← hpd]
    exact ⟨rfl, hgD.swp (by omega) (by omega), by rw [Go.Sort.swp_size]; exact hzD, hs.set⟩
end
end Go.Proofs.YtkclojjeepomfaaGreat
/- slices: pdqsort. -/
set_option linter.unusedSimpArgs false
set_option linter.unusedVariables false
set_option maxRecDepth 10000
namespace Go.Proofs.YtkclojjeepomfaaGreat
open Go.Hz Go.Sort

section
variable {h : Hp} {F : List Asr} {G : List AV → Prop} {lt : List AV → List AV → Bool}

theorem pdq_S (hc : LessT Tryz.prog false G lt 103) (E : GoodE 1 false G) (hO : SWO lt) : ∀ (m : Nat) (F : List Asr) (h : Hp) (d : Array (List AV)) (a bb lim b cap : Nat), bb - a ≤ m → sat h (pto b (.row 1 d.toList cap) :: F) → GA G d → a ≤ bb → bb ≤ d.size → d.size ≤ 100000000 → Below lt a bb d → lim ≤ 64 →
    Triple Tryz.prog 90 [.arr b 1 0 d.size cap, .int .i64 a, .int .i64 bb, .int .i64 lim] h (fun r h => ∃ R : Array (List AV), PermIn a bb d R ∧ SortedIn lt a bb R ∧ GA G R ∧ R.size = d.size ∧ sat h (pto b (.row 1 R.toList cap) :: F)) := by
  intro m
  induction m using Nat.strongRecOn with
  | _ m ih =>
  intro F h d a0 b0 lim0 b cap hm hs hg ha hb hsz hB hlim
  refine t90 (Nat.le_of_ble_eq_true rfl) ?_
  simp (disch := omega) only [F90, go_sem, simprocAttr]
  refine run_loopN (fun n e h => ∃ (a bb lim : Nat) (wb wp : Bool) (D : Array (List AV)), n = bb - a ∧ bb - a ≤ b0 - a0 ∧ a ≤ bb ∧ bb ≤ d.size ∧ lim ≤ 64 ∧ Below lt a bb D ∧ GA G D ∧ D.size = d.size ∧
    (∀ R, PermIn a bb D R → SortedIn lt a bb R → PermIn a0 b0 d R ∧ SortedIn lt a0 b0 R) ∧ sat h (pto b (.row 1 D.toList cap) :: F) ∧
    (e 0 = .arr b 1 0 d.size cap ∧ e 1 = .int .i64 a ∧ e 2 = .int .i64 bb ∧ e 3 = .int .i64 lim ∧ e 8 = .bool wb ∧ e 9 = .bool wp)) _ ⟨a0, b0, lim0, true, true, d, rfl, Nat.le_refl _, ha, hb, hlim, hB, hg, rfl, fun R h1 h2 => ⟨h1, h2⟩, hs, rfl, rfl, rfl, rfl, rfl, rfl⟩ ?_
  rintro n e h ⟨a, bb, lim, wb, wp, D, rfl, hl, hab, hbs, hlim, hB, hgD, hzD, hC, hs, he⟩
  have n0 : (bb : Int) - a = ((bb - a : Nat) : Int) := by omega
  simp (disch := omega) only [go_sem, simprocAttr, he, n0]
  refine cnd_dec (fun h12 => ?_) (fun h12 => ?_)
  · simp (disch := omega) only [go_sem, simprocAttr, he]
    refine call_use (by rw [← hzD]; exact ins_S hc E hs hgD hab (by omega) (by omega)) ?_
    rintro r h ⟨hg1, hz1, hs⟩
    obtain ⟨p1, p2⟩ := insertionSort_holds (lt := lt) hO D a bb hab (by omega)
    obtain ⟨c1, c2⟩ := hC _ p1 p2
    simp (disch := omega) only [go_sem, simprocAttr]
    exact ⟨_, c1, c2, hg1, by omega, hs⟩
  have hle : ((lim : Int) == 0) = decide (lim = 0) := by
    by_cases hq : lim = 0
    · subst hq; rfl
    · simp [hq]
  simp (disch := omega) only [go_sem, simprocAttr, he, hle]
  refine cnd_bool (fun h0 => ?_) (fun h0 => ?_)
  · simp (disch := omega) only [go_sem, simprocAttr, he]
    refine call_use (by rw [← hzD]; exact heap_S hc E hs hgD hab (by omega) (by omega)) ?_
    rintro r h ⟨hg1, hz1, hs⟩
    obtain ⟨p1, p2⟩ := heapSort_holds (lt := lt) hO D a bb hab (by omega)
    obtain ⟨c1, c2⟩ := hC _ p1 p2
    simp (disch := omega) only [go_sem, simprocAttr]
    exact ⟨_, c1, c2, hg1, by omega, hs⟩
  have h0 : lim ≠ 0 := by simpa using h0
  simp (disch := omega) only [go_sem, simprocAttr, he]
  refine cnd_join (Q := fun e h => ∃ (D1 : Array (List AV)) (lim1 : Nat), PermIn a bb D D1 ∧ GA G D1 ∧ D1.size = d.size ∧ lim1 ≤ 64 ∧ sat h (pto b (.row 1 D1.toList cap) :: F) ∧
    (e 0 = .arr b 1 0 d.size cap ∧ e 1 = .int .i64 a ∧ e 2 = .int .i64 bb ∧ e 3 = .int .i64 lim1 ∧ e 8 = .bool wb ∧ e 9 = .bool wp ∧ e 10 = .int .i64 (bb - a : Nat))) ?_ ?_
  · cases wb
    · have ml : (lim : Int) - 1 = ((lim - 1 : Nat) : Int) := by omega
      simp (disch := omega) only [go_sem, simprocAttr, he]
      refine call_use (by rw [← hzD]; exact brk_S (cf := .nilp) E hs hgD (by omega) (by omega) (by omega)) ?_
      rintro r h ⟨D1, p1, hg1, hz1, hs⟩
      simp (disch := omega) only [go_sem, simprocAttr, he, ml]
      exact ⟨D1, lim - 1, p1, hg1, by omega, by omega, hs, rfl⟩
    · simp (disch := omega) only [go_sem, simprocAttr, he]
      exact ⟨D, lim, permIn_refl D a bb, hgD, hzD, hlim, hs, rfl⟩
  rintro e h ⟨D1, lim1, hp1, hg1, hz1, hlim1, hs, he⟩
  simp (disch := omega) only [go_sem, simprocAttr, he]
  refine call_use (by rw [← hz1]; exact piv_S hc E hs hg1 (by omega) (by omega) (by omega)) ?_
  rintro r h ⟨u, t, hr, hu1, hu2, ht, hs⟩
  subst hr
  simp (disch := omega) only [go_sem, simprocAttr, he]
  have hte : ((t : Int) == 2) = decide (t = 2) := by
    by_cases hq : t = 2
    · subst hq; rfl
    · simp [hq]; omega
  simp (disch := omega) only [go_sem, simprocAttr, hte]
  refine cnd_join (Q := fun e h => ∃ (D2 : Array (List AV)) (u t : Nat), PermIn a bb D D2 ∧ GA G D2 ∧ D2.size = d.size ∧ a ≤ u ∧ u < bb ∧ sat h (pto b (.row 1 D2.toList cap) :: F) ∧
    (e 0 = .arr b 1 0 d.size cap ∧ e 1 = .int .i64 a ∧ e 2 = .int .i64 bb ∧ e 3 = .int .i64 lim1 ∧ e 8 = .bool wb ∧ e 9 = .bool wp ∧ e 10 = .int .i64 (bb - a : Nat) ∧ e 11 = .int .i64 u ∧ e 12 = .int .i64 t)) ?_ ?_
  · refine cnd_bool (fun ht2 => ?_) (fun ht2 => ?_)
    · have q1 : (bb : Int) - 1 = ((bb - 1 : Nat) : Int) := by omega
      have q2 : (u : Int) - a = ((u - a : Nat) : Int) := by omega
      have q3 : ((bb - 1 : Nat) : Int) - ((u - a : Nat) : Int) = ((bb - 1 - (u - a) : Nat) : Int) := by omega
      simp (disch := omega) only [go_sem, simprocAttr, he]
      refine call_use (by rw [← hz1]; exact rev_S (cf := .nilp) E hs hg1 (by omega) (by omega) (by omega)) ?_
      rintro r h ⟨p2, hg2, hz2, hs⟩
      simp (disch := omega) only [go_sem, simprocAttr, he, q1, q2, q3]
      exact ⟨_, bb - 1 - (u - a), 1, permIn_trans _ _ _ _ _ hp1 p2, hg2, by omega, by omega, by omega, hs, rfl, rfl⟩
    · simp (disch := omega) only [go_sem, simprocAttr, he]
      exact ⟨D1, u, t, hp1, hg1, hz1, by omega, by omega, hs, rfl, rfl⟩
  rintro e h ⟨D2, u, t, hp2, hg2, hz2, hu1, hu2, hs, he⟩
  simp (disch := omega) only [go_sem, simprocAttr, he]
  refine cnd_join (Q := fun e h => ∃ (q : Bool) (v : AV) (w : Bool), (if q = true then v else AV.bool false) = .bool w ∧ sat h (pto b (.row 1 D2.toList cap) :: F) ∧ (e 0 = .arr b 1 0 d.size cap ∧ e 1 = .int .i64 a ∧ e 2 = .int .i64 bb ∧ e 3 = .int .i64 lim1 ∧ e 8 = .bool wb ∧ e 9 = .bool wp ∧ e 10 = .int .i64 (bb - a : Nat) ∧ e 11 = .int .i64 u ∧ e 12 = .int .i64 t ∧ e 62 = .bool q ∧ e 63 = v)) ?_ ?_
  · cases wb
    · simp (disch := omega) only [go_sem, simprocAttr, he]
      exact ⟨_, _, false, rfl, hs, rfl, rfl⟩
    · simp (disch := omega) only [go_sem, simprocAttr, he]
      exact ⟨_, _, wp, rfl, hs, rfl, rfl⟩
  rintro e h ⟨q, v, w, hq, hs, he⟩
  simp (disch := omega) only [go_sem, simprocAttr, he, hq]
  refine cnd_join (Q := fun e h => ∃ (q : Bool) (v : AV) (w : Bool), (if q = true then v else AV.bool false) = .bool w ∧ sat h (pto b (.row 1 D2.toList cap) :: F) ∧ (e 0 = .arr b 1 0 d.size cap ∧ e 1 = .int .i64 a ∧ e 2 = .int .i64 bb ∧ e 3 = .int .i64 lim1 ∧ e 8 = .bool wb ∧ e 9 = .bool wp ∧ e 10 = .int .i64 (bb - a : Nat) ∧ e 11 = .int .i64 u ∧ e 65 = .bool q ∧ e 67 = v)) ?_ ?_
  · cases w
    · simp (disch := omega) only [go_sem, simprocAttr, he]
      exact ⟨_, _, false, rfl, hs, rfl, rfl⟩
    · simp (disch := omega) only [go_sem, simprocAttr, he]
      exact ⟨_, _, _, rfl, hs, rfl, rfl⟩
  rintro e h ⟨q2, v2, w2, hq2, hs, he⟩
  simp (disch := omega) only [go_sem, simprocAttr, he, hq2]
  have hB2 : Below lt a bb D2 := Below.permA permIn_all (by omega) hB hp2
  refine cnd_join (Q := fun e h => ∃ D3 : Array (List AV), PermIn a bb D D3 ∧ GA G D3 ∧ D3.size = d.size ∧ sat h (pto b (.row 1 D3.toList cap) :: F) ∧ (e 0 = .arr b 1 0 d.size cap ∧ e 1 = .int .i64 a ∧ e 2 = .int .i64 bb ∧ e 3 = .int .i64 lim1 ∧ e 8 = .bool wb ∧ e 9 = .bool wp ∧ e 10 = .int .i64 (bb - a : Nat) ∧ e 11 = .int .i64 u)) ?_ ?_
  · cases w2
    · simp (disch := omega) only [go_sem, simprocAttr, he]
      exact ⟨D2, hp2, hg2, hz2, hs⟩
    · simp (disch := omega) only [go_sem, simprocAttr, he]
      refine call_use (by rw [← hz2]; exact par_S hc E hs hg2 (by omega) (by omega) (by omega)) ?_
      rintro r h ⟨hr, hg3, hz3, hs⟩
      subst hr
      obtain ⟨p1, p2⟩ := partialInsertionSort_holds (lt := lt) hO D2 a bb (by omega) (by omega) hB2
      have p3 := permIn_trans _ _ _ _ _ hp2 p1
      simp (disch := omega) only [go_sem, simprocAttr, he]
      refine cnd_bool (fun hd => ?_) (fun hd => ?_)
      · obtain ⟨c1, c2⟩ := hC _ p3 (p2 hd)
        simp (disch := omega) only [go_sem, simprocAttr, he]
        exact ⟨_, c1, c2, hg3, by omega, hs⟩
      · simp (disch := omega) only [go_sem, simprocAttr, he]
        exact ⟨_, p3, hg3, by omega, hs⟩
  rintro e h ⟨D3, hp3, hg3, hz3, hs, he⟩
  simp (disch := omega) only [go_sem, simprocAttr, he]
  refine cnd_join (Q := fun e h => ∃ (q : Bool) (v : AV) (w : Bool), (if q = true then v else AV.bool false) = .bool w ∧ w = (decide (0 < a) && !lt D3[a - 1]! D3[u]!) ∧ sat h (pto b (.row 1 D3.toList cap) :: F) ∧ (e 0 = .arr b 1 0 d.size cap ∧ e 1 = .int .i64 a ∧ e 2 = .int .i64 bb ∧ e 3 = .int .i64 lim1 ∧ e 8 = .bool wb ∧ e 9 = .bool wp ∧ e 10 = .int .i64 (bb - a : Nat) ∧ e 11 = .int .i64 u ∧ e 75 = .bool q ∧ e 86 = v)) ?_ ?_
  · refine cnd_dec (fun ha0 => ?_) (fun ha0 => ?_)
    · have m1 : (a : Int) - 1 = ((a - 1 : Nat) : Int) := by omega
      have r1 := rd_o E hg3 (i := a - 1) (by omega)
      have r2 := rd_o E hg3 (i := u) (by omega)
      simp (disch := omega) only [go_sem, simprocAttr, he, hs.at, r1, r2, m1]
      refine call_use (hc _ _ _ _ (hg3 _ (by omega)) (hg3 _ (by omega)) hs) ?_
      rintro r h ⟨hr, hs⟩
      subst hr
      simp (disch := omega) only [go_sem, simprocAttr, he, ha0]
      exact ⟨_, _, _, rfl, by rw [decide_eq_true (by omega), Bool.true_and], hs, rfl, rfl⟩
    · simp (disch := omega) only [go_sem, simprocAttr, he, ha0]
      exact ⟨_, _, _, rfl, by rw [decide_eq_false (by omega), Bool.false_and], hs, rfl, rfl⟩
  rintro e h ⟨q3, v3, w3, hq3, hw3, hs, he⟩
  simp (disch := omega) only [go_sem, simprocAttr, he, hq3]
  have hB3 : Below lt a bb D3 := Below.permA permIn_all (by omega) hB hp3
  have hC3 : ∀ R, PermIn a bb D3 R → SortedIn lt a bb R → PermIn a0 b0 d R ∧ SortedIn lt a0 b0 R := fun R h1 h2 => hC R (permIn_trans _ _ _ _ _ hp3 h1) h2
  refine cnd_bool (fun hw => ?_) (fun hw => ?_)
  · subst hw
    simp only [Bool.true_eq, Bool.and_eq_true, decide_eq_true_eq, Bool.not_eq_true'] at hw3
    simp (disch := omega) only [go_sem, simprocAttr, he]
    refine call_use (by rw [← hz3]; exact peq_S hc E hs hg3 hu1 hu2 (by omega) (by omega)) ?_
    rintro r h ⟨hr, hg4, hz4, hs⟩
    obtain ⟨mid, d4, hx⟩ : ∃ mid d4, partitionEqual lt D3 a bb u = (mid, d4) := ⟨_, _, rfl⟩
    rw [hx] at hr hg4 hz4 hs
    simp only at hr hg4 hz4 hs
    subst hr
    obtain ⟨e1, e2, e3, e4, e5⟩ := round_eq hO (partitionEqual_holds lt) hw3.1 hu1 hu2 (by omega) hB3 hw3.2 hx
    simp (disch := omega) only [go_sem, simprocAttr, he]
    exact ⟨bb - mid, by omega, mid, bb, lim1, wb, wp, d4, rfl, by omega, by omega, by omega, hlim1, e4, hg4, by omega, fun R h1 h2 => hC3 R (e5 R h1 h2).1 (e5 R h1 h2).2, hs, rfl, rfl, rfl, rfl, rfl⟩
  · simp (disch := omega) only [go_sem, simprocAttr, he]
    refine call_use (by rw [← hz3]; exact prt_S hc E hs hg3 hu1 hu2 (by omega) (by omega)) ?_
    rintro r h ⟨hr, hg4, hz4, hs⟩
    obtain ⟨mid, ap, d4, hx⟩ : ∃ mid ap d4, partition lt D3 a bb u = (mid, ap, d4) := ⟨_, _, _, rfl⟩
    rw [hx] at hr hg4 hz4 hs
    simp only at hr hg4 hz4 hs
    subst hr
    obtain ⟨e1, e2, e3, eL, eR, c1, c2⟩ := round_part hO (partition_holds lt) hu1 hu2 (by omega) hB3 hx
    have q1 : (mid : Int) - a = ((mid - a : Nat) : Int) := by omega
    have q2 : (bb : Int) - mid = ((bb - mid : Nat) : Int) := by omega
    have q3 : (mid : Int) + 1 = ((mid + 1 : Nat) : Int) := by omega
    have q4 : ((bb - a : Nat) : Int).tdiv 8 = (((bb - a) / 8 : Nat) : Int) := by rw [Int.tdiv_eq_ediv_of_nonneg (by omega)]; omega
    simp (disch := omega) only [go_sem, simprocAttr, he, q1, q2, q4]
    refine cnd_dec (fun hlt => ?_) (fun hge => ?_)
    · simp (disch := omega) only [go_sem, simprocAttr, he, q3]
      refine call_use (by rw [← hz3, ← e3]; exact ih (mid - a) (by omega) F _ d4 a mid lim1 b cap (Nat.le_refl _) hs hg4 e1 (by omega) (by omega) eL hlim1) ?_
      rintro r h ⟨R1, p1, s1, hg5, hz5, hs⟩
      obtain ⟨f1, f2⟩ := c1 R1 p1 s1
      simp (disch := omega) only [go_sem, simprocAttr, he, q3]
      exact ⟨bb - (mid + 1), by omega, mid + 1, bb, lim1, _, ap, R1, rfl, by omega, by omega, by omega, hlim1, f1, hg5, by omega, fun R h1 h2 => hC3 R (f2 R h1 h2).1 (f2 R h1 h2).2, hs, rfl, rfl, rfl, rfl, rfl⟩
    · simp (disch := omega) only [go_sem, simprocAttr, he, q3]
      refine call_use (by rw [← hz3, ← e3]; exact ih (bb - (mid + 1)) (by omega) F _ d4 (mid + 1) bb lim1 b cap (Nat.le_refl _) hs hg4 (by omega) (by omega) (by omega) eR hlim1) ?_
      rintro r h ⟨R1, p1, s1, hg5, hz5, hs⟩
      obtain ⟨f1, f2⟩ := c2 R1 p1 s1
      simp (disch := omega) only [go_sem, simprocAttr, he, q3]
      exact ⟨mid - a, by omega, a, mid, lim1, _, ap, R1, rfl, by omega, by omega, by omega, hlim1, f1, hg5, by omega, fun R h1 h2 => hC3 R (f2 R h1 h2).1 (f2 R h1 h2).2, hs, rfl, rfl, rfl, rfl, rfl⟩
end
end Go.Proofs.YtkclojjeepomfaaGreat
/- slices.Sort, slices.Compact of strings. -/
set_option linter.unusedSimpArgs false
set_option linter.unusedVariables false
set_option maxRecDepth 10000
namespace Go.Proofs.YtkclojjeepomfaaGreat
open Go.Hz Go.Sort

def keyS : List AV → Key
  | .str x :: _ => x
  | _ => []
def ltS (a b : List AV) : Bool := ltK (keyS a) (keyS b)
theorem swo_ltS : SWO ltS := ⟨fun x => ltK_irrefl _, fun x y z h1 h2 => ltK_trans h1 h2, fun x y z h1 h2 => by
  cases h : ltS x z with
  | false => rfl
  | true =>
    have := ltK_lt_of_lt_of_ge (a := keyS x) (b := keyS z) (c := keyS y) h h2
    rw [show ltK (keyS x) (keyS y) = ltS x y from rfl, h1] at this; cases this⟩
def GSt (c : List AV) : Prop := ∃ k : Key, c = [.str k]
theorem goodE_st : GoodE 1 false GSt where
  len := by rintro _ ⟨x, rfl⟩; rfl
  atoms := by rintro _ ⟨x, rfl⟩; rfl
  cells := by rintro _ ⟨x, rfl⟩; rfl
  pos := by omega
  one := fun _ => rfl
section
variable {h : Hp} {F : List Asr}
theorem nan_S {a : Key} (hs : sat h F) : Triple Tryz.prog 117 [.str a] h (fun r h => r = .bool false ∧ sat h F) := by
  refine t117 (Nat.le_of_ble_eq_true rfl) ?_
  simp (disch := omega) only [F117, go_sem, simprocAttr]
  exact hs
theorem less_S : LessT Tryz.prog false GSt ltS 103 := by
  rintro _ _ L h ⟨x, rfl⟩ ⟨y, rfl⟩ hs
  show Triple Tryz.prog _ [.str x, .str y] h _
  refine t103 (Nat.le_of_ble_eq_true rfl) ?_
  simp (disch := omega) only [F103, go_sem, simprocAttr]
  refine call_use (nan_S hs) ?_
  rintro r h ⟨hr, hs⟩
  subst hr
  simp (disch := omega) only [go_sem, simprocAttr]
  exact ⟨rfl, hs⟩
theorem insn_S (hs : sat h F) : Triple Tryz.prog 97 [.nils, .int .i64 0, .int .i64 0] h (fun r h => sat h F) := by
  refine t97 (Nat.le_of_ble_eq_true rfl) ?_
  simp (disch := omega) only [F97, go_sem, simprocAttr]
  refine run_loopN (fun n e h => sat h F ∧ (e 1 = .int .i64 0 ∧ e 2 = .int .i64 0 ∧ e 6 = .int .i64 1)) 0 ⟨hs, rfl, rfl, rfl⟩ ?_
  rintro n e h ⟨hs, he⟩
  simp (disch := omega) only [go_sem, simprocAttr, he]
  exact hs
theorem pdqn_S {lim : AV} (hs : sat h F) : Triple Tryz.prog 90 [.nils, .int .i64 0, .int .i64 0, lim] h (fun r h => sat h F) := by
  refine t90 (Nat.le_of_ble_eq_true rfl) ?_
  simp (disch := omega) only [F90, go_sem, simprocAttr]
  refine run_loopN (fun n e h => sat h F ∧ (e 0 = .nils ∧ e 1 = .int .i64 0 ∧ e 2 = .int .i64 0)) 0 ⟨hs, rfl, rfl, rfl⟩ ?_
  rintro n e h ⟨hs, he⟩
  have z0 : decide ((0:Int) - 0 ≤ 12) = true := rfl
  simp (disch := omega) only [go_sem, simprocAttr, he, z0]
  refine call_use (insn_S hs) ?_
  intro r h hs
  simp (disch := omega) only [go_sem, simprocAttr]
  exact hs
theorem ga_strs {l : List Key} : GA GSt (l.map fun k => [AV.str k]).toArray := by
  intro i hi
  have hi : i < l.length := by simpa using hi
  exact ⟨l[i], by simp [hi]⟩
/-- slices.Sort. -/
theorem sort_S {v : AV} {ks : List Key} (hs : sat h (Ow 1 v (ks.map fun k => [.str k]) :: F)) (hz : ks.length ≤ 100000000) : Triple Tryz.prog 71 [v] h (fun r h => ∃ ks' : List Key, ks'.Perm ks ∧ ks'.Pairwise (fun a b => ltK b a = false) ∧ sat h (Ow 1 v (ks'.map fun k => [.str k]) :: F)) := by
  rcases hs.cases with ⟨rfl, hn, h2⟩ | ⟨b, cap, rfl, h2, hle⟩
  · have : ks = [] := by simpa using hn
    subst this
    refine t71 (Nat.le_of_ble_eq_true rfl) ?_
    simp (disch := omega) only [F71, go_sem, simprocAttr]
    refine call_use (len0 (n := 0) h2 (by omega)) ?_
    rintro r h ⟨t, hr, h1, h2, h3, hs⟩
    subst hr
    simp (disch := omega) only [go_sem, simprocAttr]
    refine call_use (pdqn_S hs) ?_
    intro r h hs
    simp (disch := omega) only [go_sem, simprocAttr]
    exact ⟨[], .refl _, .nil, hs.add ow_nil⟩
  · have hsz : (ks.map fun k => [AV.str k]).toArray.size = ks.length := by simp
    have hll : (ks.map fun k => [AV.str k]).length = ks.length := by simp
    rw [hll] at hle ⊢
    have w1 := wu64 (n := ks.length) (by omega)
    refine t71 (Nat.le_of_ble_eq_true rfl) ?_
    simp (disch := omega) only [F71, w1, go_sem, simprocAttr]
    refine call_use (len0 h2 (by omega)) ?_
    rintro r h ⟨t, hr, h1, _, h3, hs⟩
    subst hr
    simp (disch := omega) only [go_sem, simprocAttr]
    have hp := pdq_S less_S goodE_st swo_ltS _ F h (ks.map fun k => [AV.str k]).toArray 0 ks.length t b cap (Nat.le_refl _) (by simpa using hs) ga_strs (Nat.zero_le _) (by simp) (by simp; omega) (.inl rfl) (by omega)
    rw [hsz] at hp
    refine call_use hp ?_
    rintro r h ⟨R, p1, p2, p3, p4, hs⟩
    simp (disch := omega) only [go_sem, simprocAttr]
    have hR : ∃ ks' : List Key, R.toList = ks'.map fun k => [AV.str k] := by
      have : ∀ x ∈ R.toList, GSt x := by
        intro x hx
        obtain ⟨i, hi, rfl⟩ := List.getElem_of_mem hx
        have := p3 i (by simpa using hi)
        simpa [getElem!_pos R i (by simpa using hi)] using this
      generalize R.toList = l at this
      induction l with
      | nil => exact ⟨[], rfl⟩
      | cons x l ih =>
        obtain ⟨l', hl'⟩ := ih fun y hy => this y (List.mem_cons_of_mem _ hy)
        obtain ⟨k, hk⟩ := this x (by simp)
        exact ⟨k :: l', by rw [hl', hk]; rfl⟩
    obtain ⟨ks', hks⟩ := hR
    have q1 : R.toList.Perm (ks.map fun k => [AV.str k]) := by
      have := p1.2.2
      have e1 : R.extract 0 ks.length = R := by rw [show ks.length = R.size from p4.symm]; simp
      have e2 : (ks.map fun k => [AV.str k]).toArray.extract 0 ks.length = (ks.map fun k => [AV.str k]).toArray := by
        simp [List.take_of_length_le]
      rw [e1, e2] at this
      exact this
    have q2 : R.toList.Pairwise (fun a b => ltS b a = false) := by
      rw [List.pairwise_iff_getElem]
      intro i j hi hj hij
      have hj' : j < R.size := by simpa using hj
      have hi' : i < R.size := by simpa using hi
      have := p2 i j (Nat.zero_le _) hij (by rw [← p4]; exact hj')
      simpa [getElem!_pos R i hi', getElem!_pos R j hj'] using this
    rw [hks] at q1 q2 hs
    refine ⟨ks', ?_, ?_, ?_⟩
    · have := q1.map keyS
      simpa [Function.comp_def, keyS] using this
    · rw [List.pairwise_map] at q2
      exact q2
    · have hl5 : ks'.length = ks.length := by have := q1.length_eq; simpa using this
      have := hs.ow (by simp; omega)
      simpa [hl5] using this
/-- Rising: of what stands there, each once. -/
theorem srtS_app {R : List Key} {y x : Key} {k : Nat} (hR : SrtS R) (hk : k + 1 = R.length) (hy : R[k]? = some y) (hx : ltK y x = true) : SrtS (R ++ [x]) := by
  refine List.pairwise_append.2 ⟨hR, List.pairwise_singleton _ _, fun a ha b hb => ?_⟩
  simp at hb; subst hb
  obtain ⟨m, hm, rfl⟩ := List.getElem_of_mem ha
  have hk2 : k < R.length := by omega
  rw [List.getElem?_eq_getElem hk2] at hy
  cases hy
  by_cases hmk : m = k
  · subst hmk; exact hx
  · exact ltK_trans (List.pairwise_iff_getElem.1 hR m k hm hk2 (by omega)) hx
theorem comp_S {v : AV} {ks : List Key} (hs : sat h (Ow 1 v (ks.map fun k => [.str k]) :: F)) (hk : ks.Pairwise fun a b => ltK b a = false) (hz : ks.length ≤ 100000000) : Triple Tryz.prog 72 [v] h (fun r h => ∃ R : List Key, SrtS R ∧ (∀ x, x ∈ R ↔ x ∈ ks) ∧ R.length ≤ ks.length ∧ r = .lst (R.map fun k => [.str k]) ∧ sat h F) := by
  refine Triple.view ?_
  have fin : ∀ {h : Hp}, sat h (Ow 1 v (ks.map fun k => [.str k]) :: F) → SrtS ks → ∃ r' h'', GV v h r' h'' ∧ ∃ R : List Key, SrtS R ∧ (∀ x, x ∈ R ↔ x ∈ ks) ∧ R.length ≤ ks.length ∧ r' = .lst (R.map fun k => [.str k]) ∧ sat h'' F := by
    intro h hs h1
    obtain ⟨h', g, hs'⟩ := hs.view
    exact ⟨_, h', g, ks, h1, fun _ => Iff.rfl, Nat.le_refl _, rfl, hs'⟩
  have hlv := hs.els.len
  rw [List.length_map] at hlv
  refine t72 (Nat.le_of_ble_eq_true rfl) ?_
  simp (disch := omega) only [F72, hlv, go_sem, simprocAttr]
  refine cnd_dec (fun h1 => ?_) (fun h1 => ?_)
  · simp (disch := omega) only [go_sem, simprocAttr]
    refine fin hs ?_
    match ks, h1 with
    | [], _ => exact .nil
    | [k], _ => exact List.pairwise_singleton _ _
    | a :: b :: l, h1 => exact absurd h1 (by simp; omega)
  rcases hs.cases with ⟨_, hn, _⟩ | ⟨b, cap, rfl, h2, hle⟩
  · have : ks = [] := by simpa using hn
    subst this
    exact absurd (show ((([] : List Key).length : Nat) : Int) < 2 by simp) h1
  have hll : (ks.map fun k => [AV.str k]).length = ks.length := by simp
  simp only [hll] at hle fin ⊢
  simp (disch := omega) only [go_sem, simprocAttr]
  refine run_loopN (fun n e h => ∃ i : Nat, n = ks.length - i ∧ 1 ≤ i ∧ i ≤ ks.length ∧ SrtS (ks.take i) ∧ sat h (pto b (.row 1 (ks.map fun k => [.str k]) cap) :: F) ∧ (e 0 = .arr b 1 0 ks.length cap ∧ e 3 = .int .i64 i)) (ks.length - 1) ⟨1, rfl, Nat.le_refl _, by omega, ?_, h2, rfl, rfl⟩ ?_
  · cases ks with
    | nil => exact .nil
    | cons k l => exact List.pairwise_singleton _ _
  clear hs h2
  rintro n e h ⟨i, rfl, hi1, hi2, hsr, hs, he⟩
  have hb := hs.at
  have m1 : (i : Int) + 1 = ((i + 1 : Nat) : Int) := by omega
  have m2 : (i : Int) - 1 = ((i - 1 : Nat) : Int) := by omega
  simp (disch := omega) only [go_sem, simprocAttr, he]
  refine cnd_dec (fun h3 => ?_) (fun h3 => ?_)
  · have hi : i < ks.length := by omega
    have hr1 : (ks.map fun k => [AV.str k])[i]? = some [.str ks[i]] := by simp [hi]
    have hr2 : (ks.map fun k => [AV.str k])[i - 1]? = some [.str (ks[i - 1]'(by omega))] := by rw [List.getElem?_map, List.getElem?_eq_getElem (by omega)]; rfl
    by_cases hq : ks[i] = ks[i - 1]'(by omega)
    · have eq : (ks[i] == ks[i - 1]'(by omega)) = true := by simpa using hq
      simp (disch := omega) only [go_sem, simprocAttr, he, hb, hr1, hr2, m2, Int.toNat_natCast, eq]
      have hsl := slcL_lo (s := 1) (b := b) (off := 0) (len := ks.length) (cap := cap) (k1 := .i64) (x := (i : Int)) (by omega) (by omega) hle
      rw [Int.toNat_natCast, Nat.zero_add] at hsl
      simp (disch := omega) only [go_sem, simprocAttr, hsl]
      refine blk_join (Q := fun e h => ∃ (k : Nat) (es : List Key), es.length = ks.length ∧ k ≤ ks.length ∧ SrtS (es.take k) ∧ (∀ x, x ∈ es.take k ↔ x ∈ ks) ∧ sat h (pto b (.row 1 (es.map fun k => [.str k]) cap) :: F) ∧ (e 0 = .arr b 1 0 ks.length cap ∧ e 3 = .int .i64 k)) ?_ ?_
      · refine run_loopN (fun n e h => ∃ (j k : Nat) (es : List Key), n = ks.length - i - j ∧ 1 ≤ j ∧ i + j ≤ ks.length ∧ es.length = ks.length ∧ 1 ≤ k ∧ k + 1 ≤ i + j ∧ SrtS (es.take k) ∧ (∀ x, x ∈ es.take k ↔ x ∈ ks.take (i + j)) ∧ es[k - 1]? = ks[i + j - 1]? ∧ (∀ m, i + j ≤ m + 1 → es[m]? = ks[m]?) ∧ sat h (pto b (.row 1 (es.map fun k => [.str k]) cap) :: F) ∧
          (e 0 = .arr b 1 0 ks.length cap ∧ e 3 = .int .i64 k ∧ e 4 = .arr b 1 i (ks.length - i) (cap - i) ∧ e 5 = .int .i64 j)) (ks.length - i - 1)
          ⟨1, i, ks, rfl, Nat.le_refl _, by omega, rfl, hi1, Nat.le_refl _, hsr, ?_, ?_, fun m _ => rfl, hs, he.1, he.2, rfl, rfl⟩ ?_
        · intro x
          rw [List.take_succ_eq_append_getElem hi, List.mem_append]
          constructor
          · exact fun h => .inl h
          · rintro (h | h)
            · exact h
            · simp at h; subst h
              rw [hq, List.mem_take_iff_getElem]
              exact ⟨i - 1, by omega, rfl⟩
        · rw [show i + 1 - 1 = i by omega, List.getElem?_eq_getElem (by omega), List.getElem?_eq_getElem hi, hq]
        clear hs he hb
        rintro n e h ⟨j, k, es, rfl, j1, j2, hel, k1, k2, hR, hmem, hlast, hrest, hs, he⟩
        have hb := hs.at
        have mj : (j : Int) + 1 = ((j + 1 : Nat) : Int) := by omega
        have mj2 : (j : Int) - 1 = ((j - 1 : Nat) : Int) := by omega
        have mk : (k : Int) + 1 = ((k + 1 : Nat) : Int) := by omega
        simp (disch := omega) only [go_sem, simprocAttr, he]
        refine cnd_dec (fun h4 => ?_) (fun h4 => ?_)
        · have hij : i + j < ks.length := by omega
          have r1 : (es.map fun k => [AV.str k])[i + j]? = some [.str ks[i + j]] := by rw [List.getElem?_map, hrest _ (by omega), List.getElem?_eq_getElem hij]; rfl
          have r2 : (es.map fun k => [AV.str k])[i + (j - 1)]? = some [.str (ks[i + j - 1]'(by omega))] := by
            rw [List.getElem?_map, hrest _ (by omega), show i + (j - 1) = i + j - 1 by omega, List.getElem?_eq_getElem (by omega)]; rfl
          have hkk : k < es.length := by omega
          have rk : (es.map fun k => [AV.str k])[k]? = some [.str es[k]] := by rw [List.getElem?_map, List.getElem?_eq_getElem hkk]; rfl
          have tk : ks.take (i + (j + 1)) = ks.take (i + j) ++ [ks[i + j]] := List.take_succ_eq_append_getElem hij
          by_cases hq2 : ks[i + j] = ks[i + j - 1]'(by omega)
          · have eq2 : (ks[i + j] != ks[i + j - 1]'(by omega)) = false := by simpa using hq2
            simp (disch := omega) only [go_sem, simprocAttr, he, hb, r1, r2, mj2, Int.toNat_natCast, eq2, mj]
            refine ⟨ks.length - i - (j + 1), by omega, j + 1, k, es, rfl, by omega, by omega, hel, k1, by omega, hR, ?_, ?_, fun m hm => hrest m (by omega), hs, rfl, rfl⟩
            · intro x
              rw [tk, List.mem_append, ← hmem]
              constructor
              · exact fun h => .inl h
              · rintro (h | h)
                · exact h
                · simp at h; subst h
                  rw [hq2, hmem, List.mem_take_iff_getElem]
                  exact ⟨i + j - 1, by omega, rfl⟩
            · rw [hlast, show i + (j + 1) - 1 = i + j by omega, List.getElem?_eq_getElem (by omega), List.getElem?_eq_getElem hij, hq2]
          · have eq2 : (ks[i + j] != ks[i + j - 1]'(by omega)) = true := by simpa using hq2
            simp (disch := omega) only [go_sem, simprocAttr, he, hb, r1, r2, rk, mj2, Int.toNat_natCast, eq2, mj, mk]
            have hlt : ltK (ks[i + j - 1]'(by omega)) ks[i + j] = true := by
              have hnd := List.pairwise_iff_getElem.1 hk (i + j - 1) (i + j) (by omega) hij (by omega)
              cases hl : ltK (ks[i + j - 1]'(by omega)) ks[i + j] with
              | true => rfl
              | false => exact absurd (ltK_total hnd hl) hq2
            have hst : (es.set k ks[i + j]).take (k + 1) = es.take k ++ [ks[i + j]] := by
              rw [List.take_succ_eq_append_getElem (by simpa using hkk), List.take_set_of_le (Nat.le_refl _), List.getElem_set_self]
            refine ⟨ks.length - i - (j + 1), by omega, j + 1, k + 1, es.set k ks[i + j], rfl, by omega, by omega, by simpa using hel, by omega, by omega, ?_, ?_, ?_, ?_, ?_, rfl, rfl⟩
            · rw [hst]
              refine srtS_app (k := k - 1) (y := ks[i + j - 1]'(by omega)) hR (by rw [List.length_take]; omega) ?_ hlt
              rw [List.getElem?_take, if_pos (by omega), hlast, List.getElem?_eq_getElem (by omega)]
            · intro x
              rw [hst, tk, List.mem_append, List.mem_append, hmem]
            · rw [show k + 1 - 1 = k by omega, List.getElem?_set_self hkk, show i + (j + 1) - 1 = i + j by omega, List.getElem?_eq_getElem hij]
            · intro m hm
              rw [List.getElem?_set_ne (by omega)]
              exact hrest m (by omega)
            · have := hs.set (o' := .row 1 ((es.set k ks[i + j]).map fun k => [.str k]) cap)
              simpa [List.map_set] using this
        · have hij : i + j = ks.length := by omega
          rw [hij, List.take_length] at hmem
          simp (disch := omega) only [go_sem, simprocAttr, he]
          exact ⟨k, es, hel, by omega, hR, hmem, hs, rfl⟩
      clear hs he hb
      rintro e h ⟨k, es, hel, hkl, hR, hmem, hs, he⟩
      have hsl := slcL_lo (s := 1) (b := b) (off := 0) (len := ks.length) (cap := cap) (k1 := .i64) (x := (k : Int)) (by omega) (by omega) hle
      have hsh := slcL_hi (s := 1) (b := b) (off := 0) (len := ks.length) (cap := cap) (k2 := .i64) (y := (k : Int)) (by omega) (by omega) hle
      rw [Int.toNat_natCast] at hsl hsh
      simp (disch := omega) only [go_sem, simprocAttr, he, hsl]
      refine clr_use hs (by simp; omega) (by omega) fun h hs => ?_
      simp (disch := omega) only [go_sem, simprocAttr, he, hsh]
      have ht : ((List.take k (es.map fun k => [AV.str k]) ++ List.replicate (ks.length - k) [AV.str []] ++ List.drop (k + (ks.length - k)) (es.map fun k => [AV.str k])).take k) = (es.take k).map fun k => [AV.str k] := by
        rw [List.append_assoc, List.take_append_of_le_length (by simp; omega), List.take_take, Nat.min_self, List.map_take]
      have hs3 := hs.set (o' := .row 1 ((es.take k).map fun k => [AV.str k]) cap)
      have g1 := GV.trim (.arr b 1 0 k cap) k hs.at
      rw [ht] at g1
      refine ⟨_, _, g1.trans (GV.arr hs3.at (by simp; omega) (by omega)), es.take k, hR, hmem, by rw [List.length_take]; omega, rfl, hs3.del⟩
    · have eq : (ks[i] == ks[i - 1]'(by omega)) = false := by simpa using hq
      simp (disch := omega) only [go_sem, simprocAttr, he, hb, hr1, hr2, m2, Int.toNat_natCast, eq, m1]
      refine ⟨ks.length - (i + 1), by omega, i + 1, rfl, by omega, by omega, ?_, hs, rfl⟩
      have hlt : ltK (ks[i - 1]'(by omega)) ks[i] = true := by
        have hnd := List.pairwise_iff_getElem.1 hk (i - 1) i (by omega) hi (by omega)
        cases hl : ltK (ks[i - 1]'(by omega)) ks[i] with
        | true => rfl
        | false => exact absurd (ltK_total hnd hl) hq
      rw [List.take_succ_eq_append_getElem hi]
      refine srtS_app (k := i - 1) (y := ks[i - 1]'(by omega)) hsr (by rw [List.length_take]; omega) ?_ hlt
      rw [List.getElem?_take, if_pos (by omega), List.getElem?_eq_getElem (by omega)]
  · have hi : i = ks.length := by omega
    subst hi
    rw [List.take_length] at hsr
    simp (disch := omega) only [go_sem, simprocAttr, he]
    have := hs.ow (by simpa using hle)
    rw [hll] at this
    exact fin this hsr
end
end Go.Proofs.YtkclojjeepomfaaGreat
/- The store: the keys that a write sees. -/
set_option linter.unusedSimpArgs false
set_option linter.unusedVariables false
set_option maxRecDepth 10000
namespace Go.Proofs.YtkclojjeepomfaaGreat
open Go.Hz

section
variable {h : Hp} {F : List Asr} {s w : Nat} {A : Sto} {o : AV} {W : Wr}
def kvKey (e : AV × AV × Nat) : Key := match e.1 with | .str k => k | _ => []
/-- The keys of a range that there were ever, or that are changed. -/
def WKeys (A : Sto) (W : Wr) (lo hi : Key) (ks : List Key) : Prop := SrtS ks ∧ ks.length ≤ A.old.length + A.chs.length + W.l.length + 1 ∧ if hi = [] then ks = [lo] else ∀ k, k ∈ ks ↔ (A.vers k ≠ [] ∨ wChg W k = true) ∧ inR lo hi k = true

theorem mvWKeys {lo hi : Key} (hs : sat h (WtP w s A W :: StP s A o :: F)) (hz : A.old.length + A.chs.length + W.l.length ≤ 90000000) : Triple Tryz.prog 37 [.ptr w 4 0 0, .str lo, .str hi] h (fun r h => ∃ ks, WKeys A W lo hi ks ∧ r = strsV ks ∧ sat h (WtP w s A W :: StP s A o :: F)) := by
  obtain ⟨lv, bm, hw, hs1⟩ := wrP.1 hs
  have hp := hs1.at
  refine t37 (Nat.le_of_ble_eq_true rfl) ?_
  simp (disch := omega) only [F37, hp, go_sem, simprocAttr]
  refine call_use (mvKeys (lo := lo) (hi := hi) hs1.p2.p2.p2.p3 (by omega)) ?_
  rintro v h ⟨ks0, hk, hs⟩
  have tail : ∀ {h : Hp} {v : AV} {ks1 : List Key} {F' : List Asr}, True := trivial
  by_cases hh : hi = []
  · subst hh
    have e0 : (([] : List UInt8) != []) = false := rfl
    have hk0 := hk.2.2
    rw [if_pos rfl] at hk0
    subst hk0
    simp (disch := omega) only [go_sem, simprocAttr, e0]
    refine call_use (sort_S hs (by simp)) ?_
    rintro r h ⟨ks', p1, p2, hs⟩
    simp (disch := omega) only [go_sem, simprocAttr]
    refine call_use (comp_S hs p2 (by rw [p1.length_eq]; simp)) ?_
    rintro r h ⟨R, r1, r2, r3, hr, hs⟩
    subst hr
    simp (disch := omega) only [go_sem, simprocAttr]
    refine ⟨R, ⟨r1, by have := p1.length_eq; simp at this; omega, ?_⟩, rfl, wrP.2 ⟨lv, bm, hw, hs.p3.p3.p3⟩⟩
    rw [if_pos rfl]
    refine srts_ext r1 (List.pairwise_singleton _ _) fun x => ?_
    rw [r2, p1.mem_iff]
  · have e0 : (hi != []) = true := by simpa using hh
    have hk0 := hk.2.2
    rw [if_neg hh] at hk0
    obtain ⟨pl, c, ⟨q1, q2, q3⟩, hs⟩ := mpA.1 hs.p3.p3.p3.p3.p4
    have hp := hs.p3.at
    simp (disch := omega) only [go_sem, simprocAttr, e0, hp]
    refine rng_use hs fun q h hs => ?_
    simp (disch := omega) only [go_sem, simprocAttr]
    generalize hkvs : kvOf (fun k : Key => AV.str k) Ch.key (chV tp td) pl = kvs at hs
    have hx0 : ∀ x ∈ kvs, ∃ p ∈ pl, x = (.str p.1.key, chV tp td p.1, p.2) := by
      intro x hx
      rw [← hkvs] at hx
      obtain ⟨p, hp, rfl⟩ := List.mem_map.1 hx
      exact ⟨p, hp, rfl⟩
    have hlenK : kvs.length = W.l.length := by rw [← hkvs, kvOf, List.length_map, ← q1.length_eq, List.length_map]
    have hc : ∀ x ∈ kvs, x.2.2 < c := fun x hx => by obtain ⟨p, hp, rfl⟩ := hx0 x hx; exact q3 p hp
    have hn : (kvs.map (·.2.2)).Nodup := by rw [← hkvs]; simpa [kvOf, Function.comp_def] using q2
    refine blk_join (Q := fun e h => ∃ (v : AV) (ex : List Key), ex.Perm (W.l.map Ch.key) ∧ sat h (Ow 1 v ((ks0 ++ ex.filter (inR lo hi)).map fun k => [.str k]) :: WtP w s A W :: StP s A o :: F) ∧ (e 7 = v)) ?_ ?_
    · refine run_loopN (fun k e h => ∃ es rest, k = rest.length ∧ (es ++ rest).Perm kvs ∧ sat h (pto q (.itr (some bm) c (es.map (·.2.2)) c) :: pto bm (.mp kvs c) :: Ow 1 (e 7) ((ks0 ++ (es.map kvKey).filter (inR lo hi)).map fun k => [.str k]) :: StP s A o :: pto w (.row 4 [[.ptr s 7 0 0, lv, .map bm, .int .i64 W.cur.length]] 1) :: Ow 1 lv (W.l.map fun c => [chV tp td c]) :: F) ∧
        (e 1 = .str lo ∧ e 2 = .str hi ∧ e 22 = .ptr q 1 0 0)) kvs.length ⟨[], kvs, rfl, .refl _, by simpa [Env.upd_apply] using hs, rfl, rfl, rfl⟩ ?_
      clear hs hp
      rintro k e h ⟨es, rest, rfl, hpm, hs, he⟩
      simp (disch := omega) only [go_sem, simprocAttr, he]
      refine nxt_use hs (Nat.le_refl _) hc (fun x hx hns h hs => ?_) (fun hall => ?_)
      · obtain ⟨p, hp, rfl⟩ := hx0 x hx
        obtain ⟨rest', r1, r2⟩ := rng_step hpm hx hns
        have hen := ent_at hs hx hn
        have hel : es.length ≤ kvs.length := by have := r1.length_eq; simp at this; omega
        simp (disch := omega) only [go_sem, simprocAttr, he]
        rw [hen]
        simp (disch := omega) only [go_sem, simprocAttr, he]
        have hsnoc : ((es ++ [((AV.str p.1.key, chV tp td p.1, p.2) : AV × AV × Nat)]).map kvKey).filter (inR lo hi) = (es.map kvKey).filter (inR lo hi) ++ [p.1.key].filter (inR lo hi) := by
          rw [List.map_append, List.filter_append]; rfl
        have hfl : ((es.map kvKey).filter (inR lo hi)).length ≤ kvs.length := Nat.le_trans (List.length_filter_le _ _) (by simpa using hel)
        have hk1 := hk.2.1
        cases b1 : Op.bytesLess p.1.key lo with
        | true =>
          have hin : inR lo hi p.1.key = false := by show (!(Op.bytesLess p.1.key lo) && _) = false; rw [b1]; rfl
          simp (disch := omega) only [go_sem, simprocAttr, he, b1]
          refine ⟨rest'.length, by omega, es ++ [(AV.str p.1.key, chV tp td p.1, p.2)], rest', rfl, r1, ?_⟩
          rw [hsnoc, List.filter_cons_of_neg (by simp [hin]), List.filter_nil, List.append_nil]
          simpa using hs
        | false =>
          cases b2 : Op.bytesLess p.1.key hi with
          | false =>
            have hin : inR lo hi p.1.key = false := by show (!(Op.bytesLess p.1.key lo) && (hi == [] || Op.bytesLess p.1.key hi)) = false; rw [b1, b2]; simpa using hh
            simp (disch := omega) only [go_sem, simprocAttr, he, b1, b2]
            refine ⟨rest'.length, by omega, es ++ [(AV.str p.1.key, chV tp td p.1, p.2)], rest', rfl, r1, ?_⟩
            rw [hsnoc, List.filter_cons_of_neg (by simp [hin]), List.filter_nil, List.append_nil]
            simpa using hs
          | true =>
            have hin : inR lo hi p.1.key = true := by show (!(Op.bytesLess p.1.key lo) && (hi == [] || Op.bytesLess p.1.key hi)) = true; rw [b1, b2]; simp
            simp (disch := omega) only [go_sem, simprocAttr, he, b1, b2]
            refine new_opq hs fun a h hs => ?_
            simp (disch := omega) only [go_sem, simprocAttr]
            refine app_sat hs.p3 (src_one hs.at) (atoms_one (by simp [AV.isAtom])) (by simp only [List.length_map, List.length_append, List.length_cons, List.length_nil]; omega) fun v' h hs ca aa => ?_
            simp (disch := omega) only [go_sem, simprocAttr, he]
            refine ⟨rest'.length, by omega, es ++ [(AV.str p.1.key, chV tp td p.1, p.2)], rest', rfl, r1, ?_⟩
            rw [hsnoc, List.filter_cons_of_pos hin, List.filter_nil]
            simpa using hs.p1.drop.p5.p5.p5.p3.p5.p5
      · have r1 := rng_end hpm hn hall
        simp (disch := omega) only [go_sem, simprocAttr]
        refine ⟨e 7, es.map kvKey, ?_, ?_⟩
        · refine (r1.map kvKey).trans ?_
          rw [← hkvs]
          have := q1.map Ch.key
          simpa [kvOf, Function.comp_def, kvKey] using this
        · have hs6 := hs.drop.p4.p4.p4.p4.p4
          rw [← hkvs] at hs6
          have hm : sat h (MpA (fun k : Key => AV.str k) Ch.key (chV tp td) bm W.l :: _) := mpA.2 ⟨pl, c, ⟨q1, q2, q3⟩, hs6⟩
          have hm2 := hm.p2.p2.p2.p4.p4
          have hm3 : sat h (WtP w s A W :: Ow 1 (e 7) ((ks0 ++ (es.map kvKey).filter (inR lo hi)).map fun k => [.str k]) :: StP s A o :: F) := wrP.2 ⟨lv, bm, hw, hm2⟩
          exact ⟨hm3.p1, rfl⟩
    clear hs hp
    rintro e h ⟨v, ex, hex, hs, he⟩
    have hk1 := hk.2.1
    have hexl : (ex.filter (inR lo hi)).length ≤ W.l.length := by
      have := hex.length_eq
      rw [List.length_map] at this
      exact this ▸ List.length_filter_le _ _
    simp (disch := omega) only [go_sem, simprocAttr, he]
    refine call_use (sort_S hs (by rw [List.length_append]; omega)) ?_
    rintro r h ⟨ks', p1, p2, hs⟩
    simp (disch := omega) only [go_sem, simprocAttr, he]
    have hpl := p1.length_eq
    rw [List.length_append] at hpl
    refine call_use (comp_S hs p2 (by omega)) ?_
    rintro r h ⟨R, r1, r2, r3, hr, hs⟩
    subst hr
    simp (disch := omega) only [go_sem, simprocAttr]
    refine ⟨R, ⟨r1, by omega, ?_⟩, rfl, hs⟩
    rw [if_neg hh]
    intro k
    rw [r2, p1.mem_iff, List.mem_append, hk0, List.mem_filter, hex.mem_iff]
    have hch : k ∈ W.l.map Ch.key ↔ wChg W k = true := by
      rw [List.mem_map, wChg, List.any_eq_true]
      simp
    rw [hch]
    constructor
    · rintro (⟨h1, h2⟩ | ⟨h1, h2⟩)
      · exact ⟨.inl h1, h2⟩
      · exact ⟨.inr h1, h2⟩
    · rintro ⟨h1 | h1, h2⟩
      · exact .inl ⟨h1, h2⟩
      · exact .inr ⟨h1, h2⟩
end
end Go.Proofs.YtkclojjeepomfaaGreat
/- The store: a change is taken in; a write is done. -/
set_option linter.unusedSimpArgs false
set_option linter.unusedVariables false
set_option maxRecDepth 10000
namespace Go.Proofs.YtkclojjeepomfaaGreat
open Go.Hz

section
variable {h : Hp} {F : List Asr} {s w : Nat} {A : Sto} {o : AV} {W : Wr} {n : Int}
theorem mvNoteG {v : Ver} (hs : sat h (MvN tp td s n A o :: F)) (hvr : inI v.rev) (hz : A.old.length + A.chs.length ≤ 90000000) : Triple Tryz.prog 39 [.ptr s 7 0 0, .agg (verC tp td v)] h (fun r h => ∃ ix vm cv L X, (StoOK (A.snoc v) → StoOK (A.snoc v) ∧ IxOK (A.snoc v) L ∧ VmOK (A.snoc v) X) ∧ sat h (MvLn tp td s ix vm cv o n (A.snoc v) L X ++ F)) := by
  obtain ⟨ix, vm, cv, L, X, hok, hs2⟩ := mvN.1 hs
  have hix := fun ok' : StoOK (A.snoc v) => ix_snoc ok' hok.2.1
  have ca := chV_atom (tp := tp) (td := td) v.c
  have cc := chV_cells (tp := tp) (td := td) v.c
  have e1 : (A.snoc v).rev = A.rev := rfl
  have e2 : (A.snoc v).past = A.past := rfl
  obtain ⟨kv, hta⟩ : ∃ kv : Kv, taA tp true (.agg [.str [], .str [], .int .i64 0, .int .i64 0, .int .i64 0, .int .i64 0]) (chV tp td v.c) = some (.tup [.agg (kvC kv), .bool v.c.kv.isSome]) := by
    cases v.c with
    | put kv => exact ⟨kv, rfl⟩
    | del k => exact ⟨kv0, rfl⟩
  have hta2 : taA 89 true (.agg [.str [], .str [], .int .i64 0, .int .i64 0, .int .i64 0, .int .i64 0]) (chV tp td v.c) = some (.tup [.agg (kvC kv), .bool v.c.kv.isSome]) := hta
  refine t39 (Nat.le_of_ble_eq_true rfl) ?_
  simp (disch := omega) only [F39, verC, ca, go_sem, simprocAttr]
  refine new_opq hs2 fun a h hs => ?_
  have ha := hs.at
  simp (disch := omega) only [go_sem, simprocAttr, ha, hta2, verC]
  refine new_opq hs fun b h hs => ?_
  have hb := hs.at
  have hs3 := hs.set (o' := .row 6 [kvC kv] 1)
  have ha := hs3.p1.at
  have hp := hs3.p2.at
  simp only [kvC, verC] at hs3 ha hp
  simp (disch := omega) only [go_sem, simprocAttr, hb, kvC, ha, hp]
  generalize Hp.set h b _ = h3 at hs3 ha hp ⊢
  refine inv_key hs3 v.c fun h hs => ?_
  have ha := hs.p1.at
  have hp := hs.p2.at
  simp (disch := omega) only [go_sem, simprocAttr, ha, hp]
  have hb1 : (!v.c.kv.isSome) = (mkV v).2 := by show _ = v.c.kv.isNone; cases v.c.kv <;> rfl
  rw [hb1]
  have hs4 : sat h (IxP ix L :: pto b (.row 6 [[.str kv.key, .str kv.val, .int .i64 kv.create, .int .i64 kv.mod, .int .i64 kv.ver, .int .i64 kv.lease]] 1) :: pto a (.row 2 [[.int .i64 v.rev, chV tp td v.c]] 1) :: pto s (.row 7 [[.int .i64 A.rev, .int .i64 A.past, .int .i64 n, .ptr ix 2 0 0, .map vm, cv, o]] 1) :: Ow 2 cv (A.chs.map (verC tp td)) :: MpA (fun k : Key => AV.str k) Vn.key Vn.v vm X :: (X.map (VnP tp td) ++ F)) := hs.p3
  have hLn := ix_num hok.2.1
  have hLl := ix_len hok.2.1
  refine call_use (ixPut (key := v.c.key) (m := mkV v) hs4 hok.2.1.1 (fun x hx => by have := hLl x hx; omega) (by omega) hvr) ?_
  rintro r h ⟨hr', hs⟩
  subst hr'
  have ha := hs.p2.at
  have hp := hs.p3.at
  simp (disch := omega) only [go_sem, simprocAttr, ha, hp]
  refine inv_key hs v.c fun h hs => ?_
  have ha := hs.p2.at
  have hp := hs.p3.at
  simp (disch := omega) only [go_sem, simprocAttr, ha, hp]
  refine inv_key hs v.c fun h hs => ?_
  have ha := hs.p2.at
  have hp := hs.p3.at
  by_cases hx : ∃ x ∈ X, x.key = v.c.key
  · obtain ⟨x, hx, hxk⟩ := hx
    have hl := lk_hit keyOK_str hs.p5 hok.2.2.1 hx (ok := false) (z := .nils)
    simp only [Bool.false_eq_true, if_false] at hl
    rw [hxk] at hl
    simp (disch := omega) only [go_sem, simprocAttr, ha, hp, hl, ca]
    refine new_opq hs fun n2 h hs => ?_
    obtain ⟨l1, l2, rfl⟩ := List.append_of_mem hx
    have hs5 : sat h ((pto n2 (.row 2 [[.int .i64 v.rev, chV tp td v.c]] 1) :: IxP ix (putL L v.c.key (mkV v)) :: pto b (.row 6 [[.str kv.key, .str kv.val, .int .i64 kv.create, .int .i64 kv.mod, .int .i64 kv.ver, .int .i64 kv.lease]] 1) :: pto a (.row 2 [[.int .i64 v.rev, chV tp td v.c]] 1) :: pto s (.row 7 [[.int .i64 A.rev, .int .i64 A.past, .int .i64 n, .ptr ix 2 0 0, .map vm, cv, o]] 1) :: Ow 2 cv (A.chs.map (verC tp td)) :: MpA (fun k : Key => AV.str k) Vn.key Vn.v vm (l1 ++ x :: l2) :: l1.map (VnP tp td)) ++ VnP tp td x :: (l2.map (VnP tp td) ++ F)) := by simpa using hs
    have hs6 : sat h (VnP tp td x :: pto n2 (.row 2 [[.int .i64 v.rev, chV tp td v.c]] 1) :: IxP ix (putL L v.c.key (mkV v)) :: pto b (.row 6 [[.str kv.key, .str kv.val, .int .i64 kv.create, .int .i64 kv.mod, .int .i64 kv.ver, .int .i64 kv.lease]] 1) :: pto a (.row 2 [[.int .i64 v.rev, chV tp td v.c]] 1) :: pto s (.row 7 [[.int .i64 A.rev, .int .i64 A.past, .int .i64 n, .ptr ix 2 0 0, .map vm, cv, o]] 1) :: Ow 2 cv (A.chs.map (verC tp td)) :: MpA (fun k : Key => AV.str k) Vn.key Vn.v vm (l1 ++ x :: l2) :: (l1.map (VnP tp td) ++ (l2.map (VnP tp td) ++ F))) := hs5.mid
    have hxv := (hok.2.2.2.1 x (by simp)).1
    have hxl := vers_le (A := A) x.key
    rw [← hxv] at hxl
    simp (disch := omega) only [go_sem, simprocAttr]
    refine app_satO (s := 2) hs6 (src_one hs6.p1.at) (atoms_one (by simp only [List.all_cons, List.all_nil, atom_int, ca, Bool.and_self])) (by simp; omega) fun v' h hs ca' aa => ?_
    have hp := hs.p5.at
    simp (disch := omega) only [go_sem, simprocAttr, hp, ca', aa]
    rw [← hxk]
    refine mup_set keyOK_str hs.p7 hok.2.2.1 (x := x) (y := (⟨x.key, v', x.vs ++ [v]⟩ : Vn)) (by simp) rfl fun h hs => ?_
    have hX' : ((l1 ++ x :: l2).map fun z => if z.key = x.key then (⟨x.key, v', x.vs ++ [v]⟩ : Vn) else z) = l1 ++ ⟨x.key, v', x.vs ++ [v]⟩ :: l2 := by
      have hnd := hok.2.2.1
      rw [List.map_append, List.map_cons, List.nodup_append, List.nodup_cons] at hnd
      rw [List.map_append, List.map_cons, if_pos rfl]
      congr 1
      · exact (List.map_congr_left fun z hz => if_neg fun e : z.key = x.key => hnd.2.2 _ (List.mem_map_of_mem hz) _ (by simp) e).trans (List.map_id _)
      · congr 1
        exact (List.map_congr_left fun z hz => if_neg fun e : z.key = x.key => hnd.2.1.1 (e ▸ List.mem_map_of_mem hz)).trans (List.map_id _)
    rw [hX'] at hs
    have ha := hs.p5.at
    have hp := hs.p6.at
    simp (disch := omega) only [go_sem, simprocAttr, ha, hp, ca]
    refine new_opq hs fun n3 h hs => ?_
    simp (disch := omega) only [go_sem, simprocAttr]
    refine app_sat hs.p8 (src_one hs.at) (atoms_one (by simp only [List.all_cons, List.all_nil, atom_int, ca, Bool.and_self])) (by simp; omega) fun cv' h hs ca2 aa2 => ?_
    have hp := hs.p8.at
    simp (disch := omega) only [go_sem, simprocAttr, hp, ca2, aa2]
    refine ⟨ix, vm, cv', putL L v.c.key (mkV v), l1 ++ ⟨x.key, v', x.vs ++ [v]⟩ :: l2, fun ok' => ⟨ok', hix ok', vmOK_old hok.2.2 hxk⟩, ?_⟩
    have hs7 := hs.p8.set (o' := .row 7 [[.int .i64 A.rev, .int .i64 A.past, .int .i64 n, .ptr ix 2 0 0, .map vm, cv', o]] 1)
    have t1 : (A.snoc v).chs.map (verC tp td) = A.chs.map (verC tp td) ++ [[.int .i64 v.rev, chV tp td v.c]] := by simp [Sto.snoc, verC]
    rw [← t1] at hs7
    have t2 : VnP tp td ⟨x.key, v', x.vs ++ [v]⟩ = Ow 2 v' (x.vs.map (verC tp td) ++ [[.int .i64 v.rev, chV tp td v.c]]) := by simp [VnP, verC]
    rw [← t2] at hs7
    have hs8 := hs7.p2.drop.p4.drop.p5.drop.p5.drop.p2.p2.p4.p3.p4
    have hs9 := sat.unmid (l1 := [pto s (.row 7 [[.int .i64 A.rev, .int .i64 A.past, .int .i64 n, .ptr ix 2 0 0, .map vm, cv', o]] 1), IxP ix (putL L v.c.key (mkV v)), Ow 2 cv' ((A.snoc v).chs.map (verC tp td)), MpA (fun k : Key => AV.str k) Vn.key Vn.v vm (l1 ++ ⟨x.key, v', x.vs ++ [v]⟩ :: l2)] ++ l1.map (VnP tp td)) (l2 := l2.map (VnP tp td) ++ F) hs8
    simpa [MvLn, e1, e2] using hs9
  · have hl := lk_miss keyOK_str hs.p5 (q := v.c.key) (fun x h1 h2 => hx ⟨x, h1, h2⟩) (ok := false) (z := .nils)
    simp only [Bool.false_eq_true, if_false] at hl
    simp (disch := omega) only [go_sem, simprocAttr, ha, hp, hl, ca]
    refine new_opq hs fun n2 h hs => ?_
    simp (disch := omega) only [go_sem, simprocAttr]
    have hs6 : sat h (Ow 2 .nils [] :: pto n2 (.row 2 [[.int .i64 v.rev, chV tp td v.c]] 1) :: _) := hs.add ow_nil
    refine app_satO (s := 2) hs6 (src_one hs6.p1.at) (atoms_one (by simp only [List.all_cons, List.all_nil, atom_int, ca, Bool.and_self])) (by simp) fun v' h hs ca' aa => ?_
    have hp := hs.p5.at
    simp (disch := omega) only [go_sem, simprocAttr, hp, ca', aa]
    refine mup_new keyOK_str hs.p7 (y := (⟨v.c.key, v', [v]⟩ : Vn)) (fun x h1 h2 => hx ⟨x, h1, h2⟩) fun h hs => ?_
    have ha := hs.p5.at
    have hp := hs.p6.at
    simp (disch := omega) only [go_sem, simprocAttr, ha, hp, ca]
    refine new_opq hs fun n3 h hs => ?_
    simp (disch := omega) only [go_sem, simprocAttr]
    refine app_sat hs.p8 (src_one hs.at) (atoms_one (by simp only [List.all_cons, List.all_nil, atom_int, ca, Bool.and_self])) (by simp; omega) fun cv' h hs ca2 aa2 => ?_
    have hp := hs.p8.at
    simp (disch := omega) only [go_sem, simprocAttr, hp, ca2, aa2]
    refine ⟨ix, vm, cv', putL L v.c.key (mkV v), X ++ [⟨v.c.key, v', [v]⟩], fun ok' => ⟨ok', hix ok', vmOK_new hok.2.2 (fun x h1 h2 => hx ⟨x, h1, h2⟩)⟩, ?_⟩
    have hs7 := hs.p8.set (o' := .row 7 [[.int .i64 A.rev, .int .i64 A.past, .int .i64 n, .ptr ix 2 0 0, .map vm, cv', o]] 1)
    have t1 : (A.snoc v).chs.map (verC tp td) = A.chs.map (verC tp td) ++ [[.int .i64 v.rev, chV tp td v.c]] := by simp [Sto.snoc, verC]
    rw [← t1] at hs7
    have t2 : VnP tp td ⟨v.c.key, v', [v]⟩ = Ow 2 v' ([] ++ [[.int .i64 v.rev, chV tp td v.c]]) := by simp [VnP, verC]
    rw [← t2] at hs7
    have hs8 := hs7.p2.drop.p4.drop.p5.drop.p5.drop.p2.p2.p4.p3.p4
    have hs9 := sat.unmid (l1 := [pto s (.row 7 [[.int .i64 A.rev, .int .i64 A.past, .int .i64 n, .ptr ix 2 0 0, .map vm, cv', o]] 1), IxP ix (putL L v.c.key (mkV v)), Ow 2 cv' ((A.snoc v).chs.map (verC tp td)), MpA (fun k : Key => AV.str k) Vn.key Vn.v vm (X ++ [⟨v.c.key, v', [v]⟩])] ++ X.map (VnP tp td)) (l2 := F) hs8
    simpa [MvLn, e1, e2] using hs9
theorem mvNote {v : Ver} (hs : sat h (MvN tp td s n A o :: F)) (ok' : StoOK (A.snoc v)) (hz : A.old.length + A.chs.length ≤ 90000000) (hr : A.rev ≤ 1000000000000000) : Triple Tryz.prog 39 [.ptr s 7 0 0, .agg (verC tp td v)] h (fun r h => sat h (MvN tp td s n (A.snoc v) o :: F)) := by
  have hvr := ok'.chr v (by simp [Sto.snoc])
  have hpa := ok'.past
  have e1 : (A.snoc v).rev = A.rev := rfl
  have e2 : (A.snoc v).past = A.past := rfl
  exact (mvNoteG hs (by unfold inI; omega) hz).mono fun r h ⟨ix, vm, cv, L, X, h1, h2⟩ => mvN.2 ⟨ix, vm, cv, L, X, h1 ok', h2⟩
end
end Go.Proofs.YtkclojjeepomfaaGreat
/- The store: a write is done; keys are deleted. -/
set_option linter.unusedSimpArgs false
set_option linter.unusedVariables false
set_option maxRecDepth 10000
namespace Go.Proofs.YtkclojjeepomfaaGreat
open Go.Hz

section
variable {h : Hp} {F : List Asr} {s w : Nat} {A : Sto} {o : AV} {W : Wr}
theorem mvDone (hs : sat h (WtP w s A W :: StP s A (.ptr w 4 0 0) :: F)) (hz : A.old.length + A.chs.length + W.l.length ≤ 80000000) (hr : A.rev ≤ 100000000000000) : Triple Tryz.prog 17 [.ptr w 4 0 0] h (fun r h => r = .int .i64 (stDone A W).rev ∧ sat h (StP s (stDone A W) .nilp :: F)) := by
  have ok := MvP.ok hs.p1
  have hpa := ok.past
  have hre := ok.rev
  obtain ⟨lv0, bm0, hw, hs0⟩ := wrP.1 hs
  have hp0 := hs0.at
  refine t17 (Nat.le_of_ble_eq_true rfl) ?_
  simp (disch := omega) only [F17, hp0, go_sem, simprocAttr]
  refine call_use (mvClosed hs) ?_
  rintro r h ⟨hr, hs⟩
  subst hr
  simp (disch := omega) only [go_sem, simprocAttr]
  obtain ⟨lv, bm, _, hs1⟩ := wrP.1 hs
  obtain ⟨ix, vm, cv, L, X, hok, hs2⟩ := mvP.1 hs1.p3
  have hq := hs2.at
  have hs3 : sat h (pto s (.row 7 [[.int .i64 A.rev, .int .i64 A.past, .int .i64 A.now.length, .ptr ix 2 0 0, .map vm, cv, .ptr w 4 0 0]] 1) :: IxP ix L :: Ow 2 cv (A.chs.map (verC tp td)) :: MpA (fun k : Key => AV.str k) Vn.key Vn.v vm X :: (X.map (VnP tp td) ++ (pto w (.row 4 [[.ptr s 7 0 0, lv, .map bm, .int .i64 W.cur.length]] 1) :: Ow 1 lv (W.l.map fun c => [chV tp td c]) :: MpA (fun k : Key => AV.str k) Ch.key (chV tp td) bm W.l :: F))) := hs2
  have hs4 := hs3.set (o' := .row 7 [[.int .i64 A.rev, .int .i64 A.past, .int .i64 A.now.length, .ptr ix 2 0 0, .map vm, cv, .nilp]] 1)
  have mk : ∀ {h : Hp}, sat h (pto s (.row 7 [[.int .i64 A.rev, .int .i64 A.past, .int .i64 A.now.length, .ptr ix 2 0 0, .map vm, cv, .nilp]] 1) :: IxP ix L :: Ow 2 cv (A.chs.map (verC tp td)) :: MpA (fun k : Key => AV.str k) Vn.key Vn.v vm X :: (X.map (VnP tp td) ++ (pto w (.row 4 [[.ptr s 7 0 0, lv, .map bm, .int .i64 W.cur.length]] 1) :: Ow 1 lv (W.l.map fun c => [chV tp td c]) :: MpA (fun k : Key => AV.str k) Ch.key (chV tp td) bm W.l :: F))) →
      sat h (StP s A .nilp :: pto w (.row 4 [[.ptr s 7 0 0, lv, .map bm, .int .i64 W.cur.length]] 1) :: Ow 1 lv (W.l.map fun c => [chV tp td c]) :: MpA (fun k : Key => AV.str k) Ch.key (chV tp td) bm W.l :: F) := fun hs => mvP.2 ⟨ix, vm, cv, L, X, hok, hs⟩
  have hs5 := mk hs4
  have hw5 := hs5.p1.at
  have hlv := hs5.p2.els.len
  rw [List.length_map] at hlv
  have hsq := hs4.at
  simp (disch := omega) only [go_sem, simprocAttr, hq, hw5, hlv]
  by_cases hl : W.l = []
  · have e0 : ((W.l.length : Int) == 0) = true := by rw [hl]; rfl
    have ef : stDone A W = A := by rw [stDone, if_pos hl]
    rw [ef]
    simp (disch := omega) only [go_sem, simprocAttr, e0, hsq]
    exact hs5.p1.drop.p1.drop.p1.drop
  have e0 : ((W.l.length : Int) == 0) = false := by
    have := List.length_pos_iff.2 hl
    simp; omega
  have okd := stDone_ok ok hw
  have ed : stDone A W = ⟨A.rev + 1, A.past, A.old, A.chs ++ W.l.map fun c => ⟨A.rev + 1, c⟩⟩ := by rw [stDone, if_neg hl]
  have hnow := stDone_now hw
  rw [ed] at okd hnow ⊢
  have ok0 : StoOK ⟨A.rev + 1, A.past, A.old, A.chs⟩ := stOK_front okd
  have mkN : ∀ {h : Hp} {n : Int}, sat h (pto s (.row 7 [[.int .i64 (A.rev + 1), .int .i64 A.past, .int .i64 n, .ptr ix 2 0 0, .map vm, cv, .nilp]] 1) :: IxP ix L :: Ow 2 cv (A.chs.map (verC tp td)) :: MpA (fun k : Key => AV.str k) Vn.key Vn.v vm X :: (X.map (VnP tp td) ++ (pto w (.row 4 [[.ptr s 7 0 0, lv, .map bm, .int .i64 W.cur.length]] 1) :: Ow 1 lv (W.l.map fun c => [chV tp td c]) :: MpA (fun k : Key => AV.str k) Ch.key (chV tp td) bm W.l :: F))) →
      sat h (MvN tp td s n ⟨A.rev + 1, A.past, A.old, A.chs⟩ .nilp :: pto w (.row 4 [[.ptr s 7 0 0, lv, .map bm, .int .i64 W.cur.length]] 1) :: Ow 1 lv (W.l.map fun c => [chV tp td c]) :: MpA (fun k : Key => AV.str k) Ch.key (chV tp td) bm W.l :: F) := fun hs => mvN.2 ⟨ix, vm, cv, L, X, ⟨ok0, hok.2.1, hok.2.2⟩, hs⟩
  generalize Hp.set h s _ = h4 at hs4 hs5 hw5 hsq ⊢
  have hs6 := hs4.set (o' := .row 7 [[.int .i64 (A.rev + 1), .int .i64 A.past, .int .i64 A.now.length, .ptr ix 2 0 0, .map vm, cv, .nilp]] 1)
  have hw6 := (mkN hs6).p1.at
  have hs7 := hs6.set (o' := .row 7 [[.int .i64 (A.rev + 1), .int .i64 A.past, .int .i64 W.cur.length, .ptr ix 2 0 0, .map vm, cv, .nilp]] 1)
  have hs8 := mkN hs7
  have hw8 := hs8.p1.at
  rw [Hp.set_set] at hs8 hw8
  simp (disch := omega) only [go_sem, simprocAttr, e0, hsq, hw6, hw8, hlv]
  generalize Hp.set h4 s _ = h5 at hs8 hw8 ⊢
  rcases hs8.p2.cases with ⟨_, hn0, _⟩ | ⟨b, cap, hv, hs9, hle⟩
  · exact absurd (List.map_eq_nil_iff.1 hn0) hl
  subst hv
  have hll : (W.l.map fun c => [chV tp td c]).length = W.l.length := by simp
  rw [hll] at hle
  simp only [hll]
  refine run_up (N := W.l.length) (fun i e h => sat h (MvN tp td s W.cur.length ⟨A.rev + 1, A.past, A.old, A.chs ++ (W.l.take i).map fun c => ⟨A.rev + 1, c⟩⟩ .nilp :: pto b (.row 1 (W.l.map fun c => [chV tp td c]) cap) :: F) ∧
    (e 3 = .ptr s 7 0 0 ∧ e 46 = .arr b 1 0 W.l.length cap ∧ e 47 = .int .i64 W.l.length ∧ e 48 = .int .i64 i)) ⟨?_, rfl, rfl, rfl, rfl⟩ ?_
  · have : A.chs ++ ((W.l.take 0).map fun c => (⟨A.rev + 1, c⟩ : Ver)) = A.chs := by simp
    rw [this]
    exact hs9.p2.drop.p2.drop.p1
  clear hs hs0 hs1 hs2 hs3 hs4 hs5 hs6 hs7 hs8 hs9 hp0 hw5 hw6 hw8 hsq hq
  rintro i e h hi ⟨hs, he⟩
  have m1 : (i : Int) + 1 = ((i + 1 : Nat) : Int) := by omega
  simp (disch := omega) only [go_sem, simprocAttr, he]
  refine cnd_dec (fun h1 => ?_) (fun h1 => ?_)
  · have hi : i < W.l.length := by omega
    have hb := hs.p1.at
    have hrow : (W.l.map fun c => [chV tp td c])[i]? = some [chV tp td W.l[i]] := by simp [hi]
    obtain ⟨ix', vm', cv', L', X', hok', hs2⟩ := mvN.1 hs
    have hq := hs2.at
    simp (disch := omega) only [go_sem, simprocAttr, he, hb, hrow, hq, Int.toNat_natCast]
    have hsn : (⟨A.rev + 1, A.past, A.old, A.chs ++ (W.l.take i).map fun c => ⟨A.rev + 1, c⟩⟩ : Sto).snoc ⟨A.rev + 1, W.l[i]⟩ = ⟨A.rev + 1, A.past, A.old, A.chs ++ (W.l.take (i + 1)).map fun c => ⟨A.rev + 1, c⟩⟩ := by
      unfold Sto.snoc
      rw [List.take_succ_eq_append_getElem hi]
      simp only [List.map_append, List.map_cons, List.map_nil, List.append_assoc]
    have hok2 : StoOK ⟨A.rev + 1, A.past, A.old, A.chs ++ (W.l.take (i + 1)).map fun c => ⟨A.rev + 1, c⟩⟩ := by
      have h2 : (A.chs ++ W.l.map fun c => (⟨A.rev + 1, c⟩ : Ver)) = (A.chs ++ (W.l.take (i + 1)).map fun c => (⟨A.rev + 1, c⟩ : Ver)) ++ (W.l.drop (i + 1)).map fun c => (⟨A.rev + 1, c⟩ : Ver) := by
        rw [List.append_assoc, ← List.map_append, List.take_append_drop]
      rw [h2] at okd
      exact stOK_front okd
    have hcc := chV_cells (tp := tp) (td := td) W.l[i]
    have hn := mvNote (v := ⟨A.rev + 1, W.l[i]⟩) hs (by rw [hsn]; exact hok2) (by simp only [List.length_append, List.length_map, List.length_take]; omega) (by show A.rev + 1 ≤ _; omega)
    rw [hsn] at hn
    have hca := chV_atom (tp := tp) (td := td) W.l[i]
    simp (disch := omega) only [go_sem, simprocAttr, hcc, hca]
    refine call_use hn ?_
    intro r h hs
    simp (disch := omega) only [go_sem, simprocAttr, he, m1]
    exact ⟨by omega, hs⟩
  · have hi : i = W.l.length := by omega
    subst hi
    rw [List.take_length] at hs
    obtain ⟨ix', vm', cv', L', X', hok', hs2⟩ := mvN.1 hs
    have hq := hs2.at
    simp (disch := omega) only [go_sem, simprocAttr, he, hq]
    rw [← hnow] at hs
    exact hs.d1
theorem mvWKeysR {lo hi : Key} (hs : sat h (WtP w s A W :: StP s A o :: F)) (hz : A.old.length + A.chs.length + W.l.length ≤ 40000000) : Triple Tryz.prog 37 [.ptr w 4 0 0, .str lo, .str hi] h (fun r h => ∃ ks, WKeys A W lo hi ks ∧ r = strsV ks ∧ sat h (WtP w s A W :: StP s A o :: F)) := mvWKeys hs (by omega)
theorem mvDel {lo hi : Key} (hs : sat h (WtP w s A W :: StP s A (.ptr w 4 0 0) :: F)) (hz : A.old.length + A.chs.length + W.l.length ≤ 40000000) : Triple Tryz.prog 12 [.ptr w 4 0 0, .str lo, .str hi] h (fun r h => ∃ ks, WKeys A W lo hi ks ∧ r = .int .i64 (wDels W ks).1 ∧ sat h (WtP w s A (wDels W ks).2 :: StP s A (.ptr w 4 0 0) :: F)) := by
  have ok := MvP.ok hs.p1
  have hkey := now_keys ok
  refine t12 (Nat.le_of_ble_eq_true rfl) ?_
  simp (disch := omega) only [F12, go_sem, simprocAttr]
  refine call_use (mvClosed hs) ?_
  rintro r h ⟨hr, hs⟩
  subst hr
  simp (disch := omega) only [go_sem, simprocAttr]
  refine call_use (mvWKeysR (lo := lo) (hi := hi) hs hz) ?_
  rintro v h ⟨ks, hk, hv, hs⟩
  subst hv
  have hw := WrP.ok hs
  have hkl := hk.2.1
  have lenK : lenL (strsV ks) = some (.int .i64 ks.length) := by simp [strsV, lenL]
  simp (disch := omega) only [go_sem, simprocAttr, lenK]
  refine run_up (N := ks.length) (fun i e h => sat h (WtP w s A (wDels W (ks.take i)).2 :: StP s A (.ptr w 4 0 0) :: F) ∧ (e 0 = .ptr w 4 0 0 ∧ e 7 = .int .i64 (wDels W (ks.take i)).1 ∧ e 19 = strsV ks ∧ e 20 = .int .i64 ks.length ∧ e 21 = .int .i64 i)) ⟨hs, rfl, rfl, rfl, rfl, rfl⟩ ?_
  clear hs
  rintro i e h hi ⟨hs, he⟩
  have m1 : (i : Int) + 1 = ((i + 1 : Nat) : Int) := by omega
  simp (disch := omega) only [go_sem, simprocAttr, he, m1]
  refine cnd_dec (fun h1 => ?_) (fun h1 => ?_)
  · have hi : i < ks.length := by omega
    have hik : iaA 1 (strsV ks) (.int .i64 (i : Int)) = some (.ro [.str ks[i]]) := ia_lst (f := fun k => [AV.str k]) hi fun _ => rfl
    have hst : wDels W (ks.take (i + 1)) = ((wDels W (ks.take i)).1 + (wDel1 (wDels W (ks.take i)).2 ks[i]).1, (wDel1 (wDels W (ks.take i)).2 ks[i]).2) := by
      rw [List.take_succ_eq_append_getElem hi]; exact wDels_snoc
    have hbnd := wDels_len (ks := ks.take i) (W := W)
    rw [List.length_take] at hbnd
    generalize hWi : wDels W (ks.take i) = Wi at hs he hst hbnd
    obtain ⟨ni, Wi⟩ := Wi
    simp only [] at hs he hst hbnd
    have hwi := WrP.ok hs
    obtain ⟨lv, bm, _, hs1⟩ := wrP.1 hs
    have hp := hs1.at
    obtain ⟨tw, hl⟩ : ∃ v, lkA true true .nili h (.map bm) (.str ks[i]) = some (.tup [v, .bool (wChg Wi ks[i])]) := by
      cases hc : wChg Wi ks[i] with
      | true =>
        obtain ⟨c, hcm, hck⟩ := wChg_t hc
        rw [← hck]
        exact ⟨_, lk_hit keyOK_str hs1.p2 hwi.nd hcm⟩
      | false => exact ⟨_, lk_miss keyOK_str hs1.p2 (wChg_f hc)⟩
    simp (disch := omega) only [go_sem, simprocAttr, he, hik, hp, hl]
    refine call_use (mvNow (key := ks[i]) hs (by omega)) ?_
    rintro r h ⟨hr, hs⟩
    subst hr
    simp (disch := omega) only [go_sem, simprocAttr]
    refine new_opq hs fun a h hs => ?_
    have ha := hs.at
    generalize hkv : (kvget Wi.cur ks[i]).getD kv0 = kv
    have hs2 := hs.set (o' := .row 6 [kvC kv] 1)
    simp only [kvC] at hs2
    simp (disch := omega) only [go_sem, simprocAttr, ha, kvC, he]
    generalize Hp.set h a _ = h2 at hs2 ⊢
    by_cases hskip : wChg Wi ks[i] = true ∨ kvget Wi.cur ks[i] = none
    · have e1 : wDel1 Wi ks[i] = (0, Wi) := by rw [wDel1, if_pos hskip]
      rw [e1] at hst
      simp only [Nat.add_zero] at hst
      rw [hst]
      cases hg : kvget Wi.cur ks[i] with
      | none =>
        simp (disch := omega) only [go_sem, simprocAttr, Option.isSome_none, he, m1]
        exact ⟨by omega, hs2.drop⟩
      | some y =>
        have hc : wChg Wi ks[i] = true := by rcases hskip with h | h; exact h; rw [hg] at h; cases h
        simp (disch := omega) only [go_sem, simprocAttr, Option.isSome_some, hc, he, m1]
        exact ⟨by omega, hs2.drop⟩
    · have hc : wChg Wi ks[i] = false := by simpa using fun h => hskip (.inl h)
      obtain ⟨y, hy⟩ : ∃ y, kvget Wi.cur ks[i] = some y := by
        cases hg : kvget Wi.cur ks[i] with
        | none => exact absurd (.inr hg) hskip
        | some y => exact ⟨y, rfl⟩
      have e1 : wDel1 Wi ks[i] = (1, ⟨done Wi.cur (.del ks[i]), Wi.l ++ [.del ks[i]]⟩) := by rw [wDel1, if_neg hskip]
      rw [e1] at hst
      rw [hst]
      have hyk : ks[i] ≠ [] ∧ ks[i].length ≤ 100 := by
        have h3 := hy
        rw [now_same ok hwi hc] at h3
        obtain ⟨h4, h5⟩ := kvget_some h3
        rw [← h5]; exact hkey y h4
      simp (disch := omega) only [go_sem, simprocAttr, hy, Option.isSome_some, hc, he]
      obtain ⟨lv2, bm2, _, hs3⟩ := wrP.1 hs2.p1
      have hlay : Triple Tryz.prog 33 [.ptr w 4 0 0, chV tp td (.del ks[i])] _ _ := mvLay hwi hs3 (by omega) hc hyk (fun _ => by show kvget Wi.cur ks[i] ≠ none; rw [hy]; simp) (fun _ h => by cases h)
      refine call_use hlay ?_
      rintro r h ⟨lv4, hok', hs⟩
      have hp := hs.at
      have hpos : 0 < Wi.cur.length := List.length_pos_of_mem (kvget_some hy).1
      have hcl := cur_le hwi
      have m3 : (ni : Int) + 1 = ((ni + 1 : Nat) : Int) := by omega
      simp (disch := omega) only [go_sem, simprocAttr, he, hp, m1, m3]
      have hdl := done_len (c := .del ks[i]) (hwi.srt ok)
      rw [show (Ch.del ks[i]).key = ks[i] from rfl, hy] at hdl
      have hdl2 : ((done Wi.cur (.del ks[i])).length : Int) = (Wi.cur.length : Int) - 1 := by rw [hdl]; simp [Ch.kv]; omega
      refine ⟨by omega, wrP.2 ⟨lv4, bm2, hok', ?_⟩⟩
      rw [hdl2]
      exact hs.set.p3.drop.p3.p3.p3.p3
  · have hi : i = ks.length := by omega
    subst hi
    rw [List.take_length] at hs he
    simp (disch := omega) only [go_sem, simprocAttr, he]
    exact ⟨ks, hk, rfl, hs⟩
end
end Go.Proofs.YtkclojjeepomfaaGreat
/- within, the chapter's example. -/
set_option linter.unusedSimpArgs false
set_option linter.unusedVariables false
set_option maxRecDepth 10000
namespace Go.Proofs.YtkclojjeepomfaaGreat
open Go.Hz

/-- A number from 0 to n - 1. -/
theorem within8 {h : Hp} {F : List Asr} (hs : sat h F) {a : Int} {n : Nat} (h1 : -9223372036854775808 ≤ a) (h2 : a ≤ 9223372036854775807) (hn : 0 < n) (hn2 : n ≤ 4611686018427387904) :
    Triple Tryz.prog 7 [.int .i64 a, .int .i64 n] h (fun r h => ∃ k : Nat, r = .int .i64 k ∧ (k : Int) = a % n ∧ k < n ∧ sat h F) := by
  have m1 := Int.tmod_lt_of_pos a (b := n) (by omega)
  have m2 : -(n : Int) < a.tmod n := by
    have := Int.tmod_lt_of_pos (-a) (b := n) (by omega)
    rw [Int.neg_tmod] at this
    omega
  have hn0 : ¬ (n : Int) = 0 := by omega
  have e := Int.mul_tdiv_add_tmod a n
  have em : a % n = (a.tmod n) % n := by
    conv => lhs; rw [← e]
    rw [Int.mul_add_emod_self_left]
  refine t7 (Nat.le_of_ble_eq_true rfl) ?_
  simp (disch := omega) only [F7, hn0, go_sem, simprocAttr]
  refine cnd_dec (fun hc => ?_) (fun hc => ?_)
  · simp (disch := omega) only [go_sem, simprocAttr]
    refine ⟨(a.tmod n + n).toNat, by congr 1; omega, ?_, by omega, hs⟩
    rw [em, ← Int.add_emod_right, Int.emod_eq_of_lt (by omega) (by omega)]
    omega
  · simp (disch := omega) only [go_sem, simprocAttr]
    refine ⟨(a.tmod n).toNat, by congr 1; omega, ?_, by omega, hs⟩
    rw [em, Int.emod_eq_of_lt (by omega) (by omega)]
    omega

def KA (i : Nat) : Sto := ⟨i, 0, [], (List.range i).map fun (j : Nat) => ⟨(j : Int) + 1, .put ⟨[97], [120], 1, (j : Int) + 1, (j : Int) + 1, 0⟩⟩⟩
theorem KA_step0 : stDone (KA 0) (wPut ((KA 0).rev + 1) ⟨(KA 0).now, []⟩ [97] [120] 0).2 = KA 1 := by rfl
theorem KA_step1 : stDone (KA 1) (wPut ((KA 1).rev + 1) ⟨(KA 1).now, []⟩ [97] [120] 0).2 = KA 2 := by rfl
section
variable {h : Hp} {F : List Asr}
theorem known8 (hs : sat h F) : Triple Tryz.prog 4 [] h (fun r h => r = .bool true ∧ sat h F) := by
  refine t4 (Nat.le_of_ble_eq_true rfl) ?_
  simp (disch := omega) only [F4, go_sem, simprocAttr]
  refine call_use (mvNew hs) ?_
  rintro r h ⟨s, hr, hs⟩
  subst hr
  simp (disch := omega) only [go_sem, simprocAttr]
  refine blk_join (Q := fun e h => ∃ o, sat h (StP s (KA 2) o :: F) ∧ (e 1 = .ptr s 7 0 0)) ?_ ?_
  · refine run_up (N := 2) (fun i e h => ∃ o, sat h (StP s (KA i) o :: F) ∧ (e 1 = .ptr s 7 0 0 ∧ e 2 = .int .i64 i)) ⟨.nilp, hs, rfl, rfl⟩ ?_
    clear hs
    rintro i e h hi ⟨o, hs, he⟩
    have m1 : (i : Int) + 1 = ((i + 1 : Nat) : Int) := by omega
    simp (disch := omega) only [go_sem, simprocAttr, he, m1]
    refine cnd_dec (fun h1 => ?_) (fun h1 => ?_)
    · have hi : i < 2 := by omega
      simp (disch := omega) only [go_sem, simprocAttr, he]
      refine call_use (mvWrite hs) ?_
      rintro r h ⟨w, hr, hs⟩
      subst hr
      simp (disch := omega) only [go_sem, simprocAttr, he]
      have hKl : (KA i).chs.length = i := by simp [KA]
      have hKn : (KA i).now.length ≤ i := by
        have := doneL_le (cs := (KA i).chs.map Ver.c) (l := (KA i).old)
        rw [List.length_map, hKl] at this
        simpa [Sto.now, KA] using this
      refine call_use (mvPut (key := [97]) (val := [120]) (lease := 0) hs (by omega) (by simp) (by show (KA i).now.length ≤ _; omega) (by show (i : Int) ≤ _; omega)) ?_
      rintro r h ⟨hr, hs⟩
      subst hr
      simp (disch := omega) only [go_sem, simprocAttr, he]
      refine call_use (mvDone hs ?_ (by show (i : Int) ≤ _; omega)) ?_
      · have : (wPut ((KA i).rev + 1) ⟨(KA i).now, []⟩ [97] [120] 0).2.l.length ≤ 1 := by
          unfold wPut; split <;> (try split) <;> (try split) <;> (try split) <;> simp
        have h0 : (KA i).old.length = 0 := rfl
        omega
      rintro r h ⟨hr, hs⟩
      subst hr
      simp (disch := omega) only [go_sem, simprocAttr, he, m1]
      refine ⟨by omega, .nilp, ?_⟩
      match i, hi, hs with
      | 0, _, hs => rw [KA_step0] at hs; exact hs
      | 1, _, hs => rw [KA_step1] at hs; exact hs
    · have hi : i = 2 := by omega
      subst hi
      simp (disch := omega) only [go_sem, simprocAttr, he]
      exact ⟨o, hs⟩
  clear hs
  rintro e h ⟨o, hs, he⟩
  simp (disch := omega) only [go_sem, simprocAttr, he]
  have e1 : stRange (KA 2) [97] [] 1 0 = ([⟨[97], [120], 1, 1, 1, 0⟩], 1, 0) := by rfl
  refine call_use (mvRange (lo := [97]) (hi := []) (rev := 1) (lim := 0) hs (by decide)) ?_
  rintro r h ⟨hr, hs⟩
  subst hr
  simp (disch := omega) only [go_sem, simprocAttr, e1, he]
  refine call_use (mvWrite hs) ?_
  rintro r h ⟨w, hr, hs⟩
  subst hr
  have ei : iaA 6 (kvsV [⟨[97], [120], 1, 1, 1, 0⟩]) (.int .i64 0) = some (.ro [AV.str [97], .str [120], .int .i64 1, .int .i64 1, .int .i64 1, .int .i64 0]) := by rfl
  simp (disch := omega) only [go_sem, simprocAttr, he, kvC, ei]
  have hrv := mvRev hs.p1
  refine call_use hrv ?_
  rintro r h ⟨hr, hs⟩
  subst hr
  have e2 : (((KA 2).rev) == 2) = true := rfl
  simp (disch := omega) only [go_sem, simprocAttr, e2]
  refine call_use (mvDel (lo := [97]) (hi := []) hs.p1 (by decide)) ?_
  rintro r h ⟨ks, hk, hr, hs⟩
  subst hr
  have hk2 := hk.2.2
  rw [if_pos rfl] at hk2
  subst hk2
  have e3 : ((((wDels ⟨(KA 2).now, []⟩ [[97]]).1 : Nat) : Int) == 1) = true := by rfl
  simp (disch := omega) only [go_sem, simprocAttr, e3]
  refine call_use (mvDone hs (by decide) (by decide)) ?_
  rintro r h ⟨hr, hs⟩
  subst hr
  have e4 : ((stDone (KA 2) (wDels ⟨(KA 2).now, []⟩ [[97]]).2).rev == 3) = true := by rfl
  simp (disch := omega) only [go_sem, simprocAttr, e4]
  exact hs.drop
end
end Go.Proofs.YtkclojjeepomfaaGreat
/- The law MvccRanges, walked. -/
set_option linter.unusedSimpArgs false
set_option linter.unusedVariables false
set_option maxRecDepth 10000
namespace Go.Proofs.YtkclojjeepomfaaGreat
open Go.Hz

section
end
end Go.Proofs.YtkclojjeepomfaaGreat
/- The law MvccFull, walked. -/
set_option linter.unusedSimpArgs false
set_option linter.unusedVariables false
set_option maxRecDepth 10000
namespace Go.Proofs.YtkclojjeepomfaaGreat
open Go.Hz

/-! ### so many keys, rising -/
def kf (i : Nat) : Key := [107, UInt8.ofNat (i / 256), UInt8.ofNat (i % 256)]
section
variable {h : Hp} {F : List Asr}
end
end Go.Proofs.YtkclojjeepomfaaGreat
/- Calls of a store; the law MvccEvents, walked. -/
set_option linter.unusedSimpArgs false
set_option linter.unusedVariables false
set_option maxRecDepth 10000
namespace Go.Proofs.YtkclojjeepomfaaGreat
open Go.Hz

section
variable {h : Hp} {F : List Asr}
theorem few8 (hs : sat h F) {c : Cl8} (hc : c.ok) : Triple Tryz.prog 6 [.agg c.row] h (fun r h => ∃ b, r = .bool b ∧ (b = true → c.does.length ≤ 30) ∧ sat h F) := by
  obtain ⟨_, _, _, h1, h2, h3, h4⟩ := hc
  have lenD := len_doesV c.does
  refine t6 (Nat.le_of_ble_eq_true rfl) ?_
  simp (disch := omega) only [F6, Cl8.row, atom_doesV, cells_doesV, go_sem, simprocAttr]
  refine new_opq hs fun a h hs => ?_
  have ha := hs.at
  simp (disch := omega) only [go_sem, simprocAttr, ha]
  refine run_up (N := c.does.length) (fun i e h => sat h (pto a (.row 6 [c.row] 1) :: F) ∧ ∃ n : Int, 0 ≤ n ∧ n ≤ 2097152 + 3145728 * i ∧ (e 1 = .ptr a 6 0 0 ∧ e 3 = .int .i64 n ∧ e 4 = .int .i64 i)) ⟨hs, _, ?_, ?_, rfl, rfl, rfl⟩ ?_
  · omega
  · omega
  clear hs ha
  rintro i e h hi ⟨hs, n, n1, n2, he⟩
  have ha := hs.at
  simp only [Cl8.row] at ha
  have m1 : (i : Int) + 1 = ((i + 1 : Nat) : Int) := by omega
  simp (disch := omega) only [go_sem, simprocAttr, he, ha, lenD, m1]
  refine cnd_dec (fun g1 => ?_) (fun g1 => ?_)
  · have hi' : i < c.does.length := by omega
    have hia := at_doesV hi'
    obtain ⟨_, _, k1, k2, k3⟩ := h4 _ (List.getElem_mem hi')
    generalize c.does[i] = d at hia k1 k2 k3
    obtain ⟨z, hz, z1, z2⟩ : ∃ z : Int, (if (65536 : Int) < (d.val.length : Int) then (65536 : Int) else (d.val.length : Int)) = z ∧ 0 ≤ z ∧ z ≤ 1048576 := by
      split
      · exact ⟨_, rfl, by omega, by omega⟩
      · exact ⟨_, rfl, by omega, by omega⟩
    simp (disch := omega) only [go_sem, simprocAttr, he, ha, hia, hz, m1]
    exact ⟨by omega, hs, _, by omega, by omega, rfl⟩
  · simp (disch := omega) only [go_sem, simprocAttr, he, ha, lenD]
    refine cnd_bool (fun q => ?_) (fun q => ?_)
    · simp (disch := omega) only [go_sem, simprocAttr, he, q]
      exact ⟨_, rfl, fun _ => by simp at q; omega, hs.drop⟩
    · simp (disch := omega) only [go_sem, simprocAttr, he, q]
      exact ⟨false, rfl, fun h => (by simp at h), hs.drop⟩
theorem top8 (hs : sat h F) : Triple Tryz.prog 67 [] h (fun r h => r = .str (topK 101) ∧ sat h F) := by
  refine t67 (Nat.le_of_ble_eq_true rfl) ?_
  simp (disch := omega) only [F67, go_sem, simprocAttr]
  refine run_up (N := 100) (fun i e h => sat h F ∧ (e 1 = .str (topK (i + 1)) ∧ e 2 = .int .i64 i)) ⟨hs, rfl, rfl⟩ ?_
  clear hs
  rintro i e h hi ⟨hs, he⟩
  have m1 : (i : Int) + 1 = ((i + 1 : Nat) : Int) := by omega
  have e1 : topK (i + 1) ++ [255] = topK (i + 1 + 1) := by
    unfold topK
    exact List.replicate_append_replicate (n := i + 1) (m := 1)
  simp (disch := omega) only [go_sem, simprocAttr, he, m1]
  refine cnd_dec (fun g1 => ?_) (fun g1 => ?_)
  · simp (disch := omega) only [go_sem, simprocAttr, he, m1, e1]
    exact ⟨by simp [topK]; omega, by omega, hs⟩
  · have hi' : i = 100 := by omega
    subst hi'
    simp (disch := omega) only [go_sem, simprocAttr, he]
    exact hs
theorem kv_self8 (x : Kv) : eqsA [PK.s, PK.s, PK.i, PK.i, PK.i, PK.i] true (.agg (kvC x)) (.agg (kvC x)) = some (.bool false) := by
  simp [eqsA, eqCs, eqC, kvC]
theorem sameKVs1 (hs : sat h F) {l : List Kv} (hl : l.length ≤ 9223372036854775807) : Triple Tryz.prog 16 [kvsV l, kvsV l] h (fun r h => r = .bool true ∧ sat h F) := by
  have len2 : lenL (kvsV l) = some (.int .i64 l.length) := by simp [lenL]
  refine t16 (Nat.le_of_ble_eq_true rfl) ?_
  simp (disch := omega) only [F16, len2, go_sem, simprocAttr]
  refine run_up (N := l.length) (fun i e h => sat h F ∧ (e 0 = kvsV l ∧ e 1 = kvsV l ∧ e 5 = .int .i64 i)) ⟨hs, rfl, rfl, rfl⟩ ?_
  clear hs
  rintro i e h hi ⟨hs, he⟩
  have m1 : (i : Int) + 1 = ((i + 1 : Nat) : Int) := by omega
  simp (disch := omega) only [go_sem, simprocAttr, he, m1, len2]
  refine cnd_dec (fun h1 => ?_) (fun h1 => ?_)
  · have hi : i < l.length := by omega
    have ez := ia_lst (f := kvC) (l := l) (i := i) (s := 6) (k := .i64) hi (fun _ => rfl)
    have ek := kv_self8 l[i]
    simp only [kvC] at ek
    simp (disch := omega) only [go_sem, simprocAttr, he, ez, kvC, ek, m1]
    exact ⟨by omega, hs⟩
  · simp (disch := omega) only [go_sem, simprocAttr, he]
    exact hs
theorem sameKVs2 {u v : AV} (hs : sat h F) {l : List Kv} (hl : l.length ≤ 9223372036854775807) (hu : SlV u (l.map kvC)) (hv : SlV v (l.map kvC)) : Triple Tryz.prog 16 [u, v] h (fun r h => r = .bool true ∧ sat h F) :=
  Triple.vi (bs := [kvsV l, kvsV l]) ⟨hu.vi, hv.vi, trivial⟩ (sameKVs1 hs hl)
end
end Go.Proofs.YtkclojjeepomfaaGreat
/- The document's store: its writes. -/
set_option linter.unusedSimpArgs false
set_option linter.unusedVariables false
set_option maxRecDepth 10000
namespace Go.Proofs.YtkclojjeepomfaaGreat
open Go.Hz

/-- The document's store, in the heap. -/
def RxP (x : Nat) (A : Sto) : Asr := fun h => ∃ o ev nw, (SlV o (A.old.map kvC) ∧ SlV nw (A.now.map kvC)) ∧ sat h [pto x (.row 5 [[.int .i64 A.rev, .int .i64 A.past, o, ev, nw]] 1), Ow 8 ev (A.chs.map evC)]
theorem rxP {x : Nat} {A : Sto} {h : Hp} {F : List Asr} : sat h (RxP x A :: F) ↔ ∃ o ev nw, (SlV o (A.old.map kvC) ∧ SlV nw (A.now.map kvC)) ∧ sat h (pto x (.row 5 [[.int .i64 A.rev, .int .i64 A.past, o, ev, nw]] 1) :: Ow 8 ev (A.chs.map evC) :: F) := by
  unfold RxP
  rw [sat_ex]; refine exists_congr fun o => ?_
  rw [sat_ex]; refine exists_congr fun ev => ?_
  rw [sat_ex]; refine exists_congr fun nw => ?_
  rw [sat_and]
  exact and_congr_right fun _ => sat_sl (l1 := [_, _]) (l := F)
/-- A write of it. -/
def RwP (w x : Nat) (A : Sto) (W : Go.Hz.Wr) : Asr := fun h => ∃ lv ev ks, SlV lv (W.cur.map kvC) ∧ sat h [pto w (.row 4 [[.ptr x 5 0 0, lv, ev, ks]] 1), Ow 8 ev (W.l.map fun c => evC ⟨A.rev + 1, c⟩), Ow 1 ks (W.l.map fun c => [.str c.key])]
theorem rwP {w x : Nat} {A : Sto} {W : Go.Hz.Wr} {h : Hp} {F : List Asr} : sat h (RwP w x A W :: F) ↔ ∃ lv ev ks, SlV lv (W.cur.map kvC) ∧ sat h (pto w (.row 4 [[.ptr x 5 0 0, lv, ev, ks]] 1) :: Ow 8 ev (W.l.map fun c => evC ⟨A.rev + 1, c⟩) :: Ow 1 ks (W.l.map fun c => [.str c.key]) :: F) := by
  unfold RwP
  rw [sat_ex]; refine exists_congr fun lv => ?_
  rw [sat_ex]; refine exists_congr fun ev => ?_
  rw [sat_ex]; refine exists_congr fun ks => ?_
  rw [sat_and]
  exact and_congr_right fun _ => sat_sl (l1 := [_, _, _]) (l := F)
section
variable {h : Hp} {F : List Asr} {x w : Nat} {A : Sto} {W : Go.Hz.Wr}
theorem rgIn {k lo hi : Key} (hs : sat h F) : Triple Tryz.prog 73 [.str k, .str lo, .str hi] h (fun r h => r = .bool (inK lo hi k) ∧ sat h F) := by
  have ek : inK lo hi k = if (hi == []) = true then k == lo else (!(Op.bytesLess k lo) && Op.bytesLess k hi) := by
    unfold inK inR
    by_cases hh : hi = []
    · subst hh; rfl
    · have : (hi == []) = false := by simpa using hh
      rw [if_neg hh, this]; rfl
  rw [ek]
  refine t73 (Nat.le_of_ble_eq_true rfl) ?_
  simp (disch := omega) only [F73, go_sem, simprocAttr]
  cases b0 : hi == []
  · cases b1 : Op.bytesLess k lo <;> cases b2 : Op.bytesLess k hi
    all_goals
      simp (disch := omega) only [go_sem, simprocAttr, b0, b1, b2]
      exact hs
  · simp (disch := omega) only [go_sem, simprocAttr, b0]
    exact hs
theorem rgPickO {l : List Kv} {lo hi : Key} {lim : Int} (hs : sat h F) (hl : l.length ≤ 1000000) : Triple Tryz.prog 38 [kvsV l, .str lo, .str hi, .int .i64 lim] h
    (fun r h => ∃ v, r = .tup [v, .int .i64 (rngL l lo hi lim).2] ∧ sat h (Ow 6 v ((rngL l lo hi lim).1.map kvC) :: F)) := by
  have lenL' : lenL (kvsV l) = some (.int .i64 l.length) := by simp [lenL]
  refine t38 (Nat.le_of_ble_eq_true rfl) ?_
  simp (disch := omega) only [F38, lenL', go_sem, simprocAttr]
  refine run_up (N := l.length) (fun i e h => ∃ v, sat h (Ow 6 v ((rngL (l.take i) lo hi lim).1.map kvC) :: F) ∧ (e 0 = kvsV l ∧ e 1 = .str lo ∧ e 2 = .str hi ∧ e 3 = .int .i64 lim ∧ e 10 = v ∧ e 11 = .int .i64 (rngL (l.take i) lo hi lim).2 ∧ e 12 = .int .i64 i)) ⟨.nils, hs.add (by unfold rngL cutL; simp; exact ow_nil), rfl, rfl, rfl, rfl, rfl, rfl, rfl⟩ ?_
  clear hs
  rintro i e h hi' ⟨v, hs, he⟩
  have m1 : (i : Int) + 1 = ((i + 1 : Nat) : Int) := by omega
  simp (disch := omega) only [go_sem, simprocAttr, he, lenL', m1]
  refine cnd_dec (fun g1 => ?_) (fun g1 => ?_)
  · have hil : i < l.length := by omega
    have hia := ia_lst (f := kvC) (l := l) (i := i) (s := 6) (k := .i64) hil (fun _ => rfl)
    have hst : rngL (l.take (i + 1)) lo hi lim = if inK lo hi l[i].key = true then ((if lim < 1 ∨ ((rngL (l.take i) lo hi lim).1.length : Int) < lim then (rngL (l.take i) lo hi lim).1 ++ [l[i]] else (rngL (l.take i) lo hi lim).1), (rngL (l.take i) lo hi lim).2 + 1) else rngL (l.take i) lo hi lim := by
      unfold rngL
      have ef : [l[i]].filter (fun x => inK lo hi x.key) = if inK lo hi l[i].key = true then [l[i]] else [] := by
        rw [List.filter_cons, List.filter_nil]
      rw [List.take_succ_eq_append_getElem hil, List.filter_append, ef]
      by_cases hx : inK lo hi l[i].key = true
      · rw [if_pos hx, if_pos hx, cutL_snoc]
        simp
      · rw [if_neg hx, if_neg hx]
        simp
    have hle : (rngL (l.take i) lo hi lim).2 ≤ i := Nat.le_trans (List.length_filter_le _ _) (by rw [List.length_take]; omega)
    have hle2 : (rngL (l.take i) lo hi lim).1.length ≤ i := Nat.le_trans (cutL_len (lim := lim)) hle
    have hcl : (rngL (l.take i) lo hi lim).1.length = if lim < 1 then (rngL (l.take i) lo hi lim).2 else min lim.toNat (rngL (l.take i) lo hi lim).2 := by
      unfold rngL cutL
      split
      · rfl
      · rw [List.length_take]
    rw [hst]
    generalize rngL (l.take i) lo hi lim = q at *
    generalize l[i] = y at hia hst ⊢
    simp only [kvC] at hia
    have m2 : (q.2 : Int) + 1 = ((q.2 + 1 : Nat) : Int) := by omega
    simp (disch := omega) only [go_sem, simprocAttr, he, hia]
    refine call_use (rgIn hs) ?_
    rintro r h ⟨hr, hs⟩
    subst hr
    simp (disch := omega) only [go_sem, simprocAttr, he]
    by_cases hx : inK lo hi y.key = true
    · by_cases l1 : lim < 1
      · rw [if_pos hx, if_pos (.inl l1)]
        simp (disch := omega) only [go_sem, simprocAttr, hx, he, m2, l1, hia]
        refine new_opq hs fun n h hs => ?_
        simp (disch := omega) only [go_sem, simprocAttr]
        refine app_sat hs.p1 (src_one hs.at) (atoms_one (by simp [AV.isAtom])) (by simp; omega) fun v' h hs ca aa => ?_
        simp (disch := omega) only [go_sem, simprocAttr, he, ca, aa, m1]
        have := hs.d1
        exact ⟨by omega, v', by simpa [kvC] using this, rfl⟩
      · rw [if_neg l1] at hcl
        by_cases l2 : (q.1.length : Int) < lim
        · have c2 : (((q.2 + 1 : Nat) : Int) ≤ lim) = True := by simp; omega
          rw [if_pos hx, if_pos (.inr l2)]
          simp (disch := omega) only [go_sem, simprocAttr, hx, he, m2, l1, c2, hia]
          refine new_opq hs fun n h hs => ?_
          simp (disch := omega) only [go_sem, simprocAttr]
          refine app_sat hs.p1 (src_one hs.at) (atoms_one (by simp [AV.isAtom])) (by simp; omega) fun v' h hs ca aa => ?_
          simp (disch := omega) only [go_sem, simprocAttr, he, ca, aa, m1]
          have := hs.d1
          exact ⟨by omega, v', by simpa [kvC] using this, rfl⟩
        · have c2 : (((q.2 + 1 : Nat) : Int) ≤ lim) = False := by simp; omega
          rw [if_pos hx, if_neg (by rintro (h | h) <;> omega)]
          simp (disch := omega) only [go_sem, simprocAttr, hx, he, m2, l1, c2, m1]
          exact ⟨by omega, v, hs, rfl⟩
    · rw [if_neg hx]
      have hx : inK lo hi y.key = false := by simpa using hx
      simp (disch := omega) only [go_sem, simprocAttr, hx, he, m1]
      exact ⟨by omega, v, hs, rfl⟩
  · simp (disch := omega) only [go_sem, simprocAttr, he]
    have hil : i = l.length := by omega
    subst hil
    rw [List.take_length] at hs ⊢
    exact ⟨v, rfl, hs⟩
theorem rgPick {lv : AV} {l : List Kv} {lo hi : Key} {lim : Int} (hv : SlV lv (l.map kvC)) (hs : sat h F) (hl : l.length ≤ 1000000) : Triple Tryz.prog 38 [lv, .str lo, .str hi, .int .i64 lim] h
    (fun r h => r = .tup [kvsV (rngL l lo hi lim).1, .int .i64 (rngL l lo hi lim).2] ∧ sat h F) :=
  Triple.vi (bs := [kvsV l, .str lo, .str hi, .int .i64 lim]) ⟨hv.vi, VI.refl _, VI.refl _, VI.refl _, trivial⟩ (Triple.lst1 6 ((rgPickO hs hl).mono fun r h ⟨v, hr, hs⟩ => ⟨v, _, _, _, hr, hs, fun h hs => ⟨rfl, hs⟩⟩))
theorem rgGetO {l : List Kv} {key : Key} (hs : sat h F) (hS : SrtK l) (hl : l.length ≤ 1000000) : Triple Tryz.prog 35 [kvsV l, .str key] h (fun r h => r = .tup [.agg (kvC ((kvget l key).getD ⟨key, [], 0, 0, 0, 0⟩)), .bool (kvget l key).isSome] ∧ sat h F) := by
  obtain ⟨k, there, hk, h1, h2, h3, h4, _⟩ := done_cut hS (.del key)
  have h4 : kvget l key = if there = true then l[k]? else none := h4
  have lenL' : lenL (kvsV l) = some (.int .i64 l.length) := by simp [lenL]
  refine t35 (Nat.le_of_ble_eq_true rfl) ?_
  simp (disch := omega) only [F35, go_sem, simprocAttr]
  refine new_opq hs fun a h hs => ?_
  have ha := hs.at
  simp (disch := omega) only [go_sem, simprocAttr, ha]
  refine call_use (rgFind (key := key) hs (by omega) hk h1 h2) ?_
  rintro r h ⟨hr, hs⟩
  subst hr
  have ha := hs.at
  by_cases hlt : k < l.length
  · have c1 : ((k : Int) < l.length) = True := by simp; omega
    have hia : iaA 6 (kvsV l) (.int .i64 (k : Int)) = some (.ro (kvC l[k])) := ia_lst (f := kvC) hlt fun _ => rfl
    cases there with
    | true =>
      obtain ⟨_, h6⟩ := h3.1 rfl
      have h6 : l[k].key = key := h6
      have hg : kvget l key = some l[k] := by rw [h4, if_pos rfl, List.getElem?_eq_getElem hlt]
      rw [hg]
      generalize l[k] = y at hia h6
      simp only [kvC] at hia
      have e1 : (y.key == key) = true := by simpa using h6
      have hs2 := hs.set (o' := .row 6 [kvC y] 1)
      have ha2 := hs2.at
      simp only [kvC] at hs2 ha2
      simp (disch := omega) only [go_sem, simprocAttr, lenL', c1, hia, e1, ha, ha2, Option.getD_some, Option.isSome_some, kvC]
      exact hs2.drop
    | false =>
      have hg : kvget l key = none := by rw [h4, if_neg (by simp)]
      have e1 : (l[k].key == key) = false := by
        rw [beq_eq_false_iff_ne]
        exact fun e => by have := h3.2 ⟨hlt, e⟩; cases this
      rw [hg]
      generalize l[k] = y at hia e1
      simp only [kvC] at hia
      have hs2 := hs.set (o' := .row 6 [[.str key, .str [], .int .i64 0, .int .i64 0, .int .i64 0, .int .i64 0]] 1)
      have ha2 := hs2.at
      simp (disch := omega) only [go_sem, simprocAttr, lenL', c1, hia, e1, ha, ha2, Option.getD_none, Option.isSome_none, kvC]
      exact hs2.drop
  · have c1 : ((k : Int) < l.length) = False := by simp; omega
    have hg : kvget l key = none := by
      rw [h4]
      cases there with
      | true => obtain ⟨h5, _⟩ := h3.1 rfl; exact absurd h5 hlt
      | false => rfl
    rw [hg]
    have hs2 := hs.set (o' := .row 6 [[.str key, .str [], .int .i64 0, .int .i64 0, .int .i64 0, .int .i64 0]] 1)
    have ha2 := hs2.at
    simp (disch := omega) only [go_sem, simprocAttr, lenL', c1, ha, ha2, Option.getD_none, Option.isSome_none, kvC]
    exact hs2.drop
theorem rgGet {lv : AV} {l : List Kv} {key : Key} (hv : SlV lv (l.map kvC)) (hs : sat h F) (hS : SrtK l) (hl : l.length ≤ 1000000) : Triple Tryz.prog 35 [lv, .str key] h (fun r h => r = .tup [.agg (kvC ((kvget l key).getD ⟨key, [], 0, 0, 0, 0⟩)), .bool (kvget l key).isSome] ∧ sat h F) :=
  Triple.vi (bs := [kvsV l, .str key]) ⟨hv.vi, VI.refl _, trivial⟩ (rgGetO hs hS hl)
theorem rgChanged {key : Key} (hs : sat h (RwP w x A W :: F)) (hz : W.l.length ≤ 1000000) : Triple Tryz.prog 34 [.ptr w 4 0 0, .str key] h (fun r h => r = .bool (wChg W key) ∧ sat h (RwP w x A W :: F)) := by
  refine t34 (Nat.le_of_ble_eq_true rfl) ?_
  simp (disch := omega) only [F34, go_sem, simprocAttr]
  refine run_up (N := W.l.length) (fun i e h => wChg ⟨[], W.l.take i⟩ key = false ∧ sat h (RwP w x A W :: F) ∧ (e 0 = .ptr w 4 0 0 ∧ e 1 = .str key ∧ e 5 = .int .i64 i)) ⟨rfl, hs, rfl, rfl, rfl⟩ ?_
  clear hs
  rintro i e h hi' ⟨hno, hs0, he⟩
  obtain ⟨lv, ev, ks, hlv, hs⟩ := rwP.1 hs0
  have m1 : (i : Int) + 1 = ((i + 1 : Nat) : Int) := by omega
  have hw := hs.at
  have hkl := hs.p2.els.len
  rw [List.length_map] at hkl
  simp (disch := omega) only [go_sem, simprocAttr, he, hw, hkl, m1]
  refine cnd_dec (fun g1 => ?_) (fun g1 => ?_)
  · have hi : i < W.l.length := by omega
    obtain ⟨b, cap, hv, hb, _⟩ := hs.p2.owr.row (i := i) (x := [.str W.l[i].key]) (by simp [hi])
    subst hv
    have hrow : (W.l.map fun c => [AV.str c.key])[i]? = some [.str W.l[i].key] := by simp [hi]
    have hll : (W.l.map fun c => [AV.str c.key]).length = W.l.length := by simp
    have hst : wChg ⟨[], W.l.take (i + 1)⟩ key = (W.l[i].key == key) := by
      unfold wChg at hno ⊢
      rw [List.take_succ_eq_append_getElem hi, List.any_append, hno]
      simp
    cases hq : W.l[i].key == key with
    | true =>
      have hw2 : wChg W key = true := by
        unfold wChg
        exact List.any_eq_true.2 ⟨_, List.getElem_mem hi, hq⟩
      simp (disch := omega) only [go_sem, simprocAttr, he, hw, hb, hrow, hll, hq, hw2, Int.toNat_natCast]
      exact hs0
    | false =>
      rw [hst]
      simp (disch := omega) only [go_sem, simprocAttr, he, hw, hb, hrow, hll, hq, m1, Int.toNat_natCast]
      exact ⟨hi, hs0⟩
  · have hi : i = W.l.length := by omega
    subst hi
    rw [List.take_length] at hno
    have hw2 : wChg W key = false := hno
    simp (disch := omega) only [go_sem, simprocAttr, he, hw2]
    exact hs0
/-- A change more. -/
theorem rgNote {c : Ch} {cr : Int} {y : Kv} (hs : sat h (RwP w x A W :: RxP x A :: F)) (hS : SrtK W.cur) (hz : W.cur.length + W.l.length ≤ 900000) (hr : A.rev ≤ 1000000000000000) (hr0 : 0 ≤ A.rev)
    (hy : y = c.kv.getD ⟨c.key, [], 0, A.rev + 1, 0, 0⟩) (hcr : y.create = if c.kv.isNone = false ∧ cr = 0 then A.rev + 1 else cr) (hm : y.mod = A.rev + 1) :
    Triple Tryz.prog 36 [.ptr w 4 0 0, .agg [.int .i64 0, .bool c.kv.isNone, .str y.key, .str y.val, .int .i64 cr, .int .i64 0, .int .i64 y.ver, .int .i64 y.lease]] h (fun r h => sat h (RwP w x A ⟨done W.cur c, W.l ++ [c]⟩ :: RxP x A :: F)) := by
  obtain ⟨lv, ev, ks, hlv, hs1⟩ := rwP.1 hs
  obtain ⟨o, xv, nw, ho, hs2⟩ := rxP.1 hs1.p3
  have hevc : evC ⟨A.rev + 1, c⟩ = [.int .i64 (A.rev + 1), .bool c.kv.isNone, .str y.key, .str y.val, .int .i64 y.create, .int .i64 y.mod, .int .i64 y.ver, .int .i64 y.lease] := by
    unfold evC; rw [hy]; rfl
  have hk : y.key = c.key := by rw [hy]; cases c <;> rfl
  have hdone := fun {h : Hp} {G : List Asr} (hs : sat h G) => rgDone (v := ⟨A.rev + 1, c⟩) hlv hs hS (by omega)
  rw [hevc] at hdone
  rw [hm] at hevc hdone
  refine t36 (Nat.le_of_ble_eq_true rfl) ?_
  simp (disch := omega) only [F36, go_sem, simprocAttr]
  refine new_opq hs2 fun a h hs => ?_
  have ha := hs.at
  have hx := hs.p1.at
  have hw := hs.p3.at
  cases hn : c.kv.isNone
  case' true =>
    rw [hn, if_neg (by simp)] at hcr
    rw [hn, hcr] at hevc hdone
    rw [hn] at hs ha
    have hs3 := hs.set (o' := .row 8 [[.int .i64 (A.rev + 1), .bool true, .str y.key, .str y.val, .int .i64 cr, .int .i64 (A.rev + 1), .int .i64 y.ver, .int .i64 y.lease]] 1)
    have ha3 := hs3.at
    have hw3 := hs3.p3.at
    simp (disch := omega) only [go_sem, simprocAttr, ha, hx, hw, ha3, hw3]
  case' false =>
    rw [hn] at hs ha
    by_cases c0 : cr = 0
    case' pos =>
      rw [hn, if_pos ⟨rfl, c0⟩] at hcr
      rw [hn, hcr] at hevc hdone
      have hs3 := hs.set (o' := .row 8 [[.int .i64 (A.rev + 1), .bool false, .str y.key, .str y.val, .int .i64 (A.rev + 1), .int .i64 (A.rev + 1), .int .i64 y.ver, .int .i64 y.lease]] 1)
      have ha3 := hs3.at
      have hw3 := hs3.p3.at
      have c1 : (cr == 0) = true := by simpa using c0
      simp (disch := omega) only [go_sem, simprocAttr, ha, hx, hw, ha3, hw3, c1]
    case' neg =>
      rw [hn, if_neg (by rintro ⟨_, h⟩; exact c0 h)] at hcr
      rw [hn, hcr] at hevc hdone
      have hs3 := hs.set (o' := .row 8 [[.int .i64 (A.rev + 1), .bool false, .str y.key, .str y.val, .int .i64 cr, .int .i64 (A.rev + 1), .int .i64 y.ver, .int .i64 y.lease]] 1)
      have ha3 := hs3.at
      have hw3 := hs3.p3.at
      have c1 : (cr == 0) = false := by simpa using c0
      simp (disch := omega) only [go_sem, simprocAttr, ha, hx, hw, ha3, hw3, c1]
  all_goals
    generalize Hp.set h a _ = h3 at hs3 ⊢
    clear ha hx hw ha3 hw3
    refine new_opq hs3 fun n h hs => ?_
    simp (disch := omega) only [go_sem, simprocAttr]
    refine app_sat hs.p5 (src_one hs.at) (atoms_one (by simp [AV.isAtom])) (by simp; omega) fun v1 h hs c1 a1 => ?_
    have hw := hs.p5.at
    have hs4 := hs.p5.set (o' := .row 4 [[.ptr x 5 0 0, lv, v1, ks]] 1)
    have hw4 := hs4.at
    have ha4 := hs4.p3.at
    simp (disch := omega) only [go_sem, simprocAttr, c1, a1, hw, hw4, ha4]
    generalize Hp.set h w _ = h4 at hs4 ⊢
    refine new_opq hs4 fun n2 h hs => ?_
    simp (disch := omega) only [go_sem, simprocAttr]
    refine app_sat hs.p7 (src_one hs.at) (atoms_one (by simp [AV.isAtom])) (by simp; omega) fun v2 h hs c2 a2 => ?_
    have hw := hs.p2.at
    have hs5 := hs.p2.set (o' := .row 4 [[.ptr x 5 0 0, lv, v1, v2]] 1)
    have hw5 := hs5.at
    have ha5 := hs5.p5.at
    simp (disch := omega) only [go_sem, simprocAttr, c2, a2, hw, hw5, ha5]
    generalize Hp.set h w _ = h5 at hs5 ⊢
    refine call_use (hdone hs5) ?_
    rintro r h ⟨hr, hs⟩
    subst hr
    have hw := hs.at
    simp (disch := omega) only [go_sem, simprocAttr, hw]
    have hs6 := hs.set (o' := .row 4 [[.ptr x 5 0 0, kvsV (done W.cur c), v1, v2]] 1)
    have hs8 := rxP.2 ⟨o, xv, nw, ho, hs6.p2.drop.p3.drop.p3.drop.p1.p2.p2.p4.p4⟩
    have hs9 := hs8.p3.p3.p3
    rw [← hevc, hk] at hs9
    refine rwP.2 ⟨kvsV (done W.cur c), v1, v2, slV_lst, ?_⟩
    simpa [List.map_append] using hs9
theorem rgWr (hs : sat h (RxP x A :: F)) : Triple Tryz.prog 9 [.ptr x 5 0 0] h (fun r h => ∃ w, r = .ptr w 4 0 0 ∧ sat h (RwP w x A ⟨A.now, []⟩ :: RxP x A :: F)) := by
  obtain ⟨o, xv, nw, ho, hs2⟩ := rxP.1 hs
  have hx := hs2.at
  have nc := ho.2.cells
  have na := ho.2.atom
  refine t9 (Nat.le_of_ble_eq_true rfl) ?_
  simp (disch := omega) only [F9, hx, nc, na, go_sem, simprocAttr]
  refine new_opq hs2 fun w h hs => ?_
  have hs3 := rxP.2 ⟨o, xv, nw, ho, hs.p2.p2⟩
  have hs4 : sat h (pto w (.row 4 [[.ptr x 5 0 0, nw, .nils, .nils]] 1) :: RxP x A :: F) := hs3.p1
  simp (disch := omega) only [go_sem, simprocAttr]
  refine ⟨w, rfl, (rwP (W := ⟨A.now, []⟩)).2 ⟨nw, .nils, .nils, ho.2, ?_⟩⟩
  exact ((hs4.add (ow_nil (s := 1))).add (ow_nil (s := 8))).p3.p2.p2.p3
theorem rgPut {key val : Key} {lease : Int} (hs : sat h (RwP w x A W :: RxP x A :: F)) (ok : StoOK A) (hw : WrOK A W) (hz : W.cur.length + W.l.length ≤ 900000) (hr : A.rev ≤ 1000000000000000) :
    Triple Tryz.prog 11 [.ptr w 4 0 0, .str key, .str val, .int .i64 lease] h (fun r h => r = .int .i64 (wPut (A.rev + 1) W key val lease).1 ∧ sat h (RwP w x A (wPut (A.rev + 1) W key val lease).2 :: RxP x A :: F)) := by
  have hS := hw.srt ok
  refine t11 (Nat.le_of_ble_eq_true rfl) ?_
  simp (disch := omega) only [F11, go_sem, simprocAttr]
  by_cases k0 : key = []
  · have ef : wPut (A.rev + 1) W key val lease = (1, W) := by rw [wPut, if_pos (.inl k0)]
    have b0 : (key == []) = true := by simpa using k0
    rw [ef]
    simp (disch := omega) only [go_sem, simprocAttr, b0]
    exact hs
  have b0 : (key == []) = false := by simpa using k0
  by_cases k1 : 100 < key.length
  · have ef : wPut (A.rev + 1) W key val lease = (1, W) := by rw [wPut, if_pos (.inr (.inl k1))]
    have b1 : ((key.length : Int) > 100) = True := by simp; omega
    rw [ef]
    simp (disch := omega) only [go_sem, simprocAttr, b0, b1]
    exact hs
  have b1 : ((key.length : Int) > 100) = False := by simp; omega
  by_cases k2 : lease < 0
  · have ef : wPut (A.rev + 1) W key val lease = (1, W) := by rw [wPut, if_pos (.inr (.inr k2))]
    rw [ef]
    simp (disch := omega) only [go_sem, simprocAttr, b0, b1, k2]
    exact hs
  have g1 : ¬ (key = [] ∨ 100 < key.length ∨ lease < 0) := by rintro (h | h | h) <;> contradiction
  by_cases k3 : 4096 < val.length
  · have ef : wPut (A.rev + 1) W key val lease = (5, W) := by rw [wPut, if_neg g1, if_pos k3]
    have b3 : ((val.length : Int) > 4096) = True := by simp; omega
    rw [ef]
    simp (disch := omega) only [go_sem, simprocAttr, b0, b1, k2, b3]
    exact hs
  have b3 : ((val.length : Int) > 4096) = False := by simp; omega
  simp (disch := omega) only [go_sem, simprocAttr, b0, b1, k2, b3]
  refine call_use (rgChanged (key := key) hs (by omega)) ?_
  rintro r h ⟨hr', hs⟩
  subst hr'
  cases k4 : wChg W key with
  | true =>
    have ef : wPut (A.rev + 1) W key val lease = (18, W) := by rw [wPut, if_neg g1, if_neg k3, if_pos k4]
    rw [ef]
    simp (disch := omega) only [go_sem, simprocAttr, k4]
    exact hs
  | false =>
    obtain ⟨lv, ev, ks, hlv, hs1⟩ := rwP.1 hs
    have hwp := hs1.at
    simp (disch := omega) only [go_sem, simprocAttr, k4, hwp]
    refine call_use (rgGet (key := key) hlv hs1 hS (by omega)) ?_
    rintro r h ⟨hr', hs⟩
    subst hr'
    simp (disch := omega) only [go_sem, simprocAttr]
    refine new_opq hs fun a h hs => ?_
    have ha := hs.at
    have lenlv := hlv.lenM
    have hr0 := ok.rev
    have hp0 := ok.past
    cases hg : kvget W.cur key with
    | none =>
      have hs3 := hs.set (o' := .row 6 [[.str key, .str [], .int .i64 0, .int .i64 0, .int .i64 0, .int .i64 0]] 1)
      have ha3 := hs3.at
      have hw3 := hs3.p1.at
      have hs4 : sat _ (RwP w x A W :: RxP x A :: F) := rwP.2 ⟨lv, ev, ks, hlv, hs3.drop⟩
      by_cases k5 : 4096 ≤ W.cur.length
      · have ef : wPut (A.rev + 1) W key val lease = (14, W) := by rw [wPut, if_neg g1, if_neg k3, if_neg (by simp [k4]), if_pos ⟨hg, k5⟩]
        have b5 : ((W.cur.length : Int) ≥ 4096) = True := by simp; omega
        rw [ef]
        simp (disch := omega) only [go_sem, simprocAttr, Option.getD_none, Option.isSome_none, kvC, ha, ha3, hw3, lenlv, b5]
        exact hs4
      · have en : wNew (A.rev + 1) W key val lease = ⟨key, val, A.rev + 1, A.rev + 1, 1, lease⟩ := by unfold wNew; rw [hg]
        have ef : wPut (A.rev + 1) W key val lease = (0, ⟨done W.cur (.put ⟨key, val, A.rev + 1, A.rev + 1, 1, lease⟩), W.l ++ [.put ⟨key, val, A.rev + 1, A.rev + 1, 1, lease⟩]⟩) := by
          rw [wPut, if_neg g1, if_neg k3, if_neg (by simp [k4]), if_neg (by rintro ⟨_, h⟩; exact k5 h), en]
        have b5 : ((W.cur.length : Int) ≥ 4096) = False := by simp; omega
        rw [ef]
        simp (disch := omega) only [go_sem, simprocAttr, Option.getD_none, Option.isSome_none, kvC, ha, ha3, hw3, lenlv, b5]
        refine call_use (rgNote (c := .put ⟨key, val, A.rev + 1, A.rev + 1, 1, lease⟩) (cr := 0) (y := ⟨key, val, A.rev + 1, A.rev + 1, 1, lease⟩) hs4 hS hz hr (by omega) rfl (by simp [Ch.kv]) rfl) ?_
        intro r h hs
        simp (disch := omega) only [go_sem, simprocAttr]
        exact hs
    | some z =>
      obtain ⟨n1, n2, n3, n4, n5, n6, n7⟩ := cur_num ok hw z (kvget_some hg).1
      have hzk := (kvget_some hg).2
      have hs3 := hs.set (o' := .row 6 [[.str z.key, .str z.val, .int .i64 z.create, .int .i64 z.mod, .int .i64 z.ver, .int .i64 z.lease]] 1)
      have ha3 := hs3.at
      have hw3 := hs3.p1.at
      have hs4 : sat _ (RwP w x A W :: RxP x A :: F) := rwP.2 ⟨lv, ev, ks, hlv, hs3.drop⟩
      have en : wNew (A.rev + 1) W key val lease = ⟨key, val, z.create, A.rev + 1, z.ver + 1, lease⟩ := by unfold wNew; rw [hg]
      have ef : wPut (A.rev + 1) W key val lease = (0, ⟨done W.cur (.put ⟨key, val, z.create, A.rev + 1, z.ver + 1, lease⟩), W.l ++ [.put ⟨key, val, z.create, A.rev + 1, z.ver + 1, lease⟩]⟩) := by
        rw [wPut, if_neg g1, if_neg k3, if_neg (by simp [k4]), if_neg (by rintro ⟨h, _⟩; rw [hg] at h; cases h), en]
      rw [ef]
      simp (disch := omega) only [go_sem, simprocAttr, Option.getD_some, Option.isSome_some, kvC, ha, ha3, hw3, lenlv]
      refine call_use (rgNote (c := .put ⟨key, val, z.create, A.rev + 1, z.ver + 1, lease⟩) (cr := z.create) (y := ⟨key, val, z.create, A.rev + 1, z.ver + 1, lease⟩) hs4 hS hz hr (by omega) rfl (by rw [if_neg]; rintro ⟨_, h⟩; omega) rfl) ?_
      intro r h hs
      simp (disch := omega) only [go_sem, simprocAttr]
      exact hs
theorem wDels_app : ∀ {ks : List Key} {W : Go.Hz.Wr}, ∃ t, (wDels W ks).2.l = W.l ++ t
  | [], W => ⟨[], by simp [wDels]⟩
  | k :: ks, W => by
    obtain ⟨t, ht⟩ := wDels_app (ks := ks) (W := (wDel1 W k).2)
    have h1 : ∃ u, (wDel1 W k).2.l = W.l ++ u := by
      unfold wDel1
      split
      · exact ⟨[], by simp⟩
      · exact ⟨[.del k], rfl⟩
    obtain ⟨u, hu⟩ := h1
    exact ⟨u ++ t, by show (wDels (wDel1 W k).2 ks).2.l = _; rw [ht, hu, List.append_assoc]⟩
theorem rgDel {lo hi : Key} (hs : sat h (RwP w x A W :: RxP x A :: F)) (ok : StoOK A) (hw : WrOK A W) (hz : A.old.length + A.chs.length + W.l.length ≤ 200000) (hr : A.rev ≤ 1000000000000000) :
    Triple Tryz.prog 13 [.ptr w 4 0 0, .str lo, .str hi] h (fun r h => r = .int .i64 (wDels W ((W.cur.filter fun y => inK lo hi y.key).map Kv.key)).1 ∧ sat h (RwP w x A (wDels W ((W.cur.filter fun y => inK lo hi y.key).map Kv.key)).2 :: RxP x A :: F)) := by
  obtain ⟨lv, ev, ks, hlv, hs1⟩ := rwP.1 hs
  have hwp := hs1.at
  have hcl := cur_le hw
  have hr0 := ok.rev
  have hp0 := ok.past
  refine t13 (Nat.le_of_ble_eq_true rfl) ?_
  simp (disch := omega) only [F13, hwp, go_sem, simprocAttr]
  refine call_use (rgPick (lo := lo) (hi := hi) (lim := 0) hlv hs (by omega)) ?_
  rintro r h ⟨hr', hs⟩
  subst hr'
  have e1 : rngL W.cur lo hi 0 = (W.cur.filter fun y => inK lo hi y.key, (W.cur.filter fun y => inK lo hi y.key).length) := rfl
  rw [e1]
  have hin : ∀ y ∈ (W.cur.filter fun y => inK lo hi y.key), kvget W.cur y.key ≠ none := by
    intro y hy e
    exact kvget_none.1 e y (List.mem_filter.1 hy).1 rfl
  have hll : (W.cur.filter fun y => inK lo hi y.key).length ≤ W.cur.length := List.length_filter_le _ _
  generalize (W.cur.filter fun y => inK lo hi y.key) = l at hin hll ⊢
  have lenl : lenL (kvsV l) = some (.int .i64 l.length) := by simp [lenL]
  simp (disch := omega) only [go_sem, simprocAttr]
  refine run_up (N := l.length) (fun i e h => sat h (RwP w x A (wDels W ((l.take i).map Kv.key)).2 :: RxP x A :: F) ∧ (e 0 = .ptr w 4 0 0 ∧ e 7 = kvsV l ∧ e 9 = .int .i64 (wDels W ((l.take i).map Kv.key)).1 ∧ e 10 = .int .i64 i)) ⟨hs, by simp [Env.upd_apply, initE, wDels]⟩ ?_
  clear hs hs1 hwp
  rintro i e h hi' ⟨hs, he⟩
  have m1 : (i : Int) + 1 = ((i + 1 : Nat) : Int) := by omega
  simp (disch := omega) only [go_sem, simprocAttr, he, lenl, m1]
  refine cnd_dec (fun g1 => ?_) (fun g1 => ?_)
  · have hil : i < l.length := by omega
    have hia := ia_lst (f := kvC) (l := l) (i := i) (s := 6) (k := .i64) hil (fun _ => rfl)
    have hkn := hin _ (List.getElem_mem hil)
    have hst : wDels W ((l.take (i + 1)).map Kv.key) = ((wDels W ((l.take i).map Kv.key)).1 + (wDel1 (wDels W ((l.take i).map Kv.key)).2 l[i].key).1, (wDel1 (wDels W ((l.take i).map Kv.key)).2 l[i].key).2) := by
      rw [List.take_succ_eq_append_getElem hil, List.map_append, List.map_cons, List.map_nil, wDels_snoc]
    have hwd := wDels_ok ok (now_keys ok) (ks := (l.take i).map Kv.key) hw
    obtain ⟨h1, h2⟩ := wDels_len (ks := (l.take i).map Kv.key) (W := W)
    obtain ⟨t, ht⟩ := wDels_app (ks := (l.take i).map Kv.key) (W := W)
    rw [List.length_map, List.length_take] at h1 h2
    have hcl2 := cur_le hwd
    rw [hst]
    generalize l[i] = y at hia hkn ⊢
    simp only [kvC] at hia
    generalize wDels W ((l.take i).map Kv.key) = V at *
    simp (disch := omega) only [go_sem, simprocAttr, he, hia]
    refine call_use (rgChanged (key := y.key) hs (by omega)) ?_
    rintro r h ⟨hr', hs⟩
    subst hr'
    cases hc : wChg V.2 y.key with
    | true =>
      have ed : wDel1 V.2 y.key = (0, V.2) := by rw [wDel1, if_pos (.inl hc)]
      rw [ed]
      simp (disch := omega) only [go_sem, simprocAttr, he, hc, m1]
      exact ⟨hil, hs⟩
    | false =>
      have hkn2 : kvget V.2.cur y.key ≠ none := by
        have hc0 : wChg W y.key = false := by
          unfold wChg at hc ⊢
          rw [ht, List.any_append] at hc
          simp only [Bool.or_eq_false_iff] at hc
          exact hc.1
        rw [now_same ok hwd hc, ← now_same ok hw hc0]
        exact hkn
      have ed : wDel1 V.2 y.key = (1, ⟨done V.2.cur (.del y.key), V.2.l ++ [.del y.key]⟩) := by rw [wDel1, if_neg (by rintro (h | h); rw [hc] at h; cases h; exact hkn2 h)]
      rw [ed]
      have m2 : (V.1 : Int) + 1 = ((V.1 + 1 : Nat) : Int) := by omega
      simp (disch := omega) only [go_sem, simprocAttr, he, hc, hia]
      refine call_use (rgNote (c := .del y.key) (cr := 0) (y := ⟨y.key, [], 0, A.rev + 1, 0, 0⟩) hs (hwd.srt ok) (by omega) hr (by omega) rfl (by simp [Ch.kv]) rfl) ?_
      intro r h hs
      simp (disch := omega) only [go_sem, simprocAttr, he, m1, m2]
      exact ⟨hil, hs⟩
  · simp (disch := omega) only [go_sem, simprocAttr, he]
    have hil : i = l.length := by omega
    subst hil
    rw [List.take_length] at hs ⊢
    exact ⟨rfl, hs⟩
theorem atoms_ev (l : List Ver) : AtomsL (l.map evC) := by
  intro e he v hv
  obtain ⟨k, _, rfl⟩ := List.mem_map.1 he
  simp only [evC, kvC, List.mem_cons, List.not_mem_nil, or_false] at hv
  rcases hv with rfl | rfl | rfl | rfl | rfl | rfl | rfl | rfl <;> rfl
theorem rgDn (hs : sat h (RwP w x A W :: RxP x A :: F)) (hw : WrOK A W) (hz : A.chs.length + W.l.length ≤ 1000000) (hr : A.rev ≤ 1000000000000000) (hr0 : 0 ≤ A.rev) :
    Triple Tryz.prog 18 [.ptr w 4 0 0] h (fun r h => r = .int .i64 (stDone A W).rev ∧ sat h (RxP x (stDone A W) :: F)) := by
  obtain ⟨lv, ev, ks, hlv, hs1⟩ := rwP.1 hs
  obtain ⟨o, xv, nw, ho, hs2⟩ := rxP.1 hs1.p3
  have hx := hs2.at
  have hwp := hs2.p2.at
  have hel := hs2.p3.els.len
  rw [List.length_map] at hel
  have nc := hlv.cells
  have na := hlv.atom
  refine t18 (Nat.le_of_ble_eq_true rfl) ?_
  simp (disch := omega) only [F18, hx, hwp, hel, go_sem, simprocAttr]
  by_cases w0 : W.l = []
  · have ed : stDone A W = A := by rw [stDone, if_pos w0]
    have c1 : ((W.l.length : Int) > 0) = False := by simp [w0]
    rw [ed]
    simp (disch := omega) only [go_sem, simprocAttr, c1, hx]
    exact rxP.2 ⟨o, xv, nw, ho, hs2.p2.drop.p2.drop.p2.drop.p1.p1⟩
  · have hlen : W.l.length ≠ 0 := fun h => w0 (List.length_eq_zero_iff.1 h)
    have c1 : ((W.l.length : Int) > 0) = True := by simp; omega
    have hnow := stDone_now hw
    have ed : stDone A W = ⟨A.rev + 1, A.past, A.old, A.chs ++ W.l.map fun c => ⟨A.rev + 1, c⟩⟩ := by rw [stDone, if_neg w0]
    have hs3 := hs2.set (o' := .row 5 [[.int .i64 (A.rev + 1), .int .i64 A.past, o, xv, lv]] 1)
    have hx3 := hs3.at
    have hw3 := hs3.p2.at
    simp (disch := omega) only [go_sem, simprocAttr, c1, hx, hx3, hw3, hwp, nc, na, hs2.set.p2.at, hs2.set.at]
    generalize Hp.set h x _ = h3 at hs3 hx3 hw3 ⊢
    refine new_opq hs3 fun n h hs => ?_
    have hwp := hs.p3.at
    simp (disch := omega) only [go_sem, simprocAttr, hwp]
    refine app_satO (hs.ow (Nat.zero_le _)) (hs.p2.els.1) (atoms_ev _) (by simp; omega) fun v1 h hs c1 a1 => ?_
    have hwp := hs.p3.at
    simp (disch := omega) only [go_sem, simprocAttr, c1, a1, hwp]
    have hat2 : AtomsL (W.l.map fun c => evC ⟨A.rev + 1, c⟩) := by
      have := atoms_ev (W.l.map fun c => (⟨A.rev + 1, c⟩ : Ver))
      rwa [List.map_map] at this
    refine app_sat hs (hs.p4.els.1) hat2 (by simp; omega) fun v2 h hs c2 a2 => ?_
    have hx := hs.p1.at
    have hs4 := hs.p1.set (o' := .row 5 [[.int .i64 (A.rev + 1), .int .i64 A.past, o, v2, lv]] 1)
    have hx4 := hs4.at
    simp (disch := omega) only [go_sem, simprocAttr, c2, a2, hx, hx4]
    have e1 : (stDone A W).rev = A.rev + 1 := by rw [ed]
    have e2 : (stDone A W).past = A.past := by rw [ed]
    have e3 : (stDone A W).old = A.old := by rw [ed]
    have e4 : (stDone A W).chs = A.chs ++ W.l.map fun c => ⟨A.rev + 1, c⟩ := by rw [ed]
    refine ⟨by rw [e1], rxP.2 ⟨o, v2, lv, ⟨by rw [e3]; exact ho.1, by rw [hnow]; exact hlv⟩, ?_⟩⟩
    rw [e1, e2, e4, List.map_append, List.map_map]
    exact hs4.p2.drop.p2.drop.p2.drop.p2.drop.p1.p1
end
end Go.Proofs.YtkclojjeepomfaaGreat
/- The store: a front is forgotten. -/
set_option linter.unusedSimpArgs false
set_option linter.unusedVariables false
set_option maxRecDepth 10000
namespace Go.Proofs.YtkclojjeepomfaaGreat
open Go.Hz

def stCompE (A : Sto) (r : Int) : Int := if r < 1 then 1 else if A.rev < r then 17 else if r ≤ A.past then 16 else 0
section
variable {h : Hp} {F : List Asr} {s : Nat} {A : Sto} {o : AV}
theorem cloneV_arr {b off len cap rc : Nat} {ms : List Ver} (hs : sat h (pto b (.row 2 (ms.map (verC tp td)) rc) :: F)) (h1 : off + len ≤ ms.length) (h2 : ms.length ≤ 1000000000) :
    Triple Tryz.prog 42 [.arr b 2 off len cap] h (fun r h => sat h (Ow 2 r (((ms.drop off).take len).map (verC tp td)) :: pto b (.row 2 (ms.map (verC tp td)) rc) :: F)) := by
  refine t42 (Nat.le_of_ble_eq_true rfl) ?_
  simp (disch := omega) only [F42, go_sem, simprocAttr]
  refine new_opq hs fun n h hs => ?_
  simp (disch := omega) only [go_sem, simprocAttr, hs.at]
  have hy : srcA 2 h (.arr b 2 off len cap) = some (((ms.drop off).take len).map (verC tp td)) := by
    have := src_part (c := cap) hs.p1 (off := off) (len := len) (by simpa using h1)
    rw [this]; simp
  refine app_sat (hs.ow (by simp)) hy (atoms_ver _) (by simp; omega) fun v' h hs hc' ha' => ?_
  simp (disch := omega) only [go_sem, simprocAttr]
  simpa using hs
theorem cloneV_nil (hs : sat h F) : Triple Tryz.prog 42 [.nils] h (fun r h => sat h (Ow 2 r [] :: F)) := by
  refine t42 (Nat.le_of_ble_eq_true rfl) ?_
  simp (disch := omega) only [F42, go_sem, simprocAttr]
  exact hs.add ow_nil
/-- The end of a slice, cloned. -/
theorem cloneV {cv : AV} {ms : List Ver} {k : Nat} (hk : k ≤ ms.length) (h2 : ms.length ≤ 1000000000) (hs : sat h (Ow 2 cv (ms.map (verC tp td)) :: F)) :
    ∃ sv, slcL 2 cv (some (.int .i64 (k : Int))) none = some sv ∧ Triple Tryz.prog 42 [sv] h (fun r h => sat h (Ow 2 r ((ms.drop k).map (verC tp td)) :: Ow 2 cv (ms.map (verC tp td)) :: F)) := by
  rcases hs.cases with ⟨rfl, hn0, _⟩ | ⟨b, cap, rfl, hs2, hle⟩
  · have h0 := List.map_eq_nil_iff.1 hn0
    subst h0
    have : k = 0 := by simpa using hk
    subst this
    exact ⟨.nils, rfl, cloneV_nil hs⟩
  · rw [List.length_map] at hle ⊢
    refine ⟨_, slcL_lo (by omega) (by omega) hle, ?_⟩
    rw [Nat.zero_add, show ((k : Int).toNat) = k by omega]
    refine (cloneV_arr hs2 (by omega) h2).mono fun r h hs => ?_
    rw [List.take_of_length_le (by rw [List.length_drop]; omega)] at hs
    have := hs.p1.ow (by simpa using hle)
    rw [List.length_map] at this
    exact this.p1
theorem comp1 {b c ix vm : Nat} {cv : AV} {vs : List Ver} {rev r p n : Int} (hs : sat h (pto b (.row 1 [[.ptr s 7 0 0]] 1) :: pto c (.row 1 [[.int .i64 rev]] 1) :: pto s (.row 7 [[.int .i64 r, .int .i64 p, .int .i64 n, .ptr ix 2 0 0, .map vm, cv, o]] 1) :: Ow 2 cv (vs.map (verC tp td)) :: F)) {i : Nat} (hi : i < vs.length) :
    Triple Tryz.prog 41 [.int .i64 i, .ptr b 1 0 0, .ptr c 1 0 0] h (fun r' h => r' = .bool (decide (vs[i].rev > rev)) ∧ sat h (pto b (.row 1 [[.ptr s 7 0 0]] 1) :: pto c (.row 1 [[.int .i64 rev]] 1) :: pto s (.row 7 [[.int .i64 r, .int .i64 p, .int .i64 n, .ptr ix 2 0 0, .map vm, cv, o]] 1) :: Ow 2 cv (vs.map (verC tp td)) :: F)) := by
  have hb := hs.at
  have hc := hs.p1.at
  have hp := hs.p2.at
  have hrow : (vs.map (verC tp td))[i]? = some (verC tp td vs[i]) := by simp [hi]
  obtain ⟨q, cap, hv, hq, _⟩ := hs.p3.owr.row hrow
  subst hv
  have hll : (vs.map (verC tp td)).length = vs.length := by simp
  refine t41 (Nat.le_of_ble_eq_true rfl) ?_
  simp (disch := omega) only [F41, hb, hc, hq, hp, hrow, hll, verC, Int.toNat_natCast, go_sem, simprocAttr]
  rw [hll] at hs
  exact hs
theorem mvCompact {rev : Int} (hs : sat h (StP s A o :: F)) (hz : A.old.length + A.chs.length ≤ 100000000) : Triple Tryz.prog 19 [.ptr s 7 0 0, .int .i64 rev] h
    (fun r h => r = .int .i64 (stCompE A rev) ∧ sat h (StP s (if stCompE A rev = 0 then stComp A rev else A) o :: F)) := by
  obtain ⟨ix, vm, cv, L, X, hok, hs2⟩ := mvP.1 hs
  have mk : ∀ {h : Hp}, sat h (MvL tp td s ix vm cv o A L X ++ F) → sat h (StP s A o :: F) := fun hs => mvP.2 ⟨ix, vm, cv, L, X, hok, hs⟩
  have ok := hok.1
  refine t19 (Nat.le_of_ble_eq_true rfl) ?_
  simp (disch := omega) only [F19, go_sem, simprocAttr]
  refine new_opq hs2 fun b h hs => ?_
  simp (disch := omega) only [go_sem, simprocAttr]
  refine new_opq hs fun c h hs => ?_
  have hb := hs.p1.at
  have hc := hs.at
  have hp := hs.p2.at
  by_cases c1 : rev < 1
  · have ef : stCompE A rev = 1 := by rw [stCompE, if_pos c1]
    rw [ef, if_neg (by decide)]
    simp (disch := omega) only [go_sem, simprocAttr, hb, hc, c1]
    exact mk hs.drop.drop
  by_cases c2 : A.rev < rev
  · have ef : stCompE A rev = 17 := by rw [stCompE, if_neg c1, if_pos c2]
    rw [ef, if_neg (by decide)]
    simp (disch := omega) only [go_sem, simprocAttr, hb, hc, hp, c1, show (rev > A.rev) = True by simp; omega]
    exact mk hs.drop.drop
  have d2 : (rev > A.rev) = False := by simp; omega
  by_cases c3 : rev ≤ A.past
  · have ef : stCompE A rev = 16 := by rw [stCompE, if_neg c1, if_neg c2, if_pos c3]
    rw [ef, if_neg (by decide)]
    simp (disch := omega) only [go_sem, simprocAttr, hb, hc, hp, c1, d2, c3]
    exact mk hs.drop.drop
  have ef : stCompE A rev = 0 := by rw [stCompE, if_neg c1, if_neg c2, if_neg c3]
  rw [ef, if_pos rfl]
  have okC := comp_ok ok (r := rev) (by omega) (by omega)
  have ixC := comp_ix ok hok.2.1 (r := rev) (by omega)
  have nowC := comp_now ok (r := rev)
  have hlv := hs.p4.els.len
  rw [List.length_map] at hlv
  have hs3 : sat h (pto b (.row 1 [[.ptr s 7 0 0]] 1) :: pto c (.row 1 [[.int .i64 rev]] 1) :: pto s (.row 7 [[.int .i64 A.rev, .int .i64 A.past, .int .i64 A.now.length, .ptr ix 2 0 0, .map vm, cv, o]] 1) :: Ow 2 cv (A.chs.map (verC tp td)) :: IxP ix L :: MpA (fun k : Key => AV.str k) Vn.key Vn.v vm X :: (X.map (VnP tp td) ++ F)) := hs.p5.p4.p5.p5.p4.p5
  have hs4 := hs3.p2.set (o' := .row 7 [[.int .i64 A.rev, .int .i64 rev, .int .i64 A.now.length, .ptr ix 2 0 0, .map vm, cv, o]] 1)
  have hb4 := hs4.p1.at
  have hp4 := hs4.at
  simp (disch := omega) only [go_sem, simprocAttr, hb, hc, hp, c1, d2, c3, hb4, hp4, hlv]
  generalize Hp.set h s _ = h2 at hs4 hb4 hp4 ⊢
  refine call_use (search (N := A.chs.length) (f := 41) (caps := [.ptr b 1 0 0, .ptr c 1 0 0]) (pr := fun i => match A.chs[i]? with | some w => decide (w.rev > rev) | none => true) (hs4.p5.p5.p5.p3.p5.p5) (by omega) rfl ?_ ?_) ?_
  · intro i j hij hj hi
    rw [List.getElem?_eq_getElem (by omega)] at hi ⊢
    have h3 : A.chs[i].rev > rev := by simpa using hi
    have : A.chs[i].rev ≤ A.chs[j].rev := by
      rcases Nat.lt_or_eq_of_le hij with h | h
      · exact (List.pairwise_iff_getElem.1 hok.1.chs i j (by omega) hj h).1
      · subst h; exact Int.le_refl _
    simp; omega
  · intro i h hi hs
    refine (comp1 hs hi).mono fun r h ⟨h1, h2⟩ => ⟨?_, h2⟩
    rw [h1, List.getElem?_eq_getElem hi]
  rintro r h ⟨k, hr, hk, hk1, hk2, hs⟩
  subst hr
  have hflt : (A.chs.filter fun v => decide (rev < v.rev)) = A.chs.drop k := drop_filter (fun i hi hik => by
    have := hk1 i hik
    rw [List.getElem?_eq_getElem hi] at this
    exact this) (fun i hi hik => by
    have := hk2 i hik hi
    rw [List.getElem?_eq_getElem hi] at this
    exact this)
  have hcc : (stComp A rev).chs = A.chs.drop k := hflt
  have hb := hs.at
  have hp := hs.p2.at
  obtain ⟨sv, hsv, hcl⟩ := cloneV hk (by omega) hs.p3
  simp (disch := omega) only [go_sem, simprocAttr, hb, hp, hsv]
  refine call_use' hcl ?_
  intro v h hs
  have hb := hs.p2.at
  have hp := hs.p4.at
  have cv' := hs.els.cells
  have av' := hs.els.atom
  have hs5 := hs.p4.set (o' := .row 7 [[.int .i64 A.rev, .int .i64 rev, .int .i64 A.now.length, .ptr ix 2 0 0, .map vm, v, o]] 1)
  have hb5 := hs5.p3.at
  have hc5 := hs5.p4.at
  have hp5 := hs5.at
  simp (disch := omega) only [go_sem, simprocAttr, hb, hp, cv', av', hb5, hc5, hp5]
  generalize Hp.set h s _ = h3 at hs5 hb5 hc5 hp5 ⊢
  have hLn := ix_num hok.2.1
  have hLl := ix_len hok.2.1
  refine call_use (ixTrim (rev := rev) (hs5.p2.drop.p3.drop.p4.p3.p3.p3.p4) hok.2.1.1 (fun x hx => by have := hLl x hx; omega) (by omega)) ?_
  intro r h hs
  obtain ⟨pl, cn, ⟨q1, q2, q3⟩, hs⟩ := mpA.1 (hs.p2.p2.p3.p4)
  have hb := hs.p1.at
  have hp := hs.p2.at
  simp (disch := omega) only [go_sem, simprocAttr, hb, hp]
  refine rng_use hs fun q h hs => ?_
  simp (disch := omega) only [go_sem, simprocAttr]
  have hI0 : CompI A (stComp A rev) pl [] cn := by
    have hkn : (pl.map fun p => p.1.key).Nodup := by
      have := (q1.map Vn.key).nodup_iff.2 hok.2.2.1
      simpa [Function.comp_def] using this
    refine ⟨hkn, q2, q3, fun p hp => ?_, fun k hk => ?_⟩
    · have := hok.2.2.2.1 p.1 (q1.mem_iff.1 (List.mem_map_of_mem hp))
      exact ⟨this.2, by simpa using this.1⟩
    · have hA : A.vers k ≠ [] := by
        intro h
        rw [comp_vers ok k (by omega), h] at hk
        simp at hk
      obtain ⟨x, hx, hxk⟩ := hok.2.2.2.2 k hA
      obtain ⟨p, hp, rfl⟩ := List.mem_map.1 (q1.mem_iff.2 hx)
      exact ⟨p, hp, hxk⟩
  have hX0 : sat h (pto q (.itr (some vm) cn [] cn) :: pto vm (.mp (kvOf (fun k : Key => AV.str k) Vn.key Vn.v pl) cn) :: pto b (.row 1 [[.ptr s 7 0 0]] 1) :: pto s (.row 7 [[.int .i64 A.rev, .int .i64 rev, .int .i64 A.now.length, .ptr ix 2 0 0, .map vm, v, o]] 1) :: Ow 2 v ((stComp A rev).chs.map (verC tp td)) :: IxP ix (trimL L rev) :: ((pl.map fun p => p.1).map (VnP tp td) ++ F)) := by
    rw [hcc]
    refine hs.perm ?_
    have h1 : (X.map (VnP tp td)).Perm ((pl.map fun p => p.1).map (VnP tp td)) := (q1.map _).symm
    exact ((((((h1.append_right F).cons _).cons _).cons _).cons _).cons _).cons _
  clear hs hs2 hs3 hs4 hs5 hb hc hp hb4 hp4 hb5 hc5 hp5 hsv hcl q1 q2 q3
  generalize hB : stComp A rev = B at *
  refine run_loopN (fun n e h => ∃ pl seen, n = toCome seen pl ∧ CompI A B pl seen cn ∧ sat h (pto q (.itr (some vm) cn seen cn) :: pto vm (.mp (kvOf (fun k : Key => AV.str k) Vn.key Vn.v pl) cn) :: pto b (.row 1 [[.ptr s 7 0 0]] 1) :: pto s (.row 7 [[.int .i64 A.rev, .int .i64 rev, .int .i64 A.now.length, .ptr ix 2 0 0, .map vm, v, o]] 1) :: Ow 2 v (B.chs.map (verC tp td)) :: IxP ix (trimL L rev) :: ((pl.map fun p => p.1).map (VnP tp td) ++ F)) ∧ (e 2 = .ptr b 1 0 0 ∧ e 57 = .ptr q 1 0 0)) _
    ⟨pl, [], rfl, hI0, hX0, rfl, rfl⟩ ?_
  clear hI0 hX0
  rintro n e h ⟨pl, seen, rfl, hI, hs, he⟩
  have hc : ∀ x ∈ kvOf (fun k : Key => AV.str k) Vn.key Vn.v pl, x.2.2 < cn := by
    intro x hx
    obtain ⟨p, hp, rfl⟩ := List.mem_map.1 hx
    exact hI.lt p hp
  have hn : ((kvOf (fun k : Key => AV.str k) Vn.key Vn.v pl).map (·.2.2)).Nodup := by simpa [kvOf, Function.comp_def] using hI.born
  simp (disch := omega) only [go_sem, simprocAttr, he]
  refine nxt_use hs (Nat.le_refl _) hc (fun x hx hns h hs => ?_) (fun hall => ?_)
  · obtain ⟨⟨y, m⟩, hp, rfl⟩ := List.mem_map.1 hx
    have hen := ent_at hs hx hn
    obtain ⟨la, lb, rfl, ha, hb'⟩ := hI.cut hp
    simp only [] at hns hen ha hb' hs
    have hb := hs.p2.at
    have hp := hs.p3.at
    obtain ⟨n1, n2⟩ := hI.come hns ha hb'
    have hvy := hI.vs (y, m) (by simp)
    rw [if_neg hns] at hvy
    simp only [] at hvy
    have hyl := vers_le (A := A) y.key
    rw [← hvy.2] at hyl
    simp (disch := omega) only [go_sem, simprocAttr, he]
    rw [hen]
    simp (disch := omega) only [go_sem, simprocAttr, he, hb, hp]
    have hLl := ix_len hok.2.1
    have hwC := ixC.1
    have hmk := ixC.2 y.key
    refine call_use (ixMarks (key := y.key) (hs.p1.p4.p4.p4.p5) hwC (fun x hx => MaxM.trim (n := 1000000000) (fun x hx => by have := hLl x hx; omega) x hx)) ?_
    rintro r h ⟨hr, hs⟩
    subst hr
    rw [hmk]
    have lenM : lenL (.lst (((B.vers y.key).map mkV).map mkE)) = some (.int .i64 (B.vers y.key).length) := by simp [lenL]
    have hvd : B.vers y.key = y.vs.drop (dropN y.vs rev) := by rw [← hB, comp_vers ok y.key (by omega), ← hvy.2]
    have hs6 : sat h (pto vm (.mp (kvOf (fun k : Key => AV.str k) Vn.key Vn.v (la ++ (y, m) :: lb)) cn) :: pto q (.itr (some vm) cn (seen ++ [m]) cn) :: pto b (.row 1 [[.ptr s 7 0 0]] 1) :: pto s (.row 7 [[.int .i64 A.rev, .int .i64 rev, .int .i64 A.now.length, .ptr ix 2 0 0, .map vm, v, o]] 1) :: VnP tp td y :: Ow 2 v (B.chs.map (verC tp td)) :: IxP ix (trimL L rev) :: (((la ++ lb).map fun p => p.1).map (VnP tp td) ++ F)) := by
      refine (hs.p3.p3.p3.p5.p5).perm ?_
      have hp : ((((la ++ (y, m) :: lb).map fun p => p.1).map (VnP tp td)) ++ F).Perm (VnP tp td y :: ((((la ++ lb).map fun p => p.1).map (VnP tp td)) ++ F)) := by
        simp only [List.map_append, List.map_cons, List.append_assoc, List.cons_append]
        exact List.perm_middle
      refine (((((hp.cons _).cons _).trans ?_).cons _).cons _).cons _ |>.cons _
      exact (((List.Perm.swap _ _ _).cons _).trans (List.Perm.swap _ _ _))
    have hb := hs6.p2.at
    have hp := hs6.p3.at
    by_cases hB0 : B.vers y.key = []
    · have hl0 : (((B.vers y.key).length : Int) == 0) = true := by rw [hB0]; rfl
      simp (disch := omega) only [go_sem, simprocAttr, lenM, hl0, hb, hp, he]
      refine del_raw keyOK_str hs6 (fun p hp => (ha p hp).1) fun h hs => ?_
      simp (disch := omega) only [go_sem, simprocAttr, he]
      refine ⟨_, by rw [n1]; exact Nat.lt_succ_self _, la ++ lb, seen ++ [m], rfl, hI.del hB0 ha hb', ?_⟩
      exact hs.p4.drop.p5.p5.p5.p5.p4.p5
    · have hl0 : (((B.vers y.key).length : Int) == 0) = false := by
        have := List.length_pos_iff.2 hB0
        simp; omega
      have hle : (B.vers y.key).length ≤ y.vs.length ∧ y.vs.length - (B.vers y.key).length = dropN y.vs rev := by
        have h1 := List.length_pos_iff.2 hB0
        rw [hvd, List.length_drop] at h1 ⊢
        omega
      have hyl2 := hs6.p4.els.len
      rw [List.length_map] at hyl2
      have esub : (y.vs.length : Int) - (B.vers y.key).length = ((dropN y.vs rev : Nat) : Int) := by omega
      obtain ⟨sv, hsv, hcl⟩ := cloneV (cv := y.v) (ms := y.vs) (k := dropN y.vs rev) (by omega) (by omega) hs6.p4
      simp (disch := omega) only [go_sem, simprocAttr, lenM, hl0, hb, hp, he, hyl2, esub, hsv]
      refine call_use' hcl ?_
      intro w h hs
      have hb := hs.p4.at
      have hp := hs.p5.at
      simp (disch := omega) only [go_sem, simprocAttr, he, hb, hp]
      rw [← hvd] at hs
      refine set_raw keyOK_str (hs.p1.drop.p6.p6.p6.p6.p6.p5.p6) (y := (⟨y.key, w, B.vers y.key⟩ : Vn)) (fun p hp => (ha p hp).1) rfl fun h hs => ?_
      simp (disch := omega) only [go_sem, simprocAttr, he]
      refine ⟨_, by rw [n2 (⟨y.key, w, B.vers y.key⟩ : Vn)]; exact Nat.lt_succ_self _, la ++ (⟨y.key, w, B.vers y.key⟩, m) :: lb, seen ++ [m], rfl, hI.set hB0 ha hb' w, ?_⟩
      refine (hs.p1.p6.p6.p6.p6.p5.p6).perm ?_
      have hp2 : (VnP tp td ⟨y.key, w, B.vers y.key⟩ :: ((((la ++ lb).map fun p => p.1).map (VnP tp td)) ++ F)).Perm ((((la ++ ((⟨y.key, w, B.vers y.key⟩ : Vn), m) :: lb).map fun p => p.1).map (VnP tp td)) ++ F) := by
        simp only [List.map_append, List.map_cons, List.append_assoc, List.cons_append]
        exact List.perm_middle.symm
      exact (((((hp2.cons _).cons _).cons _).cons _).cons _).cons _
  · simp (disch := omega) only [go_sem, simprocAttr]
    have hfin := hI.fin fun p hp => by simpa using hall _ (List.mem_map_of_mem (f := fun p : Vn × Nat => (AV.str p.1.key, p.1.v, p.2)) hp)
    refine mvP.2 ⟨ix, vm, v, trimL L rev, pl.map fun p => p.1, ⟨okC, ixC, hfin⟩, ?_⟩
    have hs7 : sat h (MpA (fun k : Key => AV.str k) Vn.key Vn.v vm (pl.map fun p => p.1) :: pto q (.itr (some vm) cn seen cn) :: pto b (.row 1 [[.ptr s 7 0 0]] 1) :: pto s (.row 7 [[.int .i64 A.rev, .int .i64 rev, .int .i64 A.now.length, .ptr ix 2 0 0, .map vm, v, o]] 1) :: Ow 2 v (B.chs.map (verC tp td)) :: IxP ix (trimL L rev) :: ((pl.map fun p => p.1).map (VnP tp td) ++ F)) :=
      mpA.2 ⟨pl, cn, ⟨.refl _, hI.born, hI.lt⟩, hs.p1⟩
    have hs8 := hs7.p1.drop.p1.drop.p2.p3.p3
    have e1 : B.rev = A.rev := by rw [← hB]; rfl
    have e2 : B.past = rev := by rw [← hB]; rfl
    unfold MvL
    rw [nowC, e1, e2]
    exact hs8
end
end Go.Proofs.YtkclojjeepomfaaGreat
/- The law MvccPast, walked. -/
set_option linter.unusedSimpArgs false
set_option linter.unusedVariables false
set_option maxRecDepth 10000
namespace Go.Proofs.YtkclojjeepomfaaGreat
open Go.Hz

section
variable {h : Hp} {F : List Asr}
/-- The document deletes what the store deletes. -/
theorem wkeys_same {A : Sto} {W : Go.Hz.Wr} {lo hi : Key} {ks : List Key} (ok : StoOK A) (hw : WrOK A W) (hk : WKeys A W lo hi ks) : wDels W ks = wDels W ((W.cur.filter fun y => inK lo hi y.key).map Kv.key) := by
  obtain ⟨h1, _, h2⟩ := hk
  by_cases hh : hi = []
  · rw [if_pos hh] at h2
    subst h2
    refine wDels_same ok hw h1 (fun k hk => ?_) fun y hy hin => ?_
    · rw [List.mem_singleton.1 hk]; unfold inK; rw [if_pos hh]; simp
    · unfold inK at hin; rw [if_pos hh] at hin; simpa using hin
  · rw [if_neg hh] at h2
    refine wDels_same ok hw h1 (fun k hk => ?_) fun y hy hin => ?_
    · unfold inK; rw [if_neg hh]; exact ((h2 k).1 hk).2
    · unfold inK at hin; rw [if_neg hh] at hin
      refine (h2 _).2 ⟨?_, hin⟩
      cases hc : wChg W y.key with
      | true => exact .inr rfl
      | false =>
        left
        have hg := kvget_mem (hw.srt ok) hy
        rw [now_same ok hw hc, ← at_rev ok] at hg
        obtain ⟨h3, _⟩ := kvget_some hg
        exact at_vers ok ok.rev h3
end
end Go.Proofs.YtkclojjeepomfaaGreat
/- The document's store: what is asked of it. -/
set_option linter.unusedSimpArgs false
set_option linter.unusedVariables false
set_option maxRecDepth 10000
namespace Go.Proofs.YtkclojjeepomfaaGreat
open Go.Hz

section
variable {h : Hp} {F : List Asr} {x : Nat} {A : Sto} {W : Go.Hz.Wr}
/-- A change, out of a slice of one's own. -/
theorem ev_row {v : AV} {l : List Ver} (hs : sat h (Ow 8 v (l.map evC) :: F)) {i : Nat} (hi : i < l.length) : ∃ b cap, v = .arr b 8 0 l.length cap ∧ h b = some (.row 8 (l.map evC) cap) ∧ (l.map evC)[i]? = some [.int .i64 l[i].rev, .bool l[i].c.kv.isNone, .str (evKv l[i]).key, .str (evKv l[i]).val, .int .i64 (evKv l[i]).create, .int .i64 (evKv l[i]).mod, .int .i64 (evKv l[i]).ver, .int .i64 (evKv l[i]).lease] := by
  obtain ⟨b, cap, hv, hb, _⟩ := hs.owr.row (i := i) (x := evC l[i]) (by simp [hi])
  rw [List.length_map] at hv
  exact ⟨b, cap, hv, hb, by simp [hi]; rfl⟩
theorem rgAtO {r : Int} (hs : sat h (RxP x A :: F)) (hS : SrtK A.old) (hl : A.old.length + A.chs.length ≤ 1000000) :
    Triple Tryz.prog 45 [.ptr x 5 0 0, .int .i64 r] h (fun v h => SlV v ((if r = A.rev then A.now else A.at r).map kvC) ∧ sat h (RxP x A :: F)) := by
  obtain ⟨o, ev, nw, ho, hs⟩ := rxP.1 hs
  have hp := hs.at
  by_cases h0 : r = A.rev
  · have e0 : (r == A.rev) = true := by simpa using h0
    rw [if_pos h0]
    refine t45 (Nat.le_of_ble_eq_true rfl) ?_
    simp (disch := omega) only [F45, hp, e0, go_sem, simprocAttr]
    exact ⟨ho.2, rxP.2 ⟨o, ev, nw, ho, hs⟩⟩
  have e0 : (r == A.rev) = false := by simpa using h0
  rw [if_neg h0]
  have lenE := hs.p1.els.len
  rw [List.length_map] at lenE
  have hT : ∀ i (hi : i < A.chs.length), i < (A.chs.takeWhile fun v => decide (v.rev ≤ r)).length → A.chs[i].rev ≤ r := by
    intro i hi hit
    have h1 := List.all_eq_true.1 (List.all_takeWhile (p := fun v : Ver => decide (v.rev ≤ r)) (l := A.chs)) _ (List.getElem_mem hit)
    have h2 : (A.chs.takeWhile fun v => decide (v.rev ≤ r))[i] = A.chs[i] := (List.takeWhile_prefix (l := A.chs) fun v => decide (v.rev ≤ r)).getElem hit
    rw [h2] at h1
    simpa using h1
  have hN : ∀ (hi : (A.chs.takeWhile fun v => decide (v.rev ≤ r)).length < A.chs.length), ¬ A.chs[(A.chs.takeWhile fun v => decide (v.rev ≤ r)).length].rev ≤ r := by
    intro hi
    have h1 := List.takeWhile_append_dropWhile (p := fun v : Ver => decide (v.rev ≤ r)) (l := A.chs)
    have h2 := List.head?_dropWhile_not (fun v : Ver => decide (v.rev ≤ r)) A.chs
    cases hd : A.chs.dropWhile (fun v => decide (v.rev ≤ r)) with
    | nil =>
      rw [hd, List.append_nil] at h1
      have := congrArg List.length h1
      omega
    | cons y D =>
      rw [hd] at h1 h2
      have h3 : A.chs[(A.chs.takeWhile fun v => decide (v.rev ≤ r)).length]? = some y := by
        have h5 : (A.chs.takeWhile (fun v => decide (v.rev ≤ r)) ++ y :: D)[(A.chs.takeWhile fun v => decide (v.rev ≤ r)).length]? = some y := by
          rw [List.getElem?_append_right (Nat.le_refl _)]; simp
        rwa [h1] at h5
      rw [List.getElem?_eq_getElem hi] at h3
      injection h3 with h3
      rw [h3]
      simpa using h2
  have hK : (A.chs.takeWhile fun v => decide (v.rev ≤ r)).length ≤ A.chs.length := (List.takeWhile_prefix (l := A.chs) fun v => decide (v.rev ≤ r)).length_le
  have hat : A.at r = doneL A.old ((A.chs.take (A.chs.takeWhile fun v => decide (v.rev ≤ r)).length).map Ver.c) := by
    have := List.prefix_iff_eq_take.1 (List.takeWhile_prefix (l := A.chs) fun v => decide (v.rev ≤ r))
    rw [← this]; rfl
  rw [hat]
  generalize (A.chs.takeWhile fun v => decide (v.rev ≤ r)).length = K at hT hN hK ⊢
  refine t45 (Nat.le_of_ble_eq_true rfl) ?_
  simp (disch := omega) only [F45, hp, e0, go_sem, simprocAttr]
  refine run_up (N := K) (fun i e h => sat h (pto x (.row 5 [[.int .i64 A.rev, .int .i64 A.past, o, ev, nw]] 1) :: Ow 8 ev (A.chs.map evC) :: F) ∧ SlV (e 5) ((doneL A.old ((A.chs.take i).map Ver.c)).map kvC) ∧ (e 0 = .ptr x 5 0 0 ∧ e 1 = .int .i64 r ∧ e 6 = .int .i64 i)) ⟨hs, ho.1, rfl, rfl, rfl⟩ ?_
  clear hs hp
  rintro i e h hi ⟨hs, hlv, he⟩
  have hp := hs.at
  have m1 : (i : Int) + 1 = ((i + 1 : Nat) : Int) := by omega
  by_cases h2 : i < A.chs.length
  · have c1 : ((i : Int) < (A.chs.length : Int)) = True := by simp; omega
    obtain ⟨b, cap, hv, hb, hrow⟩ := ev_row hs.p1 h2
    subst hv
    by_cases h1 : i < K
    · have c2 : (A.chs[i].rev ≤ r) = True := by simpa using hT i h2 h1
      have hst : doneL A.old ((A.chs.take (i + 1)).map Ver.c) = done (doneL A.old ((A.chs.take i).map Ver.c)) A.chs[i].c := by
        rw [List.take_succ_eq_append_getElem h2, List.map_append, List.map_cons, List.map_nil, doneL_snoc]
      rw [hst]
      have hdl := doneL_le (l := A.old) (cs := (A.chs.take i).map Ver.c)
      rw [List.length_map, List.length_take] at hdl
      have hdone := fun {h : Hp} {G : List Asr} (hs : sat h G) => rgDone (v := A.chs[i]) hlv hs (doneL_srt hS) (by omega)
      generalize A.chs[i] = w at *
      generalize doneL A.old ((A.chs.take i).map Ver.c) = L at *
      simp (disch := omega) only [go_sem, simprocAttr, he, hp, lenE, c1, hb, hrow, c2, m1, Int.toNat_natCast]
      refine call_use (hdone hs) ?_
      rintro r' h ⟨hr', hs⟩
      subst hr'
      simp (disch := omega) only [go_sem, simprocAttr, he, m1]
      exact ⟨h1, hs, slV_lst⟩
    · have hi : i = K := by omega
      subst hi
      have c2 : (A.chs[i].rev ≤ r) = False := by simpa using hN h2
      generalize A.chs[i] = w at *
      simp (disch := omega) only [go_sem, simprocAttr, he, hp, lenE, c1, hb, hrow, c2, Int.toNat_natCast]
      exact ⟨hlv, rxP.2 ⟨o, _, nw, ho, hs⟩⟩
  · have c1 : ((i : Int) < (A.chs.length : Int)) = False := by simp; omega
    have hi : i = K := by omega
    subst hi
    simp (disch := omega) only [go_sem, simprocAttr, he, hp, lenE, c1]
    exact ⟨hlv, rxP.2 ⟨o, _, nw, ho, hs⟩⟩
theorem rgAtR {r : Int} (hs : sat h (RxP x A :: F)) (ok : StoOK A) (hl : A.old.length + A.chs.length ≤ 1000000) :
    Triple Tryz.prog 45 [.ptr x 5 0 0, .int .i64 r] h (fun v h => SlV v ((A.at r).map kvC) ∧ sat h (RxP x A :: F)) := by
  have e : (if r = A.rev then A.now else A.at r) = A.at r := by
    split
    · rename_i h
      rw [h, at_rev ok]
    · rfl
  have := rgAtO (r := r) hs ok.old hl
  rw [e] at this
  exact this
theorem rgRange {lo hi : Key} {rev lim : Int} (hs : sat h (RxP x A :: F)) (ok : StoOK A) (hl : A.old.length + A.chs.length ≤ 1000000) :
    Triple Tryz.prog 22 [.ptr x 5 0 0, .str lo, .str hi, .int .i64 rev, .int .i64 lim] h (fun r h => ∃ v, SlV v ((stRange A lo hi rev lim).1.map kvC) ∧ r = .tup [v, .int .i64 (stRange A lo hi rev lim).2.1, .int .i64 (stRange A lo hi rev lim).2.2] ∧ sat h (RxP x A :: F)) := by
  have hre := ok.rev
  obtain ⟨o, ev, nw, ho, hs1⟩ := rxP.1 hs
  have hp := hs1.at
  refine t22 (Nat.le_of_ble_eq_true rfl) ?_
  simp (disch := omega) only [F22, go_sem, simprocAttr]
  by_cases c1 : rev < 0
  · have ef : stRange A lo hi rev lim = ([], 0, 1) := by rw [stRange, if_pos c1]
    rw [ef]
    simp (disch := omega) only [go_sem, simprocAttr, c1]
    exact ⟨.nils, slV_nil, rfl, hs⟩
  by_cases c2 : A.rev < rev
  · have ef : stRange A lo hi rev lim = ([], 0, 17) := by rw [stRange, if_neg c1, if_pos c2]
    have d2 : (rev > A.rev) = True := by simp; omega
    rw [ef]
    simp (disch := omega) only [go_sem, simprocAttr, c1, hp, d2]
    exact ⟨.nils, slV_nil, rfl, hs⟩
  have d2 : (rev > A.rev) = False := by simp; omega
  by_cases c3 : 0 < rev ∧ rev < A.past
  · have ef : stRange A lo hi rev lim = ([], 0, 16) := by rw [stRange, if_neg c1, if_neg c2, if_pos c3]
    have d3 : (rev > 0) = True := by simp; omega
    have d4 : (rev < A.past) = True := by simp; omega
    rw [ef]
    simp (disch := omega) only [go_sem, simprocAttr, c1, hp, d2, d3, d4]
    exact ⟨.nils, slV_nil, rfl, hs⟩
  obtain ⟨q, hq⟩ : ∃ q, q = (if rev = 0 then A.rev else rev) := ⟨_, rfl⟩
  have ef : stRange A lo hi rev lim = ((rngL (A.at q) lo hi lim).1, (rngL (A.at q) lo hi lim).2, 0) := by rw [stRange, if_neg c1, if_neg c2, if_neg c3, hq]
  rw [ef]
  by_cases r0 : rev = 0
  case' pos =>
    subst r0
    rw [if_pos rfl] at hq
    subst hq
    simp (disch := omega) only [go_sem, simprocAttr, c1, hp, d2]
  case' neg =>
    rw [if_neg r0] at hq
    subst hq
    have d3 : (q > 0) = True := by simp; omega
    have d4 : (q < A.past) = False := by simp; omega
    have e0 : (q == 0) = false := by simpa using r0
    simp (disch := omega) only [go_sem, simprocAttr, c1, hp, d2, d3, d4, e0]
  all_goals
    refine call_use (rgAtR hs ok hl) ?_
    rintro v h ⟨hv, hs⟩
    simp (disch := omega) only [go_sem, simprocAttr]
    refine call_use (rgPick (lo := lo) (hi := hi) (lim := lim) hv hs (Nat.le_trans at_le hl)) ?_
    rintro r h ⟨hr, hs⟩
    subst hr
    simp (disch := omega) only [go_sem, simprocAttr]
    exact ⟨_, slV_lst, rfl, hs⟩
theorem fil_step {p : Ver → Bool} {l : List Ver} {i : Nat} (hi : i < l.length) : (l.take (i + 1)).filter p = (l.take i).filter p ++ if p l[i] = true then [l[i]] else [] := by
  rw [List.take_succ_eq_append_getElem hi, List.filter_append, List.filter_cons, List.filter_nil]
theorem rgSinceO {rev : Int} (hs : sat h (RxP x A :: F)) (hl : A.chs.length ≤ 1000000) :
    Triple Tryz.prog 24 [.ptr x 5 0 0, .int .i64 rev] h (fun r h => ∃ v, r = .tup [v, .int .i64 (stSince A rev).2] ∧ sat h (Ow 8 v ((stSince A rev).1.map evC) :: RxP x A :: F)) := by
  obtain ⟨o, ev, nw, ho, hs1⟩ := rxP.1 hs
  have hp := hs1.at
  refine t24 (Nat.le_of_ble_eq_true rfl) ?_
  simp (disch := omega) only [F24, go_sem, simprocAttr]
  by_cases c1 : rev < 1
  · have ef : stSince A rev = ([], 1) := by rw [stSince, if_pos c1]
    rw [ef]
    simp (disch := omega) only [go_sem, simprocAttr, c1]
    exact ⟨.nils, rfl, hs.add ow_nil⟩
  by_cases c2 : rev ≤ A.past
  · have ef : stSince A rev = ([], 16) := by rw [stSince, if_neg c1, if_pos c2]
    rw [ef]
    simp (disch := omega) only [go_sem, simprocAttr, c1, hp, c2]
    exact ⟨.nils, rfl, hs.add ow_nil⟩
  have ef : stSince A rev = (A.chs.filter fun v => decide (rev ≤ v.rev), 0) := by rw [stSince, if_neg c1, if_neg c2]
  rw [ef]
  simp (disch := omega) only [go_sem, simprocAttr, c1, hp, c2]
  refine run_up (N := A.chs.length) (fun i e h => ∃ v, sat h (Ow 8 v (((A.chs.take i).filter fun v => decide (rev ≤ v.rev)).map evC) :: pto x (.row 5 [[.int .i64 A.rev, .int .i64 A.past, o, ev, nw]] 1) :: Ow 8 ev (A.chs.map evC) :: F) ∧ (e 0 = .ptr x 5 0 0 ∧ e 1 = .int .i64 rev ∧ e 6 = v ∧ e 7 = .int .i64 i)) ⟨.nils, hs1.add ow_nil, by simp [Env.upd_apply, initE]⟩ ?_
  clear hs hs1 hp
  rintro i e h hi ⟨v, hs, he⟩
  have hp := hs.p1.at
  have lenE := hs.p2.els.len
  rw [List.length_map] at lenE
  have m1 : (i : Int) + 1 = ((i + 1 : Nat) : Int) := by omega
  simp (disch := omega) only [go_sem, simprocAttr, he, hp, lenE, m1]
  refine cnd_dec (fun g1 => ?_) (fun g1 => ?_)
  · have hil : i < A.chs.length := by omega
    obtain ⟨b, cap, hv, hb, hrow⟩ := ev_row hs.p2 hil
    subst hv
    have hfl := List.length_filter_le (fun v : Ver => decide (rev ≤ v.rev)) (A.chs.take i)
    rw [List.length_take] at hfl
    rw [fil_step hil]
    have hev : evC A.chs[i] = _ := rfl
    generalize A.chs[i] = w at hrow ⊢
    by_cases c3 : rev ≤ w.rev
    · have c4 : (w.rev ≥ rev) = True := by simp; omega
      have c5 : decide (rev ≤ w.rev) = true := decide_eq_true c3
      rw [c5, if_pos rfl]
      simp (disch := omega) only [go_sem, simprocAttr, he, hp, hb, hrow, c4, Int.toNat_natCast]
      refine new_opq hs fun n h hs => ?_
      simp (disch := omega) only [go_sem, simprocAttr]
      refine app_sat hs.p1 (src_one hs.at) (atoms_one (by simp [AV.isAtom])) (by simp; omega) fun v' h hs ca aa => ?_
      simp (disch := omega) only [go_sem, simprocAttr, he, ca, aa, m1]
      refine ⟨hil, v', ?_, rfl⟩
      rw [List.map_append]
      exact hs.d1
    · have c4 : (w.rev ≥ rev) = False := by simp; omega
      have c5 : decide (rev ≤ w.rev) = false := decide_eq_false c3
      rw [c5, if_neg (by simp), List.append_nil]
      simp (disch := omega) only [go_sem, simprocAttr, he, hp, hb, hrow, c4, Int.toNat_natCast, m1]
      exact ⟨hil, v, hs, rfl⟩
  · have hil : i = A.chs.length := by omega
    subst hil
    rw [List.take_length] at hs
    simp (disch := omega) only [go_sem, simprocAttr, he]
    exact ⟨v, rfl, (rxP.2 ⟨o, ev, nw, ho, hs.p2.p2⟩).p1⟩
theorem rgSince {rev : Int} (hs : sat h (RxP x A :: F)) (hl : A.chs.length ≤ 1000000) :
    Triple Tryz.prog 24 [.ptr x 5 0 0, .int .i64 rev] h (fun r h => r = .tup [evsV (stSince A rev).1, .int .i64 (stSince A rev).2] ∧ sat h (RxP x A :: F)) :=
  Triple.lst1 8 ((rgSinceO hs hl).mono fun r h ⟨v, hr, hs⟩ => ⟨v, _, _, _, hr, hs, fun h hs => ⟨rfl, hs⟩⟩)
theorem rgCompact {rev : Int} (hs : sat h (RxP x A :: F)) (ok : StoOK A) (hl : A.old.length + A.chs.length ≤ 1000000) :
    Triple Tryz.prog 20 [.ptr x 5 0 0, .int .i64 rev] h (fun r h => r = .int .i64 (stCompE A rev) ∧ sat h (RxP x (if stCompE A rev = 0 then stComp A rev else A) :: F)) := by
  obtain ⟨o, ev, nw, ho, hs1⟩ := rxP.1 hs
  have hp := hs1.at
  refine t20 (Nat.le_of_ble_eq_true rfl) ?_
  simp (disch := omega) only [F20, go_sem, simprocAttr]
  by_cases c1 : rev < 1
  · have ef : stCompE A rev = 1 := by rw [stCompE, if_pos c1]
    rw [ef, if_neg (by decide)]
    simp (disch := omega) only [go_sem, simprocAttr, c1]
    exact hs
  by_cases c2 : A.rev < rev
  · have ef : stCompE A rev = 17 := by rw [stCompE, if_neg c1, if_pos c2]
    have d2 : (rev > A.rev) = True := by simp; omega
    rw [ef, if_neg (by decide)]
    simp (disch := omega) only [go_sem, simprocAttr, c1, hp, d2]
    exact hs
  have d2 : (rev > A.rev) = False := by simp; omega
  by_cases c3 : rev ≤ A.past
  · have ef : stCompE A rev = 16 := by rw [stCompE, if_neg c1, if_neg c2, if_pos c3]
    rw [ef, if_neg (by decide)]
    simp (disch := omega) only [go_sem, simprocAttr, c1, hp, d2, c3]
    exact hs
  have ef : stCompE A rev = 0 := by rw [stCompE, if_neg c1, if_neg c2, if_neg c3]
  rw [ef, if_pos rfl]
  simp (disch := omega) only [go_sem, simprocAttr, c1, hp, d2, c3]
  refine call_use (rgAtR (r := rev) hs ok hl) ?_
  rintro w h ⟨hw, hs⟩
  obtain ⟨o, ev, nw, ho, hs⟩ := rxP.1 hs
  have hp := hs.at
  have hs2 := hs.set (o' := .row 5 [[.int .i64 A.rev, .int .i64 A.past, w, ev, nw]] 1)
  have nc := hw.cells
  have na := hw.atom
  simp (disch := omega) only [go_sem, simprocAttr, hp, nc, na]
  generalize Hp.set h x _ = h2 at hs2 ⊢
  refine blk_join (Q := fun e h => ∃ v, sat h (Ow 8 v ((stComp A rev).chs.map evC) :: pto x (.row 5 [[.int .i64 A.rev, .int .i64 A.past, w, ev, nw]] 1) :: Ow 8 ev (A.chs.map evC) :: F) ∧ (e 0 = .ptr x 5 0 0 ∧ e 1 = .int .i64 rev ∧ e 5 = v)) ?_ ?_
  · refine run_up (N := A.chs.length) (fun i e h => ∃ v, sat h (Ow 8 v (((A.chs.take i).filter fun v => decide (rev < v.rev)).map evC) :: pto x (.row 5 [[.int .i64 A.rev, .int .i64 A.past, w, ev, nw]] 1) :: Ow 8 ev (A.chs.map evC) :: F) ∧ (e 0 = .ptr x 5 0 0 ∧ e 1 = .int .i64 rev ∧ e 5 = v ∧ e 6 = .int .i64 i)) ⟨.nils, hs2.add ow_nil, by simp [Env.upd_apply, initE]⟩ ?_
    clear hs hs1 hp hs2
    rintro i e h hi ⟨v, hs, he⟩
    have hp := hs.p1.at
    have lenE := hs.p2.els.len
    rw [List.length_map] at lenE
    have m1 : (i : Int) + 1 = ((i + 1 : Nat) : Int) := by omega
    simp (disch := omega) only [go_sem, simprocAttr, he, hp, lenE, m1]
    refine cnd_dec (fun g1 => ?_) (fun g1 => ?_)
    · have hil : i < A.chs.length := by omega
      obtain ⟨b, cap, hv, hb, hrow⟩ := ev_row hs.p2 hil
      subst hv
      have hfl := List.length_filter_le (fun v : Ver => decide (rev < v.rev)) (A.chs.take i)
      rw [List.length_take] at hfl
      rw [fil_step hil]
      generalize A.chs[i] = y at hrow ⊢
      by_cases c3 : rev < y.rev
      · have c4 : (y.rev > rev) = True := by simp; omega
        have c5 : decide (rev < y.rev) = true := decide_eq_true c3
        rw [c5, if_pos rfl]
        simp (disch := omega) only [go_sem, simprocAttr, he, hp, hb, hrow, c4, Int.toNat_natCast]
        refine new_opq hs fun n h hs => ?_
        simp (disch := omega) only [go_sem, simprocAttr]
        refine app_sat hs.p1 (src_one hs.at) (atoms_one (by simp [AV.isAtom])) (by simp; omega) fun v' h hs ca aa => ?_
        simp (disch := omega) only [go_sem, simprocAttr, he, ca, aa, m1]
        refine ⟨hil, v', ?_, rfl⟩
        rw [List.map_append]
        exact hs.d1
      · have c4 : (y.rev > rev) = False := by simp; omega
        have c5 : decide (rev < y.rev) = false := decide_eq_false c3
        rw [c5, if_neg (by simp), List.append_nil]
        simp (disch := omega) only [go_sem, simprocAttr, he, hp, hb, hrow, c4, Int.toNat_natCast, m1]
        exact ⟨hil, v, hs, rfl⟩
    · have hil : i = A.chs.length := by omega
      subst hil
      rw [List.take_length] at hs
      simp (disch := omega) only [go_sem, simprocAttr, he]
      exact ⟨v, hs, rfl⟩
  clear hs hs1 hp hs2
  rintro e h ⟨v, hs, he⟩
  have hp := hs.p1.at
  have hs2 := hs.p1.set (o' := .row 5 [[.int .i64 A.rev, .int .i64 rev, w, v, nw]] 1)
  have vc := hs.els.cells
  have va := hs.els.atom
  have hp2 := hs2.at
  simp (disch := omega) only [go_sem, simprocAttr, he, hp, vc, va, hp2]
  have hn := comp_now ok (r := rev)
  refine rxP.2 ⟨w, v, nw, ⟨hw, by rw [hn]; exact ho.2⟩, ?_⟩
  exact hs2.p2.drop.p1.p1
theorem ev_self (v : Ver) : eqsA [PK.i, PK.b, PK.s, PK.s, PK.i, PK.i, PK.i, PK.i] true (.agg (evC v)) (.agg (evC v)) = some (.bool false) := by
  simp [eqsA, eqCs, eqC, evC, kvC]
end
end Go.Proofs.YtkclojjeepomfaaGreat
