/- The store: the changes from a revision on. -/
import Derived.Test.YtaioncbpfckhaaaGreatR40WatchPlaysLawPD
set_option linter.unusedSimpArgs false
set_option linter.unusedVariables false
set_option maxRecDepth 10000
namespace Go.Proofs.YtaioncbpfckhaaaGreat
open Go.Hz

/-- A change, as it is told. -/
def evC (v : Ver) : List AV := .int .i64 v.rev :: .bool v.c.kv.isNone :: kvC (v.c.kv.getD ⟨v.c.key, [], 0, v.rev, 0, 0⟩)
abbrev evsV (l : List Ver) : AV := .lst (l.map evC)
def stSince (A : Sto) (r : Int) : List Ver × Int := if r < 1 then ([], 1) else if r ≤ A.past then ([], 16) else (A.chs.filter fun v => decide (r ≤ v.rev), 0)
theorem drop_filter {α : Type} {p : α → Bool} {l : List α} {k : Nat} (h1 : ∀ i (hi : i < l.length), i < k → p l[i] = false) (h2 : ∀ i (hi : i < l.length), k ≤ i → p l[i] = true) : l.filter p = l.drop k := by
  have e : l.filter p = (l.take k).filter p ++ (l.drop k).filter p := by rw [← List.filter_append, List.take_append_drop]
  rw [e, List.filter_eq_nil_iff.2, List.nil_append, List.filter_eq_self.2]
  · intro x hx
    obtain ⟨i, hi, rfl⟩ := List.getElem_of_mem hx
    rw [List.length_drop] at hi
    rw [List.getElem_drop]
    exact h2 _ (by omega) (by omega)
  · intro x hx
    obtain ⟨i, hi, rfl⟩ := List.getElem_of_mem hx
    rw [List.length_take] at hi
    rw [List.getElem_take, h1 i (by omega) (by omega)]; simp
section
variable {h : Hp} {F : List Asr} {s : Nat} {A : Sto} {o : AV}
theorem mvEvent {v : Ver} (hs : sat h F) : Triple Tryz.prog 75 [.agg (verC tp td v)] h (fun r h => r = .agg (evC v) ∧ sat h F) := by
  have cc := chV_cells (tp := tp) (td := td) v.c
  have ca := chV_atom (tp := tp) (td := td) v.c
  refine t75 (Nat.le_of_ble_eq_true rfl) ?_
  simp (disch := omega) only [F75, verC, ca, go_sem, simprocAttr]
  refine new_opq hs fun a h hs => ?_
  simp (disch := omega) only [go_sem, simprocAttr]
  refine new_opq hs fun b h hs => ?_
  have ha := hs.p1.at
  obtain ⟨rv, c⟩ := v
  cases c with
  | put kv =>
    simp (disch := omega) only [go_sem, simprocAttr, ha, taA, chV, tp, td, kvC]
    refine new_opq hs fun y h hs => ?_
    have hy := hs.at
    have hs5 := hs.set (o' := .row 6 [kvC kv] 1)
    have hy5 := hs5.at
    have hb5 := hs5.p1.at
    have ha5 := hs5.p2.at
    simp only [kvC, kv0, chV] at hy5 hb5 ha5 hs5
    simp (disch := omega) only [go_sem, simprocAttr, hy, hy5, hb5, ha5, kvC]
    have hs6 := hs5.p1.set (o' := .row 8 [evC ⟨rv, .put kv⟩] 1)
    refine ⟨by simp [evC, Ch.kv, kvC], hs6.drop.drop.drop⟩
  | del k =>
    simp (disch := omega) only [go_sem, simprocAttr, ha, taA, chV, tp, td, kvC]
    refine new_opq hs fun y h hs => ?_
    have hy := hs.at
    have hs5 := hs.set (o' := .row 6 [kvC kv0] 1)
    have ha5 := hs5.p2.at
    simp only [kvC, kv0, chV] at ha5 hs5
    simp (disch := omega) only [go_sem, simprocAttr, hy, ha5, kvC]
    generalize Hp.set h y _ = h3 at hs5 ha5 ⊢
    refine inv_key hs5 (.del k) fun h hs => ?_
    have ha := hs.p2.at
    have hb := hs.p1.at
    simp (disch := omega) only [go_sem, simprocAttr, ha, hb]
    refine ⟨by simp [evC, Ch.kv, Ch.key, kvC], ?_⟩
    exact hs.p1.set.drop.drop.drop
theorem since1 {b c cap ix vm q : Nat} {vs : List Ver} {rev r p n : Int} (hs : sat h (pto b (.row 1 [[.ptr s 7 0 0]] 1) :: pto c (.row 1 [[.int .i64 rev]] 1) :: pto s (.row 7 [[.int .i64 r, .int .i64 p, .int .i64 n, .ptr ix 2 0 0, .map vm, .arr q 2 0 vs.length cap, o]] 1) :: pto q (.row 2 (vs.map (verC tp td)) cap) :: F)) {i : Nat} (hi : i < vs.length) :
    Triple Tryz.prog 74 [.int .i64 i, .ptr b 1 0 0, .ptr c 1 0 0] h (fun r' h => r' = .bool (decide (rev ≤ vs[i].rev)) ∧ sat h (pto b (.row 1 [[.ptr s 7 0 0]] 1) :: pto c (.row 1 [[.int .i64 rev]] 1) :: pto s (.row 7 [[.int .i64 r, .int .i64 p, .int .i64 n, .ptr ix 2 0 0, .map vm, .arr q 2 0 vs.length cap, o]] 1) :: pto q (.row 2 (vs.map (verC tp td)) cap) :: F)) := by
  have hb := hs.at
  have hc := hs.p1.at
  have hq := hs.p3.at
  have hp := hs.p2.at
  have hrow : (vs.map (verC tp td))[i]? = some (verC tp td vs[i]) := by simp [hi]
  refine t74 (Nat.le_of_ble_eq_true rfl) ?_
  simp (disch := omega) only [F74, hb, hc, hq, hp, hrow, verC, Int.toNat_natCast, go_sem, simprocAttr]
  exact hs
theorem mvSinceO {rev : Int} (hs : sat h (StP s A o :: F)) (hz : A.chs.length ≤ 100000000) : Triple Tryz.prog 59 [.ptr s 7 0 0, .int .i64 rev] h
    (fun r h => ∃ v, r = .tup [v, .int .i64 (stSince A rev).2] ∧ sat h (Ow 8 v ((stSince A rev).1.map evC) :: StP s A o :: F)) := by
  obtain ⟨ix, vm, cv, L, X, hok, hs2⟩ := mvP.1 hs
  have mk : ∀ {h : Hp}, sat h (MvL tp td s ix vm cv o A L X ++ F) → sat h (StP s A o :: F) := fun hs => mvP.2 ⟨ix, vm, cv, L, X, hok, hs⟩
  refine t59 (Nat.le_of_ble_eq_true rfl) ?_
  simp (disch := omega) only [F59, go_sem, simprocAttr]
  refine new_opq hs2 fun b h hs => ?_
  simp (disch := omega) only [go_sem, simprocAttr]
  refine new_opq hs fun c h hs => ?_
  have hb := hs.p1.at
  have hc := hs.at
  have hp := hs.p2.at
  by_cases c1 : rev < 1
  · have ef : stSince A rev = ([], 1) := by rw [stSince, if_pos c1]
    rw [ef]
    simp (disch := omega) only [go_sem, simprocAttr, hb, hc, c1]
    exact ⟨.nils, rfl, (mk hs.drop.drop).add ow_nil⟩
  by_cases c2 : rev ≤ A.past
  · have ef : stSince A rev = ([], 16) := by rw [stSince, if_neg c1, if_pos c2]
    rw [ef]
    simp (disch := omega) only [go_sem, simprocAttr, hb, hc, hp, c1, c2]
    exact ⟨.nils, rfl, (mk hs.drop.drop).add ow_nil⟩
  have ef : stSince A rev = (A.chs.filter fun v => decide (rev ≤ v.rev), 0) := by rw [stSince, if_neg c1, if_neg c2]
  rw [ef]
  have hlv := hs.p4.els.len
  rw [List.length_map] at hlv
  simp (disch := omega) only [go_sem, simprocAttr, hb, hc, hp, c1, c2, hlv]
  rcases hs.p4.cases with ⟨hv, hn0, hs3⟩ | ⟨q, cap, hv, hs3, hle⟩
  · have hn1 : A.chs = [] := List.map_eq_nil_iff.1 hn0
    subst hv
    rw [hn1, List.length_nil]
    refine call_use (search (N := 0) (f := 74) (caps := [.ptr b 1 0 0, .ptr c 1 0 0]) (pr := fun i => true) hs (by omega) rfl (fun _ _ _ _ _ => rfl) (fun i h hi => absurd hi (by omega))) ?_
    rintro r h ⟨k, hr, hk, _, _, hs⟩
    subst hr
    have : k = 0 := by omega
    subst this
    have hb := hs.p1.at
    have hp := hs.p2.at
    have hsl : slcL 2 .nils (some (.int .i64 0)) none = some .nils := rfl
    simp (disch := omega) only [go_sem, simprocAttr, hb, hp, hsl]
    refine run_up (N := 0) (fun i e h => sat h (StP s A o :: F) ∧ (e 7 = .nils ∧ e 34 = .int .i64 i ∧ e 33 = .int .i64 0)) ⟨mk hs.drop.drop, by simp [Env.upd_apply]⟩ ?_
    clear hs hb hp hc hlv
    rintro i e h hi ⟨hs, he⟩
    have : i = 0 := by omega
    subst this
    simp (disch := omega) only [go_sem, simprocAttr, he]
    exact ⟨.nils, rfl, hs.add ow_nil⟩
  · subst hv
    have hll : (A.chs.map (verC tp td)).length = A.chs.length := by simp
    simp only [hll] at hs3 hle
    have hs4 : sat h (pto b (.row 1 [[.ptr s 7 0 0]] 1) :: pto c (.row 1 [[.int .i64 rev]] 1) :: pto s (.row 7 [[.int .i64 A.rev, .int .i64 A.past, .int .i64 A.now.length, .ptr ix 2 0 0, .map vm, .arr q 2 0 A.chs.length cap, o]] 1) :: pto q (.row 2 (A.chs.map (verC tp td)) cap) :: IxP ix L :: MpA (fun k : Key => AV.str k) Vn.key Vn.v vm X :: (X.map (VnP tp td) ++ F)) := hs3.p5.p5.p2.p5.p4.p5
    simp only [hll] at hlv mk
    refine call_use (search (N := A.chs.length) (f := 74) (caps := [.ptr b 1 0 0, .ptr c 1 0 0]) (pr := fun i => match A.chs[i]? with | some w => decide (rev ≤ w.rev) | none => true) hs4 (by omega) rfl ?_ ?_) ?_
    · intro i j hij hj hi
      rw [List.getElem?_eq_getElem (by omega)] at hi ⊢
      have h3 : rev ≤ A.chs[i].rev := by simpa using hi
      have : A.chs[i].rev ≤ A.chs[j].rev := by
        rcases Nat.lt_or_eq_of_le hij with h | h
        · exact (List.pairwise_iff_getElem.1 hok.1.chs i j (by omega) hj h).1
        · subst h; exact Int.le_refl _
      simp; omega
    · intro i h hi hs
      refine (since1 hs hi).mono fun r h ⟨h1, h2⟩ => ⟨?_, h2⟩
      rw [h1, List.getElem?_eq_getElem hi]
    rintro r h ⟨k, hr, hk, hk1, hk2, hs⟩
    subst hr
    have hflt : (A.chs.filter fun v => decide (rev ≤ v.rev)) = A.chs.drop k := drop_filter (fun i hi hik => by
      have := hk1 i hik
      rw [List.getElem?_eq_getElem hi] at this
      exact this) (fun i hi hik => by
      have := hk2 i hik hi
      rw [List.getElem?_eq_getElem hi] at this
      exact this)
    rw [hflt]
    have hb := hs.at
    have hp := hs.p2.at
    have hsl : slcL 2 (.arr q 2 0 A.chs.length cap) (some (.int .i64 (k : Int))) none = some (.arr q 2 k (A.chs.length - k) (cap - k)) := by
      rw [slcL_lo (by omega) (by omega) hle]; simp
    simp (disch := omega) only [go_sem, simprocAttr, hb, hp, hsl]
    have mk2 : ∀ {h : Hp}, sat h (pto s (.row 7 [[.int .i64 A.rev, .int .i64 A.past, .int .i64 A.now.length, .ptr ix 2 0 0, .map vm, .arr q 2 0 A.chs.length cap, o]] 1) :: pto q (.row 2 (A.chs.map (verC tp td)) cap) :: IxP ix L :: MpA (fun k : Key => AV.str k) Vn.key Vn.v vm X :: (X.map (VnP tp td) ++ F)) → sat h (StP s A o :: F) := by
      intro h hs
      have := hs.p1.ow (by simpa using hle)
      rw [hll] at this
      exact mk this.p3.p1.p3.p3
    refine run_up (N := A.chs.length - k) (fun i e h => sat h (Ow 8 (e 7) (((A.chs.drop k).take i).map evC) :: pto s (.row 7 [[.int .i64 A.rev, .int .i64 A.past, .int .i64 A.now.length, .ptr ix 2 0 0, .map vm, .arr q 2 0 A.chs.length cap, o]] 1) :: pto q (.row 2 (A.chs.map (verC tp td)) cap) :: IxP ix L :: MpA (fun k : Key => AV.str k) Vn.key Vn.v vm X :: (X.map (VnP tp td) ++ F)) ∧
      (e 32 = .arr q 2 k (A.chs.length - k) (cap - k) ∧ e 33 = .int .i64 (A.chs.length - k : Nat) ∧ e 34 = .int .i64 i)) ⟨?_, ?_⟩ ?_
    · rw [List.take_zero]
      exact (hs.drop.drop).add ow_nil
    · simp [Env.upd_apply]
    clear hs hs3 hs4 hb hp hc hlv
    rintro i e h hi ⟨hs, he⟩
    have m1 : (i : Int) + 1 = ((i + 1 : Nat) : Int) := by omega
    simp (disch := omega) only [go_sem, simprocAttr, he, m1]
    refine cnd_dec (fun h1 => ?_) (fun h1 => ?_)
    · have hi' : k + i < A.chs.length := by omega
      have hq := hs.p2.at
      have hrow : (A.chs.map (verC tp td))[k + i]? = some (verC tp td A.chs[k + i]) := by simp [hi']
      have ca := chV_atom (tp := tp) (td := td) A.chs[k + i].c
      have cc := chV_cells (tp := tp) (td := td) A.chs[k + i].c
      have hst : (A.chs.drop k).take (i + 1) = (A.chs.drop k).take i ++ [A.chs[k + i]] := by
        rw [List.take_succ_eq_append_getElem (by rw [List.length_drop]; omega), List.getElem_drop]
      rw [hst]
      generalize A.chs[k + i] = v at *
      simp (disch := omega) only [go_sem, simprocAttr, he, hq, hrow, Int.toNat_natCast, verC]
      refine new_opq hs fun y h hs => ?_
      have hy := hs.at
      have hs2 := hs.set (o' := .row 2 [verC tp td v] 1)
      have hy2 := hs2.at
      simp only [verC] at hy2 hs2
      simp (disch := omega) only [go_sem, simprocAttr, hy, ca, cc, hy2, he]
      generalize Hp.set h y _ = h3 at hs2 hy2 ⊢
      refine call_use (mvEvent (v := v) hs2) ?_
      rintro r h ⟨hr, hs⟩
      subst hr
      simp (disch := omega) only [go_sem, simprocAttr, evC, kvC]
      refine new_opq hs fun z h hs => ?_
      simp (disch := omega) only [go_sem, simprocAttr]
      refine app_sat hs.p2 (src_one hs.at) (atoms_one (by simp [AV.isAtom])) (by simp; omega) fun v' h hs ca' aa => ?_
      simp (disch := omega) only [go_sem, simprocAttr, he, m1]
      refine ⟨by omega, ?_⟩
      have := hs.p1.drop.p1.drop.p4.p4.p4.p4.p4
      simpa [evC, kvC] using this
    · have hi' : i = A.chs.length - k := by omega
      subst hi'
      rw [List.take_of_length_le (by rw [List.length_drop]; omega)] at hs
      simp (disch := omega) only [go_sem, simprocAttr, he]
      rw [← show (stSince A rev).1 = A.chs.drop k by rw [ef]; exact hflt] at hs
      exact ⟨_, rfl, by rw [ef] at hs; rw [← hflt]; exact hs.tl fun _ h => mk2 h⟩
end
end Go.Proofs.YtaioncbpfckhaaaGreat
/- Watchers: a range, a watcher's changes; slices.DeleteFunc of events; whole revisions. -/
set_option linter.unusedSimpArgs false
set_option linter.unusedVariables false
set_option maxRecDepth 10000
namespace Go.Proofs.YtaioncbpfckhaaaGreat
open Go.Hz

section
variable {h : Hp} {F : List Asr} {p s c : Nat} {A : Sto} {o : AV}
theorem evC_key2 (v : Ver) : (v.c.kv.getD ⟨v.c.key, [], 0, v.rev, 0, 0⟩).key = v.c.key := by cases v.c <;> rfl
/-- A change's cells. -/
def kvE2 (v : Ver) : Kv := v.c.kv.getD ⟨v.c.key, [], 0, v.rev, 0, 0⟩
theorem evC_eq2 (v : Ver) : evC v = [.int .i64 v.rev, .bool v.c.kv.isNone, .str v.c.key, .str (kvE2 v).val, .int .i64 (kvE2 v).create, .int .i64 (kvE2 v).mod, .int .i64 (kvE2 v).ver, .int .i64 (kvE2 v).lease] := by
  rw [← evC_key2 v]; rfl
theorem ev_row2 {v : AV} {l : List Ver} (hs : sat h (Ow 8 v (l.map evC) :: F)) {i : Nat} (hi : i < l.length) : ∃ b cap, v = .arr b 8 0 l.length cap ∧ h b = some (.row 8 (l.map evC) cap) ∧ (l.map evC)[i]? = some (evC l[i]) := by
  obtain ⟨b, cap, hv, hb, _⟩ := hs.owr.row (i := i) (x := evC l[i]) (by simp [hi])
  rw [List.length_map] at hv
  exact ⟨b, cap, hv, hb, by simp [hi]⟩
theorem atoms_ev2 (l : List Ver) : AtomsL (l.map evC) := by
  intro e he v hv
  obtain ⟨k, _, rfl⟩ := List.mem_map.1 he
  simp only [evC, kvC, List.mem_cons, List.not_mem_nil, or_false] at hv
  rcases hv with rfl | rfl | rfl | rfl | rfl | rfl | rfl | rfl <;> rfl
theorem wcInside {lo hi k : Key} {pl : Int} {mv : AV} (hs : sat h (pto p (.row 4 [[.str lo, .str hi, .int .i64 pl, mv]] 1) :: F)) : Triple Tryz.prog 62 [.ptr p 4 0 0, .str k] h (fun r h => r = .bool (inK lo hi k) ∧ sat h (pto p (.row 4 [[.str lo, .str hi, .int .i64 pl, mv]] 1) :: F)) := by
  have ek : inK lo hi k = if (hi == []) = true then k == lo else (!(Op.bytesLess k lo) && Op.bytesLess k hi) := by
    unfold inK inR
    by_cases hh : hi = []
    · subst hh; rfl
    · have : (hi == []) = false := by simpa using hh
      rw [if_neg hh, this]; rfl
  have e0 : (hi != []) = !(hi == []) := rfl
  have hp := hs.at
  rw [ek]
  refine t62 (Nat.le_of_ble_eq_true rfl) ?_
  simp (disch := omega) only [F62, go_sem, simprocAttr]
  cases b1 : k == lo <;> cases b0 : hi == [] <;> cases b2 : Op.bytesLess k lo <;> cases b3 : Op.bytesLess k hi
  all_goals
    simp only [b0, Bool.not_true, Bool.not_false] at e0
    simp (disch := omega) only [go_sem, simprocAttr, hp, b0, b1, b2, b3, e0]
    first | exact hs | skip
theorem wcDel_ok : okFn Tryz.prog 61 = true := by kernel_rfl
theorem wcDel {lo hi : Key} {pl : Int} {mv : AV} {v : Ver} (hs : sat h (pto c (.row 1 [[.ptr p 4 0 0]] 1) :: pto p (.row 4 [[.str lo, .str hi, .int .i64 pl, mv]] 1) :: F)) :
    Triple Tryz.prog 61 [.agg (evC v), .ptr c 1 0 0] h (fun r h => r = .bool (!inK lo hi v.c.key) ∧ sat h (pto c (.row 1 [[.ptr p 4 0 0]] 1) :: pto p (.row 4 [[.str lo, .str hi, .int .i64 pl, mv]] 1) :: F)) := by
  rw [evC_eq2]
  refine t61 (Nat.le_of_ble_eq_true rfl) ?_
  simp (disch := omega) only [F61, go_sem, simprocAttr]
  refine new_opq hs fun a h hs => ?_
  have ha := hs.at
  have hc := hs.p1.at
  simp (disch := omega) only [go_sem, simprocAttr, ha, hc]
  refine call_use (wcInside (k := v.c.key) hs.p2) ?_
  rintro r h ⟨hr, hs⟩
  subst hr
  simp (disch := omega) only [go_sem, simprocAttr]
  exact hs.p1.drop.p1
variable {l : List Ver} {q : Ver → Bool} {f : Nat} {caps : List AV}
theorem evIndex {v : AV} (hf : okFn Tryz.prog f = true) (hc : ∀ w h, sat h (Ow 8 v (l.map evC) :: F) → Triple Tryz.prog f ([.agg (evC w)] ++ caps) h (fun r h => r = .bool (q w) ∧ sat h (Ow 8 v (l.map evC) :: F))) (hs : sat h (Ow 8 v (l.map evC) :: F)) (hl : l.length ≤ 1000000000) :
    Triple Tryz.prog 76 [v, .fn f caps] h (fun r h => (∃ k : Int, r = .int .i64 k ∧ ((k = -1 ∧ ∀ x ∈ l, q x = false) ∨ ∃ i : Nat, ∃ hi : i < l.length, k = i ∧ (∀ j (hj : j < l.length), j < i → q l[j] = false) ∧ q l[i] = true)) ∧ sat h (Ow 8 v (l.map evC) :: F)) := by
  have lenE := hs.els.len
  rw [List.length_map] at lenE
  refine t76 (Nat.le_of_ble_eq_true rfl) ?_
  simp (disch := omega) only [F76, lenE, go_sem, simprocAttr]
  refine run_up (N := l.length) (fun i e h => sat h (Ow 8 v (l.map evC) :: F) ∧ (∀ j (hj : j < l.length), j < i → q l[j] = false) ∧ (e 0 = v ∧ e 1 = .fn f caps ∧ e 7 = .int .i64 l.length ∧ e 8 = .int .i64 i)) ⟨hs, fun _ _ h => by omega, by simp [Env.upd_apply, initE]⟩ ?_
  clear hs
  rintro i e h hi ⟨hs, hno, he⟩
  have m1 : (i : Int) + 1 = ((i + 1 : Nat) : Int) := by omega
  simp (disch := omega) only [go_sem, simprocAttr, he, m1]
  refine cnd_dec (fun g1 => ?_) (fun g1 => ?_)
  · have hil : i < l.length := by omega
    obtain ⟨b, cap, hv, hb, hrow⟩ := ev_row2 hs hil
    have hcc := hc l[i]
    cases hq : q l[i] with
    | true =>
      subst hv
      rw [hq] at hcc
      rw [evC_eq2] at hrow hcc
      simp (disch := omega) only [go_sem, simprocAttr, he, hb, hrow, Int.toNat_natCast]
      refine callv_use hf (hcc _ hs) ?_
      rintro r h ⟨hr, hs⟩
      subst hr
      simp (disch := omega) only [go_sem, simprocAttr, he]
      exact ⟨⟨_, rfl, .inr ⟨i, hil, rfl, hno, hq⟩⟩, hs⟩
    | false =>
      subst hv
      rw [hq] at hcc
      rw [evC_eq2] at hrow hcc
      simp (disch := omega) only [go_sem, simprocAttr, he, hb, hrow, Int.toNat_natCast]
      refine callv_use hf (hcc _ hs) ?_
      rintro r h ⟨hr, hs⟩
      subst hr
      simp (disch := omega) only [go_sem, simprocAttr, he, m1]
      refine ⟨hil, hs, fun j hj hji => ?_⟩
      by_cases hjj : j = i
      · subst hjj; exact hq
      · exact hno j hj (by omega)
  · simp (disch := omega) only [go_sem, simprocAttr, he]
    refine ⟨⟨_, rfl, .inl ⟨rfl, fun x hx => ?_⟩⟩, hs⟩
    obtain ⟨j, hj, rfl⟩ := List.getElem_of_mem hx
    exact hno j hj (by omega)
end
end Go.Proofs.YtaioncbpfckhaaaGreat
/- Watchers: slices.DeleteFunc of events; a watcher's changes; whole revisions. -/
set_option linter.unusedSimpArgs false
set_option linter.unusedVariables false
set_option maxRecDepth 10000
namespace Go.Proofs.YtaioncbpfckhaaaGreat
open Go.Hz

section
variable {h : Hp} {F K : List Asr} {p s c : Nat} {A : Sto} {o : AV} {l : List Ver} {q : Ver → Bool} {f : Nat} {caps : List AV}
theorem evDelete {v : AV} (hf : okFn Tryz.prog f = true) (hc : ∀ w h (G : List Asr), sat h (K ++ G) → Triple Tryz.prog f ([.agg (evC w)] ++ caps) h (fun r h => r = .bool (q w) ∧ sat h (K ++ G))) (hs : sat h (Ow 8 v (l.map evC) :: (K ++ F))) (hl : l.length ≤ 100000000) :
    Triple Tryz.prog 60 [v, .fn f caps] h (fun r h => sat h (Ow 8 r ((l.filter fun x => !q x).map evC) :: (K ++ F))) := by
  have lenE := hs.els.len
  rw [List.length_map] at lenE
  refine Triple.view ?_
  refine t60 (Nat.le_of_ble_eq_true rfl) ?_
  simp (disch := omega) only [F60, go_sem, simprocAttr]
  refine call_use (evIndex (q := q) hf (fun w h hs => (hc w h (Ow 8 v (l.map evC) :: F) hs.unmid).mono fun r h ⟨h1, h2⟩ => ⟨h1, h2.mid⟩) hs (by omega)) ?_
  rintro r h ⟨⟨k, hr, hk⟩, hs⟩
  subst hr
  rcases hk with ⟨rfl, hno⟩ | ⟨i, hi, rfl, hno, hq⟩
  · have e : l.filter (fun x => !q x) = l := by
      rw [List.filter_eq_self]
      intro x hx
      rw [hno x hx]; rfl
    rw [e]
    simp (disch := omega) only [go_sem, simprocAttr]
    exact ⟨v, h, GV.refl _ _, hs⟩
  rcases hs.cases with ⟨_, hn0, _⟩ | ⟨b, cap, hv, hs9, hle⟩
  · have : l = [] := by simpa using hn0
    subst this; simp at hi
  subst hv
  have hll : (l.map evC).length = l.length := by simp
  have c1 : ((i : Int) == -1) = false := by rw [beq_eq_false_iff_ne]; omega
  have m0 : (i : Int) + 1 = ((i + 1 : Nat) : Int) := by omega
  rw [hll] at hle
  rw [hll]
  rw [hll] at lenE
  have hkeep : ∀ j, ((l.take j).filter fun x => !q x).length ≤ j := fun j => Nat.le_trans (List.length_filter_le _ _) (by rw [List.length_take]; omega)
  simp (disch := omega) only [go_sem, simprocAttr, c1, m0]
  refine blk_join (Q := fun e h => sat h (pto b (.row 8 ((l.filter fun x => !q x).map evC ++ (l.map evC).drop (l.filter fun x => !q x).length) cap) :: (K ++ F)) ∧ (e 0 = .arr b 8 0 l.length cap ∧ e 5 = .int .i64 (l.filter fun x => !q x).length)) ?_ ?_
  · refine run_up (N := l.length - (i + 1)) (fun t e h => sat h (pto b (.row 8 (((l.take (i + 1 + t)).filter fun x => !q x).map evC ++ (l.map evC).drop ((l.take (i + 1 + t)).filter fun x => !q x).length) cap) :: (K ++ F)) ∧ (e 0 = .arr b 8 0 l.length cap ∧ e 1 = .fn f caps ∧ e 5 = .int .i64 ((l.take (i + 1 + t)).filter fun x => !q x).length ∧ e 6 = .int .i64 (i + 1 + t : Nat))) ⟨?_, ?_⟩ ?_
    · rw [Nat.add_zero, fil_take hi hno hq, List.map_take, List.length_take, Nat.min_eq_left (Nat.le_of_lt hi), List.take_append_drop]
      exact hs9
    · rw [Nat.add_zero, fil_take hi hno hq, List.length_take, Nat.min_eq_left (Nat.le_of_lt hi)]
      simp [Env.upd_apply, initE]
    clear hs
    rintro t e h ht ⟨hs, he⟩
    have m1 : ((i + 1 + t : Nat) : Int) + 1 = ((i + 1 + (t + 1) : Nat) : Int) := by omega
    by_cases hj : i + 1 + t < l.length
    · have c2 : (((i + 1 + t : Nat) : Int) < (l.length : Int)) = True := by simp; omega
      have hst : (l.take (i + 1 + (t + 1))).filter (fun x => !q x) = (l.take (i + 1 + t)).filter (fun x => !q x) ++ if q l[i + 1 + t] = true then [] else [l[i + 1 + t]] := by
        rw [show i + 1 + (t + 1) = i + 1 + t + 1 by omega, List.take_succ_eq_append_getElem hj, List.filter_append]
        by_cases hx : q l[i + 1 + t] = true <;> simp [hx]
      have hM := hkeep (i + 1 + t)
      rw [hst]
      have hrow0 : (((l.take (i + 1 + t)).filter fun x => !q x).map evC ++ (l.map evC).drop ((l.take (i + 1 + t)).filter fun x => !q x).length)[i + 1 + t]? = some (evC l[i + 1 + t]) := by
        rw [List.getElem?_append_right (by rw [List.length_map]; exact hM), List.getElem?_drop, List.length_map, List.getElem?_map, show ((l.take (i + 1 + t)).filter fun x => !q x).length + (i + 1 + t - ((l.take (i + 1 + t)).filter fun x => !q x).length) = i + 1 + t by omega, List.getElem?_eq_getElem hj]
        rfl
      have hset : (((l.take (i + 1 + t)).filter fun x => !q x).map evC ++ (l.map evC).drop ((l.take (i + 1 + t)).filter fun x => !q x).length).set ((l.take (i + 1 + t)).filter fun x => !q x).length (evC l[i + 1 + t]) = ((l.take (i + 1 + t)).filter fun x => !q x).map evC ++ evC l[i + 1 + t] :: (l.map evC).drop (((l.take (i + 1 + t)).filter fun x => !q x).length + 1) := by
        rw [List.set_append_right _ _ (by rw [List.length_map]; exact Nat.le_refl _), List.length_map, Nat.sub_self, List.drop_eq_getElem_cons (by rw [List.length_map]; omega), List.set_cons_zero]
      have hcl : (((l.take (i + 1 + t)).filter fun x => !q x).map evC ++ (l.map evC).drop ((l.take (i + 1 + t)).filter fun x => !q x).length).length = l.length := by
        simp; omega
      have hcw := hc l[i + 1 + t]
      have ht2 : t < l.length - (i + 1) := by omega
      obtain ⟨y, hrowK⟩ : ∃ y, (((l.take (i + 1 + t)).filter fun x => !q x).map evC ++ (l.map evC).drop ((l.take (i + 1 + t)).filter fun x => !q x).length)[((l.take (i + 1 + t)).filter fun x => !q x).length]? = some (evC y) := by
        refine ⟨l[((l.take (i + 1 + t)).filter fun x => !q x).length]'(by omega), ?_⟩
        rw [List.getElem?_append_right (by rw [List.length_map]; exact Nat.le_refl _), List.getElem?_drop, List.length_map, List.getElem?_map, Nat.sub_self, Nat.add_zero, List.getElem?_eq_getElem (by omega)]
        rfl
      rw [evC_eq2] at hrowK
      generalize ((l.take (i + 1 + t)).filter fun x => !q x) = Kp at *
      generalize i + 1 + t = j at *
      generalize hR : (Kp.map evC ++ (l.map evC).drop Kp.length) = R at hs hset hcl hrowK hrow0
      have hb := hs.at
      rw [evC_eq2] at hrow0
      simp (disch := omega) only [go_sem, simprocAttr, he, lenE, c2, hb, hrow0, Int.toNat_natCast]
      refine new_opq hs fun a h hs => ?_
      have ha := hs.at
      have hs2 := hs.set (o' := .row 8 [evC l[j]] 1)
      have ha2 := hs2.at
      rw [evC_eq2] at hs2 ha2 hcw
      simp (disch := omega) only [go_sem, simprocAttr, ha, ha2, he]
      generalize Hp.set h a _ = h2 at hs2 ha2 ⊢
      refine callv_use hf (hcw _ _ ((hs2.tl fun h g => g.unmid).unmid)) ?_
      rintro r h ⟨hr, hs⟩
      subst hr
      have hs := hs.mid.tl fun h g => g.mid
      have ha := hs.at
      have hb := hs.p1.at
      have m2 : (Kp.length : Int) + 1 = ((Kp.length + 1 : Nat) : Int) := by omega
      cases hx : q l[j] with
      | true =>
        simp (disch := omega) only [go_sem, simprocAttr, he, m1, List.append_nil]
        exact ⟨ht2, by rw [hR]; exact hs.drop⟩
      | false =>
        have hs3 := hs.p1.set (o' := .row 8 (R.set Kp.length (evC l[j])) cap)
        rw [hset] at hs3
        rw [evC_eq2] at hs3 hset
        simp (disch := omega) only [go_sem, simprocAttr, he, ha, hb, hcl, hrowK, m1, m2, Int.toNat_natCast]
        refine ⟨ht2, ?_⟩
        rw [hset, List.map_append, List.map_cons, List.map_nil, List.append_assoc, List.singleton_append, evC_eq2 l[j]]
        exact hs3.d1
    · have hj2 : t = l.length - (i + 1) := by omega
      have c2 : (((i + 1 + t : Nat) : Int) < (l.length : Int)) = False := by simp; omega
      have e9 : l.take (i + 1 + t) = l := List.take_of_length_le (by omega)
      rw [e9] at hs he
      simp (disch := omega) only [go_sem, simprocAttr, he, lenE, c2]
      exact hs
  clear hs9
  rintro e h ⟨hs, he⟩
  have hM := hkeep l.length
  rw [List.take_length] at hM
  generalize (l.filter fun x => !q x) = Kp at *
  simp (disch := omega) only [go_sem, simprocAttr, he, slcL_lo, Int.toNat_natCast]
  refine clr_use hs (by simp) (by omega) fun h hs => ?_
  simp (disch := omega) only [go_sem, simprocAttr, he, slcL_hi, Int.toNat_natCast]
  refine ⟨_, _, GV.trim _ Kp.length hs.at, ?_⟩
  have hs2 := hs.set (o' := .row 8 (Kp.map evC) cap)
  have e2 : ∀ zs : List AV, List.take Kp.length (List.take Kp.length (Kp.map evC ++ (l.map evC).drop Kp.length) ++ List.replicate (l.length - Kp.length) zs ++ List.drop (Kp.length + (l.length - Kp.length)) (Kp.map evC ++ (l.map evC).drop Kp.length)) = Kp.map evC := fun zs => by
    rw [List.append_assoc, List.take_append_of_le_length (by rw [List.length_take]; simp), List.take_take, Nat.min_self, List.take_append_of_le_length (by simp), List.take_of_length_le (by simp)]
  rw [e2]
  have := hs2.ow (by simp; omega)
  simpa using this
/-- A watcher's changes. -/
theorem wcChanges {lo hi : Key} {pl : Int} {mv : AV} (hs : sat h (pto p (.row 4 [[.str lo, .str hi, .int .i64 pl, mv]] 1) :: StP s A o :: F)) (hpl : 1 ≤ pl) (hz : A.chs.length ≤ 10000000) {w : Wc} (hw : w.lo = lo ∧ w.hi = hi ∧ w.place = pl) :
    Triple Tryz.prog 39 [.ptr p 4 0 0, .ptr s 7 0 0] h (fun r h => ∃ v, r = .tup [v, .int .i64 (w.chg A).2] ∧ sat h (Ow 8 v ((w.chg A).1.map evC) :: pto p (.row 4 [[.str lo, .str hi, .int .i64 pl, mv]] 1) :: StP s A o :: F)) := by
  obtain ⟨rfl, rfl, rfl⟩ := hw
  refine t39 (Nat.le_of_ble_eq_true rfl) ?_
  simp (disch := omega) only [F39, go_sem, simprocAttr]
  refine new_opq hs fun c h hs => ?_
  have hc := hs.at
  have hp := hs.p1.at
  simp (disch := omega) only [go_sem, simprocAttr, hc, hp]
  refine call_use' (mvRev hs.p2) ?_
  rintro r h ⟨hr, hs⟩
  subst hr
  have hc := hs.p1.at
  have hp := hs.p2.at
  by_cases g1 : A.rev < w.place
  · have ef : w.chg A = ([], 0) := by rw [Wc.chg, if_pos g1]
    have c1 : (w.place > A.rev) = True := by simp; omega
    rw [ef]
    simp (disch := omega) only [go_sem, simprocAttr, hc, hp, c1]
    exact ⟨.nils, rfl, (hs.p1.drop.p1).add ow_nil⟩
  have c1 : (w.place > A.rev) = False := by simp; omega
  have ef : w.chg A = ((stSince A w.place).1.filter fun v => inK w.lo w.hi v.c.key, (stSince A w.place).2) := by
    have h1 : ¬ w.place < 1 := by omega
    unfold Wc.chg stSince
    by_cases g2 : w.place ≤ A.past
    · simp only [if_neg g1, if_neg h1, if_pos g2]
      rfl
    · simp only [if_neg g1, if_neg h1, if_neg g2, List.filter_filter]
      congr 2
      funext v
      exact Bool.and_comm _ _
  rw [ef]
  simp (disch := omega) only [go_sem, simprocAttr, hc, hp, c1]
  refine call_use (mvSinceO (rev := w.place) hs (by omega)) ?_
  rintro r h ⟨v, hr, hs⟩
  subst hr
  have hsl : (stSince A w.place).1.length ≤ A.chs.length := by
    unfold stSince
    split
    · exact Nat.zero_le _
    split
    · exact Nat.zero_le _
    · exact List.length_filter_le _ _
  generalize stSince A w.place = S at hs hsl ⊢
  simp (disch := omega) only [go_sem, simprocAttr]
  refine call_use (evDelete (K := [pto c (.row 1 [[.ptr p 4 0 0]] 1), pto p (.row 4 [[.str w.lo, .str w.hi, .int .i64 w.place, mv]] 1)]) (q := fun v => !inK w.lo w.hi v.c.key) (F := StP s A o :: F) wcDel_ok (fun v h G hs => wcDel (v := v) hs) (hs.p1.p3.p3.p3) (by omega)) ?_
  intro r h hs
  have e9 : S.1.filter (fun x => !(!inK w.lo w.hi x.c.key)) = S.1.filter fun v => inK w.lo w.hi v.c.key := by simp
  rw [e9] at hs
  simp (disch := omega) only [go_sem, simprocAttr]
  have hs : sat h (Ow 8 r ((S.1.filter fun v => inK w.lo w.hi v.c.key).map evC) :: pto c (.row 1 [[.ptr p 4 0 0]] 1) :: pto p (.row 4 [[.str w.lo, .str w.hi, .int .i64 w.place, mv]] 1) :: StP s A o :: F) := hs
  exact ⟨r, rfl, hs.d1⟩
/-- The first ones of whole revisions. -/
theorem wcSome {v : AV} {most : Int} (hs : sat h (Ow 8 v (l.map evC) :: F)) (hl : l.length ≤ 10000000) :
    Triple Tryz.prog 64 [v, .int .i64 most] h (fun r h => ∃ w, slcL 8 v none (some (.int .i64 (someK l most : Nat))) = some w ∧ r = .tup [w, .bool (decide (someK l most < l.length))] ∧ sat h (Ow 8 v (l.map evC) :: F)) := by
  have lenE := hs.els.len
  rw [List.length_map] at lenE
  obtain ⟨k, hk⟩ : ∃ k, someK l most = k := ⟨_, rfl⟩
  rw [hk]
  have hkl : k ≤ l.length := hk ▸ someK_le
  refine t64 (Nat.le_of_ble_eq_true rfl) ?_
  simp (disch := omega) only [F64, go_sem, simprocAttr]
  refine blk_join (Q := fun e h => sat h (Ow 8 v (l.map evC) :: F) ∧ (e 0 = v ∧ e 6 = .int .i64 k)) ?_ ?_
  · refine run_loopN (fun m e h => ∃ n, n ≤ l.length ∧ m = l.length - n ∧ someN l most n (l.length + 1 - n) = k ∧ sat h (Ow 8 v (l.map evC) :: F) ∧ (e 0 = v ∧ e 1 = .int .i64 most ∧ e 6 = .int .i64 n)) l.length ⟨0, Nat.zero_le _, rfl, hk, hs, by simp [Env.upd_apply, initE]⟩ ?_
    clear hs
    rintro m e h ⟨n, hn, rfl, hsk, hs, he⟩
    simp (disch := omega) only [go_sem, simprocAttr, he, lenE]
    by_cases h1 : n < l.length
    · have c1 : ((n : Int) < (l.length : Int)) = True := by simp; omega
      have e1 : someN l most n (l.length + 1 - n) = if 0 < n ∧ most < (runEnd l n : Int) then n else someN l most (runEnd l n) (l.length - n) := by
        rw [show l.length + 1 - n = (l.length - n) + 1 by omega]
        show (if n < l.length then _ else _) = _
        rw [if_pos h1]
      have hgt := runEnd_gt h1
      have hle := runEnd_le hn
      have hin := fun k => runEnd_in (k := k) h1
      have hout := runEnd_out h1
      rw [e1] at hsk
      simp (disch := omega) only [go_sem, simprocAttr, c1, he]
      refine blk_join (Q := fun e h => sat h (Ow 8 v (l.map evC) :: F) ∧ (e 0 = v ∧ e 1 = .int .i64 most ∧ e 6 = .int .i64 n ∧ e 7 = .int .i64 (runEnd l n))) ?_ ?_
      · refine run_up (N := runEnd l n - n) (fun t e h => sat h (Ow 8 v (l.map evC) :: F) ∧ (e 0 = v ∧ e 1 = .int .i64 most ∧ e 6 = .int .i64 n ∧ e 7 = .int .i64 (n + t : Nat))) ⟨hs, by simp [Env.upd_apply, he]⟩ ?_
        clear hs he
        rintro t e h ht ⟨hs, he⟩
        have lenE := hs.els.len
        rw [List.length_map] at lenE
        have m1 : ((n + t : Nat) : Int) + 1 = ((n + (t + 1) : Nat) : Int) := by omega
        obtain ⟨b, cap, hv, hb, hrn⟩ := ev_row2 hs h1
        by_cases h2 : n + t < runEnd l n
        · obtain ⟨h3, h4⟩ := hin (n + t) (by omega) h2
          obtain ⟨_, _, _, _, hrk⟩ := ev_row2 hs h3
          have c2 : (((n + t : Nat) : Int) < (l.length : Int)) = True := by simp; omega
          have c3 : (l[n + t].rev == l[n].rev) = true := by simpa using h4
          rw [evC_eq2] at hrn hrk
          subst hv
          simp (disch := omega) only [go_sem, simprocAttr, he, lenE, c2, hb, hrn, hrk, c3, m1, Int.toNat_natCast]
          exact ⟨by omega, hs⟩
        · have h5 : n + t = runEnd l n := by omega
          by_cases h3 : n + t < l.length
          · obtain ⟨_, _, _, _, hrk⟩ := ev_row2 hs h3
            have c2 : (((n + t : Nat) : Int) < (l.length : Int)) = True := by simp; omega
            have c3 : (l[n + t].rev == l[n].rev) = false := by
              rw [beq_eq_false_iff_ne]
              have := hout (by omega)
              simp only [← h5] at this
              exact this
            rw [evC_eq2] at hrn hrk
            subst hv
            simp (disch := omega) only [go_sem, simprocAttr, he, lenE, c2, hb, hrn, hrk, c3, Int.toNat_natCast]
            exact ⟨hs, by rw [h5]⟩
          · have c2 : (((n + t : Nat) : Int) < (l.length : Int)) = False := by simp; omega
            simp (disch := omega) only [go_sem, simprocAttr, he, lenE, c2]
            exact ⟨hs, by rw [h5]⟩
      clear hs he
      rintro e h ⟨hs, he⟩
      simp (disch := omega) only [go_sem, simprocAttr, he]
      by_cases h2 : 0 < n ∧ most < (runEnd l n : Int)
      · rw [if_pos h2] at hsk
        have c2 : ((n : Int) > 0) = True := by simp; omega
        have c3 : ((runEnd l n : Int) > most) = True := by simp; omega
        simp (disch := omega) only [go_sem, simprocAttr, he, c2, c3]
        exact ⟨hs, by rw [hsk]⟩
      · rw [if_neg h2] at hsk
        by_cases h3 : 0 < n
        case' pos =>
          have c2 : ((n : Int) > 0) = True := by simp; omega
          have c3 : ((runEnd l n : Int) > most) = False := eq_false fun h => h2 ⟨h3, by omega⟩
          simp (disch := omega) only [go_sem, simprocAttr, he, c2, c3]
        case' neg =>
          have c2 : ((n : Int) > 0) = False := eq_false (by omega)
          simp (disch := omega) only [go_sem, simprocAttr, he, c2]
        all_goals
          refine ⟨l.length - runEnd l n, by omega, runEnd l n, hle, rfl, ?_, hs, rfl⟩
          rw [← hsk]
          exact someN_fuel (by omega) (by omega) hle
    · have c1 : ((n : Int) < (l.length : Int)) = False := by simp; omega
      have e1 : someN l most n (l.length + 1 - n) = n := by
        rw [show l.length + 1 - n = (l.length - n) + 1 by omega]
        show (if n < l.length then _ else _) = _
        rw [if_neg h1]
      simp (disch := omega) only [go_sem, simprocAttr, c1, he]
      exact ⟨hs, by rw [← hsk, e1]⟩
  clear hs
  rintro e h ⟨hs, he⟩
  have lenE := hs.els.len
  rw [List.length_map] at lenE
  obtain ⟨w, hw⟩ : ∃ w, slcL 8 v none (some (.int .i64 (k : Int))) = some w := by
    obtain ⟨w, h1, _⟩ := ow_slc (k := .i64) (k' := .i64) (lo := 0) (hi := k) (Nat.zero_le _) (by simpa using hkl) hs
    exact ⟨w, by rw [slc_lo]; exact h1⟩
  have hd : decide ((k : Int) < (l.length : Int)) = decide (k < l.length) := by rw [decide_eq_decide]; omega
  simp (disch := omega) only [go_sem, simprocAttr, he, hw, lenE, hd]
  exact hs
end
end Go.Proofs.YtaioncbpfckhaaaGreat
/- The store: a front is forgotten. -/
set_option linter.unusedSimpArgs false
set_option linter.unusedVariables false
set_option maxRecDepth 10000
namespace Go.Proofs.YtaioncbpfckhaaaGreat
open Go.Hz

def stCompE (A : Sto) (r : Int) : Int := if r < 1 then 1 else if A.rev < r then 17 else if r ≤ A.past then 16 else 0
section
variable {h : Hp} {F : List Asr} {s : Nat} {A : Sto} {o : AV}
theorem cloneV_arr {b off len cap rc : Nat} {ms : List Ver} (hs : sat h (pto b (.row 2 (ms.map (verC tp td)) rc) :: F)) (h1 : off + len ≤ ms.length) (h2 : ms.length ≤ 1000000000) :
    Triple Tryz.prog 47 [.arr b 2 off len cap] h (fun r h => sat h (Ow 2 r (((ms.drop off).take len).map (verC tp td)) :: pto b (.row 2 (ms.map (verC tp td)) rc) :: F)) := by
  refine t47 (Nat.le_of_ble_eq_true rfl) ?_
  simp (disch := omega) only [F47, go_sem, simprocAttr]
  refine new_opq hs fun n h hs => ?_
  simp (disch := omega) only [go_sem, simprocAttr, hs.at]
  have hy : srcA 2 h (.arr b 2 off len cap) = some (((ms.drop off).take len).map (verC tp td)) := by
    have := src_part (c := cap) hs.p1 (off := off) (len := len) (by simpa using h1)
    rw [this]; simp
  refine app_sat (hs.ow (by simp)) hy (atoms_ver _) (by simp; omega) fun v' h hs hc' ha' => ?_
  simp (disch := omega) only [go_sem, simprocAttr]
  simpa using hs
theorem cloneV_nil (hs : sat h F) : Triple Tryz.prog 47 [.nils] h (fun r h => sat h (Ow 2 r [] :: F)) := by
  refine t47 (Nat.le_of_ble_eq_true rfl) ?_
  simp (disch := omega) only [F47, go_sem, simprocAttr]
  exact hs.add ow_nil
/-- The end of a slice, cloned. -/
theorem cloneV {cv : AV} {ms : List Ver} {k : Nat} (hk : k ≤ ms.length) (h2 : ms.length ≤ 1000000000) (hs : sat h (Ow 2 cv (ms.map (verC tp td)) :: F)) :
    ∃ sv, slcL 2 cv (some (.int .i64 (k : Int))) none = some sv ∧ Triple Tryz.prog 47 [sv] h (fun r h => sat h (Ow 2 r ((ms.drop k).map (verC tp td)) :: Ow 2 cv (ms.map (verC tp td)) :: F)) := by
  rcases hs.cases with ⟨rfl, hn0, _⟩ | ⟨b, cap, rfl, hs2, hle⟩
  · have h0 := List.map_eq_nil_iff.1 hn0
    subst h0
    have : k = 0 := by simpa using hk
    subst this
    exact ⟨.nils, rfl, cloneV_nil hs⟩
  · rw [List.length_map] at hle ⊢
    refine ⟨_, slcL_lo (by omega) (by omega) hle, ?_⟩
    rw [Nat.zero_add, show ((k : Int).toNat) = k by omega]
    refine (cloneV_arr hs2 (by omega) h2).mono fun r h hs => ?_
    rw [List.take_of_length_le (by rw [List.length_drop]; omega)] at hs
    have := hs.p1.ow (by simpa using hle)
    rw [List.length_map] at this
    exact this.p1
theorem comp1 {b c ix vm : Nat} {cv : AV} {vs : List Ver} {rev r p n : Int} (hs : sat h (pto b (.row 1 [[.ptr s 7 0 0]] 1) :: pto c (.row 1 [[.int .i64 rev]] 1) :: pto s (.row 7 [[.int .i64 r, .int .i64 p, .int .i64 n, .ptr ix 2 0 0, .map vm, cv, o]] 1) :: Ow 2 cv (vs.map (verC tp td)) :: F)) {i : Nat} (hi : i < vs.length) :
    Triple Tryz.prog 46 [.int .i64 i, .ptr b 1 0 0, .ptr c 1 0 0] h (fun r' h => r' = .bool (decide (vs[i].rev > rev)) ∧ sat h (pto b (.row 1 [[.ptr s 7 0 0]] 1) :: pto c (.row 1 [[.int .i64 rev]] 1) :: pto s (.row 7 [[.int .i64 r, .int .i64 p, .int .i64 n, .ptr ix 2 0 0, .map vm, cv, o]] 1) :: Ow 2 cv (vs.map (verC tp td)) :: F)) := by
  have hb := hs.at
  have hc := hs.p1.at
  have hp := hs.p2.at
  have hrow : (vs.map (verC tp td))[i]? = some (verC tp td vs[i]) := by simp [hi]
  obtain ⟨q, cap, hv, hq, _⟩ := hs.p3.owr.row hrow
  subst hv
  have hll : (vs.map (verC tp td)).length = vs.length := by simp
  refine t46 (Nat.le_of_ble_eq_true rfl) ?_
  simp (disch := omega) only [F46, hb, hc, hq, hp, hrow, hll, verC, Int.toNat_natCast, go_sem, simprocAttr]
  rw [hll] at hs
  exact hs
theorem mvCompact {rev : Int} (hs : sat h (StP s A o :: F)) (hz : A.old.length + A.chs.length ≤ 100000000) : Triple Tryz.prog 26 [.ptr s 7 0 0, .int .i64 rev] h
    (fun r h => r = .int .i64 (stCompE A rev) ∧ sat h (StP s (if stCompE A rev = 0 then stComp A rev else A) o :: F)) := by
  obtain ⟨ix, vm, cv, L, X, hok, hs2⟩ := mvP.1 hs
  have mk : ∀ {h : Hp}, sat h (MvL tp td s ix vm cv o A L X ++ F) → sat h (StP s A o :: F) := fun hs => mvP.2 ⟨ix, vm, cv, L, X, hok, hs⟩
  have ok := hok.1
  refine t26 (Nat.le_of_ble_eq_true rfl) ?_
  simp (disch := omega) only [F26, go_sem, simprocAttr]
  refine new_opq hs2 fun b h hs => ?_
  simp (disch := omega) only [go_sem, simprocAttr]
  refine new_opq hs fun c h hs => ?_
  have hb := hs.p1.at
  have hc := hs.at
  have hp := hs.p2.at
  by_cases c1 : rev < 1
  · have ef : stCompE A rev = 1 := by rw [stCompE, if_pos c1]
    rw [ef, if_neg (by decide)]
    simp (disch := omega) only [go_sem, simprocAttr, hb, hc, c1]
    exact mk hs.drop.drop
  by_cases c2 : A.rev < rev
  · have ef : stCompE A rev = 17 := by rw [stCompE, if_neg c1, if_pos c2]
    rw [ef, if_neg (by decide)]
    simp (disch := omega) only [go_sem, simprocAttr, hb, hc, hp, c1, show (rev > A.rev) = True by simp; omega]
    exact mk hs.drop.drop
  have d2 : (rev > A.rev) = False := by simp; omega
  by_cases c3 : rev ≤ A.past
  · have ef : stCompE A rev = 16 := by rw [stCompE, if_neg c1, if_neg c2, if_pos c3]
    rw [ef, if_neg (by decide)]
    simp (disch := omega) only [go_sem, simprocAttr, hb, hc, hp, c1, d2, c3]
    exact mk hs.drop.drop
  have ef : stCompE A rev = 0 := by rw [stCompE, if_neg c1, if_neg c2, if_neg c3]
  rw [ef, if_pos rfl]
  have okC := comp_ok ok (r := rev) (by omega) (by omega)
  have ixC := comp_ix ok hok.2.1 (r := rev) (by omega)
  have nowC := comp_now ok (r := rev)
  have hlv := hs.p4.els.len
  rw [List.length_map] at hlv
  have hs3 : sat h (pto b (.row 1 [[.ptr s 7 0 0]] 1) :: pto c (.row 1 [[.int .i64 rev]] 1) :: pto s (.row 7 [[.int .i64 A.rev, .int .i64 A.past, .int .i64 A.now.length, .ptr ix 2 0 0, .map vm, cv, o]] 1) :: Ow 2 cv (A.chs.map (verC tp td)) :: IxP ix L :: MpA (fun k : Key => AV.str k) Vn.key Vn.v vm X :: (X.map (VnP tp td) ++ F)) := hs.p5.p4.p5.p5.p4.p5
  have hs4 := hs3.p2.set (o' := .row 7 [[.int .i64 A.rev, .int .i64 rev, .int .i64 A.now.length, .ptr ix 2 0 0, .map vm, cv, o]] 1)
  have hb4 := hs4.p1.at
  have hp4 := hs4.at
  simp (disch := omega) only [go_sem, simprocAttr, hb, hc, hp, c1, d2, c3, hb4, hp4, hlv]
  generalize Hp.set h s _ = h2 at hs4 hb4 hp4 ⊢
  refine call_use (search (N := A.chs.length) (f := 46) (caps := [.ptr b 1 0 0, .ptr c 1 0 0]) (pr := fun i => match A.chs[i]? with | some w => decide (w.rev > rev) | none => true) (hs4.p5.p5.p5.p3.p5.p5) (by omega) rfl ?_ ?_) ?_
  · intro i j hij hj hi
    rw [List.getElem?_eq_getElem (by omega)] at hi ⊢
    have h3 : A.chs[i].rev > rev := by simpa using hi
    have : A.chs[i].rev ≤ A.chs[j].rev := by
      rcases Nat.lt_or_eq_of_le hij with h | h
      · exact (List.pairwise_iff_getElem.1 hok.1.chs i j (by omega) hj h).1
      · subst h; exact Int.le_refl _
    simp; omega
  · intro i h hi hs
    refine (comp1 hs hi).mono fun r h ⟨h1, h2⟩ => ⟨?_, h2⟩
    rw [h1, List.getElem?_eq_getElem hi]
  rintro r h ⟨k, hr, hk, hk1, hk2, hs⟩
  subst hr
  have hflt : (A.chs.filter fun v => decide (rev < v.rev)) = A.chs.drop k := drop_filter (fun i hi hik => by
    have := hk1 i hik
    rw [List.getElem?_eq_getElem hi] at this
    exact this) (fun i hi hik => by
    have := hk2 i hik hi
    rw [List.getElem?_eq_getElem hi] at this
    exact this)
  have hcc : (stComp A rev).chs = A.chs.drop k := hflt
  have hb := hs.at
  have hp := hs.p2.at
  obtain ⟨sv, hsv, hcl⟩ := cloneV hk (by omega) hs.p3
  simp (disch := omega) only [go_sem, simprocAttr, hb, hp, hsv]
  refine call_use' hcl ?_
  intro v h hs
  have hb := hs.p2.at
  have hp := hs.p4.at
  have cv' := hs.els.cells
  have av' := hs.els.atom
  have hs5 := hs.p4.set (o' := .row 7 [[.int .i64 A.rev, .int .i64 rev, .int .i64 A.now.length, .ptr ix 2 0 0, .map vm, v, o]] 1)
  have hb5 := hs5.p3.at
  have hc5 := hs5.p4.at
  have hp5 := hs5.at
  simp (disch := omega) only [go_sem, simprocAttr, hb, hp, cv', av', hb5, hc5, hp5]
  generalize Hp.set h s _ = h3 at hs5 hb5 hc5 hp5 ⊢
  have hLn := ix_num hok.2.1
  have hLl := ix_len hok.2.1
  refine call_use (ixTrim (rev := rev) (hs5.p2.drop.p3.drop.p4.p3.p3.p3.p4) hok.2.1.1 (fun x hx => by have := hLl x hx; omega) (by omega)) ?_
  intro r h hs
  obtain ⟨pl, cn, ⟨q1, q2, q3⟩, hs⟩ := mpA.1 (hs.p2.p2.p3.p4)
  have hb := hs.p1.at
  have hp := hs.p2.at
  simp (disch := omega) only [go_sem, simprocAttr, hb, hp]
  refine rng_use hs fun q h hs => ?_
  simp (disch := omega) only [go_sem, simprocAttr]
  have hI0 : CompI A (stComp A rev) pl [] cn := by
    have hkn : (pl.map fun p => p.1.key).Nodup := by
      have := (q1.map Vn.key).nodup_iff.2 hok.2.2.1
      simpa [Function.comp_def] using this
    refine ⟨hkn, q2, q3, fun p hp => ?_, fun k hk => ?_⟩
    · have := hok.2.2.2.1 p.1 (q1.mem_iff.1 (List.mem_map_of_mem hp))
      exact ⟨this.2, by simpa using this.1⟩
    · have hA : A.vers k ≠ [] := by
        intro h
        rw [comp_vers ok k (by omega), h] at hk
        simp at hk
      obtain ⟨x, hx, hxk⟩ := hok.2.2.2.2 k hA
      obtain ⟨p, hp, rfl⟩ := List.mem_map.1 (q1.mem_iff.2 hx)
      exact ⟨p, hp, hxk⟩
  have hX0 : sat h (pto q (.itr (some vm) cn [] cn) :: pto vm (.mp (kvOf (fun k : Key => AV.str k) Vn.key Vn.v pl) cn) :: pto b (.row 1 [[.ptr s 7 0 0]] 1) :: pto s (.row 7 [[.int .i64 A.rev, .int .i64 rev, .int .i64 A.now.length, .ptr ix 2 0 0, .map vm, v, o]] 1) :: Ow 2 v ((stComp A rev).chs.map (verC tp td)) :: IxP ix (trimL L rev) :: ((pl.map fun p => p.1).map (VnP tp td) ++ F)) := by
    rw [hcc]
    refine hs.perm ?_
    have h1 : (X.map (VnP tp td)).Perm ((pl.map fun p => p.1).map (VnP tp td)) := (q1.map _).symm
    exact ((((((h1.append_right F).cons _).cons _).cons _).cons _).cons _).cons _
  clear hs hs2 hs3 hs4 hs5 hb hc hp hb4 hp4 hb5 hc5 hp5 hsv hcl q1 q2 q3
  generalize hB : stComp A rev = B at *
  refine run_loopN (fun n e h => ∃ pl seen, n = toCome seen pl ∧ CompI A B pl seen cn ∧ sat h (pto q (.itr (some vm) cn seen cn) :: pto vm (.mp (kvOf (fun k : Key => AV.str k) Vn.key Vn.v pl) cn) :: pto b (.row 1 [[.ptr s 7 0 0]] 1) :: pto s (.row 7 [[.int .i64 A.rev, .int .i64 rev, .int .i64 A.now.length, .ptr ix 2 0 0, .map vm, v, o]] 1) :: Ow 2 v (B.chs.map (verC tp td)) :: IxP ix (trimL L rev) :: ((pl.map fun p => p.1).map (VnP tp td) ++ F)) ∧ (e 2 = .ptr b 1 0 0 ∧ e 57 = .ptr q 1 0 0)) _
    ⟨pl, [], rfl, hI0, hX0, rfl, rfl⟩ ?_
  clear hI0 hX0
  rintro n e h ⟨pl, seen, rfl, hI, hs, he⟩
  have hc : ∀ x ∈ kvOf (fun k : Key => AV.str k) Vn.key Vn.v pl, x.2.2 < cn := by
    intro x hx
    obtain ⟨p, hp, rfl⟩ := List.mem_map.1 hx
    exact hI.lt p hp
  have hn : ((kvOf (fun k : Key => AV.str k) Vn.key Vn.v pl).map (·.2.2)).Nodup := by simpa [kvOf, Function.comp_def] using hI.born
  simp (disch := omega) only [go_sem, simprocAttr, he]
  refine nxt_use hs (Nat.le_refl _) hc (fun x hx hns h hs => ?_) (fun hall => ?_)
  · obtain ⟨⟨y, m⟩, hp, rfl⟩ := List.mem_map.1 hx
    have hen := ent_at hs hx hn
    obtain ⟨la, lb, rfl, ha, hb'⟩ := hI.cut hp
    simp only [] at hns hen ha hb' hs
    have hb := hs.p2.at
    have hp := hs.p3.at
    obtain ⟨n1, n2⟩ := hI.come hns ha hb'
    have hvy := hI.vs (y, m) (by simp)
    rw [if_neg hns] at hvy
    simp only [] at hvy
    have hyl := vers_le (A := A) y.key
    rw [← hvy.2] at hyl
    simp (disch := omega) only [go_sem, simprocAttr, he]
    rw [hen]
    simp (disch := omega) only [go_sem, simprocAttr, he, hb, hp]
    have hLl := ix_len hok.2.1
    have hwC := ixC.1
    have hmk := ixC.2 y.key
    refine call_use (ixMarks (key := y.key) (hs.p1.p4.p4.p4.p5) hwC (fun x hx => MaxM.trim (n := 1000000000) (fun x hx => by have := hLl x hx; omega) x hx)) ?_
    rintro r h ⟨hr, hs⟩
    subst hr
    rw [hmk]
    have lenM : lenL (.lst (((B.vers y.key).map mkV).map mkE)) = some (.int .i64 (B.vers y.key).length) := by simp [lenL]
    have hvd : B.vers y.key = y.vs.drop (dropN y.vs rev) := by rw [← hB, comp_vers ok y.key (by omega), ← hvy.2]
    have hs6 : sat h (pto vm (.mp (kvOf (fun k : Key => AV.str k) Vn.key Vn.v (la ++ (y, m) :: lb)) cn) :: pto q (.itr (some vm) cn (seen ++ [m]) cn) :: pto b (.row 1 [[.ptr s 7 0 0]] 1) :: pto s (.row 7 [[.int .i64 A.rev, .int .i64 rev, .int .i64 A.now.length, .ptr ix 2 0 0, .map vm, v, o]] 1) :: VnP tp td y :: Ow 2 v (B.chs.map (verC tp td)) :: IxP ix (trimL L rev) :: (((la ++ lb).map fun p => p.1).map (VnP tp td) ++ F)) := by
      refine (hs.p3.p3.p3.p5.p5).perm ?_
      have hp : ((((la ++ (y, m) :: lb).map fun p => p.1).map (VnP tp td)) ++ F).Perm (VnP tp td y :: ((((la ++ lb).map fun p => p.1).map (VnP tp td)) ++ F)) := by
        simp only [List.map_append, List.map_cons, List.append_assoc, List.cons_append]
        exact List.perm_middle
      refine (((((hp.cons _).cons _).trans ?_).cons _).cons _).cons _ |>.cons _
      exact (((List.Perm.swap _ _ _).cons _).trans (List.Perm.swap _ _ _))
    have hb := hs6.p2.at
    have hp := hs6.p3.at
    by_cases hB0 : B.vers y.key = []
    · have hl0 : (((B.vers y.key).length : Int) == 0) = true := by rw [hB0]; rfl
      simp (disch := omega) only [go_sem, simprocAttr, lenM, hl0, hb, hp, he]
      refine del_raw keyOK_str hs6 (fun p hp => (ha p hp).1) fun h hs => ?_
      simp (disch := omega) only [go_sem, simprocAttr, he]
      refine ⟨_, by rw [n1]; exact Nat.lt_succ_self _, la ++ lb, seen ++ [m], rfl, hI.del hB0 ha hb', ?_⟩
      exact hs.p4.drop.p5.p5.p5.p5.p4.p5
    · have hl0 : (((B.vers y.key).length : Int) == 0) = false := by
        have := List.length_pos_iff.2 hB0
        simp; omega
      have hle : (B.vers y.key).length ≤ y.vs.length ∧ y.vs.length - (B.vers y.key).length = dropN y.vs rev := by
        have h1 := List.length_pos_iff.2 hB0
        rw [hvd, List.length_drop] at h1 ⊢
        omega
      have hyl2 := hs6.p4.els.len
      rw [List.length_map] at hyl2
      have esub : (y.vs.length : Int) - (B.vers y.key).length = ((dropN y.vs rev : Nat) : Int) := by omega
      obtain ⟨sv, hsv, hcl⟩ := cloneV (cv := y.v) (ms := y.vs) (k := dropN y.vs rev) (by omega) (by omega) hs6.p4
      simp (disch := omega) only [go_sem, simprocAttr, lenM, hl0, hb, hp, he, hyl2, esub, hsv]
      refine call_use' hcl ?_
      intro w h hs
      have hb := hs.p4.at
      have hp := hs.p5.at
      simp (disch := omega) only [go_sem, simprocAttr, he, hb, hp]
      rw [← hvd] at hs
      refine set_raw keyOK_str (hs.p1.drop.p6.p6.p6.p6.p6.p5.p6) (y := (⟨y.key, w, B.vers y.key⟩ : Vn)) (fun p hp => (ha p hp).1) rfl fun h hs => ?_
      simp (disch := omega) only [go_sem, simprocAttr, he]
      refine ⟨_, by rw [n2 (⟨y.key, w, B.vers y.key⟩ : Vn)]; exact Nat.lt_succ_self _, la ++ (⟨y.key, w, B.vers y.key⟩, m) :: lb, seen ++ [m], rfl, hI.set hB0 ha hb' w, ?_⟩
      refine (hs.p1.p6.p6.p6.p6.p5.p6).perm ?_
      have hp2 : (VnP tp td ⟨y.key, w, B.vers y.key⟩ :: ((((la ++ lb).map fun p => p.1).map (VnP tp td)) ++ F)).Perm ((((la ++ ((⟨y.key, w, B.vers y.key⟩ : Vn), m) :: lb).map fun p => p.1).map (VnP tp td)) ++ F) := by
        simp only [List.map_append, List.map_cons, List.append_assoc, List.cons_append]
        exact List.perm_middle.symm
      exact (((((hp2.cons _).cons _).cons _).cons _).cons _).cons _
  · simp (disch := omega) only [go_sem, simprocAttr]
    have hfin := hI.fin fun p hp => by simpa using hall _ (List.mem_map_of_mem (f := fun p : Vn × Nat => (AV.str p.1.key, p.1.v, p.2)) hp)
    refine mvP.2 ⟨ix, vm, v, trimL L rev, pl.map fun p => p.1, ⟨okC, ixC, hfin⟩, ?_⟩
    have hs7 : sat h (MpA (fun k : Key => AV.str k) Vn.key Vn.v vm (pl.map fun p => p.1) :: pto q (.itr (some vm) cn seen cn) :: pto b (.row 1 [[.ptr s 7 0 0]] 1) :: pto s (.row 7 [[.int .i64 A.rev, .int .i64 rev, .int .i64 A.now.length, .ptr ix 2 0 0, .map vm, v, o]] 1) :: Ow 2 v (B.chs.map (verC tp td)) :: IxP ix (trimL L rev) :: ((pl.map fun p => p.1).map (VnP tp td) ++ F)) :=
      mpA.2 ⟨pl, cn, ⟨.refl _, hI.born, hI.lt⟩, hs.p1⟩
    have hs8 := hs7.p1.drop.p1.drop.p2.p3.p3
    have e1 : B.rev = A.rev := by rw [← hB]; rfl
    have e2 : B.past = rev := by rw [← hB]; rfl
    unfold MvL
    rw [nowC, e1, e2]
    exact hs8
end
end Go.Proofs.YtaioncbpfckhaaaGreat
/- A hub of watchers: new ones, how many there are. -/
set_option linter.unusedSimpArgs false
set_option linter.unusedVariables false
set_option maxRecDepth 10000
namespace Go.Proofs.YtaioncbpfckhaaaGreat
open Go.Hz

abbrev tb : Nat := 114
abbrev th : Nat := 99
abbrev te : Nat := 107
/-- A watcher in the heap. -/
structure Wn where
  w : Wc
  p : Nat
  lv : AV
def mdV (m : Md) (lv : AV) : AV := match m with
  | .behind => .iface tb (.agg [])
  | .hears _ => .iface th (.agg [lv])
  | .ended _ why => .iface te (.agg [lv, .int .i64 why])
def WnL (x : Wn) : List Asr := [pto x.p (.row 4 [[.str x.w.lo, .str x.w.hi, .int .i64 x.w.place, mdV x.w.md x.lv]] 1), Ow 8 x.lv ((mdE x.w.md).map evC)]
def WnP (x : Wn) : Asr := fun h => sat h (WnL x)
theorem wnP {x : Wn} {h : Hp} {F : List Asr} : sat h (WnP x :: F) ↔ sat h (pto x.p (.row 4 [[.str x.w.lo, .str x.w.hi, .int .i64 x.w.place, mdV x.w.md x.lv]] 1) :: Ow 8 x.lv ((mdE x.w.md).map evC) :: F) := by
  unfold WnP WnL
  exact sat_sl (l1 := [_, _]) (l := F)
def wnK (y : Wn) : Int × Nat := (y.w.id, y.p)
abbrev mpH (m : Nat) (Z : List (Int × Nat)) : Asr := MpA (fun n : Int => AV.int .i64 n) (fun q : Int × Nat => q.1) (fun q => AV.ptr q.2 4 0 0) m Z
def HbP (hb s : Nat) (last : Int) (X : List Wc) : Asr := fun h => ∃ (m : Nat) (Y : List Wn), Y.map Wn.w = X ∧ sat h ([pto hb (.row 3 [[.ptr s 7 0 0, .map m, .int .i64 last]] 1), mpH m (Y.map wnK)] ++ Y.map WnP)
theorem hbP {hb s : Nat} {last : Int} {X : List Wc} {h : Hp} {F : List Asr} : sat h (HbP hb s last X :: F) ↔ ∃ (m : Nat) (Y : List Wn), Y.map Wn.w = X ∧ sat h (pto hb (.row 3 [[.ptr s 7 0 0, .map m, .int .i64 last]] 1) :: mpH m (Y.map wnK) :: (Y.map WnP ++ F)) := by
  unfold HbP
  rw [sat_ex]; refine exists_congr fun m => ?_
  rw [sat_ex]; refine exists_congr fun Y => ?_
  rw [sat_and]
  exact and_congr_right fun _ => sat_sl (l1 := [_, _] ++ Y.map WnP) (l := F)
section
variable {h : Hp} {F : List Asr} {hb s : Nat} {last : Int} {X : List Wc} {A : Sto} {o : AV} {l : List Ver}
theorem hbNew (hs : sat h F) : Triple Tryz.prog 6 [.ptr s 7 0 0] h (fun r h => ∃ hb, r = .ptr hb 3 0 0 ∧ sat h (HbP hb s 0 [] :: F)) := by
  refine t6 (Nat.le_of_ble_eq_true rfl) ?_
  simp (disch := omega) only [F6, go_sem, simprocAttr]
  refine new_opq hs fun m h hs => ?_
  simp (disch := omega) only [go_sem, simprocAttr]
  refine new_opq hs fun hb h hs => ?_
  simp (disch := omega) only [go_sem, simprocAttr]
  refine ⟨hb, rfl, hbP.2 ⟨m, [], rfl, ?_⟩⟩
  exact (mpA_new hs.p1).p1
theorem hbLen (hs : sat h (HbP hb s last X :: F)) : Triple Tryz.prog 28 [.ptr hb 3 0 0] h (fun r h => r = .int .i64 X.length ∧ sat h (HbP hb s last X :: F)) := by
  obtain ⟨m, Y, hY, hs2⟩ := hbP.1 hs
  have hp := hs2.at
  have hl := len_mp hs2.p1
  have e : (Y.map wnK).length = X.length := by rw [← hY, List.length_map, List.length_map]
  rw [e] at hl
  refine t28 (Nat.le_of_ble_eq_true rfl) ?_
  simp (disch := omega) only [F28, hp, hl, go_sem, simprocAttr]
  exact hs
theorem hbWatch {lo hi : Key} {from_ : Int} (hs : sat h (HbP hb s last X :: F)) (hX : HbOK last X) (hl : 0 ≤ last ∧ last ≤ 1000000000) (hfr : i64 from_) :
    Triple Tryz.prog 19 [.ptr hb 3 0 0, .str lo, .str hi, .int .i64 from_] h (fun r h => r = .int .i64 (last + 1) ∧ HbOK (last + 1) (X ++ [⟨last + 1, lo, hi, max from_ 1, .behind⟩]) ∧ sat h (HbP hb s (last + 1) (X ++ [⟨last + 1, lo, hi, max from_ 1, .behind⟩]) :: F)) := by
  obtain ⟨m, Y, hY, hs2⟩ := hbP.1 hs
  have hp := hs2.at
  have hne : ∀ q ∈ Y.map wnK, q.1 ≠ last + 1 := fun q hq e => by
    obtain ⟨y, hy, rfl⟩ := List.mem_map.1 hq
    have := hX.id y.w (by rw [← hY]; exact List.mem_map_of_mem hy)
    have e : y.w.id = last + 1 := e
    omega
  have em : (if from_ < 1 then (1 : Int) else from_) = max from_ 1 := by split <;> omega
  have hs3 := hs2.set (o' := .row 3 [[.ptr s 7 0 0, .map m, .int .i64 (last + 1)]] 1)
  have hp3 := hs3.at
  refine t19 (Nat.le_of_ble_eq_true rfl) ?_
  simp (disch := omega) only [F19, hp, hp3, em, go_sem, simprocAttr]
  generalize Hp.set h hb _ = h2 at hs3 hp3 ⊢
  refine new_opq hs3 fun p h hs => ?_
  have hp := hs.p1.at
  simp (disch := omega) only [go_sem, simprocAttr]
  refine mup_new keyOK_int hs.p2 (y := ((last + 1, p) : Int × Nat)) hne fun h hs => ?_
  have hp := hs.p2.at
  simp (disch := omega) only [go_sem, simprocAttr, hp]
  refine ⟨⟨?_, ?_, ?_, ?_⟩, hbP.2 ⟨m, Y ++ [⟨⟨last + 1, lo, hi, max from_ 1, .behind⟩, p, .nils⟩], by rw [List.map_append, hY]; rfl, ?_⟩⟩
  · rw [List.map_append, List.nodup_append]
    refine ⟨hX.nd, by simp, fun a ha b hb2 e => ?_⟩
    obtain ⟨x, hx, rfl⟩ := List.mem_map.1 ha
    simp at hb2; subst hb2
    have := hX.id x hx
    omega
  · intro x hx
    rcases List.mem_append.1 hx with hx | hx
    · have := hX.id x hx; omega
    · rw [List.mem_singleton.1 hx]; exact Int.le_refl _
  · intro x hx
    rcases List.mem_append.1 hx with hx | hx
    · exact hX.pl x hx
    · rw [List.mem_singleton.1 hx]
      unfold i64 at hfr
      exact ⟨by show 1 ≤ max from_ 1; omega, by show max from_ 1 ≤ _; omega⟩
  · intro x hx
    rcases List.mem_append.1 hx with hx | hx
    · exact hX.ev x hx
    · rw [List.mem_singleton.1 hx]; exact Nat.zero_le _
  · have h9 : sat h (WnP ⟨⟨last + 1, lo, hi, max from_ 1, .behind⟩, p, .nils⟩ :: _) := wnP.2 (((hs.p2.p2).add (ow_nil (s := 8))).p3.p3.p2.p3)
    have h10 := sat.unmid (l1 := [pto hb (.row 3 [[.ptr s 7 0 0, .map m, .int .i64 (last + 1)]] 1), mpH m (Y.map wnK ++ [(last + 1, p)])] ++ Y.map WnP) (l2 := F) h9
    simpa [wnK] using h10
/-- Events apart. -/
theorem evClone {v : AV} (hs : sat h F) (hE : ∀ h, sat h F → Els h 8 v (l.map evC)) (hb : l.length ≤ 10000000) (hn : v ≠ .lst []) :
    Triple Tryz.prog 40 [v] h (fun r h => sat h (Ow 8 r (l.map evC) :: F)) := by
  rcases Els.nil (hE _ hs) hn with ⟨rfl, he⟩ | ⟨_, hq⟩
  · refine t40 (Nat.le_of_ble_eq_true rfl) ?_
    simp (disch := omega) only [F40, go_sem, simprocAttr]
    have : l = [] := by simpa using he
    subst this
    exact hs.add ow_nil
  · refine t40 (Nat.le_of_ble_eq_true rfl) ?_
    simp (disch := omega) only [F40, hq, go_sem, simprocAttr]
    refine new_opq hs fun n h hs => ?_
    have hy := (hE _ hs.drop).1
    simp (disch := omega) only [go_sem, simprocAttr]
    refine app_sat (hs.ow (Nat.zero_le _)) hy (atoms_ev2 _) (by simp; omega) fun v' h hs hc' ha' => ?_
    simp (disch := omega) only [go_sem, simprocAttr, hc']
    simpa using hs
/-- One of the watchers, apart. -/
theorem hbCut {m : Nat} {Z : List (Int × Nat)} {l1 l2 : List Wn} {y : Wn} (hs : sat h (pto hb (.row 3 [[.ptr s 7 0 0, .map m, .int .i64 last]] 1) :: mpH m Z :: ((l1 ++ y :: l2).map WnP ++ StP s A o :: F))) :
    sat h (pto y.p (.row 4 [[.str y.w.lo, .str y.w.hi, .int .i64 y.w.place, mdV y.w.md y.lv]] 1) :: Ow 8 y.lv ((mdE y.w.md).map evC) :: StP s A o :: pto hb (.row 3 [[.ptr s 7 0 0, .map m, .int .i64 last]] 1) :: mpH m Z :: ((l1 ++ l2).map WnP ++ F)) := by
  have h1 := sat.mid (l1 := [pto hb (.row 3 [[.ptr s 7 0 0, .map m, .int .i64 last]] 1), mpH m Z] ++ (l1 ++ y :: l2).map WnP) (l2 := F) hs
  have h2 : sat h (StP s A o :: ([pto hb (.row 3 [[.ptr s 7 0 0, .map m, .int .i64 last]] 1), mpH m Z] ++ l1.map WnP) ++ WnP y :: (l2.map WnP ++ F)) := by simpa using h1
  have h3 := sat.mid (l1 := StP s A o :: ([pto hb (.row 3 [[.ptr s 7 0 0, .map m, .int .i64 last]] 1), mpH m Z] ++ l1.map WnP)) (l2 := l2.map WnP ++ F) h2
  have h4 := wnP.1 h3
  simpa using h4
theorem hbJoin {m : Nat} {Z : List (Int × Nat)} {l1 l2 : List Wn} {y : Wn} (hs : sat h (pto y.p (.row 4 [[.str y.w.lo, .str y.w.hi, .int .i64 y.w.place, mdV y.w.md y.lv]] 1) :: Ow 8 y.lv ((mdE y.w.md).map evC) :: StP s A o :: pto hb (.row 3 [[.ptr s 7 0 0, .map m, .int .i64 last]] 1) :: mpH m Z :: ((l1 ++ l2).map WnP ++ F))) :
    sat h (pto hb (.row 3 [[.ptr s 7 0 0, .map m, .int .i64 last]] 1) :: mpH m Z :: ((l1 ++ y :: l2).map WnP ++ StP s A o :: F)) := by
  have h3 := wnP.2 hs
  have h4 := sat.unmid (l1 := StP s A o :: ([pto hb (.row 3 [[.ptr s 7 0 0, .map m, .int .i64 last]] 1), mpH m Z] ++ l1.map WnP)) (l2 := l2.map WnP ++ F) (by simpa using h3)
  have h5 : sat h (StP s A o :: (([pto hb (.row 3 [[.ptr s 7 0 0, .map m, .int .i64 last]] 1), mpH m Z] ++ (l1 ++ y :: l2).map WnP) ++ F)) := by simpa using h4
  have h6 := sat.unmid h5
  simpa using h6
theorem hbGone {m : Nat} {Z : List (Int × Nat)} {l1 l2 : List Wn} (hs : sat h (StP s A o :: pto hb (.row 3 [[.ptr s 7 0 0, .map m, .int .i64 last]] 1) :: mpH m Z :: ((l1 ++ l2).map WnP ++ F))) :
    sat h (pto hb (.row 3 [[.ptr s 7 0 0, .map m, .int .i64 last]] 1) :: mpH m Z :: ((l1 ++ l2).map WnP ++ StP s A o :: F)) := by
  have h5 : sat h (StP s A o :: (([pto hb (.row 3 [[.ptr s 7 0 0, .map m, .int .i64 last]] 1), mpH m Z] ++ (l1 ++ l2).map WnP) ++ F)) := by simpa using hs
  have h6 := sat.unmid h5
  simpa using h6
end
end Go.Proofs.YtaioncbpfckhaaaGreat
/- A hub of watchers: a poll. -/
set_option linter.unusedSimpArgs false
set_option linter.unusedVariables false
set_option maxRecDepth 10000
namespace Go.Proofs.YtaioncbpfckhaaaGreat
open Go.Hz

theorem someK_pos {l : List Ver} {most : Int} (h : l ≠ []) : 0 < someK l most := by
  have hl := List.length_pos_iff.2 h
  unfold someK someN
  rw [if_pos hl, if_neg (by omega)]
  have h1 := runEnd_gt hl
  have key : ∀ f n, 0 < n → 0 < someN l most n f := by
    intro f
    induction f with
    | zero => exact fun n h => h
    | succ f ih =>
      intro n hn
      unfold someN
      split
      · rename_i h2
        split
        · exact hn
        · have := runEnd_gt h2
          exact ih _ (by omega)
      · exact hn
  exact key _ _ h1
section
variable {h : Hp} {F R : List Asr} {hb s m : Nat} {last : Int} {X : List Wc} {Ps : List (Int × Nat)} {A : Sto} {o : AV} {l : List Ver} {y : Wn} {mo : Int}
abbrev wRow (y : Wn) : Asr := pto y.p (.row 4 [[.str y.w.lo, .str y.w.hi, .int .i64 y.w.place, mdV y.w.md y.lv]] 1)
abbrev wEvs (y : Wn) : Asr := Ow 8 y.lv ((mdE y.w.md).map evC)
abbrev hRow (hb s m : Nat) (last : Int) : Asr := pto hb (.row 3 [[.ptr s 7 0 0, .map m, .int .i64 last]] 1)
theorem mvCompd2 {F : List Asr} (hs : sat h (StP s A o :: F)) : Triple Tryz.prog 63 [.ptr s 7 0 0] h (fun r h => r = .int .i64 A.past ∧ sat h (StP s A o :: F)) := by
  obtain ⟨ix, vm, cv, L, X, hok, hs2⟩ := mvP.1 hs
  have hp := hs2.at
  refine t63 (Nat.le_of_ble_eq_true rfl) ?_
  simp (disch := omega) only [F63, hp, go_sem, simprocAttr]
  exact hs
/-- What a poll of one that is behind brings. -/
inductive LatePost (hb s m : Nat) (last : Int) (Ps : List (Int × Nat)) (A : Sto) (o : AV) (y : Wn) (mo : Int) (R : List Asr) (r : AV) (h : Hp) : Prop
  | gone (h0 : y.w.place ≤ A.past) (h1 : r = .tup [.nils, .int .i64 16]) (h2 : sat h (StP s A o :: hRow hb s m last :: mpH m (Ps.filter fun q => decide (q.1 ≠ y.w.id)) :: R)) : LatePost hb s m last Ps A o y mo R r h
  | told (v : AV) (y' : Wn) (h0 : y'.p = y.p) (h1 : (y.w.poll A mo).2 = some y'.w) (h2 : (y.w.poll A mo).1.2 = 0) (h3 : r = .tup [v, .int .i64 0]) (h4 : sat h (Ow 8 v ((y.w.poll A mo).1.1.map evC) :: wRow y' :: wEvs y' :: StP s A o :: hRow hb s m last :: mpH m Ps :: R)) : LatePost hb s m last Ps A o y mo R r h
theorem hbLate (hs : sat h (wRow y :: wEvs y :: StP s A o :: hRow hb s m last :: mpH m Ps :: R)) (hmd : y.w.md = .behind) (hPs : (Ps.map fun q => q.1).Nodup) (hy : (y.w.id, y.p) ∈ Ps) (hmo : 1 ≤ mo) (hpl : 1 ≤ y.w.place ∧ y.w.place ≤ 9223372036854775807) (hz : A.chs.length ≤ 1000000) (hr : A.rev ≤ 1000000000000000) (ok : StoOK A) :
    Triple Tryz.prog 43 [.ptr hb 3 0 0, .int .i64 y.w.id, .ptr y.p 4 0 0, .int .i64 mo] h (fun r h => LatePost hb s m last Ps A o y mo R r h) := by
  refine Triple.view ?_
  have hp := hs.at
  have hh := hs.p3.at
  refine t43 (Nat.le_of_ble_eq_true rfl) ?_
  simp (disch := omega) only [F43, hp, hh, go_sem, simprocAttr]
  refine call_use' (mvCompd2 hs.p2) ?_
  rintro r h ⟨hr', hs⟩
  subst hr'
  have hp := hs.p1.at
  have hh := hs.p3.at
  by_cases g1 : y.w.place ≤ A.past
  · have c1 : (y.w.place ≤ A.past) = True := eq_true g1
    simp (disch := omega) only [go_sem, simprocAttr, hp, hh, c1]
    refine del_hit keyOK_int (hs.p3.p3.p3.p3.p4) hPs (x := ((y.w.id, y.p) : Int × Nat)) hy fun h hs => ?_
    simp (disch := omega) only [go_sem, simprocAttr]
    exact ⟨_, h, GV.refl _ _, .gone g1 rfl hs.p2.drop.p2.drop.p2.p2⟩
  have c1 : (y.w.place ≤ A.past) = False := eq_false g1
  simp (disch := omega) only [go_sem, simprocAttr, hp, hh, c1]
  refine call_use (wcChanges (w := y.w) (hs.p4.p4.p4.p3.p4) hpl.1 (by omega) ⟨rfl, rfl, rfl⟩) ?_
  rintro r h ⟨v1, hr', hs⟩
  subst hr'
  have hcl : (y.w.chg A).1.length ≤ A.chs.length := by
    unfold Wc.chg
    by_cases q : A.rev < y.w.place
    · rw [if_pos q]; exact Nat.zero_le _
    · rw [if_neg q, if_neg g1]; exact List.length_filter_le _ _
  have hcr : ∀ v ∈ (y.w.chg A).1, v.rev ≤ A.rev ∧ 1 ≤ v.rev := by
    intro v hv
    unfold Wc.chg at hv
    by_cases q : A.rev < y.w.place
    · rw [if_pos q] at hv; cases hv
    · rw [if_neg q, if_neg g1] at hv
      have := ok.chr v (List.mem_filter.1 hv).1
      have := ok.past
      omega
  have hpoll : y.w.poll A mo = if someK (y.w.chg A).1 mo < (y.w.chg A).1.length then (((y.w.chg A).1.take (someK (y.w.chg A).1 mo), 0), some { y.w with place := lastV ((y.w.chg A).1.take (someK (y.w.chg A).1 mo)) + 1 }) else (((y.w.chg A).1.take (someK (y.w.chg A).1 mo), 0), some { y.w with place := max y.w.place (A.rev + 1), md := .hears [] }) := by
    obtain ⟨⟨id, lo, hi, place, md⟩, p, lv⟩ := y
    have hmd : md = .behind := hmd
    subst hmd
    unfold Wc.poll
    simp only []
    rw [if_neg g1, show max mo 1 = mo by omega]
  generalize (y.w.chg A).1 = C at *
  generalize (y.w.chg A).2 = ce at *
  simp (disch := omega) only [go_sem, simprocAttr]
  refine call_use (wcSome (most := mo) hs (by omega)) ?_
  rintro r h ⟨w, hw, hr', hs⟩
  subst hr'
  have hkl := someK_le (l := C) (most := mo)
  have hkp := fun h => someK_pos (l := C) (most := mo) h
  generalize someK C mo = k at *
  by_cases hk : k < C.length
  · rw [if_pos hk] at hpoll
    have hC : C ≠ [] := by intro h; rw [h] at hk; simp at hk
    have hk0 := hkp hC
    rcases hs.cases with ⟨_, h0, _⟩ | ⟨b9, cap, hv, hs9, hle⟩
    · exact absurd (by simpa using h0) hC
    rw [List.length_map] at hv hle
    subst hv
    rw [slcL_hi (by omega) (by omega) hle] at hw
    injection hw with hw
    subst hw
    have hrow : (C.map evC)[k - 1]? = some (evC (C[k - 1]'(by omega))) := by
      rw [List.getElem?_map, List.getElem?_eq_getElem (by omega)]; rfl
    have hrv := hcr _ (List.getElem_mem (show k - 1 < C.length by omega))
    have hlast : lastV (C.take k) = (C[k - 1]'(by omega)).rev := by
      unfold lastV
      rw [List.getLast?_eq_getElem?, List.length_take, Nat.min_eq_left (Nat.le_of_lt hk), List.getElem?_take, if_pos (by omega), List.getElem?_eq_getElem (by omega)]
    rw [hlast] at hpoll
    generalize C[k - 1]'(by omega) = x at hrow hrv hpoll
    rw [evC_eq2] at hrow
    have hk9 : decide (k < C.length) = true := decide_eq_true hk
    have m1 : ((k : Int)).toNat = k := by omega
    have m2 : (k : Int) - 1 = ((k - 1 : Nat) : Int) := by omega
    have hb9 := hs9.at
    have hp := hs9.p1.at
    have hs5 := hs9.p1.set (o' := .row 4 [[.str y.w.lo, .str y.w.hi, .int .i64 (x.rev + 1), mdV y.w.md y.lv]] 1)
    have hp5 := hs5.at
    rw [m1]
    have lenw : lenL (.arr b9 8 0 k cap) = some (.int .i64 k) := rfl
    simp (disch := omega) only [go_sem, simprocAttr, hk9, lenw, m2, hb9, hrow, hp, hp5, Int.toNat_natCast]
    have hs6 := hs5.p1
    have hs7 := hs6.set (o' := .row 8 ((C.take k).map evC) cap)
    have e7 : (C.map evC).take k = (C.take k).map evC := List.map_take.symm
    have hlk : ((C.take k).map evC).length = k := by rw [List.length_map, List.length_take, Nat.min_eq_left (Nat.le_of_lt hk)]
    refine ⟨_, _, GV.trim _ k hs6.at, ?_⟩
    rw [e7]
    have hs8 := hs7.ow (by rw [hlk]; omega)
    rw [hlk] at hs8
    refine .told _ ⟨{ y.w with place := x.rev + 1 }, y.p, y.lv⟩ rfl ?_ ?_ rfl ?_
    · rw [hpoll]
    · rw [hpoll]
    · rw [hpoll]
      exact hs8.p5.p5.p4.p5.p5.p5
  · rw [if_neg hk] at hpoll
    have hk9 : decide (k < C.length) = false := decide_eq_false hk
    have hkC : k = C.length := by omega
    have hw1 : w = v1 := by
      rcases hs.cases with ⟨hv, h0, _⟩ | ⟨b9, cap, hv, hs9, hle⟩
      · subst hv
        have h0 : C.length = 0 := by simpa using congrArg List.length h0
        rw [hkC, h0] at hw
        injection hw with hw
        exact hw.symm
      · rw [List.length_map] at hv hle
        subst hv
        rw [slcL_hi (by omega) (by omega) hle] at hw
        injection hw with hw
        rw [← hw, hkC]
        rfl
    subst hw1
    have hp := hs.p1.at
    have hh := hs.p4.at
    simp (disch := omega) only [go_sem, simprocAttr, hk9, hp, hh]
    refine call_use' (mvRev hs.p2) ?_
    rintro r h ⟨hr', hs⟩
    subst hr'
    have hp := hs.p2.at
    have h0 : 0 ≤ A.rev := by have := ok.past; have := ok.rev; omega
    have em : (if y.w.place < A.rev + 1 then A.rev + 1 else y.w.place) = max y.w.place (A.rev + 1) := by split <;> omega
    have hs5 := hs.p2.set (o' := .row 4 [[.str y.w.lo, .str y.w.hi, .int .i64 (max y.w.place (A.rev + 1)), mdV y.w.md y.lv]] 1)
    have hp5 := hs5.at
    have hs6 := hs.p2.set (o' := .row 4 [[.str y.w.lo, .str y.w.hi, .int .i64 (max y.w.place (A.rev + 1)), .iface th (.agg [.nils])]] 1)
    have hp6 := hs6.at
    simp (disch := omega) only [go_sem, simprocAttr, hp, hp5, hp6, em]
    refine ⟨_, _, GV.refl _ _, .told _ ⟨{ y.w with place := max y.w.place (A.rev + 1), md := .hears [] }, y.p, .nils⟩ rfl ?_ ?_ rfl ?_⟩
    · rw [hpoll]
    · rw [hpoll]
    · rw [hpoll]
      have hs8 := (hs6.add (ow_nil (s := 8)))
      simp only []
      rw [hkC, List.take_length]
      exact hs8.p4.drop.p5.p5.p4.p3.p4.p5
end
end Go.Proofs.YtaioncbpfckhaaaGreat
/- A hub of watchers: a poll. -/
set_option linter.unusedSimpArgs false
set_option linter.unusedVariables false
set_option maxRecDepth 10000
namespace Go.Proofs.YtaioncbpfckhaaaGreat
open Go.Hz

section
variable {h : Hp} {F R : List Asr} {hb s m : Nat} {last : Int} {X : List Wc} {Ps : List (Int × Nat)} {A : Sto} {o : AV} {l : List Ver} {y : Wn} {mo : Int}
theorem ow_atom {v : AV} {es : List (List AV)} {n : Nat} (hs : sat h (Ow n v es :: F)) : v.isAtom = true := by
  rcases hs.cases with ⟨rfl, _, _⟩ | ⟨b, cap, rfl, _, _⟩ <;> rfl
theorem ow_cell {v : AV} {es : List (List AV)} {n : Nat} (hs : sat h (Ow n v es :: F)) : v.cells = [v] := by
  rcases hs.cases with ⟨rfl, _, _⟩ | ⟨b, cap, rfl, _, _⟩ <;> rfl
theorem hearsKept {lv : AV} (hl : lv.isAtom = true) (hs : sat h F) : Triple Tryz.prog 133 [.agg [lv]] h (fun r h => r = lv ∧ sat h F) := by
  refine t133 (Nat.le_of_ble_eq_true rfl) ?_
  simp (disch := omega) only [F133, hl, go_sem, simprocAttr]
  refine new_opq hs fun a h hs => ?_
  have ha := hs.at
  simp (disch := omega) only [go_sem, simprocAttr, ha]
  exact hs.drop
theorem endedKept {lv : AV} {why : Int} (hl : lv.isAtom = true) (hs : sat h F) : Triple Tryz.prog 134 [.agg [lv, .int .i64 why]] h (fun r h => r = lv ∧ sat h F) := by
  refine t134 (Nat.le_of_ble_eq_true rfl) ?_
  simp (disch := omega) only [F134, hl, go_sem, simprocAttr]
  refine new_opq hs fun a h hs => ?_
  have ha := hs.at
  simp (disch := omega) only [go_sem, simprocAttr, ha]
  exact hs.drop
theorem meth_hears : methOf Tryz.prog th "horologe/watch.kept" = some 133 := by kernel_rfl
theorem meth_ended : methOf Tryz.prog te "horologe/watch.kept" = some 134 := by kernel_rfl
theorem inv_hears {st : List Fr} {e : Env} {k : Kt} {d : Option Nat} {r : List (AItem × List AItem)} {obl : List AItem} {lv : AV} (hl : lv.isAtom = true) (hs : sat h F)
    (hk : ∀ h', sat h' F → obls Tryz.prog obl (e.put d lv) h' ∧ runS Tryz.prog r st (e.put d lv) h' k) : effR Tryz.prog (invE Tryz.prog "horologe/watch.kept" (.iface th (.agg [lv])) [] h) obl d r st e k := by
  unfold effR
  simp only [invE, meth_hears]
  exact ⟨okFn_ok rfl, (hearsKept hl hs).mono fun v h' ⟨h1, h2⟩ => by subst h1; exact hk h' h2⟩
theorem inv_ended {st : List Fr} {e : Env} {k : Kt} {d : Option Nat} {r : List (AItem × List AItem)} {obl : List AItem} {lv : AV} {why : Int} (hl : lv.isAtom = true) (hs : sat h F)
    (hk : ∀ h', sat h' F → obls Tryz.prog obl (e.put d lv) h' ∧ runS Tryz.prog r st (e.put d lv) h' k) : effR Tryz.prog (invE Tryz.prog "horologe/watch.kept" (.iface te (.agg [lv, .int .i64 why])) [] h) obl d r st e k := by
  unfold effR
  simp only [invE, meth_ended]
  exact ⟨okFn_ok rfl, (endedKept hl hs).mono fun v h' ⟨h1, h2⟩ => by subst h1; exact hk h' h2⟩
theorem ow_parts {v : AV} {es : List (List AV)} {n k : Nat} (hs : sat h (Ow n v es :: F)) (hk : k ≤ es.length) : ∃ x z, slcL n v none (some (.int .i64 (k : Int))) = some x ∧ slcL n v (some (.int .i64 (k : Int))) none = some z ∧ (∀ h (G : List Asr), sat h (Ow n v es :: G) → Els h n x (es.take k) ∧ Els h n z (es.drop k)) ∧ x ≠ .lst [] ∧ z ≠ .lst [] ∧ lenL v = some (.int .i64 es.length) := by
  have lenE := hs.els.len
  obtain ⟨x, h1, h2, _⟩ := ow_slc (k := .i64) (k' := .i64) (lo := 0) (hi := k) (Nat.zero_le _) hk hs
  obtain ⟨z, h3, h4, _⟩ := ow_slc (k := .i64) (k' := .i64) (lo := k) (hi := es.length) hk (Nat.le_refl _) hs
  have ne : ∀ {x : AV} {a b : Option AV}, slcL n v a b = some x → x ≠ .lst [] := by
    intro x a b h1 e
    subst e
    rcases hs.cases with ⟨rfl, _, _⟩ | ⟨b, cap, rfl, _, _⟩
    · unfold slcL at h1
      simp only [] at h1
      split at h1
      · split at h1 <;> cases h1
      · cases h1
    · unfold slcL at h1
      simp only [] at h1
      split at h1
      · split at h1 <;> cases h1
      · cases h1
  refine ⟨x, z, by rw [slc_lo]; exact h1, by rw [slc_hi lenE]; exact h3, fun h G hs => ⟨?_, ?_⟩, ne h1, ne h3, lenE⟩
  · have := h2 h G hs
    simpa using this
  · have := h4 h G hs
    rwa [List.take_of_length_le (by simp)] at this
theorem wnK_filter {Y1 Y2 : List Wn} {y : Wn} (hn : ((Y1.map Wn.w ++ y.w :: Y2.map Wn.w).map Wc.id).Nodup) : ((Y1 ++ y :: Y2).map wnK).filter (fun q => decide (q.1 ≠ y.w.id)) = (Y1 ++ Y2).map wnK := by
  obtain ⟨h1, h2⟩ := nd_split hn
  rw [List.map_append, List.map_cons, List.filter_append, List.filter_cons_of_neg (by simp [wnK]), List.filter_eq_self.2, List.filter_eq_self.2, List.map_append]
  · intro q hq
    obtain ⟨z, hz, rfl⟩ := List.mem_map.1 hq
    exact decide_eq_true (h2 z.w (List.mem_map_of_mem hz))
  · intro q hq
    obtain ⟨z, hz, rfl⟩ := List.mem_map.1 hq
    exact decide_eq_true (h1 z.w (List.mem_map_of_mem hz))
theorem hbSet {Y1 Y2 : List Wn} {y y' : Wn} (h1 : y'.w.id = y.w.id) (h2 : y'.p = y.p) (hs : sat h (wRow y' :: wEvs y' :: StP s A o :: hRow hb s m last :: mpH m ((Y1 ++ y :: Y2).map wnK) :: ((Y1 ++ Y2).map WnP ++ F))) : sat h (HbP hb s last (Y1.map Wn.w ++ y'.w :: Y2.map Wn.w) :: StP s A o :: F) := by
  have e : (Y1 ++ y' :: Y2).map wnK = (Y1 ++ y :: Y2).map wnK := by
    simp only [List.map_append, List.map_cons, wnK, h1, h2]
  refine hbP.2 ⟨m, Y1 ++ y' :: Y2, by simp, ?_⟩
  rw [e]
  exact hbJoin hs
theorem hbPoll {id : Int} (hs : sat h (HbP hb s last X :: StP s A o :: F)) (hX : HbOK last X) (hmo : i64 mo) (hz : A.chs.length ≤ 1000000) (hr : A.rev ≤ 1000000000000000) (ok : StoOK A) :
    Triple Tryz.prog 21 [.ptr hb 3 0 0, .int .i64 id, .int .i64 mo] h (fun r h => r = .tup [evsV (hPoll A X id mo).1.1, .int .i64 (hPoll A X id mo).1.2] ∧ sat h (HbP hb s last (hPoll A X id mo).2 :: StP s A o :: F)) := by
  refine Triple.lst1 8 ?_
  obtain ⟨m, Y, hY, hs2⟩ := hbP.1 hs
  have hp := hs2.at
  have em : (if mo < 1 then (1 : Int) else mo) = max mo 1 := by split <;> omega
  rcases hX.split (id := id) with hno | ⟨l1, w, l2, hX1, hid⟩
  · have hlk := fun (k : Bool) (z : AV) => lk_miss keyOK_int hs2.p1 (ok := k) (z := z) (q := id) (fun q hq e => by
      obtain ⟨y, hy, rfl⟩ := List.mem_map.1 hq
      exact hno y.w (by rw [← hY]; exact List.mem_map_of_mem hy) e)
    rw [hPoll_none hno]
    refine t21 (Nat.le_of_ble_eq_true rfl) ?_
    simp (disch := omega) only [F21, hp, hlk, go_sem, simprocAttr]
    exact ⟨.nils, _, [], _, rfl, hs.add ow_nil, fun h hs => ⟨rfl, hs⟩⟩
  subst hid
  obtain ⟨Y1, Y', hYe, hY1, hY'⟩ := List.map_eq_append_iff.1 (hY.trans hX1)
  obtain ⟨y, Y2, hYe2, hyw, hY2⟩ := List.map_eq_cons_iff.1 hY'
  subst hYe2 hYe hyw hY1 hY2
  subst hX1
  rw [hPoll_some hX.nd]
  have hnd : (((Y1 ++ y :: Y2).map wnK).map fun q => q.1).Nodup := by
    have := hX.nd
    rw [← hY] at this
    rw [List.map_map] at this ⊢
    exact this
  have hym : (y.w.id, y.p) ∈ (Y1 ++ y :: Y2).map wnK := List.mem_map.2 ⟨y, by simp, rfl⟩
  have hlk := fun (k : Bool) (z : AV) => lk_hit keyOK_int hs2.p1 hnd hym (ok := k) (z := z)
  have hs3 := hbCut hs2
  have hp3 := hs3.p3.at
  have hy3 := hs3.at
  obtain ⟨w, p, lv⟩ := y
  obtain ⟨wid, lo, hi, pl, md⟩ := w
  cases md with
  | behind =>
    refine t21 (Nat.le_of_ble_eq_true rfl) ?_
    simp (disch := omega) only [F21, hp, hlk, em, hy3, mdV, taA, tb, th, te, go_sem, simprocAttr]
    refine new_opq hs3 fun a h hs => ?_
    have ha := hs.at
    have hs4 := hs.set (o' := .row 0 [[]] 1)
    have ha2 := hs4.at
    simp (disch := omega) only [go_sem, simprocAttr, ha, ha2]
    refine call_use (hbLate (mo := max mo 1) (y := ⟨⟨wid, lo, hi, pl, .behind⟩, p, lv⟩) hs4.drop rfl hnd hym (by omega) (hX.pl _ (by simp)) hz hr ok) ?_
    rintro r h (⟨h0, h1, h2⟩ | ⟨v, y', h0, h1, h2, h3, h4⟩)
    · subst h1
      have e1 : Wc.poll A ⟨wid, lo, hi, pl, .behind⟩ mo = (([], 16), none) := by
        unfold Wc.poll
        simp only []
        rw [if_pos h0]
      rw [wnK_filter (y := ⟨⟨wid, lo, hi, pl, .behind⟩, p, lv⟩) hX.nd] at h2
      rw [e1]
      simp (disch := omega) only [go_sem, simprocAttr]
      exact ⟨.nils, _, [], _, rfl, h2.add ow_nil, fun h hs => ⟨rfl, hbP.2 ⟨m, Y1 ++ Y2, by simp, hbGone hs⟩⟩⟩
    · subst h3
      rw [Wc.poll_max] at h1 h2 h4
      obtain ⟨h5, _⟩ := Wc.poll_id h1
      rw [h1, h2]
      simp (disch := omega) only [go_sem, simprocAttr]
      exact ⟨v, _, _, _, rfl, h4, fun h hs => ⟨rfl, hbSet h5 h0 hs⟩⟩
  | hears L =>
    have hL : L.length ≤ 16 := hX.ev ⟨wid, lo, hi, pl, .hears L⟩ (by simp)
    refine t21 (Nat.le_of_ble_eq_true rfl) ?_
    simp (disch := omega) only [F21, hp, hlk, em, hy3, mdV, taA, tb, th, te, go_sem, simprocAttr]
    refine new_opq hs3 fun a h hs => ?_
    have ha := hs.at
    have hs4 := hs.set (o' := .row 0 [[]] 1)
    have ha2 := hs4.at
    have hy4 := hs4.p1.at
    simp (disch := omega) only [go_sem, simprocAttr, ha, ha2]
    generalize Hp.set h a _ = h2 at *
    simp (disch := omega) only [go_sem, simprocAttr, hy4, mdV, th]
    have hlv := ow_atom hs4.p2
    refine inv_hears hlv hs4 ?_
    intro h hs
    obtain ⟨n, hn⟩ : ∃ n, min (max mo 1).toNat L.length = n := ⟨_, rfl⟩
    have hnL : n ≤ L.length := by omega
    obtain ⟨x1, x2, hx1, hx2, hE, hn1, hn2, lenE⟩ := ow_parts (k := n) hs.p2 (by rw [List.length_map]; exact hnL)
    rw [List.length_map] at lenE
    have lenE : lenL lv = some (.int .i64 (L.length : Nat)) := lenE
    have en : (if (L.length : Int) < max mo 1 then (L.length : Int) else max mo 1) = (n : Int) := by split <;> omega
    have en2 : (if max mo 1 < (L.length : Int) then max mo 1 else (L.length : Int)) = (n : Int) := by split <;> omega
    simp (disch := omega) only [go_sem, simprocAttr, lenE, en, en2, hx1, hx2]
    refine call_use (evClone (l := L.take n) hs (fun h hs => by have := (hE h _ hs.p2).1; rwa [← List.map_take] at this) (by rw [List.length_take]; omega) hn1) ?_
    intro r1 h hs
    simp (disch := omega) only [go_sem, simprocAttr]
    refine call_use (evClone (l := L.drop n) hs (fun h hs => by have := (hE h _ hs.p3).2; rwa [← List.map_drop] at this) (by rw [List.length_drop]; omega) hn2) ?_
    intro r2 h hs
    have hy5 := hs.p3.at
    simp (disch := omega) only [go_sem, simprocAttr, hy5, mdV, th, te, taA]
    refine new_opq hs fun q h hs => ?_
    have hq := hs.at
    have hs6 := hs.set (o' := .row 2 [[.nils, .int .i64 0]] 1)
    have hq6 := hs6.at
    have hy6 := hs6.p4.at
    have hr2 := ow_atom hs6.p1
    have hr3 := ow_cell hs6.p1
    have hs7 := hs6.p4.set (o' := .row 4 [[.str lo, .str hi, .int .i64 pl, .iface th (.agg [r2])]] 1)
    simp (disch := omega) only [go_sem, simprocAttr, hq, hq6, hy6, hr2, hr3]
    have e1 : Wc.poll A ⟨wid, lo, hi, pl, .hears L⟩ mo = ((L.take n, 0), some ⟨wid, lo, hi, pl, .hears (L.drop n)⟩) := by
      unfold Wc.poll
      simp only [hn]
    rw [e1]
    exact ⟨r1, _, _, _, rfl, hs7.p1.drop.p3.drop.p3.drop.p1.p1.p2, fun h hs => ⟨rfl, hbSet (y := ⟨⟨wid, lo, hi, pl, .hears L⟩, p, lv⟩) (y' := ⟨⟨wid, lo, hi, pl, .hears (L.drop n)⟩, p, r2⟩) rfl rfl hs⟩⟩
  | ended L why =>
    have hL : L.length ≤ 16 := hX.ev ⟨wid, lo, hi, pl, .ended L why⟩ (by simp)
    refine t21 (Nat.le_of_ble_eq_true rfl) ?_
    simp (disch := omega) only [F21, hp, hlk, em, hy3, mdV, taA, tb, th, te, go_sem, simprocAttr]
    refine new_opq hs3 fun a h hs => ?_
    have ha := hs.at
    have hs4 := hs.set (o' := .row 0 [[]] 1)
    have ha2 := hs4.at
    have hy4 := hs4.p1.at
    simp (disch := omega) only [go_sem, simprocAttr, ha, ha2]
    generalize Hp.set h a _ = h2 at *
    simp (disch := omega) only [go_sem, simprocAttr, hy4, mdV, th]
    have hlv := ow_atom hs4.p2
    refine inv_ended hlv hs4 ?_
    intro h hs
    obtain ⟨n, hn⟩ : ∃ n, min (max mo 1).toNat L.length = n := ⟨_, rfl⟩
    have hnL : n ≤ L.length := by omega
    obtain ⟨x1, x2, hx1, hx2, hE, hn1, hn2, lenE⟩ := ow_parts (k := n) hs.p2 (by rw [List.length_map]; exact hnL)
    rw [List.length_map] at lenE
    have lenE : lenL lv = some (.int .i64 (L.length : Nat)) := lenE
    have en : (if (L.length : Int) < max mo 1 then (L.length : Int) else max mo 1) = (n : Int) := by split <;> omega
    have en2 : (if max mo 1 < (L.length : Int) then max mo 1 else (L.length : Int)) = (n : Int) := by split <;> omega
    simp (disch := omega) only [go_sem, simprocAttr, lenE, en, en2, hx1, hx2]
    refine call_use (evClone (l := L.take n) hs (fun h hs => by have := (hE h _ hs.p2).1; rwa [← List.map_take] at this) (by rw [List.length_take]; omega) hn1) ?_
    intro r1 h hs
    simp (disch := omega) only [go_sem, simprocAttr]
    refine call_use (evClone (l := L.drop n) hs (fun h hs => by have := (hE h _ hs.p3).2; rwa [← List.map_drop] at this) (by rw [List.length_drop]; omega) hn2) ?_
    intro r2 h hs
    have hy5 := hs.p3.at
    simp (disch := omega) only [go_sem, simprocAttr, hy5, mdV, th, te, taA]
    refine new_opq hs fun q h hs => ?_
    have hq := hs.at
    have hs6 := hs.set (o' := .row 2 [[lv, .int .i64 why]] 1)
    have hq6 := hs6.at
    have hy6 := hs6.p4.at
    have hr2 := ow_atom hs6.p1
    have hr3 := ow_cell hs6.p1
    have hh6 := hs6.d4.d4.d4.p4.at
    simp (disch := omega) only [go_sem, simprocAttr, hq, hq6, hlv]
    refine cnd_dec (fun g0 => ?_) (fun g0 => ?_)
    · have e1 : Wc.poll A ⟨wid, lo, hi, pl, .ended L why⟩ mo = (([], why), none) := by
        unfold Wc.poll
        simp only [hn]
        rw [if_pos (by omega)]
      rw [e1]
      simp (disch := omega) only [go_sem, simprocAttr, hh6]
      refine del_hit keyOK_int (hs6.p1.drop.p1.drop.p1.drop.p1.drop.p1.drop.p2.p2.p3) hnd hym fun h hs => ?_
      have hq7 := hs.p3.at
      have hs7 := hs.p3.drop.p2.p2
      rw [wnK_filter (y := ⟨⟨wid, lo, hi, pl, .ended L why⟩, p, lv⟩) hX.nd] at hs7
      simp (disch := omega) only [go_sem, simprocAttr, hq7]
      exact ⟨.nils, _, [], _, rfl, hs7.add ow_nil, fun h hs => ⟨rfl, hbP.2 ⟨m, Y1 ++ Y2, by simp, hbGone hs⟩⟩⟩
    · have e1 : Wc.poll A ⟨wid, lo, hi, pl, .ended L why⟩ mo = ((L.take n, 0), some ⟨wid, lo, hi, pl, .ended (L.drop n) why⟩) := by
        unfold Wc.poll
        simp only [hn]
        rw [if_neg (by omega)]
      rw [e1]
      have hs7 := hs6.p4.set (o' := .row 4 [[.str lo, .str hi, .int .i64 pl, .iface te (.agg [r2, .int .i64 why])]] 1)
      simp (disch := omega) only [go_sem, simprocAttr, hy6, hq6, hr2, hr3]
      exact ⟨r1, _, _, _, rfl, hs7.p1.drop.p3.drop.p3.drop.p1.p1.p2, fun h hs => ⟨rfl, hbSet (y := ⟨⟨wid, lo, hi, pl, .ended L why⟩, p, lv⟩) (y' := ⟨⟨wid, lo, hi, pl, .ended (L.drop n) why⟩, p, r2⟩) rfl rfl hs⟩⟩
end
end Go.Proofs.YtaioncbpfckhaaaGreat
/- A hub of watchers: what is new is fed to those that hear. -/
set_option linter.unusedSimpArgs false
set_option linter.unusedVariables false
set_option maxRecDepth 10000
namespace Go.Proofs.YtaioncbpfckhaaaGreat
open Go.Hz

section
variable {h : Hp} {F R : List Asr} {hb s m : Nat} {last : Int} {X : List Wc} {A : Sto} {o : AV} {l : List Ver} {y : Wn} {mo : Int}
theorem ow_nlst {v : AV} {es : List (List AV)} {n : Nat} (hs : sat h (Ow n v es :: F)) : v ≠ .lst [] := by
  rcases hs.cases with ⟨rfl, _, _⟩ | ⟨_, _, rfl, _, _⟩ <;> (intro h; cases h)
theorem wn_perm {l1 l2 : List Wn} {y : Wn} {F : List Asr} : ((l1 ++ y :: l2).map WnP ++ StP s A o :: F).Perm (WnP y :: StP s A o :: ((l1 ++ l2).map WnP ++ F)) := by
  simp only [List.map_append, List.map_cons, List.append_assoc, List.cons_append]
  refine List.perm_middle.trans (List.Perm.cons _ ?_)
  rw [← List.append_assoc, ← List.append_assoc]
  exact List.perm_middle
theorem nd_inj {α : Type} {l : List (α × Nat)} (hn : (l.map (·.2)).Nodup) {a b : α × Nat} (ha : a ∈ l) (hb : b ∈ l) (h : a.2 = b.2) : a = b := by
  induction l with
  | nil => cases ha
  | cons x l ih =>
    rw [List.map_cons, List.nodup_cons] at hn
    rcases List.mem_cons.1 ha with ha | ha <;> rcases List.mem_cons.1 hb with hb | hb
    · rw [ha, hb]
    · have h1 := List.mem_map_of_mem (f := fun p : α × Nat => p.2) hb
      rw [← h, ha] at h1
      exact absurd h1 hn.1
    · have h1 := List.mem_map_of_mem (f := fun p : α × Nat => p.2) ha
      rw [h, hb] at h1
      exact absurd h1 hn.1
    · exact ih hn.2 ha hb
/-- What a range over the watchers has done. -/
structure FeedI (A : Sto) (X : List Wc) (Y : List Wn) (ids : List Int) (Z : List Wn) : Prop where
  w : Z.map Wn.w = X.map (fedBy A ids)
  k : Z.map wnK = Y.map wnK
theorem hbFeed (hs : sat h (HbP hb s last X :: StP s A o :: F)) (hX : HbOK last X) (hz : A.chs.length ≤ 1000000) (hr : A.rev ≤ 1000000000000000) (ok : StoOK A) :
    Triple Tryz.prog 17 [.ptr hb 3 0 0] h (fun r h => sat h (HbP hb s last (hFeed A X) :: StP s A o :: F)) := by
  have h0 : 0 ≤ A.rev := by have := ok.past; have := ok.rev; omega
  obtain ⟨bm, Y, hY, hs2⟩ := hbP.1 hs
  have hp := hs2.at
  obtain ⟨pl, c, ⟨q1, q2, q3⟩, hs3⟩ := mpA.1 hs2.p1
  refine t17 (Nat.le_of_ble_eq_true rfl) ?_
  simp (disch := omega) only [F17, hp, go_sem, simprocAttr]
  refine rng_use hs3 fun q h hs => ?_
  simp (disch := omega) only [go_sem, simprocAttr]
  generalize hkvs : kvOf (fun n : Int => AV.int .i64 n) (fun q : Int × Nat => q.1) (fun q => AV.ptr q.2 4 0 0) pl = kvs at hs
  have hx0 : ∀ x ∈ kvs, ∃ p ∈ pl, x = (.int .i64 p.1.1, .ptr p.1.2 4 0 0, p.2) := by
    intro x hx
    rw [← hkvs] at hx
    obtain ⟨p, hp, rfl⟩ := List.mem_map.1 hx
    exact ⟨p, hp, rfl⟩
  have hc : ∀ x ∈ kvs, x.2.2 < c := fun x hx => by obtain ⟨p, hp, rfl⟩ := hx0 x hx; exact q3 p hp
  have hn : (kvs.map (·.2.2)).Nodup := by rw [← hkvs]; simpa [kvOf, Function.comp_def] using q2
  have hids : (pl.map fun p => p.1.1).Nodup := by
    have h1 := (q1.map fun q : Int × Nat => q.1).nodup_iff.2 (by
      have := hX.nd
      rw [← hY, List.map_map] at this
      rw [List.map_map]
      exact this)
    simpa [Function.comp_def] using h1
  have hmem : ∀ p ∈ pl, p.1 ∈ Y.map wnK := fun p hp => q1.mem_iff.1 (List.mem_map_of_mem hp)
  refine run_loopN (fun k e h => ∃ (es rest : List ((Int × Nat) × Nat)) (Z : List Wn), k = rest.length ∧ (es ++ rest).Perm pl ∧ FeedI A X Y (es.map fun p => p.1.1) Z ∧ sat h (pto q (.itr (some bm) c (es.map (·.2)) c) :: pto bm (.mp kvs c) :: hRow hb s bm last :: (Z.map WnP ++ StP s A o :: F)) ∧
    (e 0 = .ptr hb 3 0 0 ∧ e 12 = .ptr q 1 0 0)) pl.length ⟨[], pl, Y, rfl, .refl _, ⟨by rw [hY]; exact fed_none.symm, rfl⟩, hs, rfl, rfl⟩ ?_
  clear hs hp hs2 hs3
  rintro k e h ⟨es, rest, Z, rfl, hpm, hI, hs, he⟩
  simp (disch := omega) only [go_sem, simprocAttr, he]
  refine nxt_use hs (Nat.le_refl _) hc (fun x hx hns h hs => ?_) (fun hall => ?_)
  · obtain ⟨⟨⟨id, pt⟩, bn⟩, hp, rfl⟩ := hx0 x hx
    have hen := ent_at hs hx hn
    simp only [] at hns hs hen
    have hpe : ((id, pt), bn) ∉ es := fun h => hns (List.mem_map_of_mem (f := fun p : (Int × Nat) × Nat => p.2) h)
    have hpr : ((id, pt), bn) ∈ rest := by
      rcases List.mem_append.1 (hpm.mem_iff.2 hp) with h | h
      · exact absurd h hpe
      · exact h
    obtain ⟨ra, rb, rfl⟩ := List.append_of_mem hpr
    have hpm2 : (es ++ [((id, pt), bn)] ++ (ra ++ rb)).Perm pl := by
      refine List.Perm.trans ?_ hpm
      rw [List.append_assoc]
      exact List.Perm.append_left es (by simpa using List.perm_middle.symm)
    have hide : id ∉ es.map fun p => p.1.1 := by
      intro h
      have h2 := ((hpm2.map fun p => p.1.1).nodup_iff).2 hids
      simp only [List.map_append, List.map_cons, List.map_nil, List.append_assoc] at h2
      exact (List.nodup_append.1 h2).2.2 _ h _ (by simp) rfl
    have hzm := hmem _ hp
    rw [← hI.k] at hzm
    obtain ⟨y, hy, hyk⟩ := List.mem_map.1 hzm
    obtain ⟨l1, l2, rfl⟩ := List.append_of_mem hy
    have hyi : y.w.id = id := congrArg Prod.fst hyk
    have hyp : y.p = pt := congrArg Prod.snd hyk
    subst hyi hyp
    have hIw := hI.w
    rw [List.map_append, List.map_cons] at hIw
    have hstep := fed_step hX.nd hIw.symm hide
    have hyX : y.w ∈ X := by
      have h1 : y.w ∈ X.map (fedBy A (es.map fun p => p.1.1)) := by rw [← hIw]; simp
      obtain ⟨x, hx, hxe⟩ := List.mem_map.1 h1
      have : x.id ∉ es.map fun p => p.1.1 := by rw [← hxe, fedBy_id] at hide; exact hide
      rw [fedBy, if_neg this] at hxe
      rw [← hxe]; exact hx
    have hypl := hX.pl _ hyX
    have hyev := hX.ev _ hyX
    have hs3 := wnP.1 ((hs.perm ((((wn_perm (s := s) (A := A) (o := o)).cons _).cons _).cons _)).p3)
    have hfin : ∀ (y' : Wn), y'.w = y.w.feed A → y'.p = y.p → ∀ h, sat h (wRow y' :: wEvs y' :: pto q (.itr (some bm) c (es.map (·.2) ++ [bn]) c) :: pto bm (.mp kvs c) :: hRow hb s bm last :: StP s A o :: ((l1 ++ l2).map WnP ++ F)) →
        ∃ (es' rest' : List ((Int × Nat) × Nat)) (Z' : List Wn), (ra ++ rb).length = rest'.length ∧ (es' ++ rest').Perm pl ∧ FeedI A X Y (es'.map fun p : (Int × Nat) × Nat => p.1.1) Z' ∧ sat h (pto q (.itr (some bm) c (es'.map (·.2)) c) :: pto bm (.mp kvs c) :: hRow hb s bm last :: (Z'.map WnP ++ StP s A o :: F)) := by
      intro y' h1 h2 h hs
      refine ⟨es ++ [((y.w.id, y.p), bn)], ra ++ rb, l1 ++ y' :: l2, rfl, hpm2, ⟨?_, ?_⟩, ?_⟩
      · rw [List.map_append, List.map_cons, h1, List.map_append, List.map_cons, List.map_nil, hstep]
      · have h3 : y'.w.id = y.w.id := by rw [h1]; exact Wc.feed_id.1
        rw [← hI.k]
        simp only [List.map_append, List.map_cons, wnK, h2, h3]
      · have h4 := wnP.2 hs
        have h5 := (h4.p3.p3.p3).perm (((((wn_perm (s := s) (A := A) (o := o)).symm).cons _).cons _).cons _)
        simpa using h5
    have hp0 := hs3.at
    have hlv := ow_atom hs3.p1
    have hlc := ow_cell hs3.p1
    simp (disch := omega) only [go_sem, simprocAttr, he]
    rw [hen]
    obtain ⟨w, p, lv⟩ := y
    obtain ⟨wid, lo, hi, pl0, md⟩ := w
    cases md with
    | behind =>
      simp (disch := omega) only [go_sem, simprocAttr, he, hp0, mdV, tb, th, te, taA]
      refine new_opq hs3 fun a h hs => ?_
      have ha := hs.at
      have hs4 := hs.set (o' := .row 1 [[.nils]] 1)
      have ha2 := hs4.at
      simp (disch := omega) only [go_sem, simprocAttr, ha, ha2, he]
      obtain ⟨es', rest', Z', g1, g2, g3, g4⟩ := hfin ⟨⟨wid, lo, hi, pl0, .behind⟩, p, lv⟩ rfl rfl _ hs4.drop
      exact ⟨rest'.length, by simp at g1 ⊢; omega, es', rest', Z', rfl, g2, g3, g4⟩
    | ended L why =>
      simp (disch := omega) only [go_sem, simprocAttr, he, hp0, mdV, tb, th, te, taA]
      refine new_opq hs3 fun a h hs => ?_
      have ha := hs.at
      have hs4 := hs.set (o' := .row 1 [[.nils]] 1)
      have ha2 := hs4.at
      simp (disch := omega) only [go_sem, simprocAttr, ha, ha2, he]
      obtain ⟨es', rest', Z', g1, g2, g3, g4⟩ := hfin ⟨⟨wid, lo, hi, pl0, .ended L why⟩, p, lv⟩ rfl rfl _ hs4.drop
      exact ⟨rest'.length, by simp at g1 ⊢; omega, es', rest', Z', rfl, g2, g3, g4⟩
    | hears L =>
      simp (disch := omega) only [go_sem, simprocAttr, he, hp0, mdV, tb, th, te, taA]
      refine new_opq hs3 fun a h hs => ?_
      have ha := hs.at
      have hs4 := hs.set (o' := .row 1 [[lv]] 1)
      have hb4 := hs4.p5.at
      have ha2 := hs4.at
      simp (disch := omega) only [go_sem, simprocAttr, ha, he, hlc, hlv, hb4]
      refine call_use (wcChanges (w := ⟨wid, lo, hi, pl0, .hears L⟩) (hs4.p5.p5.p5.p5.p4.p6.p6) hypl.1 (by omega) ⟨rfl, rfl, rfl⟩) ?_
      rintro r h ⟨v, hr', hs⟩
      subst hr'
      have hcl : (Wc.chg A ⟨wid, lo, hi, pl0, .hears L⟩).1.length ≤ A.chs.length := by
        unfold Wc.chg
        split
        · exact Nat.zero_le _
        split
        · exact Nat.zero_le _
        · exact List.length_filter_le _ _
      have hfeed : Wc.feed A ⟨wid, lo, hi, pl0, .hears L⟩ = if (Wc.chg A ⟨wid, lo, hi, pl0, .hears L⟩).2 ≠ 0 then ⟨wid, lo, hi, pl0, .ended L 16⟩
          else if 16 < L.length + (Wc.chg A ⟨wid, lo, hi, pl0, .hears L⟩).1.length then ⟨wid, lo, hi, pl0, .ended L 14⟩
          else ⟨wid, lo, hi, max pl0 (A.rev + 1), .hears (L ++ (Wc.chg A ⟨wid, lo, hi, pl0, .hears L⟩).1)⟩ := rfl
      generalize (Wc.chg A ⟨wid, lo, hi, pl0, .hears L⟩).1 = C at *
      generalize (Wc.chg A ⟨wid, lo, hi, pl0, .hears L⟩).2 = ce at *
      have ha5 := hs.p3.at
      have hw5 := hs.p1.at
      have lenC := hs.els.len
      rw [List.length_map] at lenC
      have lenV := hs.p4.els.len
      rw [List.length_map] at lenV
      have lenV : lenL lv = some (.int .i64 (L.length : Nat)) := lenV
      have hyev : L.length ≤ 16 := hyev
      by_cases d1 : ce ≠ 0
      · rw [if_pos d1] at hfeed
        have c1 : (ce != 0) = true := by simpa using d1
        have hs5 := hs.p1.set (o' := .row 4 [[.str lo, .str hi, .int .i64 pl0, .iface te (.agg [lv, .int .i64 16])]] 1)
        simp (disch := omega) only [go_sem, simprocAttr, he, c1, ha5, hw5, hlc, hlv]
        obtain ⟨es', rest', Z', g1, g2, g3, g4⟩ := hfin ⟨⟨wid, lo, hi, pl0, .ended L 16⟩, p, lv⟩ hfeed.symm rfl _ hs5.p1.drop.p2.drop.p1.p5.p5.p5.p5.p5
        exact ⟨rest'.length, by simp at g1 ⊢; omega, es', rest', Z', rfl, g2, g3, g4⟩
      rw [if_neg d1] at hfeed
      have c1 : (ce != 0) = false := by simpa using d1
      by_cases d2 : 16 < L.length + C.length
      · rw [if_pos d2] at hfeed
        have c2 : ((L.length : Int) + (C.length : Int) > 16) = True := by simp; omega
        have hs5 := hs.p1.set (o' := .row 4 [[.str lo, .str hi, .int .i64 pl0, .iface te (.agg [lv, .int .i64 14])]] 1)
        simp (disch := omega) only [go_sem, simprocAttr, he, c1, ha5, hw5, hlc, hlv, lenC, lenV, c2]
        obtain ⟨es', rest', Z', g1, g2, g3, g4⟩ := hfin ⟨⟨wid, lo, hi, pl0, .ended L 14⟩, p, lv⟩ hfeed.symm rfl _ hs5.p1.drop.p2.drop.p1.p5.p5.p5.p5.p5
        exact ⟨rest'.length, by simp at g1 ⊢; omega, es', rest', Z', rfl, g2, g3, g4⟩
      rw [if_neg d2] at hfeed
      have c2 : ((L.length : Int) + (C.length : Int) > 16) = False := by simp; omega
      simp (disch := omega) only [go_sem, simprocAttr, he, c1, ha5, hw5, lenC, lenV, c2]
      have hnl : lv ≠ .lst [] := ow_nlst hs.p4
      refine call_use (evClone (l := L) hs (fun h hs => hs.p4.els) (by omega) hnl) ?_
      intro r1 h hs
      have hsr := hs.p1.els.1
      simp (disch := omega) only [go_sem, simprocAttr, he]
      refine app_sat hs hsr (atoms_ev2 _) (by simp; omega) fun v' h hs hc' ha' => ?_
      have hw6 := hs.p2.at
      have hs6 := hs.p2.set (o' := .row 4 [[.str lo, .str hi, .int .i64 pl0, .iface th (.agg [v'])]] 1)
      have hw7 := hs6.at
      have hs7 := hs6.p2.drop.p3.drop.p3.drop.p5.p5.p5.p4.p4.p5
      have hb7 := hs7.p5.at
      simp (disch := omega) only [go_sem, simprocAttr, he, hc', ha', hw6, hw7, hb7]
      generalize Hp.set h p _ = h2 at *
      refine call_use' (mvRev hs7) ?_
      rintro r h ⟨hr', hs⟩
      subst hr'
      have hw8 := hs.p1.at
      have em : (if pl0 < A.rev + 1 then A.rev + 1 else pl0) = max pl0 (A.rev + 1) := by split <;> omega
      have hs8 := hs.p1.set (o' := .row 4 [[.str lo, .str hi, .int .i64 (max pl0 (A.rev + 1)), .iface th (.agg [v'])]] 1)
      have hpl : pl0 ≤ 9223372036854775807 := hypl.2
      simp (disch := omega) only [go_sem, simprocAttr, he, hw8, em]
      rw [← List.map_append] at hs8
      obtain ⟨es', rest', Z', g1, g2, g3, g4⟩ := hfin ⟨⟨wid, lo, hi, max pl0 (A.rev + 1), .hears (L ++ C)⟩, p, v'⟩ hfeed.symm rfl _ hs8.p1.p5.p5.p5.p5.p5
      exact ⟨rest'.length, by simp at g1 ⊢; omega, es', rest', Z', rfl, g2, g3, g4⟩
  · simp (disch := omega) only [go_sem, simprocAttr]
    have hall2 : ∀ x ∈ X, x.id ∈ es.map fun p => p.1.1 := by
      intro x hx
      rw [← hY] at hx
      obtain ⟨y, hy, rfl⟩ := List.mem_map.1 hx
      obtain ⟨p, hp, hpe⟩ := List.mem_map.1 (q1.mem_iff.2 (List.mem_map_of_mem (f := wnK) hy))
      have h1 := hall (.int .i64 p.1.1, .ptr p.1.2 4 0 0, p.2) (by rw [← hkvs]; exact List.mem_map_of_mem (f := fun p : (Int × Nat) × Nat => (AV.int .i64 p.1.1, AV.ptr p.1.2 4 0 0, p.2)) hp)
      obtain ⟨p2, hp2, hpe2⟩ := List.mem_map.1 h1
      have h3 : p2 = p := by
        have h4 := hpm.subset (List.mem_append_left _ hp2)
        exact nd_inj q2 h4 hp hpe2
      subst h3
      rw [show y.w.id = p2.1.1 by rw [hpe]; rfl]
      exact List.mem_map_of_mem (f := fun p : (Int × Nat) × Nat => p.1.1) hp2
    have hw := hI.w
    rw [fed_all hall2] at hw
    rw [← hkvs] at hs
    refine hbP.2 ⟨bm, Z, hw, ?_⟩
    have hm : sat h (mpH bm (Y.map wnK) :: _) := mpA.2 ⟨pl, c, ⟨q1, q2, q3⟩, hs.p1⟩
    rw [hI.k]
    exact hm.p1.drop.p1
end
end Go.Proofs.YtaioncbpfckhaaaGreat
/- The store: a write that begins; what it says of a key; a change laid down; Put. -/
set_option linter.unusedSimpArgs false
set_option linter.unusedVariables false
set_option maxRecDepth 10000
namespace Go.Proofs.YtaioncbpfckhaaaGreat
open Go.Hz

abbrev WtP (w s : Nat) (A : Sto) (W : Wr) : Asr := WrP tp td w s A W
section
variable {h : Hp} {F : List Asr} {s w : Nat} {A : Sto} {o : AV} {W : Wr}

theorem mvWrite (hs : sat h (StP s A o :: F)) : Triple Tryz.prog 9 [.ptr s 7 0 0] h (fun r h => ∃ w, r = .ptr w 4 0 0 ∧ sat h (WtP w s A ⟨A.now, []⟩ :: StP s A (.ptr w 4 0 0) :: F)) := by
  obtain ⟨ix, vm, cv, L, X, hok, hs2⟩ := mvP.1 hs
  refine t9 (Nat.le_of_ble_eq_true rfl) ?_
  simp (disch := omega) only [F9, go_sem, simprocAttr]
  refine new_opq hs2 fun m h hs => ?_
  have hp := hs.p1.at
  simp (disch := omega) only [go_sem, simprocAttr, hp]
  refine new_opq hs fun w h hs => ?_
  have hp := hs.p2.at
  simp (disch := omega) only [go_sem, simprocAttr, hp]
  have hs3 : sat (h.set s (.row 7 [[.int .i64 A.rev, .int .i64 A.past, .int .i64 A.now.length, .ptr ix 2 0 0, .map vm, cv, .ptr w 4 0 0]] 1)) (pto s (.row 7 [[.int .i64 A.rev, .int .i64 A.past, .int .i64 A.now.length, .ptr ix 2 0 0, .map vm, cv, .ptr w 4 0 0]] 1) :: pto w (.row 4 [[.ptr s 7 0 0, .nils, .map m, .int .i64 A.now.length]] 1) :: pto m (.mp [] 0) :: IxP ix L :: Ow 2 cv (A.chs.map (verC tp td)) :: MpA (fun k : Key => AV.str k) Vn.key Vn.v vm X :: (X.map (VnP tp td) ++ F)) := hs.p2.set
  refine ⟨w, rfl, wrP.2 ⟨.nils, m, wrOK_nil A, ?_⟩⟩
  have hs4 := hs3.p2.p2
  exact hs4.tl fun _ h => (mpA_new (h.tl fun _ h => (mvP.2 ⟨ix, vm, cv, L, X, hok, h⟩ : sat _ (StP s A (.ptr w 4 0 0) :: F)))).add ow_nil
theorem mvClosed (hs : sat h (WtP w s A W :: StP s A (.ptr w 4 0 0) :: F)) : Triple Tryz.prog 30 [.ptr w 4 0 0] h (fun r h => r = .bool false ∧ sat h (WtP w s A W :: StP s A (.ptr w 4 0 0) :: F)) := by
  obtain ⟨lv, bm, hw, hs1⟩ := wrP.1 hs
  obtain ⟨ix, vm, cv, L, X, hok, hs2⟩ := mvP.1 hs1.p3
  have hp := hs2.at
  have hq := hs1.at
  refine t30 (Nat.le_of_ble_eq_true rfl) ?_
  simp (disch := omega) only [F30, hp, hq, go_sem, simprocAttr]
  exact hs
/-- What a write says of a key. -/
theorem mvNow {key : Key} (hs : sat h (WtP w s A W :: StP s A o :: F)) (hz : A.chs.length ≤ 100000000) : Triple Tryz.prog 32 [.ptr w 4 0 0, .str key] h (fun r h =>
    r = .tup [.agg (kvC ((kvget W.cur key).getD kv0)), .bool (kvget W.cur key).isSome] ∧ sat h (WtP w s A W :: StP s A o :: F)) := by
  have ok := MvP.ok hs.p1
  obtain ⟨lv, bm, hw, hs1⟩ := wrP.1 hs
  have mk : ∀ {h : Hp}, sat h (pto w (.row 4 [[.ptr s 7 0 0, lv, .map bm, .int .i64 W.cur.length]] 1) :: Ow 1 lv (W.l.map fun c => [chV tp td c]) :: MpA (fun k : Key => AV.str k) Ch.key (chV tp td) bm W.l :: StP s A o :: F) → sat h (WtP w s A W :: StP s A o :: F) := fun hs => wrP.2 ⟨lv, bm, hw, hs⟩
  refine t32 (Nat.le_of_ble_eq_true rfl) ?_
  simp (disch := omega) only [F32, go_sem, simprocAttr]
  refine new_opq hs1 fun a h hs => ?_
  have hp := hs.p1.at
  cases hc : wChg W key with
  | true =>
    obtain ⟨c, hcm, rfl⟩ := wChg_t hc
    have hl := lk_hit keyOK_str hs.p3 hw.nd hcm (ok := true) (z := .nili)
    have hnow := now_chg ok hw hcm
    rw [hnow]
    simp (disch := omega) only [go_sem, simprocAttr, hp, hl]
    cases c with
    | put kv =>
      simp (disch := omega) only [go_sem, simprocAttr, chV, taA, tp, td, kvC]
      refine new_opq hs fun y h hs => ?_
      have hy := hs.at
      have hs5 := hs.set (o' := .row 6 [kvC kv] 1)
      have hy5 := hs5.at
      have hb5 := hs5.p1.at
      simp only [kvC, kv0] at hy5 hb5 hs5
      simp (disch := omega) only [go_sem, simprocAttr, hy, hy5, hb5, kvC]
      exact ⟨rfl, mk hs5.p1.set.drop.drop⟩
    | del dk =>
      simp (disch := omega) only [go_sem, simprocAttr, chV, taA, tp, td, kvC]
      refine new_opq hs fun y h hs => ?_
      have hy := hs.at
      have hs5 := hs.set (o' := .row 6 [kvC kv0] 1)
      have hy5 := hs5.at
      have hb5 := hs5.p1.at
      simp only [kvC, kv0] at hy5 hb5 hs5
      simp (disch := omega) only [go_sem, simprocAttr, hy, hy5, hb5, kvC]
      exact ⟨rfl, mk hs5.p1.set.drop.drop⟩
  | false =>
    have hl := lk_miss keyOK_str hs.p3 (q := key) (wChg_f hc) (ok := true) (z := .nili)
    simp (disch := omega) only [go_sem, simprocAttr, hp, hl]
    obtain ⟨ix, vm, cv, L, X, hok, hs2⟩ := mvP.1 hs.p4
    have hq := hs2.at
    simp (disch := omega) only [go_sem, simprocAttr, hp, hq]
    refine call_use (mvAt (key := key) (rev := A.rev) hs.p4 hz) ?_
    rintro r h ⟨hr, hs⟩
    subst hr
    simp (disch := omega) only [go_sem, simprocAttr]
    have hv : vAt (A.vers key) A.rev = kvget W.cur key := by rw [vAt_at ok ok.rev, at_rev ok, now_same ok hw hc]
    rw [hv]
    have ha := hs.p1.at
    simp (disch := omega) only [go_sem, simprocAttr, ha, kvC]
    exact mk hs.p1.set.drop.p3.p3.p3
/-- A change, laid down. -/
theorem mvLay {c : Ch} {lv : AV} {bm : Nat} {n : Int} (hw : WrOK A W) (hs : sat h (pto w (.row 4 [[.ptr s 7 0 0, lv, .map bm, .int .i64 n]] 1) :: Ow 1 lv (W.l.map fun c => [chV tp td c]) :: MpA (fun k : Key => AV.str k) Ch.key (chV tp td) bm W.l :: F)) (hz : W.l.length ≤ 100000000) (hc : wChg W c.key = false) (hk : c.key ≠ [] ∧ c.key.length ≤ 100) (hd : c.kv = none → kvget W.cur c.key ≠ none) (hnum : ∀ kv, c = .put kv → kv.mod = A.rev + 1 ∧ KvIn (A.rev + 1) kv) : Triple Tryz.prog 33 [.ptr w 4 0 0, chV tp td c] h (fun r h =>
    ∃ lv, WrOK A ⟨done W.cur c, W.l ++ [c]⟩ ∧ sat h (pto w (.row 4 [[.ptr s 7 0 0, lv, .map bm, .int .i64 n]] 1) :: Ow 1 lv ((W.l ++ [c]).map fun c => [chV tp td c]) :: MpA (fun k : Key => AV.str k) Ch.key (chV tp td) bm (W.l ++ [c]) :: F)) := by
  have hp := hs.at
  have ca := chV_atom (tp := tp) (td := td) c
  have cc := chV_cells (tp := tp) (td := td) c
  refine t33 (Nat.le_of_ble_eq_true rfl) ?_
  simp (disch := omega) only [F33, hp, cc, ca, go_sem, simprocAttr]
  refine new_opq hs fun a h hs => ?_
  simp (disch := omega) only [go_sem, simprocAttr]
  refine app_sat hs.p2 (src_one hs.at) (atoms_one (by simp [ca])) (by simp; omega) fun v' h hs ca' aa => ?_
  have hp := hs.p2.at
  have hs2 := hs.p2.set (o' := .row 4 [[.ptr s 7 0 0, v', .map bm, .int .i64 n]] 1)
  have hp2 := hs2.at
  simp (disch := omega) only [go_sem, simprocAttr, hp, ca', aa, hp2]
  generalize Hp.set h w _ = h3 at hs2 hp2 ⊢
  refine inv_key hs2 c fun h hs => ?_
  have hp := hs.at
  simp (disch := omega) only [go_sem, simprocAttr, hp]
  refine mup_new keyOK_str hs.p3 (y := c) (wChg_f hc) fun h hs => ?_
  simp (disch := omega) only [go_sem, simprocAttr]
  refine ⟨v', hw.lay hc hk hd hnum, ?_⟩
  simpa using hs.p3.drop.p2.p2
theorem mvPut {key val : Key} {lease : Int} (hs : sat h (WtP w s A W :: StP s A (.ptr w 4 0 0) :: F)) (hz : A.chs.length ≤ 100000000) (hzl : W.l.length ≤ 100000000) (hzc : W.cur.length ≤ 200000000) (hr : A.rev ≤ 1000000000000000) :
    Triple Tryz.prog 13 [.ptr w 4 0 0, .str key, .str val, .int .i64 lease] h (fun r h => r = .int .i64 (wPut (A.rev + 1) W key val lease).1 ∧ sat h (WtP w s A (wPut (A.rev + 1) W key val lease).2 :: StP s A (.ptr w 4 0 0) :: F)) := by
  have ok := MvP.ok hs.p1
  have hw := WrP.ok hs
  have hpast := ok.past
  have hrev := ok.rev
  obtain ⟨lv, bm, _, hs1⟩ := wrP.1 hs
  have hp := hs1.at
  obtain ⟨tw, hl⟩ : ∃ v, lkA true true .nili h (.map bm) (.str key) = some (.tup [v, .bool (wChg W key)]) := by
    cases hc : wChg W key with
    | true =>
      obtain ⟨c, hcm, rfl⟩ := wChg_t hc
      exact ⟨_, lk_hit keyOK_str hs1.p2 hw.nd hcm⟩
    | false => exact ⟨_, lk_miss keyOK_str hs1.p2 (wChg_f hc)⟩
  refine t13 (Nat.le_of_ble_eq_true rfl) ?_
  simp (disch := omega) only [F13, hp, hl, go_sem, simprocAttr]
  refine call_use (mvNow (key := key) hs hz) ?_
  rintro r h ⟨hr, hs⟩
  subst hr
  simp (disch := omega) only [go_sem, simprocAttr]
  refine new_opq hs fun a h hs => ?_
  have ha := hs.at
  generalize hkv : (kvget W.cur key).getD kv0 = kv
  have hs2 := hs.set (o' := .row 6 [kvC kv] 1)
  have ha2 := hs2.at
  simp only [kvC] at hs2 ha2
  simp (disch := omega) only [go_sem, simprocAttr, ha, kvC]
  generalize Hp.set h a _ = h2 at hs2 ha2 ⊢
  by_cases k0 : key = []
  · subst k0
    have ef : wPut (A.rev + 1) W [] val lease = (1, W) := by simp [wPut]
    rw [ef]
    have e0 : (([] : List UInt8) == []) = true := rfl
    simp (disch := omega) only [go_sem, simprocAttr, e0]
    exact hs2.drop
  have e0 : (key == []) = false := by simpa using k0
  by_cases k1 : 100 < key.length
  · have ef : wPut (A.rev + 1) W key val lease = (1, W) := by simp [wPut, k1]
    rw [ef]
    simp (disch := omega) only [go_sem, simprocAttr, e0, show ((key.length : Int) > 100) = True by simp; omega]
    exact hs2.drop
  have e1 : ((key.length : Int) > 100) = False := by simp; omega
  by_cases k2 : lease < 0
  · have ef : wPut (A.rev + 1) W key val lease = (1, W) := by simp [wPut, k2]
    rw [ef]
    simp (disch := omega) only [go_sem, simprocAttr, e0, e1, k2]
    exact hs2.drop
  have hn1 : ¬ (key = [] ∨ 100 < key.length ∨ lease < 0) := by rintro (h | h | h); exact k0 h; exact k1 h; exact k2 h
  by_cases k3 : 4096 < val.length
  · have ef : wPut (A.rev + 1) W key val lease = (5, W) := by rw [wPut, if_neg hn1, if_pos k3]
    rw [ef]
    simp (disch := omega) only [go_sem, simprocAttr, e0, e1, k2, show ((val.length : Int) > 4096) = True by simp; omega]
    exact hs2.drop
  have e3 : ((val.length : Int) > 4096) = False := by simp; omega
  cases hchg : wChg W key with
  | true =>
    have ef : wPut (A.rev + 1) W key val lease = (18, W) := by rw [wPut, if_neg hn1, if_neg k3, if_pos hchg]
    rw [ef]
    simp (disch := omega) only [go_sem, simprocAttr, e0, e1, k2, e3, hchg]
    exact hs2.drop
  | false =>
  have hnc : ¬ wChg W key = true := by simp [hchg]
  obtain ⟨lv2, bm2, _, hs3⟩ := wrP.1 hs2.p1
  obtain ⟨ix, vm, cv, L, X, hok, hs4⟩ := mvP.1 hs2.p2
  have hp := hs3.at
  have hq := hs4.at
  cases hg : kvget W.cur key with
  | none =>
    rw [hg, Option.getD_none] at hkv
    subst hkv
    by_cases k4 : 4096 ≤ W.cur.length
    · have ef : wPut (A.rev + 1) W key val lease = (14, W) := by rw [wPut, if_neg hn1, if_neg k3, if_neg hnc, if_pos ⟨hg, k4⟩]
      rw [ef]
      simp (disch := omega) only [go_sem, simprocAttr, e0, e1, k2, e3, hchg, hg, Option.isSome_none, hp, show ((W.cur.length : Int) ≥ 4096) = True by simp; omega]
      exact hs2.drop
    have ef : wPut (A.rev + 1) W key val lease = (0, ⟨done W.cur (.put (wNew (A.rev + 1) W key val lease)), W.l ++ [.put (wNew (A.rev + 1) W key val lease)]⟩) := by rw [wPut, if_neg hn1, if_neg k3, if_neg hnc, if_neg (fun h => k4 h.2)]
    rw [ef]
    simp (disch := omega) only [go_sem, simprocAttr, e0, e1, k2, e3, hchg, hg, Option.isSome_none, hp, show ((W.cur.length : Int) ≥ 4096) = False by simp; omega]
    refine call_use (mvClosed hs2.p2.p2) ?_
    rintro r h ⟨hr, hs⟩
    subst hr
    simp (disch := omega) only [go_sem, simprocAttr, Option.isSome_none]
    obtain ⟨lv3, bm3, _, hs5⟩ := wrP.1 hs
    obtain ⟨ix, vm, cv, L, X, hok, hs6⟩ := mvP.1 hs5.p3
    have hp := hs5.at
    have hq := hs6.at
    have ha := hs5.p4.at
    simp (disch := omega) only [go_sem, simprocAttr, hp, hq, ha, Option.isSome_none]
    have hsA := hs5.p4.set (o' := .row 6 [[.str key, .str [], .int .i64 (A.rev + 1), .int .i64 0, .int .i64 0, .int .i64 0]] 1)
    have hwA := hsA.p1.at
    have haA := hsA.at
    generalize Hp.set h a _ = h4 at hsA hwA haA ⊢
    have hsB := hsA.p1.set (o' := .row 4 [[.ptr s 7 0 0, lv3, .map bm3, .int .i64 (W.cur.length + 1)]] 1)
    have haB := hsB.p1.at
    simp (disch := omega) only [go_sem, simprocAttr, hwA, haA, haB]
    generalize Hp.set h4 w _ = h5 at hsB haB ⊢
    have hsC := hsB.p1.set (o' := .row 6 [[.str key, .str val, .int .i64 (A.rev + 1), .int .i64 (A.rev + 1), .int .i64 1, .int .i64 lease]] 1)
    have hwn : wNew (A.rev + 1) W key val lease = ⟨key, val, A.rev + 1, A.rev + 1, 1, lease⟩ := by simp [wNew, hg]
    have hlay : Triple Tryz.prog 33 [.ptr w 4 0 0, chV tp td (.put ⟨key, val, A.rev + 1, A.rev + 1, 1, lease⟩)] _ _ := mvLay hw hsC.p4.p4.p4.p4 hzl (by rw [← hwn]; exact wNew_chg hchg) (by rw [← hwn]; exact wNew_len k0 (by omega)) (fun h => by cases h) (by rw [← hwn]; exact wNew_num ok hw hchg (by omega) (by omega))
    rw [hwn]
    refine call_use hlay ?_
    rintro r h ⟨lv4, hok', hs⟩
    simp (disch := omega) only [go_sem, simprocAttr]
    have hdl := done_len (c := .put ⟨key, val, A.rev + 1, A.rev + 1, 1, lease⟩) (hw.srt ok)
    rw [show (Ch.put ⟨key, val, A.rev + 1, A.rev + 1, 1, lease⟩).key = key from rfl, hg] at hdl
    have hdl2 : ((done W.cur (.put ⟨key, val, A.rev + 1, A.rev + 1, 1, lease⟩)).length : Int) = (W.cur.length : Int) + 1 := by rw [hdl]; simp [Ch.kv]
    refine wrP.2 ⟨lv4, bm3, hok', ?_⟩
    rw [hdl2]
    exact hs.p4.drop.p3.p3.p3.p3
  | some x =>
    rw [hg, Option.getD_some] at hkv
    subst hkv
    have ef : wPut (A.rev + 1) W key val lease = (0, ⟨done W.cur (.put (wNew (A.rev + 1) W key val lease)), W.l ++ [.put (wNew (A.rev + 1) W key val lease)]⟩) := by rw [wPut, if_neg hn1, if_neg k3, if_neg hnc, if_neg (fun h => by rw [hg] at h; cases h.1)]
    rw [ef]
    simp (disch := omega) only [go_sem, simprocAttr, e0, e1, k2, e3, hchg, hg, Option.isSome_some]
    refine call_use (mvClosed hs2.p2.p2) ?_
    rintro r h ⟨hr, hs⟩
    subst hr
    simp (disch := omega) only [go_sem, simprocAttr, Option.isSome_some]
    obtain ⟨lv3, bm3, _, hs5⟩ := wrP.1 hs
    obtain ⟨ix, vm, cv, L, X, hok, hs6⟩ := mvP.1 hs5.p3
    have hp := hs5.at
    have hq := hs6.at
    have ha := hs5.p4.at
    have hxm := cur_num ok hw x (kvget_some hg).1
    have hxk := (kvget_some hg).2
    unfold KvIn at hxm
    have hwn : wNew (A.rev + 1) W key val lease = ⟨key, val, x.create, A.rev + 1, x.ver + 1, lease⟩ := by simp [wNew, hg]
    simp (disch := omega) only [go_sem, simprocAttr, hp, hq, ha, Option.isSome_some]
    have hsC := hs5.p4.set (o' := .row 6 [[.str x.key, .str val, .int .i64 x.create, .int .i64 (A.rev + 1), .int .i64 (x.ver + 1), .int .i64 lease]] 1)
    rw [hxk] at hsC ⊢
    have hlay : Triple Tryz.prog 33 [.ptr w 4 0 0, chV tp td (.put ⟨key, val, x.create, A.rev + 1, x.ver + 1, lease⟩)] _ _ := mvLay hw hsC.p4.p4.p4.p4 hzl (by rw [← hwn]; exact wNew_chg hchg) (by rw [← hwn]; exact wNew_len k0 (by omega)) (fun h => by cases h) (by rw [← hwn]; exact wNew_num ok hw hchg (by omega) (by omega))
    rw [hwn]
    refine call_use hlay ?_
    rintro r h ⟨lv4, hok', hs⟩
    simp (disch := omega) only [go_sem, simprocAttr]
    have hdl := done_len (c := .put ⟨key, val, x.create, A.rev + 1, x.ver + 1, lease⟩) (hw.srt ok)
    rw [show (Ch.put ⟨key, val, x.create, A.rev + 1, x.ver + 1, lease⟩).key = key from rfl, hg] at hdl
    have hdl2 : (done W.cur (.put ⟨key, val, x.create, A.rev + 1, x.ver + 1, lease⟩)).length = W.cur.length := by rw [hdl]; simp [Ch.kv]
    refine wrP.2 ⟨lv4, bm3, hok', ?_⟩
    rw [hdl2]
    exact hs.p4.drop.p3.p3.p3.p3
end
end Go.Proofs.YtaioncbpfckhaaaGreat
/- slices: insertion sort. -/
set_option linter.unusedSimpArgs false
set_option linter.unusedVariables false
set_option maxRecDepth 10000
namespace Go.Proofs.YtaioncbpfckhaaaGreat
open Go.Hz Go.Sort

section
variable {h : Hp} {F : List Asr} {G : List AV → Prop} {lt : List AV → List AV → Bool}

theorem ins_S (hc : LessT Tryz.prog false G lt 88) (E : GoodE 1 false G) {d : Array (List AV)} {a bb b cap : Nat} (hs : sat h (pto b (.row 1 d.toList cap) :: F)) (hg : GA G d) (ha : a ≤ bb) (hb : bb ≤ d.size) (hsz : d.size ≤ 1000000000000) :
    Triple Tryz.prog 82 [.arr b 1 0 d.size cap, .int .i64 a, .int .i64 bb] h (fun r h => GA G (insertionSort lt d a bb) ∧ (insertionSort lt d a bb).size = d.size ∧ sat h (pto b (.row 1 (insertionSort lt d a bb).toList cap) :: F)) := by
  refine t82 (Nat.le_of_ble_eq_true rfl) ?_
  simp (disch := omega) only [F82, go_sem, simprocAttr]
  refine run_loopN (fun n e h => ∃ (i : Nat) (d' : Array (List AV)), n = bb + 1 - i ∧ a + 1 ≤ i ∧ i ≤ bb + 1 ∧ insOuter lt a bb i d' = insertionSort lt d a bb ∧ GA G d' ∧ d'.size = d.size ∧ sat h (pto b (.row 1 d'.toList cap) :: F) ∧
    (e 0 = .arr b 1 0 d.size cap ∧ e 1 = .int .i64 a ∧ e 2 = .int .i64 bb ∧ e 6 = .int .i64 i)) (bb + 1 - (a + 1)) ⟨a + 1, d, rfl, Nat.le_refl _, by omega, rfl, hg, rfl, hs, rfl, rfl, rfl, rfl⟩ ?_
  rintro n e h ⟨i, d', rfl, hi1, hi2, hI, hg', hz', hs, he⟩
  simp (disch := omega) only [go_sem, simprocAttr, he]
  refine cnd_dec (fun hlt => ?_) (fun hge => ?_)
  · simp (disch := omega) only [go_sem, simprocAttr, he]
    refine blk_join (Q := fun e h => ∃ d2 : Array (List AV), d2 = insInner lt a i d' ∧ GA G d2 ∧ d2.size = d.size ∧ sat h (pto b (.row 1 d2.toList cap) :: F) ∧
      (e 0 = .arr b 1 0 d.size cap ∧ e 1 = .int .i64 a ∧ e 2 = .int .i64 bb ∧ e 6 = .int .i64 i)) ?_ ?_
    · refine run_loopN (fun n e h => ∃ (j : Nat) (d2 : Array (List AV)), n = j ∧ j ≤ i ∧ insInner lt a j d2 = insInner lt a i d' ∧ GA G d2 ∧ d2.size = d.size ∧ sat h (pto b (.row 1 d2.toList cap) :: F) ∧
        (e 0 = .arr b 1 0 d.size cap ∧ e 1 = .int .i64 a ∧ e 2 = .int .i64 bb ∧ e 6 = .int .i64 i ∧ e 7 = .int .i64 j)) i ⟨i, d', rfl, Nat.le_refl _, rfl, hg', hz', hs, ?_⟩ ?_
      · simp only [Env.upd_apply, he, and_self, reduceIte, Nat.reduceEqDiff]
      · rintro j e h ⟨_, d2, rfl, hj, hJ, hg2, hz2, hs, he⟩
        simp (disch := omega) only [go_sem, simprocAttr, he]
        refine cnd_dec (fun hgt => ?_) (fun hle => ?_)
        · obtain ⟨j, rfl⟩ : ∃ k, j = k + 1 := ⟨j - 1, by omega⟩
          have hm : ((j + 1 : Nat) : Int) - 1 = (j : Int) := by omega
          have r1 := rd_o E hg2 (i := j + 1) (by omega)
          have r2 := rd_o E hg2 (i := j) (by omega)
          simp (disch := omega) only [go_sem, simprocAttr, he, hm, hs.at, r1, r2]
          refine call_use (hc _ _ _ _ (hg2 _ (by omega)) (hg2 _ (by omega)) hs) ?_
          rintro r h ⟨hr, hs⟩
          subst hr
          simp (disch := omega) only [go_sem, simprocAttr, he, hm, hgt]
          have hst : insInner lt a (j + 1) d2 = if lt d2[j + 1]! d2[j]! = true then insInner lt a j (swp d2 (j + 1) j) else d2 := by
            rw [insInner]; simp only [show (j + 1 > a) from by omega, decide_true, Bool.true_and]
          cases hq : lt d2[j + 1]! d2[j]!
          · simp (disch := omega) only [go_sem, simprocAttr, he]
            refine ⟨d2, ?_, hg2, hz2, hs⟩
            rw [← hJ, hst, hq]; rfl
          · simp (disch := omega) only [go_sem, simprocAttr, he]
            obtain ⟨k1, k2, k3, k4, k5, k6, k7, k8, k9, k10, k11, ⟨ky, y1, y2, y3, y4⟩, hw⟩ := sw_o E hg2 (i := j + 1) (j := j) (by omega) (by omega)
            simp (disch := omega) only [go_sem, simprocAttr, he, hm, hs.at, k1, k2, k3, k4, k5, k6, k7, k8, k9, k10, k11, y1, y2, y3, y4, hw]
            refine ⟨j, by omega, j, swp d2 (j + 1) j, rfl, by omega, ?_, hg2.swp (by omega) (by omega), by rw [Go.Sort.swp_size]; exact hz2, hs.set, rfl⟩
            rw [← hJ, hst, hq]; rfl
        · simp (disch := omega) only [go_sem, simprocAttr, he, hle]
          refine ⟨d2, ?_, hg2, hz2, hs⟩
          rw [← hJ]
          cases j with
          | zero => rw [insInner]
          | succ j => rw [insInner, if_neg]; simp; omega
    · rintro e h ⟨d2, hd2, hg2, hz2, hs, he⟩
      simp (disch := omega) only [go_sem, simprocAttr, he]
      refine ⟨_, ?_, i + 1, d2, rfl, by omega, by omega, ?_, hg2, hz2, hs, rfl⟩
      · omega
      · rw [← hI, insOuter.eq_1 lt a bb i, if_pos (by omega), hd2]
  · simp (disch := omega) only [go_sem, simprocAttr, he]
    rw [insOuter, if_neg (by omega)] at hI
    subst hI
    exact ⟨hg', hz', hs⟩

theorem sift_step {α : Type} [Inhabited α] {lt : α → α → Bool} {hi first root : Nat} {d : Array α} (h : 2 * root + 1 < hi) {w : Bool} (hw : w = (decide (2 * root + 1 + 1 < hi) && lt d[first + (2 * root + 1)]! d[first + (2 * root + 1) + 1]!)) {c : Nat} (hc : c = if w = true then 2 * root + 2 else 2 * root + 1) :
    siftDown lt hi first root d = if lt d[first + root]! d[first + c]! = true then siftDown lt hi first c (swp d (first + root) (first + c)) else d := by
  rw [siftDown, dif_neg (by omega)]
  cases w with
  | true =>
    simp only [if_true] at hc
    rw [← hw, if_pos rfl, ← hc, dif_pos (by have := hw; simp at this; omega)]
    cases lt d[first + root]! d[first + c]! <;> rfl
  | false =>
    simp only [Bool.false_eq_true, if_false] at hc
    rw [← hw, if_neg (by simp), ← hc]
    cases lt d[first + root]! d[first + c]! <;> rfl

theorem sift_S (hc : LessT Tryz.prog false G lt 88) (E : GoodE 1 false G) {d : Array (List AV)} {root hi first b cap : Nat} (hs : sat h (pto b (.row 1 d.toList cap) :: F)) (hg : GA G d) (hr : root ≤ hi) (hb : first + hi ≤ d.size) (hsz : d.size ≤ 1000000000000) :
    Triple Tryz.prog 97 [.arr b 1 0 d.size cap, .int .i64 root, .int .i64 hi, .int .i64 first] h (fun r h => GA G (siftDown lt hi first root d) ∧ (siftDown lt hi first root d).size = d.size ∧ sat h (pto b (.row 1 (siftDown lt hi first root d).toList cap) :: F)) := by
  refine t97 (Nat.le_of_ble_eq_true rfl) ?_
  simp (disch := omega) only [F97, go_sem, simprocAttr]
  refine run_loopN (fun n e h => ∃ (i : Nat) (d' : Array (List AV)), n = hi - i ∧ i ≤ hi ∧ siftDown lt hi first i d' = siftDown lt hi first root d ∧ GA G d' ∧ d'.size = d.size ∧ sat h (pto b (.row 1 d'.toList cap) :: F) ∧
    (e 0 = .arr b 1 0 d.size cap ∧ e 2 = .int .i64 hi ∧ e 3 = .int .i64 first ∧ e 8 = .int .i64 i)) (hi - root) ⟨root, d, rfl, hr, rfl, hg, rfl, hs, rfl, rfl, rfl, rfl⟩ ?_
  rintro n e h ⟨i, d', rfl, hi1, hI, hg', hz', hs, he⟩
  have n1 : (2 : Int) * i + 1 = ((2 * i + 1 : Nat) : Int) := by omega
  simp (disch := omega) only [go_sem, simprocAttr, he, n1]
  refine cnd_dec (fun hge => ?_) (fun hlt => ?_)
  · simp (disch := omega) only [go_sem, simprocAttr, he]
    rw [siftDown, dif_pos (by omega)] at hI
    subst hI
    exact ⟨hg', hz', hs⟩
  · have n2 : ((2 * i + 1 : Nat) : Int) + 1 = ((2 * i + 2 : Nat) : Int) := by omega
    simp (disch := omega) only [go_sem, simprocAttr, he, n1, n2]
    obtain ⟨w, hw⟩ : ∃ w, w = (decide (2 * i + 1 + 1 < hi) && lt d'[first + (2 * i + 1)]! d'[first + (2 * i + 1) + 1]!) := ⟨_, rfl⟩
    obtain ⟨c', hc'⟩ : ∃ c', c' = if w = true then 2 * i + 2 else 2 * i + 1 := ⟨_, rfl⟩
    refine cnd_join (Q := fun e' h' => ∃ (q : Bool) (v : AV), (if q = true then v else AV.bool false) = .bool w ∧ sat h' (pto b (.row 1 d'.toList cap) :: F) ∧
      (e' 21 = .bool q ∧ e' 35 = v ∧ e' 0 = .arr b 1 0 d.size cap ∧ e' 2 = .int .i64 hi ∧ e' 3 = .int .i64 first ∧ e' 8 = .int .i64 i ∧ e' 9 = .int .i64 (2 * i + 1 : Nat))) ?_ ?_
    · refine cnd_dec (fun h1 => ?_) (fun h1 => ?_)
      · have m1 : (first : Int) + ((2 * i + 1 : Nat) : Int) = ((first + (2 * i + 1) : Nat) : Int) := by omega
        have m2 : ((first + (2 * i + 1) : Nat) : Int) + 1 = ((first + (2 * i + 1) + 1 : Nat) : Int) := by omega
        have r1 := rd_o E hg' (i := first + (2 * i + 1)) (by omega)
        have r2 := rd_o E hg' (i := first + (2 * i + 1) + 1) (by omega)
        simp (disch := omega) only [go_sem, simprocAttr, he, hs.at, r1, r2, m1, m2, h1, n1]
        refine call_use (hc _ _ _ _ (hg' _ (by omega)) (hg' _ (by omega)) hs) ?_
        rintro r h ⟨hr, hs⟩
        subst hr
        simp (disch := omega) only [go_sem, simprocAttr, he, h1, n1]
        refine ⟨_, _, ?_, hs, rfl, rfl⟩
        rw [if_pos rfl, hw, decide_eq_true (show 2 * i + 1 + 1 < hi from by omega), Bool.true_and]
      · simp (disch := omega) only [go_sem, simprocAttr, he, h1, n1]
        refine ⟨_, _, ?_, hs, rfl, rfl⟩
        rw [if_neg (by simp), hw, decide_eq_false (show ¬ 2 * i + 1 + 1 < hi from by omega), Bool.false_and]
    · rintro e h ⟨q, v, hq, hs, he⟩
      simp (disch := omega) only [go_sem, simprocAttr, he, hq]
      refine cnd_join (Q := fun e' h' => sat h' (pto b (.row 1 d'.toList cap) :: F) ∧
        (e' 0 = .arr b 1 0 d.size cap ∧ e' 2 = .int .i64 hi ∧ e' 3 = .int .i64 first ∧ e' 8 = .int .i64 i ∧ e' 9 = .int .i64 c')) ?_ ?_
      · cases w with
        | true =>
          rw [if_pos rfl] at hc'
          have n2 : ((2 * i + 1 : Nat) : Int) + 1 = (c' : Int) := by omega
          have : c' < hi := by simp at hw; omega
          simp (disch := omega) only [go_sem, simprocAttr, he, n2]
          exact hs
        | false =>
          rw [if_neg (by simp)] at hc'
          subst hc'
          simp (disch := omega) only [go_sem, simprocAttr, he]
          exact hs
      · have hch : c' < hi := by
          cases w with
          | true => rw [if_pos rfl] at hc'; simp at hw; omega
          | false => rw [if_neg (by simp)] at hc'; omega
        have hci : i < c' := by
          cases w with
          | true => rw [if_pos rfl] at hc'; omega
          | false => rw [if_neg (by simp)] at hc'; omega
        have hst := sift_step (d := d') (lt := lt) (first := first) (root := i) (by omega) hw hc'
        rintro e h ⟨hs, he⟩
        have m1 : (first : Int) + (i : Int) = ((first + i : Nat) : Int) := by omega
        have m2 : (first : Int) + (c' : Int) = ((first + c' : Nat) : Int) := by omega
        have r1 := rd_o E hg' (i := first + i) (by omega)
        have r2 := rd_o E hg' (i := first + c') (by omega)
        simp (disch := omega) only [go_sem, simprocAttr, he, hs.at, r1, r2, m1, m2]
        refine call_use (hc _ _ _ _ (hg' _ (by omega)) (hg' _ (by omega)) hs) ?_
        rintro r h ⟨hr, hs⟩
        subst hr
        simp (disch := omega) only [go_sem, simprocAttr, he]
        cases hq : lt d'[first + i]! d'[first + c']!
        · simp (disch := omega) only [go_sem, simprocAttr, he]
          rw [← hI, hst, hq]
          exact ⟨hg', hz', hs⟩
        · simp (disch := omega) only [go_sem, simprocAttr, he]
          obtain ⟨k1, k2, k3, k4, k5, k6, k7, k8, k9, k10, k11, ⟨ky, y1, y2, y3, y4⟩, hw⟩ := sw_o E hg' (i := first + i) (j := first + c') (by omega) (by omega)
          simp (disch := omega) only [go_sem, simprocAttr, he, m1, m2, hs.at, k1, k2, k3, k4, k5, k6, k7, k8, k9, k10, k11, y1, y2, y3, y4, hw]
          refine ⟨hi - c', by omega, c', swp d' (first + i) (first + c'), rfl, by omega, ?_, hg'.swp (by omega) (by omega), by rw [Go.Sort.swp_size]; exact hz', hs.set, rfl⟩
          rw [← hI, hst, hq]; rfl
theorem heap_S (hc : LessT Tryz.prog false G lt 88) (E : GoodE 1 false G) {d : Array (List AV)} {a bb b cap : Nat} (hs : sat h (pto b (.row 1 d.toList cap) :: F)) (hg : GA G d) (ha : a ≤ bb) (hb : bb ≤ d.size) (hsz : d.size ≤ 1000000000000) :
    Triple Tryz.prog 83 [.arr b 1 0 d.size cap, .int .i64 a, .int .i64 bb] h (fun r h => GA G (heapSort lt d a bb) ∧ (heapSort lt d a bb).size = d.size ∧ sat h (pto b (.row 1 (heapSort lt d a bb).toList cap) :: F)) := by
  obtain ⟨hi, hhi⟩ : ∃ hi, hi = bb - a := ⟨_, rfl⟩
  have n1 : (bb : Int) - a = (hi : Int) := by omega
  have n2 : ((hi : Int) - 1).tdiv 2 = (((hi - 1) / 2 + 1 : Nat) : Int) - 1 := by
    rcases Nat.eq_zero_or_pos hi with h0 | h0
    · subst h0; decide
    · rw [Int.tdiv_eq_ediv_of_nonneg (by omega)]; omega
  refine t83 (Nat.le_of_ble_eq_true rfl) ?_
  simp (disch := omega) only [F83, n1, n2, go_sem, simprocAttr]
  refine blk_join (Q := fun e h => ∃ d2 : Array (List AV), d2 = heapBuild lt hi a ((hi - 1) / 2 + 1) d ∧ GA G d2 ∧ d2.size = d.size ∧ sat h (pto b (.row 1 d2.toList cap) :: F) ∧
    (e 0 = .arr b 1 0 d.size cap ∧ e 6 = .int .i64 a ∧ e 7 = .int .i64 0 ∧ e 8 = .int .i64 hi)) ?_ ?_
  · refine run_loopN (fun n e h => ∃ (k : Nat) (d2 : Array (List AV)), n = k ∧ k ≤ (hi - 1) / 2 + 1 ∧ heapBuild lt hi a k d2 = heapBuild lt hi a ((hi - 1) / 2 + 1) d ∧ GA G d2 ∧ d2.size = d.size ∧ sat h (pto b (.row 1 d2.toList cap) :: F) ∧
      (e 0 = .arr b 1 0 d.size cap ∧ e 6 = .int .i64 a ∧ e 7 = .int .i64 0 ∧ e 8 = .int .i64 hi ∧ e 9 = .int .i64 ((k : Int) - 1))) ((hi - 1) / 2 + 1) ⟨_, d, rfl, Nat.le_refl _, rfl, hg, rfl, hs, rfl, rfl, rfl, rfl, rfl⟩ ?_
    rintro k e h ⟨_, d2, rfl, hk, hI, hg2, hz2, hs, he⟩
    simp (disch := omega) only [go_sem, simprocAttr, he]
    refine cnd_dec (fun hge => ?_) (fun hlt => ?_)
    · obtain ⟨k, rfl⟩ : ∃ j, k = j + 1 := ⟨k - 1, by omega⟩
      have m1 : ((k + 1 : Nat) : Int) - 1 = (k : Int) := by omega
      simp (disch := omega) only [go_sem, simprocAttr, he, m1]
      refine call_use (by rw [← hz2]; exact sift_S hc E hs hg2 (by omega) (by omega) (by omega)) ?_
      rintro r h ⟨hg3, hz3, hs⟩
      simp (disch := omega) only [go_sem, simprocAttr, he, m1]
      refine ⟨k, by omega, k, _, rfl, by omega, ?_, hg3, by rw [hz3]; exact hz2, hs, rfl⟩
      rw [← hI]; rfl
    · obtain rfl : k = 0 := by omega
      simp (disch := omega) only [go_sem, simprocAttr, he]
      exact ⟨d2, hI, hg2, hz2, hs⟩
  · rintro e h ⟨d2, hd2, hg2, hz2, hs, he⟩
    simp (disch := omega) only [go_sem, simprocAttr, he]
    refine run_loopN (fun n e h => ∃ (k : Nat) (d3 : Array (List AV)), n = k ∧ k ≤ hi ∧ heapPop lt a k d3 = heapPop lt a hi d2 ∧ GA G d3 ∧ d3.size = d.size ∧ sat h (pto b (.row 1 d3.toList cap) :: F) ∧
      (e 0 = .arr b 1 0 d.size cap ∧ e 6 = .int .i64 a ∧ e 7 = .int .i64 0 ∧ e 10 = .int .i64 ((k : Int) - 1))) hi ⟨_, d2, rfl, Nat.le_refl _, rfl, hg2, hz2, hs, ?_⟩ ?_
    · simp only [Env.upd_apply, he, and_self, reduceIte, Nat.reduceEqDiff]
    · rintro k e h ⟨_, d3, rfl, hk, hI, hg3, hz3, hs, he⟩
      simp (disch := omega) only [go_sem, simprocAttr, he]
      refine cnd_dec (fun hge => ?_) (fun hlt => ?_)
      · obtain ⟨k, rfl⟩ : ∃ j, k = j + 1 := ⟨k - 1, by omega⟩
        have m1 : ((k + 1 : Nat) : Int) - 1 = (k : Int) := by omega
        have m2 : (a : Int) + k = ((a + k : Nat) : Int) := by omega
        obtain ⟨k1, k2, k3, k4, k5, k6, k7, k8, k9, k10, k11, ⟨ky, y1, y2, y3, y4⟩, hw⟩ := sw_o E hg3 (i := a) (j := a + k) (by omega) (by omega)
        simp (disch := omega) only [go_sem, simprocAttr, he, m1, m2, hs.at, k1, k2, k3, k4, k5, k6, k7, k8, k9, k10, k11, y1, y2, y3, y4, hw]
        have hs2 := hs.set (o' := .row 1 (swp d3 a (a + k)).toList cap)
        refine call_use (by rw [← hz3, ← Go.Sort.swp_size d3 a (a + k)]; exact sift_S (root := 0) hc E hs2 (hg3.swp (by omega) (by omega)) (Nat.zero_le _) (by rw [Go.Sort.swp_size]; omega) (by rw [Go.Sort.swp_size]; omega)) ?_
        rintro r h ⟨hg4, hz4, hs⟩
        simp (disch := omega) only [go_sem, simprocAttr, he, m1]
        refine ⟨k, by omega, k, _, rfl, by omega, ?_, hg4, by rw [hz4, Go.Sort.swp_size]; exact hz3, hs, rfl⟩
        rw [← hI]; rfl
      · obtain rfl : k = 0 := by omega
        simp (disch := omega) only [go_sem, simprocAttr, he]
        have : d3 = heapSort lt d a bb := by
          rw [heapSort, ← hhi, ← hd2, ← hI]; rfl
        subst this
        exact ⟨hg3, hz3, hs⟩
end
end Go.Proofs.YtaioncbpfckhaaaGreat
/- slices: the pivot; reverseRange. -/
set_option linter.unusedSimpArgs false
set_option linter.unusedVariables false
set_option maxRecDepth 10000
namespace Go.Proofs.YtaioncbpfckhaaaGreat
open Go.Hz Go.Sort

section
variable {h : Hp} {F : List Asr} {G : List AV → Prop} {lt : List AV → List AV → Bool}

theorem ord_S (hc : LessT Tryz.prog false G lt 88) (E : GoodE 1 false G) {d : Array (List AV)} {x y n b cap q : Nat} (hs : sat h (pto b (.row 1 d.toList cap) :: pto q (.row 1 [[.int .i64 n]] 1) :: F)) (hg : GA G d) (hx : x < d.size) (hy : y < d.size) (hn : n ≤ 1000) (hsz : d.size ≤ 1000000000000) :
    Triple Tryz.prog 109 [.arr b 1 0 d.size cap, .int .i64 x, .int .i64 y, .ptr q 1 0 0] h (fun r h => ∃ u v m : Nat, r = .tup [.int .i64 u, .int .i64 v] ∧ (u = x ∧ v = y ∨ u = y ∧ v = x) ∧ m ≤ n + 1 ∧ sat h (pto b (.row 1 d.toList cap) :: pto q (.row 1 [[.int .i64 m]] 1) :: F)) := by
  have r1 := rd_o E hg hy
  have r2 := rd_o E hg hx
  refine t109 (Nat.le_of_ble_eq_true rfl) ?_
  simp (disch := omega) only [F109, hs.at, r1, r2, go_sem, simprocAttr]
  refine call_use (hc _ _ _ _ (hg _ hy) (hg _ hx) hs) ?_
  rintro r h ⟨hr, hs⟩
  subst hr
  simp (disch := omega) only [go_sem, simprocAttr]
  cases hq : lt d[y]! d[x]!
  · simp (disch := omega) only [go_sem, simprocAttr]
    exact ⟨x, y, n, rfl, .inl ⟨rfl, rfl⟩, by omega, hs⟩
  · simp (disch := omega) only [go_sem, simprocAttr, hs.p1.at]
    have e : ((n : Int) + 1) = ((n + 1 : Nat) : Int) := by omega
    refine ⟨y, x, n + 1, rfl, .inr ⟨rfl, rfl⟩, by omega, ?_⟩
    rw [← e]
    exact hs.p1.set.p1
theorem med_S (hc : LessT Tryz.prog false G lt 88) (E : GoodE 1 false G) {d : Array (List AV)} {x y z n b cap q : Nat} (hs : sat h (pto b (.row 1 d.toList cap) :: pto q (.row 1 [[.int .i64 n]] 1) :: F)) (hg : GA G d) (hx : x < d.size) (hy : y < d.size) (hz : z < d.size) (hn : n ≤ 990) (hsz : d.size ≤ 1000000000000) :
    Triple Tryz.prog 101 [.arr b 1 0 d.size cap, .int .i64 x, .int .i64 y, .int .i64 z, .ptr q 1 0 0] h (fun r h => ∃ u m : Nat, r = .int .i64 u ∧ (u = x ∨ u = y ∨ u = z) ∧ m ≤ n + 3 ∧ sat h (pto b (.row 1 d.toList cap) :: pto q (.row 1 [[.int .i64 m]] 1) :: F)) := by
  refine t101 (Nat.le_of_ble_eq_true rfl) ?_
  simp (disch := omega) only [F101, go_sem, simprocAttr]
  refine call_use (ord_S hc E hs hg hx hy (by omega) hsz) ?_
  rintro r h ⟨u1, v1, n1, hr, h1, m1, hs⟩
  subst hr
  simp (disch := omega) only [go_sem, simprocAttr]
  refine call_use (ord_S hc E hs hg (by omega) hz (by omega) hsz) ?_
  rintro r h ⟨u2, v2, n2, hr, h2, m2, hs⟩
  subst hr
  simp (disch := omega) only [go_sem, simprocAttr]
  refine call_use (ord_S hc E hs hg (by omega) (by omega) (by omega) hsz) ?_
  rintro r h ⟨u3, v3, n3, hr, h3, m3, hs⟩
  subst hr
  simp (disch := omega) only [go_sem, simprocAttr]
  exact ⟨v3, n3, rfl, by omega, by omega, hs⟩
theorem mea_S (hc : LessT Tryz.prog false G lt 88) (E : GoodE 1 false G) {d : Array (List AV)} {x n b cap q : Nat} (hs : sat h (pto b (.row 1 d.toList cap) :: pto q (.row 1 [[.int .i64 n]] 1) :: F)) (hg : GA G d) (hx0 : 1 ≤ x) (hx : x + 1 < d.size) (hn : n ≤ 990) (hsz : d.size ≤ 1000000000000) :
    Triple Tryz.prog 100 [.arr b 1 0 d.size cap, .int .i64 x, .ptr q 1 0 0] h (fun r h => ∃ u m : Nat, r = .int .i64 u ∧ x ≤ u + 1 ∧ u ≤ x + 1 ∧ m ≤ n + 3 ∧ sat h (pto b (.row 1 d.toList cap) :: pto q (.row 1 [[.int .i64 m]] 1) :: F)) := by
  have n1 : (x : Int) - 1 = ((x - 1 : Nat) : Int) := by omega
  have n2 : (x : Int) + 1 = ((x + 1 : Nat) : Int) := by omega
  refine t100 (Nat.le_of_ble_eq_true rfl) ?_
  simp (disch := omega) only [F100, n1, n2, go_sem, simprocAttr]
  refine call_use (med_S hc E hs hg (by omega) (by omega) (by omega) (by omega) hsz) ?_
  rintro r h ⟨u, m, hr, h1, m1, hs⟩
  subst hr
  simp (disch := omega) only [go_sem, simprocAttr]
  exact ⟨u, m, rfl, by omega, by omega, by omega, hs⟩
theorem piv_S (hc : LessT Tryz.prog false G lt 88) (E : GoodE 1 false G) {d : Array (List AV)} {a bb b cap : Nat} (hs : sat h (pto b (.row 1 d.toList cap) :: F)) (hg : GA G d) (ha : a + 12 < bb) (hb : bb ≤ d.size) (hsz : d.size ≤ 1000000000000) :
    Triple Tryz.prog 85 [.arr b 1 0 d.size cap, .int .i64 a, .int .i64 bb] h (fun r h => ∃ (u : Nat) (t : Nat), r = .tup [.int .i64 u, .int .i64 t] ∧ a ≤ u ∧ u < bb ∧ t ≤ 2 ∧ sat h (pto b (.row 1 d.toList cap) :: F)) := by
  obtain ⟨l, hl⟩ : ∃ l, l = bb - a := ⟨_, rfl⟩
  have n0 : (bb : Int) - a = (l : Int) := by omega
  obtain ⟨g, hgg⟩ : ∃ g, g = l / 4 := ⟨_, rfl⟩
  have n1 : (l : Int).tdiv 4 = (g : Int) := by rw [Int.tdiv_eq_ediv_of_nonneg (by omega)]; omega
  have n2 : (a : Int) + (g : Int) = ((a + g : Nat) : Int) := by omega
  have n3 : (a : Int) + (g : Int) * 2 = ((a + g * 2 : Nat) : Int) := by omega
  have n4 : (a : Int) + (g : Int) * 3 = ((a + g * 3 : Nat) : Int) := by omega
  have n5 : (8 : Int) ≤ (l : Int) := by omega
  refine t85 (Nat.le_of_ble_eq_true rfl) ?_
  simp (disch := omega) only [F85, n0, go_sem, simprocAttr]
  refine new_sat hs fun q hq hs => ?_
  have hs := hs.p1
  simp (disch := omega) only [go_sem, simprocAttr, n0, n1, n2, n3, n4, n5, Int.mul_one]
  refine cnd_join (Q := fun e h => ∃ i j k m : Nat, a ≤ i ∧ i < bb ∧ a ≤ j ∧ j < bb ∧ a ≤ k ∧ k < bb ∧ m ≤ 9 ∧ sat h (pto b (.row 1 d.toList cap) :: pto q (.row 1 [[.int .i64 m]] 1) :: F) ∧
    (e 0 = .arr b 1 0 d.size cap ∧ e 9 = .ptr q 1 0 0 ∧ e 10 = .int .i64 i ∧ e 11 = .int .i64 j ∧ e 12 = .int .i64 k)) ?_ ?_
  · refine cnd_dec (fun h50 => ?_) (fun h50 => ?_)
    · simp (disch := omega) only [go_sem, simprocAttr]
      refine call_use (mea_S (n := 0) hc E hs hg (by omega) (by omega) (by omega) hsz) ?_
      rintro r h ⟨u1, m1, hr, h1, h1', hm1, hs⟩
      subst hr
      simp (disch := omega) only [go_sem, simprocAttr]
      refine call_use (mea_S hc E hs hg (by omega) (by omega) (by omega) hsz) ?_
      rintro r h ⟨u2, m2, hr, h2, h2', hm2, hs⟩
      subst hr
      simp (disch := omega) only [go_sem, simprocAttr]
      refine call_use (mea_S hc E hs hg (by omega) (by omega) (by omega) hsz) ?_
      rintro r h ⟨u3, m3, hr, h3, h3', hm3, hs⟩
      subst hr
      simp (disch := omega) only [go_sem, simprocAttr]
      exact ⟨u1, u2, u3, m3, by omega, by omega, by omega, by omega, by omega, by omega, by omega, hs, rfl, rfl, rfl⟩
    · simp (disch := omega) only [go_sem, simprocAttr]
      exact ⟨a + g, a + g * 2, a + g * 3, 0, by omega, by omega, by omega, by omega, by omega, by omega, by omega, hs, rfl, rfl, rfl⟩
  · rintro e h ⟨i, j, k, m, i1, i2, j1, j2, k1, k2, hm, hs, he⟩
    simp (disch := omega) only [go_sem, simprocAttr, he]
    refine call_use (med_S hc E hs hg (by omega) (by omega) (by omega) (by omega) hsz) ?_
    rintro r h ⟨u, m', hr, hu, hm', hs⟩
    subst hr
    simp (disch := omega) only [go_sem, simprocAttr, he, hs.p1.at]
    have hd := hs.p1.drop
    cases e0 : ((m' : Int) == 0)
    · cases e1 : ((m' : Int) == 12)
      · simp (disch := omega) only [go_sem, simprocAttr, he, e0, e1]
        exact ⟨u, 0, rfl, by omega, by omega, by omega, hd⟩
      · simp (disch := omega) only [go_sem, simprocAttr, he, e0, e1]
        exact ⟨u, 2, rfl, by omega, by omega, by omega, hd⟩
    · simp (disch := omega) only [go_sem, simprocAttr, he, e0]
      exact ⟨u, 1, rfl, by omega, by omega, by omega, hd⟩
theorem rev_S (E : GoodE 1 false G) {d : Array (List AV)} {a bb b cap : Nat} {cf : AV} (hs : sat h (pto b (.row 1 d.toList cap) :: F)) (hg : GA G d) (ha : a < bb) (hb : bb ≤ d.size) (hsz : d.size ≤ 1000000000000) :
    Triple Tryz.prog 86 [.arr b 1 0 d.size cap, .int .i64 a, .int .i64 bb] h (fun r h => PermIn a bb d (reverseRange d a bb) ∧ GA G (reverseRange d a bb) ∧ (reverseRange d a bb).size = d.size ∧ sat h (pto b (.row 1 (reverseRange d a bb).toList cap) :: F)) := by
  have n1 : (bb : Int) - 1 = ((bb - 1 : Nat) : Int) := by omega
  have hP := reverseRange_holds d a bb (by omega) hb
  refine t86 (Nat.le_of_ble_eq_true rfl) ?_
  simp (disch := omega) only [F86, n1, go_sem, simprocAttr]
  refine run_loopN (fun n e h => ∃ (i j : Nat) (d2 : Array (List AV)), n = j + 1 - i ∧ a ≤ i ∧ i ≤ j + 1 ∧ j < bb ∧ reverseLoop i j d2 = reverseRange d a bb ∧ GA G d2 ∧ d2.size = d.size ∧ sat h (pto b (.row 1 d2.toList cap) :: F) ∧
    (e 0 = .arr b 1 0 d.size cap ∧ e 6 = .int .i64 i ∧ e 7 = .int .i64 j)) _ ⟨a, bb - 1, d, rfl, Nat.le_refl _, by omega, by omega, rfl, hg, rfl, hs, rfl, rfl, rfl⟩ ?_
  rintro n e h ⟨i, j, d2, rfl, hi, hij, hj, hI, hg2, hz2, hs, he⟩
  simp (disch := omega) only [go_sem, simprocAttr, he]
  refine cnd_dec (fun hlt => ?_) (fun hge => ?_)
  · have m1 : (i : Int) + 1 = ((i + 1 : Nat) : Int) := by omega
    have m2 : (j : Int) - 1 = ((j - 1 : Nat) : Int) := by omega
    obtain ⟨k1, k2, k3, k4, k5, k6, k7, k8, k9, k10, k11, ⟨ky, y1, y2, y3, y4⟩, hw⟩ := sw_o E hg2 (i := i) (j := j) (by omega) (by omega)
    simp (disch := omega) only [go_sem, simprocAttr, he, m1, m2, hs.at, k1, k2, k3, k4, k5, k6, k7, k8, k9, k10, k11, y1, y2, y3, y4, hw]
    refine ⟨j - 1 + 1 - (i + 1), by omega, i + 1, j - 1, _, rfl, by omega, by omega, by omega, ?_, hg2.swp (by omega) (by omega), by rw [Go.Sort.swp_size]; exact hz2, hs.set, rfl, rfl⟩
    rw [← hI, reverseLoop.eq_1 i j, if_pos (by omega)]
  · simp (disch := omega) only [go_sem, simprocAttr, he]
    rw [reverseLoop, if_neg (by omega)] at hI
    subst hI
    exact ⟨hP, hg2, hz2, hs⟩
end
end Go.Proofs.YtaioncbpfckhaaaGreat
/- math/bits.Len, slices.nextPowerOfTwo, xorshift, breakPatterns. -/
set_option linter.unusedSimpArgs false
set_option linter.unusedVariables false
set_option maxRecDepth 10000
namespace Go.Proofs.YtaioncbpfckhaaaGreat
open Go.Hz Go.Sort

section
variable {h : Hp} {F : List Asr} {G : List AV → Prop} {lt : List AV → List AV → Bool}

theorem len64 {n : Nat} (hs : sat h F) (hn : n < 4294967296) : Triple Tryz.prog 92 [.int .u64 n] h (fun r h => ∃ t : Nat, r = .int .i64 t ∧ n < 2 ^ t ∧ (1 ≤ n → 2 ^ t ≤ 2 * n) ∧ t ≤ 32 ∧ sat h F) := by
  have s16 : (n : Int).fdiv (2 ^ min 16 64) = ((n / 65536 : Nat) : Int) := by simp [Int.fdiv_eq_ediv]
  refine t92 (Nat.le_of_ble_eq_true rfl) ?_
  simp (disch := omega) only [F92, go_sem, simprocAttr]
  refine cnd_dec (fun h1 => absurd h1 (by omega)) (fun h1 => ?_)
  simp (disch := omega) only [go_sem, simprocAttr]
  refine cnd_join (Q := fun e h => ∃ k t : Nat, k = n / 2 ^ t ∧ (t = 0 ∨ t = 16 ∧ 1 ≤ k) ∧ k < 65536 ∧ sat h F ∧ (e 0 = .int .u64 k ∧ e 2 = .int .i64 t)) ?_ ?_
  · refine cnd_dec (fun h2 => ?_) (fun h2 => ?_)
    · simp (disch := omega) only [go_sem, simprocAttr, s16]
      exact ⟨n / 65536, 16, rfl, .inr ⟨rfl, by omega⟩, by omega, hs, rfl, rfl⟩
    · simp (disch := omega) only [go_sem, simprocAttr]
      exact ⟨n, 0, by simp, .inl rfl, by omega, hs, rfl, rfl⟩
  · rintro e h ⟨k, t, hk, ht, hk2, hs, he⟩
    have s8 : (k : Int).fdiv (2 ^ min 8 64) = ((k / 256 : Nat) : Int) := by simp [Int.fdiv_eq_ediv]
    simp (disch := omega) only [go_sem, simprocAttr, he]
    refine cnd_join (Q := fun e h => ∃ k t : Nat, k = n / 2 ^ t ∧ (t = 0 ∨ t ≤ 24 ∧ 1 ≤ k) ∧ k < 256 ∧ sat h F ∧ (e 0 = .int .u64 k ∧ e 2 = .int .i64 t)) ?_ ?_
    · refine cnd_dec (fun h2 => ?_) (fun h2 => ?_)
      · have w2 : (t : Int) + 8 = ((t + 8 : Nat) : Int) := by omega
        simp (disch := omega) only [go_sem, simprocAttr, he, s8, w2]
        exact ⟨k / 256, t + 8, by rw [Nat.pow_add, ← Nat.div_div_eq_div_mul, ← hk], .inr ⟨by omega, by omega⟩, by omega, hs, rfl, rfl⟩
      · simp (disch := omega) only [go_sem, simprocAttr, he]
        exact ⟨k, t, hk, by omega, by omega, hs, rfl, rfl⟩
    · rintro e h ⟨k, t, hk, ht, hk2, hs, he⟩
      have w3 : IntKind.u8.wrap (k : Int) = (k : Int) := by simp [IntKind.wrap, IntKind.signed, IntKind.bits]; omega
      simp (disch := omega) only [go_sem, simprocAttr, he, w3]
      refine ixs_use (by kernel_rfl) hk2 fun u hu1 hu2 hu3 => ?_
      have w4 : IntKind.i64.wrap (u : Int) = (u : Int) := by simp [IntKind.wrap, IntKind.signed, IntKind.bits]; omega
      have w5 : (t : Int) + (u : Int) = ((t + u : Nat) : Int) := by omega
      simp (disch := omega) only [go_sem, simprocAttr, he, w4, w5]
      have p0 : 0 < 2 ^ t := Nat.pow_pos (by omega)
      have e1 : 2 ^ t * k ≤ n := by rw [hk]; exact Nat.mul_div_le n _
      have e2 : n < 2 ^ t * (k + 1) := by rw [hk]; exact Nat.lt_mul_div_succ n p0
      refine ⟨t + u, rfl, ?_, fun hn1 => ?_, by omega, hs⟩
      · rw [Nat.pow_add]
        exact Nat.lt_of_lt_of_le e2 (Nat.mul_le_mul_left _ hu1)
      · rw [Nat.pow_add]
        have hk1 : 1 ≤ k := by
          rcases ht with h0 | h0
          · subst h0; simp at hk; omega
          · exact h0.2
        calc 2 ^ t * 2 ^ u ≤ 2 ^ t * (2 * k) := Nat.mul_le_mul_left _ (hu2 hk1)
          _ = 2 * (2 ^ t * k) := by rw [← Nat.mul_assoc, Nat.mul_comm (2 ^ t) 2, Nat.mul_assoc]
          _ ≤ 2 * n := Nat.mul_le_mul_left _ e1

theorem len0 {n : Nat} (hs : sat h F) (hn : n < 4294967296) : Triple Tryz.prog 72 [.int .u64 n] h (fun r h => ∃ t : Nat, r = .int .i64 t ∧ n < 2 ^ t ∧ (1 ≤ n → 2 ^ t ≤ 2 * n) ∧ t ≤ 32 ∧ sat h F) := by
  refine t72 (Nat.le_of_ble_eq_true rfl) ?_
  simp (disch := omega) only [F72, go_sem, simprocAttr]
  refine call_use (len64 hs hn) ?_
  rintro r h ⟨t, hr, h1, h2, h3, hs⟩
  subst hr
  simp (disch := omega) only [go_sem, simprocAttr]
  exact ⟨t, rfl, h1, h2, h3, hs⟩

theorem npow {n : Nat} (hs : sat h F) (hn : n < 1000000000) (hn1 : 1 ≤ n) : Triple Tryz.prog 98 [.int .i64 n] h (fun r h => ∃ t : Nat, r = .int .u64 ((2 ^ t : Nat) : Int) ∧ n < 2 ^ t ∧ 2 ^ t ≤ 2 * n ∧ t ≤ 32 ∧ sat h F) := by
  have w1 : IntKind.u64.wrap (n : Int) = (n : Int) := by simp [IntKind.wrap, IntKind.signed, IntKind.bits]; omega
  refine t98 (Nat.le_of_ble_eq_true rfl) ?_
  simp (disch := omega) only [F98, w1, go_sem, simprocAttr]
  refine call_use (len0 hs (by omega)) ?_
  rintro r h ⟨t, hr, h1, h2, h3, hs⟩
  subst hr
  have w2 : IntKind.u64.wrap (1 * 2 ^ min t 64) = ((2 ^ t : Nat) : Int) := by
    rw [Nat.min_eq_left (by omega)]
    have : (2 : Nat) ^ t < 2 ^ 33 := Nat.pow_lt_pow_right (by omega) (by omega)
    have e : (1 : Int) * 2 ^ t = ((2 ^ t : Nat) : Int) := by simp
    rw [e]
    exact wu64 (by omega)
  simp (disch := omega) only [go_sem, simprocAttr, Int.toNat_natCast, w2]
  exact ⟨by omega, t, rfl, h1, h2 hn1, h3, hs⟩

theorem xnext {q : Nat} {z : Int} (hs : sat h (pto q (.row 1 [[.int .u64 z]] 1) :: F)) : Triple Tryz.prog 99 [.ptr q 1 0 0] h (fun r h => ∃ z' : Int, r = .int .u64 z' ∧ sat h (pto q (.row 1 [[.int .u64 z']] 1) :: F)) := by
  refine t99 (Nat.le_of_ble_eq_true rfl) ?_
  simp (disch := omega) only [F99, hs.at, go_sem, simprocAttr]
  exact ⟨_, rfl, hs.set⟩
theorem brk_S (E : GoodE 1 false G) {d : Array (List AV)} {a bb b cap : Nat} {cf : AV} (hs : sat h (pto b (.row 1 d.toList cap) :: F)) (hg : GA G d) (ha : a + 12 < bb) (hb : bb ≤ d.size) (hsz : d.size ≤ 100000000) :
    Triple Tryz.prog 84 [.arr b 1 0 d.size cap, .int .i64 a, .int .i64 bb] h (fun r h => ∃ d2 : Array (List AV), PermIn a bb d d2 ∧ GA G d2 ∧ d2.size = d.size ∧ sat h (pto b (.row 1 d2.toList cap) :: F)) := by
  obtain ⟨l, hl⟩ : ∃ l, l = bb - a := ⟨_, rfl⟩
  have n0 : (bb : Int) - a = (l : Int) := by omega
  obtain ⟨g, hgg⟩ : ∃ g, g = l / 4 := ⟨_, rfl⟩
  have n1 : (l : Int).tdiv 4 = (g : Int) := by rw [Int.tdiv_eq_ediv_of_nonneg (by omega)]; omega
  have n2 : (a : Int) + (g : Int) * 2 = ((a + g * 2 : Nat) : Int) := by omega
  have n3 : ((a + g * 2 : Nat) : Int) - 1 = ((a + g * 2 - 1 : Nat) : Int) := by omega
  have n4 : ((a + g * 2 : Nat) : Int) + 1 = ((a + g * 2 + 1 : Nat) : Int) := by omega
  have n5 : (8 : Int) ≤ (l : Int) := by omega
  have w1 := wu64 (n := l) (by omega)
  refine t84 (Nat.le_of_ble_eq_true rfl) ?_
  simp (disch := omega) only [F84, n0, n5, w1, go_sem, simprocAttr]
  refine new_opq hs fun q h hs => ?_
  simp (disch := omega) only [go_sem, simprocAttr, hs.at, n0, w1]
  refine call_use (npow (hs.set (o' := .row 1 [[.int .u64 l]] 1)) (n := l) (by omega) (by omega)) ?_
  rintro r h ⟨t, hr, h1, h2, h3, hs⟩
  subst hr
  simp (disch := omega) only [go_sem, simprocAttr, n1, n2, n3]
  have ht : (2 : Nat) ^ t < 2 ^ 33 := Nat.pow_lt_pow_right (by omega) (by omega)
  refine run_loopN (fun n e h => ∃ (i : Nat) (d2 : Array (List AV)) (z : Int), n = a + g * 2 + 2 - i ∧ a + g * 2 - 1 ≤ i ∧ i ≤ a + g * 2 + 2 ∧ PermIn a bb d d2 ∧ GA G d2 ∧ d2.size = d.size ∧ sat h (pto q (.row 1 [[.int .u64 z]] 1) :: pto b (.row 1 d2.toList cap) :: F) ∧
    (e 0 = .arr b 1 0 d.size cap ∧ e 1 = .int .i64 a ∧ e 6 = .int .i64 l ∧ e 7 = .ptr q 1 0 0 ∧ e 8 = .int .u64 ((2 ^ t : Nat) : Int) ∧ e 9 = .int .i64 i)) _ ⟨a + g * 2 - 1, d, _, rfl, Nat.le_refl _, by omega, permIn_refl d a bb, hg, rfl, hs, rfl, rfl, rfl, rfl, rfl, rfl⟩ ?_
  rintro n e h ⟨i, d2, z, rfl, hi1, hi2, hp, hg2, hz2, hs, he⟩
  simp (disch := omega) only [go_sem, simprocAttr, he, n1, n2, n4]
  refine cnd_dec (fun hle => ?_) (fun hgt => ?_)
  · simp (disch := omega) only [go_sem, simprocAttr, he]
    refine call_use (xnext hs) ?_
    rintro r h ⟨z', hr, hs⟩
    subst hr
    have m1 : ((2 ^ t : Nat) : Int) - 1 = ((2 ^ t - 1 : Nat) : Int) := by omega
    obtain ⟨o, ho, hol⟩ := and_lt z' (m := 2 ^ t - 1) (by omega)
    have w2 := wi64 (n := o) (by omega)
    have w3 := wu64 (n := 2 ^ t - 1) (by omega)
    simp (disch := omega) only [go_sem, simprocAttr, he, m1, w3, ho, w2]
    refine cnd_join (Q := fun e h => ∃ u : Nat, u < l ∧ sat h (pto q (.row 1 [[.int .u64 z']] 1) :: pto b (.row 1 d2.toList cap) :: F) ∧
      (e 0 = .arr b 1 0 d.size cap ∧ e 1 = .int .i64 a ∧ e 6 = .int .i64 l ∧ e 7 = .ptr q 1 0 0 ∧ e 8 = .int .u64 ((2 ^ t : Nat) : Int) ∧ e 9 = .int .i64 i ∧ e 10 = .int .i64 u)) ?_ ?_
    · refine cnd_dec (fun hge => ?_) (fun hlt => ?_)
      · have m2 : (o : Int) - (l : Int) = ((o - l : Nat) : Int) := by omega
        simp (disch := omega) only [go_sem, simprocAttr, he, m2]
        exact ⟨o - l, by omega, hs, rfl⟩
      · simp (disch := omega) only [go_sem, simprocAttr, he]
        exact ⟨o, by omega, hs, rfl⟩
    · rintro e h ⟨u, hu, hs, he⟩
      have hs := hs.p1
      have m3 : (a : Int) + (u : Int) = ((a + u : Nat) : Int) := by omega
      have m4 : (i : Int) + 1 = ((i + 1 : Nat) : Int) := by omega
      obtain ⟨k1, k2, k3, k4, k5, k6, k7, k8, k9, k10, k11, ⟨ky, y1, y2, y3, y4⟩, hw⟩ := sw_o E hg2 (i := i) (j := a + u) (by omega) (by omega)
      simp (disch := omega) only [go_sem, simprocAttr, he, m3, m4, hs.at, k1, k2, k3, k4, k5, k6, k7, k8, k9, k10, k11, y1, y2, y3, y4, hw]
      have hs2 := (hs.set (o' := .row 1 (swp d2 i (a + u)).toList cap)).p1
      exact ⟨a + g * 2 + 2 - (i + 1), by omega, i + 1, _, z', rfl, by omega, by omega, permIn_trans _ _ _ _ _ hp (swp_permIn d2 a bb i (a + u) (by omega) (by omega) (by omega) (by omega) (by omega)), hg2.swp (by omega) (by omega), by rw [Go.Sort.swp_size]; exact hz2, hs2, rfl⟩
  · simp (disch := omega) only [go_sem, simprocAttr, he]
    exact ⟨d2, hp, hg2, hz2, hs.drop⟩
end
end Go.Proofs.YtaioncbpfckhaaaGreat
/- slices: partial insertion sort, the partitions. -/
set_option linter.unusedSimpArgs false
set_option linter.unusedVariables false
set_option maxRecDepth 10000
namespace Go.Proofs.YtaioncbpfckhaaaGreat
open Go.Hz Go.Sort

section
variable {h : Hp} {F : List Asr} {G : List AV → Prop} {lt : List AV → List AV → Bool}

theorem par_S (hc : LessT Tryz.prog false G lt 88) (E : GoodE 1 false G) {d : Array (List AV)} {a bb b cap : Nat} (hs : sat h (pto b (.row 1 d.toList cap) :: F)) (hg : GA G d) (ha : a < bb) (hb : bb ≤ d.size) (hsz : d.size ≤ 1000000000000) :
    Triple Tryz.prog 87 [.arr b 1 0 d.size cap, .int .i64 a, .int .i64 bb] h (fun r h => r = .bool (partialInsertionSort lt d a bb).2 ∧ GA G (partialInsertionSort lt d a bb).1 ∧ (partialInsertionSort lt d a bb).1.size = d.size ∧ sat h (pto b (.row 1 (partialInsertionSort lt d a bb).1.toList cap) :: F)) := by
  have w0 : (a : Int) + 1 = ((a + 1 : Nat) : Int) := by omega
  refine t87 (Nat.le_of_ble_eq_true rfl) ?_
  simp (disch := omega) only [F87, w0, go_sem, simprocAttr]
  refine run_loopN (fun n e h => ∃ (k i : Nat) (d1 : Array (List AV)), n = 5 - k ∧ k ≤ 5 ∧ a + 1 ≤ i ∧ i ≤ bb ∧ partialIns lt a bb (5 - k) i d1 = partialInsertionSort lt d a bb ∧ GA G d1 ∧ d1.size = d.size ∧ sat h (pto b (.row 1 d1.toList cap) :: F) ∧
    (e 0 = .arr b 1 0 d.size cap ∧ e 1 = .int .i64 a ∧ e 2 = .int .i64 bb ∧ e 7 = .int .i64 i ∧ e 8 = .int .i64 k)) 5 ⟨0, a + 1, d, rfl, by omega, Nat.le_refl _, by omega, rfl, hg, rfl, hs, rfl, rfl, rfl, rfl, rfl⟩ ?_
  rintro n e h ⟨k, i, d1, rfl, hk, hi1, hi2, hI, hg1, hz1, hs, he⟩
  simp (disch := omega) only [go_sem, simprocAttr, he]
  refine cnd_dec (fun hk5 => ?_) (fun hk5 => ?_)
  rotate_left
  · obtain rfl : k = 5 := by omega
    simp (disch := omega) only [go_sem, simprocAttr, he]
    rw [← hI]
    exact ⟨rfl, hg1, hz1, hs⟩
  obtain ⟨s, hs5⟩ : ∃ s, 5 - k = s + 1 := ⟨4 - k, by omega⟩
  rw [hs5, partialIns_succ] at hI
  simp (disch := omega) only [go_sem, simprocAttr, he]
  refine blk_join (Q := fun e h => ∃ i2 : Nat, i2 = scanSorted lt d1 bb i ∧ i ≤ i2 ∧ i2 ≤ bb ∧ sat h (pto b (.row 1 d1.toList cap) :: F) ∧
    (e 0 = .arr b 1 0 d.size cap ∧ e 1 = .int .i64 a ∧ e 2 = .int .i64 bb ∧ e 7 = .int .i64 i2 ∧ e 8 = .int .i64 k)) ?_ ?_
  · refine run_loopN (fun n e h => ∃ i2 : Nat, n = bb - i2 ∧ scanSorted lt d1 bb i2 = scanSorted lt d1 bb i ∧ i ≤ i2 ∧ i2 ≤ bb ∧ sat h (pto b (.row 1 d1.toList cap) :: F) ∧
      (e 0 = .arr b 1 0 d.size cap ∧ e 1 = .int .i64 a ∧ e 2 = .int .i64 bb ∧ e 7 = .int .i64 i2 ∧ e 8 = .int .i64 k)) _ ⟨i, rfl, rfl, Nat.le_refl _, hi2, hs, ?_⟩ ?_
    · simp only [Env.upd_apply, he, and_self, reduceIte, Nat.reduceEqDiff]
    rintro n e h ⟨i2, rfl, hJ, hj1, hj2, hs, he⟩
    simp (disch := omega) only [go_sem, simprocAttr, he]
    refine cnd_dec (fun hlt => ?_) (fun hge => ?_)
    · have m1 : (i2 : Int) - 1 = ((i2 - 1 : Nat) : Int) := by omega
      have m2 : (i2 : Int) + 1 = ((i2 + 1 : Nat) : Int) := by omega
      have r1 := rd_o E hg1 (i := i2) (by omega)
      have r2 := rd_o E hg1 (i := i2 - 1) (by omega)
      simp (disch := omega) only [go_sem, simprocAttr, he, hs.at, r1, r2, m1]
      refine call_use (hc _ _ _ _ (hg1 _ (by omega)) (hg1 _ (by omega)) hs) ?_
      rintro r h ⟨hr, hs⟩
      subst hr
      simp (disch := omega) only [go_sem, simprocAttr, he, hlt, m1]
      have hst : scanSorted lt d1 bb i2 = if lt d1[i2]! d1[i2 - 1]! = true then i2 else scanSorted lt d1 bb (i2 + 1) := by
        rw [scanSorted.eq_1 lt d1 bb i2]
        cases lt d1[i2]! d1[i2 - 1]! <;> simp [show i2 < bb from by omega]
      cases hq : lt d1[i2]! d1[i2 - 1]!
      · simp (disch := omega) only [go_sem, simprocAttr, he, m2]
        exact ⟨bb - (i2 + 1), by omega, i2 + 1, rfl, by rw [← hJ, hst, hq]; rfl, by omega, by omega, hs, rfl⟩
      · simp (disch := omega) only [go_sem, simprocAttr, he]
        exact ⟨i2, by rw [← hJ, hst, hq]; rfl, by omega, by omega, hs, rfl⟩
    · simp (disch := omega) only [go_sem, simprocAttr, he, hge]
      exact ⟨i2, by rw [← hJ, scanSorted, if_neg (by simp; omega)], by omega, by omega, hs, rfl⟩
  · rintro e h ⟨i2, hi2', hi3, hi4, hs, he⟩
    rw [← hi2'] at hI
    have hbe : ((i2 : Int) == (bb : Int)) = decide (i2 = bb) := by
      by_cases hq : i2 = bb
      · subst hq; simp
      · simp [hq]; omega
    simp (disch := omega) only [go_sem, simprocAttr, he, hbe]
    refine cnd_bool (fun hq => ?_) (fun hq => ?_)
    · have hq : i2 = bb := by simpa using hq
      rw [if_pos hq] at hI
      simp (disch := omega) only [go_sem, simprocAttr, he]
      rw [← hI]
      exact ⟨rfl, hg1, hz1, hs⟩
    have hq : i2 ≠ bb := by simpa using hq
    rw [if_neg hq] at hI
    have m0 : (bb : Int) - a = ((bb - a : Nat) : Int) := by omega
    simp (disch := omega) only [go_sem, simprocAttr, he, m0]
    refine cnd_dec (fun h50 => ?_) (fun h50 => ?_)
    · rw [if_pos (by omega)] at hI
      simp (disch := omega) only [go_sem, simprocAttr, he]
      rw [← hI]
      exact ⟨rfl, hg1, hz1, hs⟩
    rw [if_neg (by omega)] at hI
    have m1 : (i2 : Int) - 1 = ((i2 - 1 : Nat) : Int) := by omega
    have m2 : (i2 : Int) - a = ((i2 - a : Nat) : Int) := by omega
    simp (disch := omega) only [go_sem, simprocAttr, he]
    obtain ⟨k1, k2, k3, k4, k5, k6, k7, k8, k9, k10, k11, ⟨ky, y1, y2, y3, y4⟩, hw⟩ := sw_o E hg1 (i := i2) (j := i2 - 1) (by omega) (by omega)
    simp (disch := omega) only [go_sem, simprocAttr, he, m1, m2, hs.at, k1, k2, k3, k4, k5, k6, k7, k8, k9, k10, k11, y1, y2, y3, y4, hw]
    have hs2 := hs.set (o' := .row 1 (swp d1 i2 (i2 - 1)).toList cap)
    have hg2 := hg1.swp (i := i2) (j := i2 - 1) (by omega) (by omega)
    have hz2 : (swp d1 i2 (i2 - 1)).size = d.size := by rw [Go.Sort.swp_size]; exact hz1
    generalize swp d1 i2 (i2 - 1) = dS at *
    refine cnd_join (Q := fun e h => ∃ d3 : Array (List AV), d3 = fixDown lt a i2 dS ∧ GA G d3 ∧ d3.size = d.size ∧ sat h (pto b (.row 1 d3.toList cap) :: F) ∧
      (e 0 = .arr b 1 0 d.size cap ∧ e 1 = .int .i64 a ∧ e 2 = .int .i64 bb ∧ e 7 = .int .i64 i2 ∧ e 8 = .int .i64 k)) ?_ ?_
    · refine cnd_dec (fun hge => ?_) (fun hlt => ?_)
      rotate_left
      · simp (disch := omega) only [go_sem, simprocAttr, he]
        exact ⟨dS, by rw [fixDown, if_neg (by omega)], hg2, hz2, hs2⟩
      simp (disch := omega) only [go_sem, simprocAttr, he, m1]
      refine run_loopN (fun n e h => ∃ (j : Nat) (d3 : Array (List AV)), n = j ∧ j ≤ i2 - 1 ∧ shiftDown lt j d3 = fixDown lt a i2 dS ∧ GA G d3 ∧ d3.size = d.size ∧ sat h (pto b (.row 1 d3.toList cap) :: F) ∧
        (e 0 = .arr b 1 0 d.size cap ∧ e 1 = .int .i64 a ∧ e 2 = .int .i64 bb ∧ e 7 = .int .i64 i2 ∧ e 8 = .int .i64 k ∧ e 9 = .int .i64 j)) (i2 - 1) ⟨i2 - 1, dS, rfl, Nat.le_refl _, by rw [fixDown, if_pos (by omega)], hg2, hz2, hs2, ?_⟩ ?_
      · simp only [Env.upd_apply, he, and_self, reduceIte, Nat.reduceEqDiff]
      rintro j e h ⟨_, d3, rfl, hj, hJ, hg3, hz3, hs, he⟩
      simp (disch := omega) only [go_sem, simprocAttr, he]
      refine cnd_dec (fun hj1 => ?_) (fun hj1 => ?_)
      · obtain ⟨j, rfl⟩ : ∃ q, j = q + 1 := ⟨j - 1, by omega⟩
        have m3 : ((j + 1 : Nat) : Int) - 1 = (j : Int) := by omega
        have r1 := rd_o E hg3 (i := j + 1) (by omega)
        have r2 := rd_o E hg3 (i := j) (by omega)
        simp (disch := omega) only [go_sem, simprocAttr, he, hs.at, r1, r2, m3]
        refine call_use (hc _ _ _ _ (hg3 _ (by omega)) (hg3 _ (by omega)) hs) ?_
        rintro r h ⟨hr, hs⟩
        subst hr
        simp (disch := omega) only [go_sem, simprocAttr, he, m3]
        rw [shiftDown] at hJ
        cases hq2 : lt d3[j + 1]! d3[j]!
        · simp (disch := omega) only [go_sem, simprocAttr, he]
          exact ⟨d3, by rw [← hJ, hq2]; rfl, hg3, hz3, hs⟩
        · simp (disch := omega) only [go_sem, simprocAttr, he]
          obtain ⟨k1, k2, k3, k4, k5, k6, k7, k8, k9, k10, k11, ⟨ky, y1, y2, y3, y4⟩, hw⟩ := sw_o E hg3 (i := j + 1) (j := j) (by omega) (by omega)
          simp (disch := omega) only [go_sem, simprocAttr, he, m3, hs.at, k1, k2, k3, k4, k5, k6, k7, k8, k9, k10, k11, y1, y2, y3, y4, hw]
          exact ⟨j, by omega, j, _, rfl, by omega, by rw [← hJ, hq2]; rfl, hg3.swp (by omega) (by omega), by rw [Go.Sort.swp_size]; exact hz3, hs.set, rfl⟩
      · obtain rfl : j = 0 := by omega
        simp (disch := omega) only [go_sem, simprocAttr, he]
        exact ⟨d3, by rw [← hJ, shiftDown], hg3, hz3, hs⟩
    · rintro e h ⟨d3, hd3, hg3, hz3, hs, he⟩
      have m4 : (bb : Int) - i2 = ((bb - i2 : Nat) : Int) := by omega
      have m5 : (i2 : Int) + 1 = ((i2 + 1 : Nat) : Int) := by omega
      have m6 : (k : Int) + 1 = ((k + 1 : Nat) : Int) := by omega
      rw [← hd3] at hI
      have hk5' : 5 - (k + 1) = s := by omega
      simp (disch := omega) only [go_sem, simprocAttr, he, m4]
      refine cnd_join (Q := fun e h => ∃ d4 : Array (List AV), d4 = fixUp lt bb i2 d3 ∧ GA G d4 ∧ d4.size = d.size ∧ sat h (pto b (.row 1 d4.toList cap) :: F) ∧
        (e 0 = .arr b 1 0 d.size cap ∧ e 1 = .int .i64 a ∧ e 2 = .int .i64 bb ∧ e 7 = .int .i64 i2 ∧ e 8 = .int .i64 k)) ?_ ?_
      · refine cnd_dec (fun hge => ?_) (fun hlt => ?_)
        rotate_left
        · simp (disch := omega) only [go_sem, simprocAttr, he]
          exact ⟨d3, by rw [fixUp, if_neg (by omega)], hg3, hz3, hs⟩
        simp (disch := omega) only [go_sem, simprocAttr, he, m5]
        refine run_loopN (fun n e h => ∃ (j : Nat) (d4 : Array (List AV)), n = bb - j ∧ i2 + 1 ≤ j ∧ j ≤ bb ∧ shiftUp lt bb j d4 = fixUp lt bb i2 d3 ∧ GA G d4 ∧ d4.size = d.size ∧ sat h (pto b (.row 1 d4.toList cap) :: F) ∧
          (e 0 = .arr b 1 0 d.size cap ∧ e 1 = .int .i64 a ∧ e 2 = .int .i64 bb ∧ e 7 = .int .i64 i2 ∧ e 8 = .int .i64 k ∧ e 10 = .int .i64 j)) _ ⟨i2 + 1, d3, rfl, Nat.le_refl _, by omega, by rw [fixUp, if_pos (by omega)], hg3, hz3, hs, ?_⟩ ?_
        · simp only [Env.upd_apply, he, and_self, reduceIte, Nat.reduceEqDiff]
        rintro n e h ⟨j, d4, rfl, hj, hj2, hJ, hg4, hz4, hs, he⟩
        simp (disch := omega) only [go_sem, simprocAttr, he]
        refine cnd_dec (fun hj1 => ?_) (fun hj1 => ?_)
        · have m3 : (j : Int) - 1 = ((j - 1 : Nat) : Int) := by omega
          have m7 : (j : Int) + 1 = ((j + 1 : Nat) : Int) := by omega
          have r1 := rd_o E hg4 (i := j) (by omega)
          have r2 := rd_o E hg4 (i := j - 1) (by omega)
          simp (disch := omega) only [go_sem, simprocAttr, he, hs.at, r1, r2, m3]
          refine call_use (hc _ _ _ _ (hg4 _ (by omega)) (hg4 _ (by omega)) hs) ?_
          rintro r h ⟨hr, hs⟩
          subst hr
          simp (disch := omega) only [go_sem, simprocAttr, he, m3]
          rw [shiftUp, if_pos (by omega)] at hJ
          cases hq2 : lt d4[j]! d4[j - 1]!
          · simp (disch := omega) only [go_sem, simprocAttr, he]
            exact ⟨d4, by rw [← hJ, hq2]; rfl, hg4, hz4, hs⟩
          · simp (disch := omega) only [go_sem, simprocAttr, he]
            obtain ⟨k1, k2, k3, k4, k5, k6, k7, k8, k9, k10, k11, ⟨ky, y1, y2, y3, y4⟩, hw⟩ := sw_o E hg4 (i := j) (j := j - 1) (by omega) (by omega)
            simp (disch := omega) only [go_sem, simprocAttr, he, m3, m7, hs.at, k1, k2, k3, k4, k5, k6, k7, k8, k9, k10, k11, y1, y2, y3, y4, hw]
            exact ⟨bb - (j + 1), by omega, j + 1, _, rfl, by omega, by omega, by rw [← hJ, hq2]; rfl, hg4.swp (by omega) (by omega), by rw [Go.Sort.swp_size]; exact hz4, hs.set, rfl⟩
        · simp (disch := omega) only [go_sem, simprocAttr, he]
          exact ⟨d4, by rw [← hJ, shiftUp, if_neg (by omega)], hg4, hz4, hs⟩
      · rintro e h ⟨d4, hd4, hg4, hz4, hs, he⟩
        rw [← hd4] at hI
        simp (disch := omega) only [go_sem, simprocAttr, he, m6]
        exact ⟨5 - (k + 1), by omega, k + 1, i2, d4, rfl, by omega, by omega, by omega, by rw [hk5']; exact hI, hg4, hz4, hs, rfl, rfl⟩
end
end Go.Proofs.YtaioncbpfckhaaaGreat
/- slices: the partitions. -/
set_option linter.unusedSimpArgs false
set_option linter.unusedVariables false
set_option maxRecDepth 10000
namespace Go.Proofs.YtaioncbpfckhaaaGreat
open Go.Hz Go.Sort

section
variable {h : Hp} {F : List Asr} {G : List AV → Prop} {lt : List AV → List AV → Bool}

theorem peq_S (hc : LessT Tryz.prog false G lt 88) (E : GoodE 1 false G) {d : Array (List AV)} {a bb p b cap : Nat} (hs : sat h (pto b (.row 1 d.toList cap) :: F)) (hg : GA G d) (hp1 : a ≤ p) (hp2 : p < bb) (hb : bb ≤ d.size) (hsz : d.size ≤ 1000000000000) :
    Triple Tryz.prog 89 [.arr b 1 0 d.size cap, .int .i64 a, .int .i64 bb, .int .i64 p] h (fun r h => r = .int .i64 (partitionEqual lt d a bb p).1 ∧ GA G (partitionEqual lt d a bb p).2 ∧ (partitionEqual lt d a bb p).2.size = d.size ∧ sat h (pto b (.row 1 (partitionEqual lt d a bb p).2.toList cap) :: F)) := by
  have w0 : (a : Int) + 1 = ((a + 1 : Nat) : Int) := by omega
  have w1 : (bb : Int) - 1 = ((bb - 1 : Nat) : Int) := by omega
  obtain ⟨k1, k2, k3, k4, k5, k6, k7, k8, k9, k10, k11, ⟨ky, y1, y2, y3, y4⟩, hw⟩ := sw_o E hg (i := a) (j := p) (by omega) (by omega)
  refine t89 (Nat.le_of_ble_eq_true rfl) ?_
  simp (disch := omega) only [F89, w0, w1, hs.at, k1, k2, k3, k4, k5, k6, k7, k8, k9, k10, k11, y1, y2, y3, y4, hw, go_sem, simprocAttr]
  have hs2 := hs.set (o' := .row 1 (swp d a p).toList cap)
  have hg2 := hg.swp (i := a) (j := p) (by omega) (by omega)
  have hz2 : (swp d a p).size = d.size := by rw [Go.Sort.swp_size]
  have hR : partEqLoop lt a (a + 1) (bb - 1) (swp d a p) = partitionEqual lt d a bb p := rfl
  refine run_loopN (fun n e h => ∃ (i j : Nat) (D : Array (List AV)), n = j + 1 - i ∧ a < i ∧ i ≤ j + 1 ∧ j < bb ∧ partEqLoop lt a i j D = partitionEqual lt d a bb p ∧ GA G D ∧ D.size = d.size ∧ sat h (pto b (.row 1 D.toList cap) :: F) ∧
    (e 0 = .arr b 1 0 d.size cap ∧ e 1 = .int .i64 a ∧ e 9 = .int .i64 i ∧ e 10 = .int .i64 j)) _ ⟨a + 1, bb - 1, _, rfl, by omega, by omega, by omega, hR, hg2, hz2, hs2, rfl, rfl, rfl, rfl⟩ ?_
  rintro n e h ⟨i, j, D, rfl, hai, hij, hjb, hI, hgD, hzD, hs, he⟩
  rw [partEqLoop_eq] at hI
  simp (disch := omega) only [go_sem, simprocAttr, he]
  refine blk_join (Q := fun e h => ∃ i2 : Nat, i2 = scanUp (fun x => !lt D[a]! x) D j i ∧ i ≤ i2 ∧ i2 ≤ j + 1 ∧ sat h (pto b (.row 1 D.toList cap) :: F) ∧ (e 0 = .arr b 1 0 d.size cap ∧ e 1 = .int .i64 a ∧ e 9 = .int .i64 i2 ∧ e 10 = .int .i64 j)) ?_ ?_
  · refine run_loopN (fun n e h => ∃ i2 : Nat, n = j + 1 - i2 ∧ scanUp (fun x => !lt D[a]! x) D j i2 = scanUp (fun x => !lt D[a]! x) D j i ∧ i ≤ i2 ∧ i2 ≤ j + 1 ∧ sat h (pto b (.row 1 D.toList cap) :: F) ∧ (e 0 = .arr b 1 0 d.size cap ∧ e 1 = .int .i64 a ∧ e 9 = .int .i64 i2 ∧ e 10 = .int .i64 j)) _ ⟨i, rfl, rfl, Nat.le_refl _, by omega, hs, ?_⟩ ?_
    · simp only [Env.upd_apply, he, and_self, reduceIte, Nat.reduceEqDiff]
    rintro n e h ⟨i2, rfl, hJ, hj1, hj2, hs, he⟩
    simp (disch := omega) only [go_sem, simprocAttr, he]
    refine cnd_dec (fun hl1 => ?_) (fun hl1 => ?_)
    · have m2 : (i2 : Int) + 1 = ((i2 + 1 : Nat) : Int) := by omega
      have r1 := rd_o E hgD (i := i2) (by omega)
      have r2 := rd_o E hgD (i := a) (by omega)
      simp (disch := omega) only [go_sem, simprocAttr, he, hs.at, r1, r2]
      refine call_use (hc _ _ _ _ (hgD _ (by omega)) (hgD _ (by omega)) hs) ?_
      rintro r h ⟨hr, hs⟩
      subst hr
      simp (disch := omega) only [go_sem, simprocAttr, he, hl1]
      have hst : scanUp (fun x => !lt D[a]! x) D j i2 = if (!lt D[a]! D[i2]!) = true then scanUp (fun x => !lt D[a]! x) D j (i2 + 1) else i2 := by
        rw [scanUp.eq_1 _ _ _ i2]
        simp only [show i2 ≤ j from by omega, decide_true, Bool.true_and]
      cases hq : lt D[a]! D[i2]!
      · simp (disch := omega) only [go_sem, simprocAttr, he, m2]
        exact ⟨j + 1 - (i2 + 1), by omega, i2 + 1, rfl, by rw [← hJ, hst, hq]; rfl, by omega, by omega, hs, rfl⟩
      · simp (disch := omega) only [go_sem, simprocAttr, he, m2]
        exact ⟨i2, by rw [← hJ, hst, hq]; rfl, by omega, by omega, hs, rfl⟩
    · simp (disch := omega) only [go_sem, simprocAttr, he, hl1]
      exact ⟨i2, by rw [← hJ, scanUp.eq_1 _ _ _ i2, if_neg (by simp; omega)], by omega, by omega, hs, rfl⟩

  rintro e h ⟨i2, hi2, hi3, hi4, hs, he⟩
  rw [← hi2] at hI
  simp (disch := omega) only [go_sem, simprocAttr, he]
  refine blk_join (Q := fun e h => ∃ j2 : Nat, j2 = scanDown (fun x => lt D[a]! x) D i2 j ∧ j2 ≤ j ∧ i2 ≤ j2 + 1 ∧ sat h (pto b (.row 1 D.toList cap) :: F) ∧ (e 0 = .arr b 1 0 d.size cap ∧ e 1 = .int .i64 a ∧ e 9 = .int .i64 i2 ∧ e 10 = .int .i64 j2)) ?_ ?_
  · refine run_loopN (fun n e h => ∃ j2 : Nat, n = j2 ∧ scanDown (fun x => lt D[a]! x) D i2 j2 = scanDown (fun x => lt D[a]! x) D i2 j ∧ j2 ≤ j ∧ i2 ≤ j2 + 1 ∧ sat h (pto b (.row 1 D.toList cap) :: F) ∧ (e 0 = .arr b 1 0 d.size cap ∧ e 1 = .int .i64 a ∧ e 9 = .int .i64 i2 ∧ e 10 = .int .i64 j2)) _ ⟨j, rfl, rfl, Nat.le_refl _, by omega, hs, ?_⟩ ?_
    · simp only [Env.upd_apply, he, and_self, reduceIte, Nat.reduceEqDiff]
    rintro j2 e h ⟨_, rfl, hJ, hj1, hj2, hs, he⟩
    simp (disch := omega) only [go_sem, simprocAttr, he]
    refine cnd_dec (fun hl1 => ?_) (fun hl1 => ?_)
    · obtain ⟨j2, rfl⟩ : ∃ q, j2 = q + 1 := ⟨j2 - 1, by omega⟩
      have m2 : ((j2 + 1 : Nat) : Int) - 1 = (j2 : Int) := by omega
      have r1 := rd_o E hgD (i := j2 + 1) (by omega)
      have r2 := rd_o E hgD (i := a) (by omega)
      simp (disch := omega) only [go_sem, simprocAttr, he, hs.at, r1, r2]
      refine call_use (hc _ _ _ _ (hgD _ (by omega)) (hgD _ (by omega)) hs) ?_
      rintro r h ⟨hr, hs⟩
      subst hr
      simp (disch := omega) only [go_sem, simprocAttr, he, hl1]
      have hst : scanDown (fun x => lt D[a]! x) D i2 (j2 + 1) = if (lt D[a]! D[j2 + 1]!) = true then scanDown (fun x => lt D[a]! x) D i2 j2 else j2 + 1 := by
        rw [scanDown]
        simp only [show i2 ≤ j2 + 1 from by omega, decide_true, Bool.true_and]
      cases hq : lt D[a]! D[j2 + 1]!
      · simp (disch := omega) only [go_sem, simprocAttr, he, m2]
        exact ⟨j2 + 1, by rw [← hJ, hst, hq]; rfl, by omega, by omega, hs, rfl⟩
      · simp (disch := omega) only [go_sem, simprocAttr, he, m2]
        exact ⟨j2, by omega, j2, rfl, by rw [← hJ, hst, hq]; rfl, by omega, by omega, hs, rfl⟩
    · simp (disch := omega) only [go_sem, simprocAttr, he, hl1]
      refine ⟨j2, ?_, by omega, by omega, hs, rfl⟩
      rw [← hJ]
      cases j2 with
      | zero => rw [scanDown]
      | succ j2 => rw [scanDown, if_neg (by simp; omega)]

  rintro e h ⟨j2, hj2, hj3, hj4, hs, he⟩
  rw [← hj2] at hI
  simp (disch := omega) only [go_sem, simprocAttr, he]
  refine cnd_dec (fun hgt => ?_) (fun hle => ?_)
  · rw [if_pos (by omega)] at hI
    simp (disch := omega) only [go_sem, simprocAttr, he]
    rw [← hI]
    exact ⟨rfl, hgD, hzD, hs⟩
  · rw [if_neg (by omega)] at hI
    have m1 : (i2 : Int) + 1 = ((i2 + 1 : Nat) : Int) := by omega
    have m2 : (j2 : Int) - 1 = ((j2 - 1 : Nat) : Int) := by omega
    have hne : i2 ≠ j2 := fun hh => by
      have u := (scanUp_spec (fun x => !lt D[a]! x) D j _ i rfl).2.2.2
      have v := (scanDown_spec (fun x => lt D[a]! x) D i2 j).2.2.2
      rw [← hi2] at u
      rw [← hj2] at v
      have u := u (by omega)
      have v := v (by omega) (by omega)
      rw [← hh] at v
      simp at u v
      rw [u] at v; cases v
    simp (disch := omega) only [go_sem, simprocAttr, he]
    obtain ⟨k1, k2, k3, k4, k5, k6, k7, k8, k9, k10, k11, ⟨ky, y1, y2, y3, y4⟩, hw⟩ := sw_o E hgD (i := i2) (j := j2) (by omega) (by omega)
    simp (disch := omega) only [go_sem, simprocAttr, he, m1, m2, hs.at, k1, k2, k3, k4, k5, k6, k7, k8, k9, k10, k11, y1, y2, y3, y4, hw]
    exact ⟨j2 - 1 + 1 - (i2 + 1), by omega, i2 + 1, j2 - 1, _, rfl, by omega, by omega, by omega, hI, hgD.swp (by omega) (by omega), by rw [Go.Sort.swp_size]; exact hzD, hs.set, rfl, rfl⟩
theorem prt_S (hc : LessT Tryz.prog false G lt 88) (E : GoodE 1 false G) {d : Array (List AV)} {a bb p b cap : Nat} (hs : sat h (pto b (.row 1 d.toList cap) :: F)) (hg : GA G d) (hp1 : a ≤ p) (hp2 : p < bb) (hb : bb ≤ d.size) (hsz : d.size ≤ 1000000000000) :
    Triple Tryz.prog 90 [.arr b 1 0 d.size cap, .int .i64 a, .int .i64 bb, .int .i64 p] h (fun r h => r = .tup [.int .i64 (partition lt d a bb p).1, .bool (partition lt d a bb p).2.1] ∧ GA G (partition lt d a bb p).2.2 ∧ (partition lt d a bb p).2.2.size = d.size ∧ sat h (pto b (.row 1 (partition lt d a bb p).2.2.toList cap) :: F)) := by
  have w0 : (a : Int) + 1 = ((a + 1 : Nat) : Int) := by omega
  have w1 : (bb : Int) - 1 = ((bb - 1 : Nat) : Int) := by omega
  obtain ⟨k1, k2, k3, k4, k5, k6, k7, k8, k9, k10, k11, ⟨ky, y1, y2, y3, y4⟩, hw⟩ := sw_o E hg (i := a) (j := p) (by omega) (by omega)
  refine t90 (Nat.le_of_ble_eq_true rfl) ?_
  simp (disch := omega) only [F90, w0, w1, hs.at, k1, k2, k3, k4, k5, k6, k7, k8, k9, k10, k11, y1, y2, y3, y4, hw, go_sem, simprocAttr]
  have hs := hs.set (o' := .row 1 (swp d a p).toList cap)
  have hg2 := hg.swp (i := a) (j := p) (by omega) (by omega)
  have hz2 : (swp d a p).size = d.size := by rw [Go.Sort.swp_size]
  clear k1 k2 k3 k4 k5 k6 k7 k8 k9 k10 k11 y1 y2 y3 y4 hw
  have hpd : partition lt d a bb p = partition lt d a bb p := rfl
  conv at hpd => lhs; unfold partition
  simp only at hpd
  generalize partition lt d a bb p = res at *
  generalize swp d a p = D at *
  obtain ⟨B, hB⟩ : ∃ B, B = bb - 1 := ⟨_, rfl⟩
  obtain ⟨A, hA⟩ : ∃ A, A = a + 1 := ⟨_, rfl⟩
  rw [← hB, ← hA] at hpd
  refine run_cut (fun e h => sat h (pto b (.row 1 D.toList cap) :: F) ∧ (e 0 = .arr b 1 0 d.size cap ∧ e 1 = .int .i64 a ∧ e 10 = .int .i64 A ∧ e 11 = .int .i64 B)) ⟨hs, rfl, rfl, by rw [hA]; rfl, by rw [hB]; rfl⟩ ?_
  rintro e h ⟨hs, he⟩
  refine blk_join (Q := fun e h => ∃ i2 : Nat, i2 = scanUp (fun x => lt x D[a]!) D B A ∧ A ≤ i2 ∧ i2 ≤ B + 1 ∧ sat h (pto b (.row 1 D.toList cap) :: F) ∧ (e 0 = .arr b 1 0 d.size cap ∧ e 1 = .int .i64 a ∧ e 10 = .int .i64 i2 ∧ e 11 = .int .i64 B)) ?_ ?_
  · refine run_loopN (fun n e h => ∃ i2 : Nat, n = B + 1 - i2 ∧ scanUp (fun x => lt x D[a]!) D B i2 = scanUp (fun x => lt x D[a]!) D B A ∧ A ≤ i2 ∧ i2 ≤ B + 1 ∧ sat h (pto b (.row 1 D.toList cap) :: F) ∧ (e 0 = .arr b 1 0 d.size cap ∧ e 1 = .int .i64 a ∧ e 10 = .int .i64 i2 ∧ e 11 = .int .i64 B)) _ ⟨A, rfl, rfl, Nat.le_refl _, by omega, hs, ?_⟩ ?_
    · simp only [Env.upd_apply, he, and_self, reduceIte, Nat.reduceEqDiff]
    rintro n e h ⟨i2, rfl, hJ, hj1, hj2, hs, he⟩
    simp (disch := omega) only [go_sem, simprocAttr, he]
    refine cnd_dec (fun hl1 => ?_) (fun hl1 => ?_)
    · have m2 : (i2 : Int) + 1 = ((i2 + 1 : Nat) : Int) := by omega
      have r1 := rd_o E hg2 (i := i2) (by omega)
      have r2 := rd_o E hg2 (i := a) (by omega)
      simp (disch := omega) only [go_sem, simprocAttr, he, hs.at, r1, r2]
      refine call_use (hc _ _ _ _ (hg2 _ (by omega)) (hg2 _ (by omega)) hs) ?_
      rintro r h ⟨hr, hs⟩
      subst hr
      simp (disch := omega) only [go_sem, simprocAttr, he, hl1]
      have hst : scanUp (fun x => lt x D[a]!) D B i2 = if (lt D[i2]! D[a]!) = true then scanUp (fun x => lt x D[a]!) D B (i2 + 1) else i2 := by
        rw [scanUp.eq_1 _ _ _ i2]
        simp only [show i2 ≤ B from by omega, decide_true, Bool.true_and]
      cases hq : lt D[i2]! D[a]!
      · simp (disch := omega) only [go_sem, simprocAttr, he, m2]
        exact ⟨i2, by rw [← hJ, hst, hq]; rfl, by omega, by omega, hs, rfl⟩
      · simp (disch := omega) only [go_sem, simprocAttr, he, m2]
        exact ⟨B + 1 - (i2 + 1), by omega, i2 + 1, rfl, by rw [← hJ, hst, hq]; rfl, by omega, by omega, hs, rfl⟩
    · simp (disch := omega) only [go_sem, simprocAttr, he, hl1]
      exact ⟨i2, by rw [← hJ, scanUp.eq_1 _ _ _ i2, if_neg (by simp; omega)], by omega, by omega, hs, rfl⟩

  rintro e h ⟨i1, hi1, hi3, hi4, hs, he⟩
  rw [← hi1] at hpd
  simp (disch := omega) only [go_sem, simprocAttr, he]
  refine blk_join (Q := fun e h => ∃ j2 : Nat, j2 = scanDown (fun x => !lt x D[a]!) D i1 B ∧ j2 ≤ B ∧ i1 ≤ j2 + 1 ∧ sat h (pto b (.row 1 D.toList cap) :: F) ∧ (e 0 = .arr b 1 0 d.size cap ∧ e 1 = .int .i64 a ∧ e 10 = .int .i64 i1 ∧ e 11 = .int .i64 j2)) ?_ ?_
  · refine run_loopN (fun n e h => ∃ j2 : Nat, n = j2 ∧ scanDown (fun x => !lt x D[a]!) D i1 j2 = scanDown (fun x => !lt x D[a]!) D i1 B ∧ j2 ≤ B ∧ i1 ≤ j2 + 1 ∧ sat h (pto b (.row 1 D.toList cap) :: F) ∧ (e 0 = .arr b 1 0 d.size cap ∧ e 1 = .int .i64 a ∧ e 10 = .int .i64 i1 ∧ e 11 = .int .i64 j2)) _ ⟨B, rfl, rfl, Nat.le_refl _, by omega, hs, ?_⟩ ?_
    · simp only [Env.upd_apply, he, and_self, reduceIte, Nat.reduceEqDiff]
    rintro j2 e h ⟨_, rfl, hJ, hj1, hj2, hs, he⟩
    simp (disch := omega) only [go_sem, simprocAttr, he]
    refine cnd_dec (fun hl1 => ?_) (fun hl1 => ?_)
    · obtain ⟨j2, rfl⟩ : ∃ q, j2 = q + 1 := ⟨j2 - 1, by omega⟩
      have m2 : ((j2 + 1 : Nat) : Int) - 1 = (j2 : Int) := by omega
      have r1 := rd_o E hg2 (i := j2 + 1) (by omega)
      have r2 := rd_o E hg2 (i := a) (by omega)
      simp (disch := omega) only [go_sem, simprocAttr, he, hs.at, r1, r2]
      refine call_use (hc _ _ _ _ (hg2 _ (by omega)) (hg2 _ (by omega)) hs) ?_
      rintro r h ⟨hr, hs⟩
      subst hr
      simp (disch := omega) only [go_sem, simprocAttr, he, hl1]
      have hst : scanDown (fun x => !lt x D[a]!) D i1 (j2 + 1) = if (!lt D[j2 + 1]! D[a]!) = true then scanDown (fun x => !lt x D[a]!) D i1 j2 else j2 + 1 := by
        rw [scanDown]
        simp only [show i1 ≤ j2 + 1 from by omega, decide_true, Bool.true_and]
      cases hq : lt D[j2 + 1]! D[a]!
      · simp (disch := omega) only [go_sem, simprocAttr, he, m2]
        exact ⟨j2, by omega, j2, rfl, by rw [← hJ, hst, hq]; rfl, by omega, by omega, hs, rfl⟩
      · simp (disch := omega) only [go_sem, simprocAttr, he, m2]
        exact ⟨j2 + 1, by rw [← hJ, hst, hq]; rfl, by omega, by omega, hs, rfl⟩
    · simp (disch := omega) only [go_sem, simprocAttr, he, hl1]
      refine ⟨j2, ?_, by omega, by omega, hs, rfl⟩
      rw [← hJ]
      cases j2 with
      | zero => rw [scanDown]
      | succ j2 => rw [scanDown, if_neg (by simp; omega)]

  rintro e h ⟨j1, hj1, hj3, hj4, hs, he⟩
  rw [← hj1] at hpd
  simp (disch := omega) only [go_sem, simprocAttr, he]
  refine cnd_dec (fun hgt => ?_) (fun hle => ?_)
  · rw [if_pos (by omega)] at hpd
    simp (disch := omega) only [go_sem, simprocAttr, he]
    obtain ⟨k1, k2, k3, k4, k5, k6, k7, k8, k9, k10, k11, ⟨ky, y1, y2, y3, y4⟩, hw⟩ := sw_o E hg2 (i := j1) (j := a) (by omega) (by omega)
    simp (disch := omega) only [go_sem, simprocAttr, he, hs.at, k1, k2, k3, k4, k5, k6, k7, k8, k9, k10, k11, y1, y2, y3, y4, hw]
    rw [← hpd]
    exact ⟨rfl, hg2.swp (by omega) (by omega), by rw [Go.Sort.swp_size]; exact hz2, hs.set⟩
  rw [if_neg (by omega)] at hpd
  have m1 : (i1 : Int) + 1 = ((i1 + 1 : Nat) : Int) := by omega
  have m2 : (j1 : Int) - 1 = ((j1 - 1 : Nat) : Int) := by omega
  have hne : i1 ≠ j1 := fun hh => by
    have u := (scanUp_spec (fun x => lt x D[a]!) D B _ A rfl).2.2.2
    have v := (scanDown_spec (fun x => !lt x D[a]!) D i1 B).2.2.2
    rw [← hi1] at u
    rw [← hj1] at v
    have u := u (by omega)
    have v := v (by omega) (by omega)
    rw [← hh] at v
    simp at u v
    rw [u] at v; cases v
  simp (disch := omega) only [go_sem, simprocAttr, he]
  obtain ⟨k1, k2, k3, k4, k5, k6, k7, k8, k9, k10, k11, ⟨ky, y1, y2, y3, y4⟩, hw⟩ := sw_o E hg2 (i := i1) (j := j1) (by omega) (by omega)
  simp (disch := omega) only [go_sem, simprocAttr, he, m1, m2, hs.at, k1, k2, k3, k4, k5, k6, k7, k8, k9, k10, k11, y1, y2, y3, y4, hw]
  have hs := hs.set (o' := .row 1 (swp D i1 j1).toList cap)
  have hg4 := hg2.swp (i := i1) (j := j1) (by omega) (by omega)
  have hz4 : (swp D i1 j1).size = d.size := by rw [Go.Sort.swp_size]; exact hz2
  clear k1 k2 k3 k4 k5 k6 k7 k8 k9 k10 k11 y1 y2 y3 y4 hw
  generalize swp D i1 j1 = D2 at *
  refine blk_join (Q := fun e h => ∃ (j : Nat) (D3 : Array (List AV)), (j, D3) = partLoop lt a (i1 + 1) (j1 - 1) D2 ∧ a ≤ j ∧ j < bb ∧ GA G D3 ∧ D3.size = d.size ∧ sat h (pto b (.row 1 D3.toList cap) :: F) ∧
    (e 0 = .arr b 1 0 d.size cap ∧ e 1 = .int .i64 a ∧ e 11 = .int .i64 j)) ?_ ?_
  · refine run_loopN (fun n e h => ∃ (i j : Nat) (D3 : Array (List AV)), n = j + 1 - i ∧ a < i ∧ i ≤ j + 1 ∧ j < bb ∧ partLoop lt a i j D3 = partLoop lt a (i1 + 1) (j1 - 1) D2 ∧ GA G D3 ∧ D3.size = d.size ∧ sat h (pto b (.row 1 D3.toList cap) :: F) ∧
      (e 0 = .arr b 1 0 d.size cap ∧ e 1 = .int .i64 a ∧ e 10 = .int .i64 i ∧ e 11 = .int .i64 j)) _ ⟨i1 + 1, j1 - 1, _, rfl, by omega, by omega, by omega, rfl, hg4, hz4, hs, ?_⟩ ?_
    · simp only [Env.upd_apply, he, and_self, reduceIte, Nat.reduceEqDiff]
    rintro n e h ⟨i, j, D3, rfl, hai, hij, hjb, hI, hgD, hzD, hs, he⟩
    rw [partLoop_eq] at hI
    simp (disch := omega) only [go_sem, simprocAttr, he]
    refine blk_join (Q := fun e h => ∃ i2 : Nat, i2 = scanUp (fun x => lt x D3[a]!) D3 j i ∧ i ≤ i2 ∧ i2 ≤ j + 1 ∧ sat h (pto b (.row 1 D3.toList cap) :: F) ∧ (e 0 = .arr b 1 0 d.size cap ∧ e 1 = .int .i64 a ∧ e 10 = .int .i64 i2 ∧ e 11 = .int .i64 j)) ?_ ?_
    · refine run_loopN (fun n e h => ∃ i2 : Nat, n = j + 1 - i2 ∧ scanUp (fun x => lt x D3[a]!) D3 j i2 = scanUp (fun x => lt x D3[a]!) D3 j i ∧ i ≤ i2 ∧ i2 ≤ j + 1 ∧ sat h (pto b (.row 1 D3.toList cap) :: F) ∧ (e 0 = .arr b 1 0 d.size cap ∧ e 1 = .int .i64 a ∧ e 10 = .int .i64 i2 ∧ e 11 = .int .i64 j)) _ ⟨i, rfl, rfl, Nat.le_refl _, by omega, hs, ?_⟩ ?_
      · simp only [Env.upd_apply, he, and_self, reduceIte, Nat.reduceEqDiff]
      rintro n e h ⟨i2, rfl, hJ, hj1, hj2, hs, he⟩
      simp (disch := omega) only [go_sem, simprocAttr, he]
      refine cnd_dec (fun hl1 => ?_) (fun hl1 => ?_)
      · have m2 : (i2 : Int) + 1 = ((i2 + 1 : Nat) : Int) := by omega
        have r1 := rd_o E hgD (i := i2) (by omega)
        have r2 := rd_o E hgD (i := a) (by omega)
        simp (disch := omega) only [go_sem, simprocAttr, he, hs.at, r1, r2]
        refine call_use (hc _ _ _ _ (hgD _ (by omega)) (hgD _ (by omega)) hs) ?_
        rintro r h ⟨hr, hs⟩
        subst hr
        simp (disch := omega) only [go_sem, simprocAttr, he, hl1]
        have hst : scanUp (fun x => lt x D3[a]!) D3 j i2 = if (lt D3[i2]! D3[a]!) = true then scanUp (fun x => lt x D3[a]!) D3 j (i2 + 1) else i2 := by
          rw [scanUp.eq_1 _ _ _ i2]
          simp only [show i2 ≤ j from by omega, decide_true, Bool.true_and]
        cases hq : lt D3[i2]! D3[a]!
        · simp (disch := omega) only [go_sem, simprocAttr, he, m2]
          exact ⟨i2, by rw [← hJ, hst, hq]; rfl, by omega, by omega, hs, rfl⟩
        · simp (disch := omega) only [go_sem, simprocAttr, he, m2]
          exact ⟨j + 1 - (i2 + 1), by omega, i2 + 1, rfl, by rw [← hJ, hst, hq]; rfl, by omega, by omega, hs, rfl⟩
      · simp (disch := omega) only [go_sem, simprocAttr, he, hl1]
        exact ⟨i2, by rw [← hJ, scanUp.eq_1 _ _ _ i2, if_neg (by simp; omega)], by omega, by omega, hs, rfl⟩

    rintro e h ⟨i2, hi2, hi3, hi4, hs, he⟩
    rw [← hi2] at hI
    simp (disch := omega) only [go_sem, simprocAttr, he]
    refine blk_join (Q := fun e h => ∃ j2 : Nat, j2 = scanDown (fun x => !lt x D3[a]!) D3 i2 j ∧ j2 ≤ j ∧ i2 ≤ j2 + 1 ∧ sat h (pto b (.row 1 D3.toList cap) :: F) ∧ (e 0 = .arr b 1 0 d.size cap ∧ e 1 = .int .i64 a ∧ e 10 = .int .i64 i2 ∧ e 11 = .int .i64 j2)) ?_ ?_
    · refine run_loopN (fun n e h => ∃ j2 : Nat, n = j2 ∧ scanDown (fun x => !lt x D3[a]!) D3 i2 j2 = scanDown (fun x => !lt x D3[a]!) D3 i2 j ∧ j2 ≤ j ∧ i2 ≤ j2 + 1 ∧ sat h (pto b (.row 1 D3.toList cap) :: F) ∧ (e 0 = .arr b 1 0 d.size cap ∧ e 1 = .int .i64 a ∧ e 10 = .int .i64 i2 ∧ e 11 = .int .i64 j2)) _ ⟨j, rfl, rfl, Nat.le_refl _, by omega, hs, ?_⟩ ?_
      · simp only [Env.upd_apply, he, and_self, reduceIte, Nat.reduceEqDiff]
      rintro j2 e h ⟨_, rfl, hJ, hj1, hj2, hs, he⟩
      simp (disch := omega) only [go_sem, simprocAttr, he]
      refine cnd_dec (fun hl1 => ?_) (fun hl1 => ?_)
      · obtain ⟨j2, rfl⟩ : ∃ q, j2 = q + 1 := ⟨j2 - 1, by omega⟩
        have m2 : ((j2 + 1 : Nat) : Int) - 1 = (j2 : Int) := by omega
        have r1 := rd_o E hgD (i := j2 + 1) (by omega)
        have r2 := rd_o E hgD (i := a) (by omega)
        simp (disch := omega) only [go_sem, simprocAttr, he, hs.at, r1, r2]
        refine call_use (hc _ _ _ _ (hgD _ (by omega)) (hgD _ (by omega)) hs) ?_
        rintro r h ⟨hr, hs⟩
        subst hr
        simp (disch := omega) only [go_sem, simprocAttr, he, hl1]
        have hst : scanDown (fun x => !lt x D3[a]!) D3 i2 (j2 + 1) = if (!lt D3[j2 + 1]! D3[a]!) = true then scanDown (fun x => !lt x D3[a]!) D3 i2 j2 else j2 + 1 := by
          rw [scanDown]
          simp only [show i2 ≤ j2 + 1 from by omega, decide_true, Bool.true_and]
        cases hq : lt D3[j2 + 1]! D3[a]!
        · simp (disch := omega) only [go_sem, simprocAttr, he, m2]
          exact ⟨j2, by omega, j2, rfl, by rw [← hJ, hst, hq]; rfl, by omega, by omega, hs, rfl⟩
        · simp (disch := omega) only [go_sem, simprocAttr, he, m2]
          exact ⟨j2 + 1, by rw [← hJ, hst, hq]; rfl, by omega, by omega, hs, rfl⟩
      · simp (disch := omega) only [go_sem, simprocAttr, he, hl1]
        refine ⟨j2, ?_, by omega, by omega, hs, rfl⟩
        rw [← hJ]
        cases j2 with
        | zero => rw [scanDown]
        | succ j2 => rw [scanDown, if_neg (by simp; omega)]

    rintro e h ⟨j2, hj2, hj3, hj4, hs, he⟩
    rw [← hj2] at hI
    simp (disch := omega) only [go_sem, simprocAttr, he]
    refine cnd_dec (fun hgt => ?_) (fun hle => ?_)
    · rw [if_pos (by omega)] at hI
      simp (disch := omega) only [go_sem, simprocAttr, he]
      exact ⟨j2, D3, hI, by omega, by omega, hgD, hzD, hs, rfl⟩
    · rw [if_neg (by omega)] at hI
      have m1 : (i2 : Int) + 1 = ((i2 + 1 : Nat) : Int) := by omega
      have m2 : (j2 : Int) - 1 = ((j2 - 1 : Nat) : Int) := by omega
      have hne : i2 ≠ j2 := fun hh => by
        have u := (scanUp_spec (fun x => lt x D3[a]!) D3 j _ i rfl).2.2.2
        have v := (scanDown_spec (fun x => !lt x D3[a]!) D3 i2 j).2.2.2
        rw [← hi2] at u
        rw [← hj2] at v
        have u := u (by omega)
        have v := v (by omega) (by omega)
        rw [← hh] at v
        simp at u v
        rw [u] at v; cases v
      simp (disch := omega) only [go_sem, simprocAttr, he]
      obtain ⟨k1, k2, k3, k4, k5, k6, k7, k8, k9, k10, k11, ⟨ky, y1, y2, y3, y4⟩, hw⟩ := sw_o E hgD (i := i2) (j := j2) (by omega) (by omega)
      simp (disch := omega) only [go_sem, simprocAttr, he, m1, m2, hs.at, k1, k2, k3, k4, k5, k6, k7, k8, k9, k10, k11, y1, y2, y3, y4, hw]
      exact ⟨j2 - 1 + 1 - (i2 + 1), by omega, i2 + 1, j2 - 1, _, rfl, by omega, by omega, by omega, hI, hgD.swp (by omega) (by omega), by rw [Go.Sort.swp_size]; exact hzD, hs.set, rfl, rfl⟩
  · rintro e h ⟨j, D3, hI, haj, hjb, hgD, hzD, hs, he⟩
    rw [← hI] at hpd
    simp (disch := omega) only [go_sem, simprocAttr, he]
    obtain ⟨k1, k2, k3, k4, k5, k6, k7, k8, k9, k10, k11, ⟨ky, y1, y2, y3, y4⟩, hw⟩ := sw_o E hgD (i := j) (j := a) (by omega) (by omega)
    simp (disch := omega) only [go_sem, simprocAttr, he, hs.at, k1, k2, k3, k4, k5, k6, k7, k8, k9, k10, k11, y1, y2, y3, y4, hw]
    rw [← hpd]
    exact ⟨rfl, hgD.swp (by omega) (by omega), by rw [Go.Sort.swp_size]; exact hzD, hs.set⟩
end
end Go.Proofs.YtaioncbpfckhaaaGreat
/- slices: pdqsort. -/
set_option linter.unusedSimpArgs false
set_option linter.unusedVariables false
set_option maxRecDepth 10000
namespace Go.Proofs.YtaioncbpfckhaaaGreat
open Go.Hz Go.Sort

section
variable {h : Hp} {F : List Asr} {G : List AV → Prop} {lt : List AV → List AV → Bool}

theorem pdq_S (hc : LessT Tryz.prog false G lt 88) (E : GoodE 1 false G) (hO : SWO lt) : ∀ (m : Nat) (F : List Asr) (h : Hp) (d : Array (List AV)) (a bb lim b cap : Nat), bb - a ≤ m → sat h (pto b (.row 1 d.toList cap) :: F) → GA G d → a ≤ bb → bb ≤ d.size → d.size ≤ 100000000 → Below lt a bb d → lim ≤ 64 →
    Triple Tryz.prog 71 [.arr b 1 0 d.size cap, .int .i64 a, .int .i64 bb, .int .i64 lim] h (fun r h => ∃ R : Array (List AV), PermIn a bb d R ∧ SortedIn lt a bb R ∧ GA G R ∧ R.size = d.size ∧ sat h (pto b (.row 1 R.toList cap) :: F)) := by
  intro m
  induction m using Nat.strongRecOn with
  | _ m ih =>
  intro F h d a0 b0 lim0 b cap hm hs hg ha hb hsz hB hlim
  refine t71 (Nat.le_of_ble_eq_true rfl) ?_
  simp (disch := omega) only [F71, go_sem, simprocAttr]
  refine run_loopN (fun n e h => ∃ (a bb lim : Nat) (wb wp : Bool) (D : Array (List AV)), n = bb - a ∧ bb - a ≤ b0 - a0 ∧ a ≤ bb ∧ bb ≤ d.size ∧ lim ≤ 64 ∧ Below lt a bb D ∧ GA G D ∧ D.size = d.size ∧
    (∀ R, PermIn a bb D R → SortedIn lt a bb R → PermIn a0 b0 d R ∧ SortedIn lt a0 b0 R) ∧ sat h (pto b (.row 1 D.toList cap) :: F) ∧
    (e 0 = .arr b 1 0 d.size cap ∧ e 1 = .int .i64 a ∧ e 2 = .int .i64 bb ∧ e 3 = .int .i64 lim ∧ e 8 = .bool wb ∧ e 9 = .bool wp)) _ ⟨a0, b0, lim0, true, true, d, rfl, Nat.le_refl _, ha, hb, hlim, hB, hg, rfl, fun R h1 h2 => ⟨h1, h2⟩, hs, rfl, rfl, rfl, rfl, rfl, rfl⟩ ?_
  rintro n e h ⟨a, bb, lim, wb, wp, D, rfl, hl, hab, hbs, hlim, hB, hgD, hzD, hC, hs, he⟩
  have n0 : (bb : Int) - a = ((bb - a : Nat) : Int) := by omega
  simp (disch := omega) only [go_sem, simprocAttr, he, n0]
  refine cnd_dec (fun h12 => ?_) (fun h12 => ?_)
  · simp (disch := omega) only [go_sem, simprocAttr, he]
    refine call_use (by rw [← hzD]; exact ins_S hc E hs hgD hab (by omega) (by omega)) ?_
    rintro r h ⟨hg1, hz1, hs⟩
    obtain ⟨p1, p2⟩ := insertionSort_holds (lt := lt) hO D a bb hab (by omega)
    obtain ⟨c1, c2⟩ := hC _ p1 p2
    simp (disch := omega) only [go_sem, simprocAttr]
    exact ⟨_, c1, c2, hg1, by omega, hs⟩
  have hle : ((lim : Int) == 0) = decide (lim = 0) := by
    by_cases hq : lim = 0
    · subst hq; rfl
    · simp [hq]
  simp (disch := omega) only [go_sem, simprocAttr, he, hle]
  refine cnd_bool (fun h0 => ?_) (fun h0 => ?_)
  · simp (disch := omega) only [go_sem, simprocAttr, he]
    refine call_use (by rw [← hzD]; exact heap_S hc E hs hgD hab (by omega) (by omega)) ?_
    rintro r h ⟨hg1, hz1, hs⟩
    obtain ⟨p1, p2⟩ := heapSort_holds (lt := lt) hO D a bb hab (by omega)
    obtain ⟨c1, c2⟩ := hC _ p1 p2
    simp (disch := omega) only [go_sem, simprocAttr]
    exact ⟨_, c1, c2, hg1, by omega, hs⟩
  have h0 : lim ≠ 0 := by simpa using h0
  simp (disch := omega) only [go_sem, simprocAttr, he]
  refine cnd_join (Q := fun e h => ∃ (D1 : Array (List AV)) (lim1 : Nat), PermIn a bb D D1 ∧ GA G D1 ∧ D1.size = d.size ∧ lim1 ≤ 64 ∧ sat h (pto b (.row 1 D1.toList cap) :: F) ∧
    (e 0 = .arr b 1 0 d.size cap ∧ e 1 = .int .i64 a ∧ e 2 = .int .i64 bb ∧ e 3 = .int .i64 lim1 ∧ e 8 = .bool wb ∧ e 9 = .bool wp ∧ e 10 = .int .i64 (bb - a : Nat))) ?_ ?_
  · cases wb
    · have ml : (lim : Int) - 1 = ((lim - 1 : Nat) : Int) := by omega
      simp (disch := omega) only [go_sem, simprocAttr, he]
      refine call_use (by rw [← hzD]; exact brk_S (cf := .nilp) E hs hgD (by omega) (by omega) (by omega)) ?_
      rintro r h ⟨D1, p1, hg1, hz1, hs⟩
      simp (disch := omega) only [go_sem, simprocAttr, he, ml]
      exact ⟨D1, lim - 1, p1, hg1, by omega, by omega, hs, rfl⟩
    · simp (disch := omega) only [go_sem, simprocAttr, he]
      exact ⟨D, lim, permIn_refl D a bb, hgD, hzD, hlim, hs, rfl⟩
  rintro e h ⟨D1, lim1, hp1, hg1, hz1, hlim1, hs, he⟩
  simp (disch := omega) only [go_sem, simprocAttr, he]
  refine call_use (by rw [← hz1]; exact piv_S hc E hs hg1 (by omega) (by omega) (by omega)) ?_
  rintro r h ⟨u, t, hr, hu1, hu2, ht, hs⟩
  subst hr
  simp (disch := omega) only [go_sem, simprocAttr, he]
  have hte : ((t : Int) == 2) = decide (t = 2) := by
    by_cases hq : t = 2
    · subst hq; rfl
    · simp [hq]; omega
  simp (disch := omega) only [go_sem, simprocAttr, hte]
  refine cnd_join (Q := fun e h => ∃ (D2 : Array (List AV)) (u t : Nat), PermIn a bb D D2 ∧ GA G D2 ∧ D2.size = d.size ∧ a ≤ u ∧ u < bb ∧ sat h (pto b (.row 1 D2.toList cap) :: F) ∧
    (e 0 = .arr b 1 0 d.size cap ∧ e 1 = .int .i64 a ∧ e 2 = .int .i64 bb ∧ e 3 = .int .i64 lim1 ∧ e 8 = .bool wb ∧ e 9 = .bool wp ∧ e 10 = .int .i64 (bb - a : Nat) ∧ e 11 = .int .i64 u ∧ e 12 = .int .i64 t)) ?_ ?_
  · refine cnd_bool (fun ht2 => ?_) (fun ht2 => ?_)
    · have q1 : (bb : Int) - 1 = ((bb - 1 : Nat) : Int) := by omega
      have q2 : (u : Int) - a = ((u - a : Nat) : Int) := by omega
      have q3 : ((bb - 1 : Nat) : Int) - ((u - a : Nat) : Int) = ((bb - 1 - (u - a) : Nat) : Int) := by omega
      simp (disch := omega) only [go_sem, simprocAttr, he]
      refine call_use (by rw [← hz1]; exact rev_S (cf := .nilp) E hs hg1 (by omega) (by omega) (by omega)) ?_
      rintro r h ⟨p2, hg2, hz2, hs⟩
      simp (disch := omega) only [go_sem, simprocAttr, he, q1, q2, q3]
      exact ⟨_, bb - 1 - (u - a), 1, permIn_trans _ _ _ _ _ hp1 p2, hg2, by omega, by omega, by omega, hs, rfl, rfl⟩
    · simp (disch := omega) only [go_sem, simprocAttr, he]
      exact ⟨D1, u, t, hp1, hg1, hz1, by omega, by omega, hs, rfl, rfl⟩
  rintro e h ⟨D2, u, t, hp2, hg2, hz2, hu1, hu2, hs, he⟩
  simp (disch := omega) only [go_sem, simprocAttr, he]
  refine cnd_join (Q := fun e h => ∃ (q : Bool) (v : AV) (w : Bool), (if q = true then v else AV.bool false) = .bool w ∧ sat h (pto b (.row 1 D2.toList cap) :: F) ∧ (e 0 = .arr b 1 0 d.size cap ∧ e 1 = .int .i64 a ∧ e 2 = .int .i64 bb ∧ e 3 = .int .i64 lim1 ∧ e 8 = .bool wb ∧ e 9 = .bool wp ∧ e 10 = .int .i64 (bb - a : Nat) ∧ e 11 = .int .i64 u ∧ e 12 = .int .i64 t ∧ e 62 = .bool q ∧ e 63 = v)) ?_ ?_
  · cases wb
    · simp (disch := omega) only [go_sem, simprocAttr, he]
      exact ⟨_, _, false, rfl, hs, rfl, rfl⟩
    · simp (disch := omega) only [go_sem, simprocAttr, he]
      exact ⟨_, _, wp, rfl, hs, rfl, rfl⟩
  rintro e h ⟨q, v, w, hq, hs, he⟩
  simp (disch := omega) only [go_sem, simprocAttr, he, hq]
  refine cnd_join (Q := fun e h => ∃ (q : Bool) (v : AV) (w : Bool), (if q = true then v else AV.bool false) = .bool w ∧ sat h (pto b (.row 1 D2.toList cap) :: F) ∧ (e 0 = .arr b 1 0 d.size cap ∧ e 1 = .int .i64 a ∧ e 2 = .int .i64 bb ∧ e 3 = .int .i64 lim1 ∧ e 8 = .bool wb ∧ e 9 = .bool wp ∧ e 10 = .int .i64 (bb - a : Nat) ∧ e 11 = .int .i64 u ∧ e 65 = .bool q ∧ e 67 = v)) ?_ ?_
  · cases w
    · simp (disch := omega) only [go_sem, simprocAttr, he]
      exact ⟨_, _, false, rfl, hs, rfl, rfl⟩
    · simp (disch := omega) only [go_sem, simprocAttr, he]
      exact ⟨_, _, _, rfl, hs, rfl, rfl⟩
  rintro e h ⟨q2, v2, w2, hq2, hs, he⟩
  simp (disch := omega) only [go_sem, simprocAttr, he, hq2]
  have hB2 : Below lt a bb D2 := Below.permA permIn_all (by omega) hB hp2
  refine cnd_join (Q := fun e h => ∃ D3 : Array (List AV), PermIn a bb D D3 ∧ GA G D3 ∧ D3.size = d.size ∧ sat h (pto b (.row 1 D3.toList cap) :: F) ∧ (e 0 = .arr b 1 0 d.size cap ∧ e 1 = .int .i64 a ∧ e 2 = .int .i64 bb ∧ e 3 = .int .i64 lim1 ∧ e 8 = .bool wb ∧ e 9 = .bool wp ∧ e 10 = .int .i64 (bb - a : Nat) ∧ e 11 = .int .i64 u)) ?_ ?_
  · cases w2
    · simp (disch := omega) only [go_sem, simprocAttr, he]
      exact ⟨D2, hp2, hg2, hz2, hs⟩
    · simp (disch := omega) only [go_sem, simprocAttr, he]
      refine call_use (by rw [← hz2]; exact par_S hc E hs hg2 (by omega) (by omega) (by omega)) ?_
      rintro r h ⟨hr, hg3, hz3, hs⟩
      subst hr
      obtain ⟨p1, p2⟩ := partialInsertionSort_holds (lt := lt) hO D2 a bb (by omega) (by omega) hB2
      have p3 := permIn_trans _ _ _ _ _ hp2 p1
      simp (disch := omega) only [go_sem, simprocAttr, he]
      refine cnd_bool (fun hd => ?_) (fun hd => ?_)
      · obtain ⟨c1, c2⟩ := hC _ p3 (p2 hd)
        simp (disch := omega) only [go_sem, simprocAttr, he]
        exact ⟨_, c1, c2, hg3, by omega, hs⟩
      · simp (disch := omega) only [go_sem, simprocAttr, he]
        exact ⟨_, p3, hg3, by omega, hs⟩
  rintro e h ⟨D3, hp3, hg3, hz3, hs, he⟩
  simp (disch := omega) only [go_sem, simprocAttr, he]
  refine cnd_join (Q := fun e h => ∃ (q : Bool) (v : AV) (w : Bool), (if q = true then v else AV.bool false) = .bool w ∧ w = (decide (0 < a) && !lt D3[a - 1]! D3[u]!) ∧ sat h (pto b (.row 1 D3.toList cap) :: F) ∧ (e 0 = .arr b 1 0 d.size cap ∧ e 1 = .int .i64 a ∧ e 2 = .int .i64 bb ∧ e 3 = .int .i64 lim1 ∧ e 8 = .bool wb ∧ e 9 = .bool wp ∧ e 10 = .int .i64 (bb - a : Nat) ∧ e 11 = .int .i64 u ∧ e 75 = .bool q ∧ e 86 = v)) ?_ ?_
  · refine cnd_dec (fun ha0 => ?_) (fun ha0 => ?_)
    · have m1 : (a : Int) - 1 = ((a - 1 : Nat) : Int) := by omega
      have r1 := rd_o E hg3 (i := a - 1) (by omega)
      have r2 := rd_o E hg3 (i := u) (by omega)
      simp (disch := omega) only [go_sem, simprocAttr, he, hs.at, r1, r2, m1]
      refine call_use (hc _ _ _ _ (hg3 _ (by omega)) (hg3 _ (by omega)) hs) ?_
      rintro r h ⟨hr, hs⟩
      subst hr
      simp (disch := omega) only [go_sem, simprocAttr, he, ha0]
      exact ⟨_, _, _, rfl, by rw [decide_eq_true (by omega), Bool.true_and], hs, rfl, rfl⟩
    · simp (disch := omega) only [go_sem, simprocAttr, he, ha0]
      exact ⟨_, _, _, rfl, by rw [decide_eq_false (by omega), Bool.false_and], hs, rfl, rfl⟩
  rintro e h ⟨q3, v3, w3, hq3, hw3, hs, he⟩
  simp (disch := omega) only [go_sem, simprocAttr, he, hq3]
  have hB3 : Below lt a bb D3 := Below.permA permIn_all (by omega) hB hp3
  have hC3 : ∀ R, PermIn a bb D3 R → SortedIn lt a bb R → PermIn a0 b0 d R ∧ SortedIn lt a0 b0 R := fun R h1 h2 => hC R (permIn_trans _ _ _ _ _ hp3 h1) h2
  refine cnd_bool (fun hw => ?_) (fun hw => ?_)
  · subst hw
    simp only [Bool.true_eq, Bool.and_eq_true, decide_eq_true_eq, Bool.not_eq_true'] at hw3
    simp (disch := omega) only [go_sem, simprocAttr, he]
    refine call_use (by rw [← hz3]; exact peq_S hc E hs hg3 hu1 hu2 (by omega) (by omega)) ?_
    rintro r h ⟨hr, hg4, hz4, hs⟩
    obtain ⟨mid, d4, hx⟩ : ∃ mid d4, partitionEqual lt D3 a bb u = (mid, d4) := ⟨_, _, rfl⟩
    rw [hx] at hr hg4 hz4 hs
    simp only at hr hg4 hz4 hs
    subst hr
    obtain ⟨e1, e2, e3, e4, e5⟩ := round_eq hO (partitionEqual_holds lt) hw3.1 hu1 hu2 (by omega) hB3 hw3.2 hx
    simp (disch := omega) only [go_sem, simprocAttr, he]
    exact ⟨bb - mid, by omega, mid, bb, lim1, wb, wp, d4, rfl, by omega, by omega, by omega, hlim1, e4, hg4, by omega, fun R h1 h2 => hC3 R (e5 R h1 h2).1 (e5 R h1 h2).2, hs, rfl, rfl, rfl, rfl, rfl⟩
  · simp (disch := omega) only [go_sem, simprocAttr, he]
    refine call_use (by rw [← hz3]; exact prt_S hc E hs hg3 hu1 hu2 (by omega) (by omega)) ?_
    rintro r h ⟨hr, hg4, hz4, hs⟩
    obtain ⟨mid, ap, d4, hx⟩ : ∃ mid ap d4, partition lt D3 a bb u = (mid, ap, d4) := ⟨_, _, _, rfl⟩
    rw [hx] at hr hg4 hz4 hs
    simp only at hr hg4 hz4 hs
    subst hr
    obtain ⟨e1, e2, e3, eL, eR, c1, c2⟩ := round_part hO (partition_holds lt) hu1 hu2 (by omega) hB3 hx
    have q1 : (mid : Int) - a = ((mid - a : Nat) : Int) := by omega
    have q2 : (bb : Int) - mid = ((bb - mid : Nat) : Int) := by omega
    have q3 : (mid : Int) + 1 = ((mid + 1 : Nat) : Int) := by omega
    have q4 : ((bb - a : Nat) : Int).tdiv 8 = (((bb - a) / 8 : Nat) : Int) := by rw [Int.tdiv_eq_ediv_of_nonneg (by omega)]; omega
    simp (disch := omega) only [go_sem, simprocAttr, he, q1, q2, q4]
    refine cnd_dec (fun hlt => ?_) (fun hge => ?_)
    · simp (disch := omega) only [go_sem, simprocAttr, he, q3]
      refine call_use (by rw [← hz3, ← e3]; exact ih (mid - a) (by omega) F _ d4 a mid lim1 b cap (Nat.le_refl _) hs hg4 e1 (by omega) (by omega) eL hlim1) ?_
      rintro r h ⟨R1, p1, s1, hg5, hz5, hs⟩
      obtain ⟨f1, f2⟩ := c1 R1 p1 s1
      simp (disch := omega) only [go_sem, simprocAttr, he, q3]
      exact ⟨bb - (mid + 1), by omega, mid + 1, bb, lim1, _, ap, R1, rfl, by omega, by omega, by omega, hlim1, f1, hg5, by omega, fun R h1 h2 => hC3 R (f2 R h1 h2).1 (f2 R h1 h2).2, hs, rfl, rfl, rfl, rfl, rfl⟩
    · simp (disch := omega) only [go_sem, simprocAttr, he, q3]
      refine call_use (by rw [← hz3, ← e3]; exact ih (bb - (mid + 1)) (by omega) F _ d4 (mid + 1) bb lim1 b cap (Nat.le_refl _) hs hg4 (by omega) (by omega) (by omega) eR hlim1) ?_
      rintro r h ⟨R1, p1, s1, hg5, hz5, hs⟩
      obtain ⟨f1, f2⟩ := c2 R1 p1 s1
      simp (disch := omega) only [go_sem, simprocAttr, he, q3]
      exact ⟨mid - a, by omega, a, mid, lim1, _, ap, R1, rfl, by omega, by omega, by omega, hlim1, f1, hg5, by omega, fun R h1 h2 => hC3 R (f2 R h1 h2).1 (f2 R h1 h2).2, hs, rfl, rfl, rfl, rfl, rfl⟩
end
end Go.Proofs.YtaioncbpfckhaaaGreat
/- slices.Sort, slices.Compact of strings. -/
set_option linter.unusedSimpArgs false
set_option linter.unusedVariables false
set_option maxRecDepth 10000
namespace Go.Proofs.YtaioncbpfckhaaaGreat
open Go.Hz Go.Sort

def keyS : List AV → Key
  | .str x :: _ => x
  | _ => []
def ltS (a b : List AV) : Bool := ltK (keyS a) (keyS b)
theorem swo_ltS : SWO ltS := ⟨fun x => ltK_irrefl _, fun x y z h1 h2 => ltK_trans h1 h2, fun x y z h1 h2 => by
  cases h : ltS x z with
  | false => rfl
  | true =>
    have := ltK_lt_of_lt_of_ge (a := keyS x) (b := keyS z) (c := keyS y) h h2
    rw [show ltK (keyS x) (keyS y) = ltS x y from rfl, h1] at this; cases this⟩
def GSt (c : List AV) : Prop := ∃ k : Key, c = [.str k]
theorem goodE_st : GoodE 1 false GSt where
  len := by rintro _ ⟨x, rfl⟩; rfl
  atoms := by rintro _ ⟨x, rfl⟩; rfl
  cells := by rintro _ ⟨x, rfl⟩; rfl
  pos := by omega
  one := fun _ => rfl
section
variable {h : Hp} {F : List Asr}
theorem nan_S {a : Key} (hs : sat h F) : Triple Tryz.prog 102 [.str a] h (fun r h => r = .bool false ∧ sat h F) := by
  refine t102 (Nat.le_of_ble_eq_true rfl) ?_
  simp (disch := omega) only [F102, go_sem, simprocAttr]
  exact hs
theorem less_S : LessT Tryz.prog false GSt ltS 88 := by
  rintro _ _ L h ⟨x, rfl⟩ ⟨y, rfl⟩ hs
  show Triple Tryz.prog _ [.str x, .str y] h _
  refine t88 (Nat.le_of_ble_eq_true rfl) ?_
  simp (disch := omega) only [F88, go_sem, simprocAttr]
  refine call_use (nan_S hs) ?_
  rintro r h ⟨hr, hs⟩
  subst hr
  simp (disch := omega) only [go_sem, simprocAttr]
  exact ⟨rfl, hs⟩
theorem insn_S (hs : sat h F) : Triple Tryz.prog 82 [.nils, .int .i64 0, .int .i64 0] h (fun r h => sat h F) := by
  refine t82 (Nat.le_of_ble_eq_true rfl) ?_
  simp (disch := omega) only [F82, go_sem, simprocAttr]
  refine run_loopN (fun n e h => sat h F ∧ (e 1 = .int .i64 0 ∧ e 2 = .int .i64 0 ∧ e 6 = .int .i64 1)) 0 ⟨hs, rfl, rfl, rfl⟩ ?_
  rintro n e h ⟨hs, he⟩
  simp (disch := omega) only [go_sem, simprocAttr, he]
  exact hs
theorem pdqn_S {lim : AV} (hs : sat h F) : Triple Tryz.prog 71 [.nils, .int .i64 0, .int .i64 0, lim] h (fun r h => sat h F) := by
  refine t71 (Nat.le_of_ble_eq_true rfl) ?_
  simp (disch := omega) only [F71, go_sem, simprocAttr]
  refine run_loopN (fun n e h => sat h F ∧ (e 0 = .nils ∧ e 1 = .int .i64 0 ∧ e 2 = .int .i64 0)) 0 ⟨hs, rfl, rfl, rfl⟩ ?_
  rintro n e h ⟨hs, he⟩
  have z0 : decide ((0:Int) - 0 ≤ 12) = true := rfl
  simp (disch := omega) only [go_sem, simprocAttr, he, z0]
  refine call_use (insn_S hs) ?_
  intro r h hs
  simp (disch := omega) only [go_sem, simprocAttr]
  exact hs
theorem ga_strs {l : List Key} : GA GSt (l.map fun k => [AV.str k]).toArray := by
  intro i hi
  have hi : i < l.length := by simpa using hi
  exact ⟨l[i], by simp [hi]⟩
/-- slices.Sort. -/
theorem sort_S {v : AV} {ks : List Key} (hs : sat h (Ow 1 v (ks.map fun k => [.str k]) :: F)) (hz : ks.length ≤ 100000000) : Triple Tryz.prog 52 [v] h (fun r h => ∃ ks' : List Key, ks'.Perm ks ∧ ks'.Pairwise (fun a b => ltK b a = false) ∧ sat h (Ow 1 v (ks'.map fun k => [.str k]) :: F)) := by
  rcases hs.cases with ⟨rfl, hn, h2⟩ | ⟨b, cap, rfl, h2, hle⟩
  · have : ks = [] := by simpa using hn
    subst this
    refine t52 (Nat.le_of_ble_eq_true rfl) ?_
    simp (disch := omega) only [F52, go_sem, simprocAttr]
    refine call_use (len0 (n := 0) h2 (by omega)) ?_
    rintro r h ⟨t, hr, h1, h2, h3, hs⟩
    subst hr
    simp (disch := omega) only [go_sem, simprocAttr]
    refine call_use (pdqn_S hs) ?_
    intro r h hs
    simp (disch := omega) only [go_sem, simprocAttr]
    exact ⟨[], .refl _, .nil, hs.add ow_nil⟩
  · have hsz : (ks.map fun k => [AV.str k]).toArray.size = ks.length := by simp
    have hll : (ks.map fun k => [AV.str k]).length = ks.length := by simp
    rw [hll] at hle ⊢
    have w1 := wu64 (n := ks.length) (by omega)
    refine t52 (Nat.le_of_ble_eq_true rfl) ?_
    simp (disch := omega) only [F52, w1, go_sem, simprocAttr]
    refine call_use (len0 h2 (by omega)) ?_
    rintro r h ⟨t, hr, h1, _, h3, hs⟩
    subst hr
    simp (disch := omega) only [go_sem, simprocAttr]
    have hp := pdq_S less_S goodE_st swo_ltS _ F h (ks.map fun k => [AV.str k]).toArray 0 ks.length t b cap (Nat.le_refl _) (by simpa using hs) ga_strs (Nat.zero_le _) (by simp) (by simp; omega) (.inl rfl) (by omega)
    rw [hsz] at hp
    refine call_use hp ?_
    rintro r h ⟨R, p1, p2, p3, p4, hs⟩
    simp (disch := omega) only [go_sem, simprocAttr]
    have hR : ∃ ks' : List Key, R.toList = ks'.map fun k => [AV.str k] := by
      have : ∀ x ∈ R.toList, GSt x := by
        intro x hx
        obtain ⟨i, hi, rfl⟩ := List.getElem_of_mem hx
        have := p3 i (by simpa using hi)
        simpa [getElem!_pos R i (by simpa using hi)] using this
      generalize R.toList = l at this
      induction l with
      | nil => exact ⟨[], rfl⟩
      | cons x l ih =>
        obtain ⟨l', hl'⟩ := ih fun y hy => this y (List.mem_cons_of_mem _ hy)
        obtain ⟨k, hk⟩ := this x (by simp)
        exact ⟨k :: l', by rw [hl', hk]; rfl⟩
    obtain ⟨ks', hks⟩ := hR
    have q1 : R.toList.Perm (ks.map fun k => [AV.str k]) := by
      have := p1.2.2
      have e1 : R.extract 0 ks.length = R := by rw [show ks.length = R.size from p4.symm]; simp
      have e2 : (ks.map fun k => [AV.str k]).toArray.extract 0 ks.length = (ks.map fun k => [AV.str k]).toArray := by
        simp [List.take_of_length_le]
      rw [e1, e2] at this
      exact this
    have q2 : R.toList.Pairwise (fun a b => ltS b a = false) := by
      rw [List.pairwise_iff_getElem]
      intro i j hi hj hij
      have hj' : j < R.size := by simpa using hj
      have hi' : i < R.size := by simpa using hi
      have := p2 i j (Nat.zero_le _) hij (by rw [← p4]; exact hj')
      simpa [getElem!_pos R i hi', getElem!_pos R j hj'] using this
    rw [hks] at q1 q2 hs
    refine ⟨ks', ?_, ?_, ?_⟩
    · have := q1.map keyS
      simpa [Function.comp_def, keyS] using this
    · rw [List.pairwise_map] at q2
      exact q2
    · have hl5 : ks'.length = ks.length := by have := q1.length_eq; simpa using this
      have := hs.ow (by simp; omega)
      simpa [hl5] using this
/-- Rising: of what stands there, each once. -/
theorem srtS_app {R : List Key} {y x : Key} {k : Nat} (hR : SrtS R) (hk : k + 1 = R.length) (hy : R[k]? = some y) (hx : ltK y x = true) : SrtS (R ++ [x]) := by
  refine List.pairwise_append.2 ⟨hR, List.pairwise_singleton _ _, fun a ha b hb => ?_⟩
  simp at hb; subst hb
  obtain ⟨m, hm, rfl⟩ := List.getElem_of_mem ha
  have hk2 : k < R.length := by omega
  rw [List.getElem?_eq_getElem hk2] at hy
  cases hy
  by_cases hmk : m = k
  · subst hmk; exact hx
  · exact ltK_trans (List.pairwise_iff_getElem.1 hR m k hm hk2 (by omega)) hx
theorem comp_S {v : AV} {ks : List Key} (hs : sat h (Ow 1 v (ks.map fun k => [.str k]) :: F)) (hk : ks.Pairwise fun a b => ltK b a = false) (hz : ks.length ≤ 100000000) : Triple Tryz.prog 53 [v] h (fun r h => ∃ R : List Key, SrtS R ∧ (∀ x, x ∈ R ↔ x ∈ ks) ∧ R.length ≤ ks.length ∧ r = .lst (R.map fun k => [.str k]) ∧ sat h F) := by
  refine Triple.view ?_
  have fin : ∀ {h : Hp}, sat h (Ow 1 v (ks.map fun k => [.str k]) :: F) → SrtS ks → ∃ r' h'', GV v h r' h'' ∧ ∃ R : List Key, SrtS R ∧ (∀ x, x ∈ R ↔ x ∈ ks) ∧ R.length ≤ ks.length ∧ r' = .lst (R.map fun k => [.str k]) ∧ sat h'' F := by
    intro h hs h1
    obtain ⟨h', g, hs'⟩ := hs.view
    exact ⟨_, h', g, ks, h1, fun _ => Iff.rfl, Nat.le_refl _, rfl, hs'⟩
  have hlv := hs.els.len
  rw [List.length_map] at hlv
  refine t53 (Nat.le_of_ble_eq_true rfl) ?_
  simp (disch := omega) only [F53, hlv, go_sem, simprocAttr]
  refine cnd_dec (fun h1 => ?_) (fun h1 => ?_)
  · simp (disch := omega) only [go_sem, simprocAttr]
    refine fin hs ?_
    match ks, h1 with
    | [], _ => exact .nil
    | [k], _ => exact List.pairwise_singleton _ _
    | a :: b :: l, h1 => exact absurd h1 (by simp; omega)
  rcases hs.cases with ⟨_, hn, _⟩ | ⟨b, cap, rfl, h2, hle⟩
  · have : ks = [] := by simpa using hn
    subst this
    exact absurd (show ((([] : List Key).length : Nat) : Int) < 2 by simp) h1
  have hll : (ks.map fun k => [AV.str k]).length = ks.length := by simp
  simp only [hll] at hle fin ⊢
  simp (disch := omega) only [go_sem, simprocAttr]
  refine run_loopN (fun n e h => ∃ i : Nat, n = ks.length - i ∧ 1 ≤ i ∧ i ≤ ks.length ∧ SrtS (ks.take i) ∧ sat h (pto b (.row 1 (ks.map fun k => [.str k]) cap) :: F) ∧ (e 0 = .arr b 1 0 ks.length cap ∧ e 3 = .int .i64 i)) (ks.length - 1) ⟨1, rfl, Nat.le_refl _, by omega, ?_, h2, rfl, rfl⟩ ?_
  · cases ks with
    | nil => exact .nil
    | cons k l => exact List.pairwise_singleton _ _
  clear hs h2
  rintro n e h ⟨i, rfl, hi1, hi2, hsr, hs, he⟩
  have hb := hs.at
  have m1 : (i : Int) + 1 = ((i + 1 : Nat) : Int) := by omega
  have m2 : (i : Int) - 1 = ((i - 1 : Nat) : Int) := by omega
  simp (disch := omega) only [go_sem, simprocAttr, he]
  refine cnd_dec (fun h3 => ?_) (fun h3 => ?_)
  · have hi : i < ks.length := by omega
    have hr1 : (ks.map fun k => [AV.str k])[i]? = some [.str ks[i]] := by simp [hi]
    have hr2 : (ks.map fun k => [AV.str k])[i - 1]? = some [.str (ks[i - 1]'(by omega))] := by rw [List.getElem?_map, List.getElem?_eq_getElem (by omega)]; rfl
    by_cases hq : ks[i] = ks[i - 1]'(by omega)
    · have eq : (ks[i] == ks[i - 1]'(by omega)) = true := by simpa using hq
      simp (disch := omega) only [go_sem, simprocAttr, he, hb, hr1, hr2, m2, Int.toNat_natCast, eq]
      have hsl := slcL_lo (s := 1) (b := b) (off := 0) (len := ks.length) (cap := cap) (k1 := .i64) (x := (i : Int)) (by omega) (by omega) hle
      rw [Int.toNat_natCast, Nat.zero_add] at hsl
      simp (disch := omega) only [go_sem, simprocAttr, hsl]
      refine blk_join (Q := fun e h => ∃ (k : Nat) (es : List Key), es.length = ks.length ∧ k ≤ ks.length ∧ SrtS (es.take k) ∧ (∀ x, x ∈ es.take k ↔ x ∈ ks) ∧ sat h (pto b (.row 1 (es.map fun k => [.str k]) cap) :: F) ∧ (e 0 = .arr b 1 0 ks.length cap ∧ e 3 = .int .i64 k)) ?_ ?_
      · refine run_loopN (fun n e h => ∃ (j k : Nat) (es : List Key), n = ks.length - i - j ∧ 1 ≤ j ∧ i + j ≤ ks.length ∧ es.length = ks.length ∧ 1 ≤ k ∧ k + 1 ≤ i + j ∧ SrtS (es.take k) ∧ (∀ x, x ∈ es.take k ↔ x ∈ ks.take (i + j)) ∧ es[k - 1]? = ks[i + j - 1]? ∧ (∀ m, i + j ≤ m + 1 → es[m]? = ks[m]?) ∧ sat h (pto b (.row 1 (es.map fun k => [.str k]) cap) :: F) ∧
          (e 0 = .arr b 1 0 ks.length cap ∧ e 3 = .int .i64 k ∧ e 4 = .arr b 1 i (ks.length - i) (cap - i) ∧ e 5 = .int .i64 j)) (ks.length - i - 1)
          ⟨1, i, ks, rfl, Nat.le_refl _, by omega, rfl, hi1, Nat.le_refl _, hsr, ?_, ?_, fun m _ => rfl, hs, he.1, he.2, rfl, rfl⟩ ?_
        · intro x
          rw [List.take_succ_eq_append_getElem hi, List.mem_append]
          constructor
          · exact fun h => .inl h
          · rintro (h | h)
            · exact h
            · simp at h; subst h
              rw [hq, List.mem_take_iff_getElem]
              exact ⟨i - 1, by omega, rfl⟩
        · rw [show i + 1 - 1 = i by omega, List.getElem?_eq_getElem (by omega), List.getElem?_eq_getElem hi, hq]
        clear hs he hb
        rintro n e h ⟨j, k, es, rfl, j1, j2, hel, k1, k2, hR, hmem, hlast, hrest, hs, he⟩
        have hb := hs.at
        have mj : (j : Int) + 1 = ((j + 1 : Nat) : Int) := by omega
        have mj2 : (j : Int) - 1 = ((j - 1 : Nat) : Int) := by omega
        have mk : (k : Int) + 1 = ((k + 1 : Nat) : Int) := by omega
        simp (disch := omega) only [go_sem, simprocAttr, he]
        refine cnd_dec (fun h4 => ?_) (fun h4 => ?_)
        · have hij : i + j < ks.length := by omega
          have r1 : (es.map fun k => [AV.str k])[i + j]? = some [.str ks[i + j]] := by rw [List.getElem?_map, hrest _ (by omega), List.getElem?_eq_getElem hij]; rfl
          have r2 : (es.map fun k => [AV.str k])[i + (j - 1)]? = some [.str (ks[i + j - 1]'(by omega))] := by
            rw [List.getElem?_map, hrest _ (by omega), show i + (j - 1) = i + j - 1 by omega, List.getElem?_eq_getElem (by omega)]; rfl
          have hkk : k < es.length := by omega
          have rk : (es.map fun k => [AV.str k])[k]? = some [.str es[k]] := by rw [List.getElem?_map, List.getElem?_eq_getElem hkk]; rfl
          have tk : ks.take (i + (j + 1)) = ks.take (i + j) ++ [ks[i + j]] := List.take_succ_eq_append_getElem hij
          by_cases hq2 : ks[i + j] = ks[i + j - 1]'(by omega)
          · have eq2 : (ks[i + j] != ks[i + j - 1]'(by omega)) = false := by simpa using hq2
            simp (disch := omega) only [go_sem, simprocAttr, he, hb, r1, r2, mj2, Int.toNat_natCast, eq2, mj]
            refine ⟨ks.length - i - (j + 1), by omega, j + 1, k, es, rfl, by omega, by omega, hel, k1, by omega, hR, ?_, ?_, fun m hm => hrest m (by omega), hs, rfl, rfl⟩
            · intro x
              rw [tk, List.mem_append, ← hmem]
              constructor
              · exact fun h => .inl h
              · rintro (h | h)
                · exact h
                · simp at h; subst h
                  rw [hq2, hmem, List.mem_take_iff_getElem]
                  exact ⟨i + j - 1, by omega, rfl⟩
            · rw [hlast, show i + (j + 1) - 1 = i + j by omega, List.getElem?_eq_getElem (by omega), List.getElem?_eq_getElem hij, hq2]
          · have eq2 : (ks[i + j] != ks[i + j - 1]'(by omega)) = true := by simpa using hq2
            simp (disch := omega) only [go_sem, simprocAttr, he, hb, r1, r2, rk, mj2, Int.toNat_natCast, eq2, mj, mk]
            have hlt : ltK (ks[i + j - 1]'(by omega)) ks[i + j] = true := by
              have hnd := List.pairwise_iff_getElem.1 hk (i + j - 1) (i + j) (by omega) hij (by omega)
              cases hl : ltK (ks[i + j - 1]'(by omega)) ks[i + j] with
              | true => rfl
              | false => exact absurd (ltK_total hnd hl) hq2
            have hst : (es.set k ks[i + j]).take (k + 1) = es.take k ++ [ks[i + j]] := by
              rw [List.take_succ_eq_append_getElem (by simpa using hkk), List.take_set_of_le (Nat.le_refl _), List.getElem_set_self]
            refine ⟨ks.length - i - (j + 1), by omega, j + 1, k + 1, es.set k ks[i + j], rfl, by omega, by omega, by simpa using hel, by omega, by omega, ?_, ?_, ?_, ?_, ?_, rfl, rfl⟩
            · rw [hst]
              refine srtS_app (k := k - 1) (y := ks[i + j - 1]'(by omega)) hR (by rw [List.length_take]; omega) ?_ hlt
              rw [List.getElem?_take, if_pos (by omega), hlast, List.getElem?_eq_getElem (by omega)]
            · intro x
              rw [hst, tk, List.mem_append, List.mem_append, hmem]
            · rw [show k + 1 - 1 = k by omega, List.getElem?_set_self hkk, show i + (j + 1) - 1 = i + j by omega, List.getElem?_eq_getElem hij]
            · intro m hm
              rw [List.getElem?_set_ne (by omega)]
              exact hrest m (by omega)
            · have := hs.set (o' := .row 1 ((es.set k ks[i + j]).map fun k => [.str k]) cap)
              simpa [List.map_set] using this
        · have hij : i + j = ks.length := by omega
          rw [hij, List.take_length] at hmem
          simp (disch := omega) only [go_sem, simprocAttr, he]
          exact ⟨k, es, hel, by omega, hR, hmem, hs, rfl⟩
      clear hs he hb
      rintro e h ⟨k, es, hel, hkl, hR, hmem, hs, he⟩
      have hsl := slcL_lo (s := 1) (b := b) (off := 0) (len := ks.length) (cap := cap) (k1 := .i64) (x := (k : Int)) (by omega) (by omega) hle
      have hsh := slcL_hi (s := 1) (b := b) (off := 0) (len := ks.length) (cap := cap) (k2 := .i64) (y := (k : Int)) (by omega) (by omega) hle
      rw [Int.toNat_natCast] at hsl hsh
      simp (disch := omega) only [go_sem, simprocAttr, he, hsl]
      refine clr_use hs (by simp; omega) (by omega) fun h hs => ?_
      simp (disch := omega) only [go_sem, simprocAttr, he, hsh]
      have ht : ((List.take k (es.map fun k => [AV.str k]) ++ List.replicate (ks.length - k) [AV.str []] ++ List.drop (k + (ks.length - k)) (es.map fun k => [AV.str k])).take k) = (es.take k).map fun k => [AV.str k] := by
        rw [List.append_assoc, List.take_append_of_le_length (by simp; omega), List.take_take, Nat.min_self, List.map_take]
      have hs3 := hs.set (o' := .row 1 ((es.take k).map fun k => [AV.str k]) cap)
      have g1 := GV.trim (.arr b 1 0 k cap) k hs.at
      rw [ht] at g1
      refine ⟨_, _, g1.trans (GV.arr hs3.at (by simp; omega) (by omega)), es.take k, hR, hmem, by rw [List.length_take]; omega, rfl, hs3.del⟩
    · have eq : (ks[i] == ks[i - 1]'(by omega)) = false := by simpa using hq
      simp (disch := omega) only [go_sem, simprocAttr, he, hb, hr1, hr2, m2, Int.toNat_natCast, eq, m1]
      refine ⟨ks.length - (i + 1), by omega, i + 1, rfl, by omega, by omega, ?_, hs, rfl⟩
      have hlt : ltK (ks[i - 1]'(by omega)) ks[i] = true := by
        have hnd := List.pairwise_iff_getElem.1 hk (i - 1) i (by omega) hi (by omega)
        cases hl : ltK (ks[i - 1]'(by omega)) ks[i] with
        | true => rfl
        | false => exact absurd (ltK_total hnd hl) hq
      rw [List.take_succ_eq_append_getElem hi]
      refine srtS_app (k := i - 1) (y := ks[i - 1]'(by omega)) hsr (by rw [List.length_take]; omega) ?_ hlt
      rw [List.getElem?_take, if_pos (by omega), List.getElem?_eq_getElem (by omega)]
  · have hi : i = ks.length := by omega
    subst hi
    rw [List.take_length] at hsr
    simp (disch := omega) only [go_sem, simprocAttr, he]
    have := hs.ow (by simpa using hle)
    rw [hll] at this
    exact fin this hsr
end
end Go.Proofs.YtaioncbpfckhaaaGreat
/- The store: the keys that a write sees. -/
set_option linter.unusedSimpArgs false
set_option linter.unusedVariables false
set_option maxRecDepth 10000
namespace Go.Proofs.YtaioncbpfckhaaaGreat
open Go.Hz

section
variable {h : Hp} {F : List Asr} {s w : Nat} {A : Sto} {o : AV} {W : Wr}
def kvKey (e : AV × AV × Nat) : Key := match e.1 with | .str k => k | _ => []
/-- The keys of a range that there were ever, or that are changed. -/
def WKeys (A : Sto) (W : Wr) (lo hi : Key) (ks : List Key) : Prop := SrtS ks ∧ ks.length ≤ A.old.length + A.chs.length + W.l.length + 1 ∧ if hi = [] then ks = [lo] else ∀ k, k ∈ ks ↔ (A.vers k ≠ [] ∨ wChg W k = true) ∧ inR lo hi k = true

theorem mvWKeys {lo hi : Key} (hs : sat h (WtP w s A W :: StP s A o :: F)) (hz : A.old.length + A.chs.length + W.l.length ≤ 90000000) : Triple Tryz.prog 31 [.ptr w 4 0 0, .str lo, .str hi] h (fun r h => ∃ ks, WKeys A W lo hi ks ∧ r = strsV ks ∧ sat h (WtP w s A W :: StP s A o :: F)) := by
  obtain ⟨lv, bm, hw, hs1⟩ := wrP.1 hs
  have hp := hs1.at
  refine t31 (Nat.le_of_ble_eq_true rfl) ?_
  simp (disch := omega) only [F31, hp, go_sem, simprocAttr]
  refine call_use (mvKeys (lo := lo) (hi := hi) hs1.p2.p2.p2.p3 (by omega)) ?_
  rintro v h ⟨ks0, hk, hs⟩
  have tail : ∀ {h : Hp} {v : AV} {ks1 : List Key} {F' : List Asr}, True := trivial
  by_cases hh : hi = []
  · subst hh
    have e0 : (([] : List UInt8) != []) = false := rfl
    have hk0 := hk.2.2
    rw [if_pos rfl] at hk0
    subst hk0
    simp (disch := omega) only [go_sem, simprocAttr, e0]
    refine call_use (sort_S hs (by simp)) ?_
    rintro r h ⟨ks', p1, p2, hs⟩
    simp (disch := omega) only [go_sem, simprocAttr]
    refine call_use (comp_S hs p2 (by rw [p1.length_eq]; simp)) ?_
    rintro r h ⟨R, r1, r2, r3, hr, hs⟩
    subst hr
    simp (disch := omega) only [go_sem, simprocAttr]
    refine ⟨R, ⟨r1, by have := p1.length_eq; simp at this; omega, ?_⟩, rfl, wrP.2 ⟨lv, bm, hw, hs.p3.p3.p3⟩⟩
    rw [if_pos rfl]
    refine srts_ext r1 (List.pairwise_singleton _ _) fun x => ?_
    rw [r2, p1.mem_iff]
  · have e0 : (hi != []) = true := by simpa using hh
    have hk0 := hk.2.2
    rw [if_neg hh] at hk0
    obtain ⟨pl, c, ⟨q1, q2, q3⟩, hs⟩ := mpA.1 hs.p3.p3.p3.p3.p4
    have hp := hs.p3.at
    simp (disch := omega) only [go_sem, simprocAttr, e0, hp]
    refine rng_use hs fun q h hs => ?_
    simp (disch := omega) only [go_sem, simprocAttr]
    generalize hkvs : kvOf (fun k : Key => AV.str k) Ch.key (chV tp td) pl = kvs at hs
    have hx0 : ∀ x ∈ kvs, ∃ p ∈ pl, x = (.str p.1.key, chV tp td p.1, p.2) := by
      intro x hx
      rw [← hkvs] at hx
      obtain ⟨p, hp, rfl⟩ := List.mem_map.1 hx
      exact ⟨p, hp, rfl⟩
    have hlenK : kvs.length = W.l.length := by rw [← hkvs, kvOf, List.length_map, ← q1.length_eq, List.length_map]
    have hc : ∀ x ∈ kvs, x.2.2 < c := fun x hx => by obtain ⟨p, hp, rfl⟩ := hx0 x hx; exact q3 p hp
    have hn : (kvs.map (·.2.2)).Nodup := by rw [← hkvs]; simpa [kvOf, Function.comp_def] using q2
    refine blk_join (Q := fun e h => ∃ (v : AV) (ex : List Key), ex.Perm (W.l.map Ch.key) ∧ sat h (Ow 1 v ((ks0 ++ ex.filter (inR lo hi)).map fun k => [.str k]) :: WtP w s A W :: StP s A o :: F) ∧ (e 7 = v)) ?_ ?_
    · refine run_loopN (fun k e h => ∃ es rest, k = rest.length ∧ (es ++ rest).Perm kvs ∧ sat h (pto q (.itr (some bm) c (es.map (·.2.2)) c) :: pto bm (.mp kvs c) :: Ow 1 (e 7) ((ks0 ++ (es.map kvKey).filter (inR lo hi)).map fun k => [.str k]) :: StP s A o :: pto w (.row 4 [[.ptr s 7 0 0, lv, .map bm, .int .i64 W.cur.length]] 1) :: Ow 1 lv (W.l.map fun c => [chV tp td c]) :: F) ∧
        (e 1 = .str lo ∧ e 2 = .str hi ∧ e 22 = .ptr q 1 0 0)) kvs.length ⟨[], kvs, rfl, .refl _, by simpa [Env.upd_apply] using hs, rfl, rfl, rfl⟩ ?_
      clear hs hp
      rintro k e h ⟨es, rest, rfl, hpm, hs, he⟩
      simp (disch := omega) only [go_sem, simprocAttr, he]
      refine nxt_use hs (Nat.le_refl _) hc (fun x hx hns h hs => ?_) (fun hall => ?_)
      · obtain ⟨p, hp, rfl⟩ := hx0 x hx
        obtain ⟨rest', r1, r2⟩ := rng_step hpm hx hns
        have hen := ent_at hs hx hn
        have hel : es.length ≤ kvs.length := by have := r1.length_eq; simp at this; omega
        simp (disch := omega) only [go_sem, simprocAttr, he]
        rw [hen]
        simp (disch := omega) only [go_sem, simprocAttr, he]
        have hsnoc : ((es ++ [((AV.str p.1.key, chV tp td p.1, p.2) : AV × AV × Nat)]).map kvKey).filter (inR lo hi) = (es.map kvKey).filter (inR lo hi) ++ [p.1.key].filter (inR lo hi) := by
          rw [List.map_append, List.filter_append]; rfl
        have hfl : ((es.map kvKey).filter (inR lo hi)).length ≤ kvs.length := Nat.le_trans (List.length_filter_le _ _) (by simpa using hel)
        have hk1 := hk.2.1
        cases b1 : Op.bytesLess p.1.key lo with
        | true =>
          have hin : inR lo hi p.1.key = false := by show (!(Op.bytesLess p.1.key lo) && _) = false; rw [b1]; rfl
          simp (disch := omega) only [go_sem, simprocAttr, he, b1]
          refine ⟨rest'.length, by omega, es ++ [(AV.str p.1.key, chV tp td p.1, p.2)], rest', rfl, r1, ?_⟩
          rw [hsnoc, List.filter_cons_of_neg (by simp [hin]), List.filter_nil, List.append_nil]
          simpa using hs
        | false =>
          cases b2 : Op.bytesLess p.1.key hi with
          | false =>
            have hin : inR lo hi p.1.key = false := by show (!(Op.bytesLess p.1.key lo) && (hi == [] || Op.bytesLess p.1.key hi)) = false; rw [b1, b2]; simpa using hh
            simp (disch := omega) only [go_sem, simprocAttr, he, b1, b2]
            refine ⟨rest'.length, by omega, es ++ [(AV.str p.1.key, chV tp td p.1, p.2)], rest', rfl, r1, ?_⟩
            rw [hsnoc, List.filter_cons_of_neg (by simp [hin]), List.filter_nil, List.append_nil]
            simpa using hs
          | true =>
            have hin : inR lo hi p.1.key = true := by show (!(Op.bytesLess p.1.key lo) && (hi == [] || Op.bytesLess p.1.key hi)) = true; rw [b1, b2]; simp
            simp (disch := omega) only [go_sem, simprocAttr, he, b1, b2]
            refine new_opq hs fun a h hs => ?_
            simp (disch := omega) only [go_sem, simprocAttr]
            refine app_sat hs.p3 (src_one hs.at) (atoms_one (by simp [AV.isAtom])) (by simp only [List.length_map, List.length_append, List.length_cons, List.length_nil]; omega) fun v' h hs ca aa => ?_
            simp (disch := omega) only [go_sem, simprocAttr, he]
            refine ⟨rest'.length, by omega, es ++ [(AV.str p.1.key, chV tp td p.1, p.2)], rest', rfl, r1, ?_⟩
            rw [hsnoc, List.filter_cons_of_pos hin, List.filter_nil]
            simpa using hs.p1.drop.p5.p5.p5.p3.p5.p5
      · have r1 := rng_end hpm hn hall
        simp (disch := omega) only [go_sem, simprocAttr]
        refine ⟨e 7, es.map kvKey, ?_, ?_⟩
        · refine (r1.map kvKey).trans ?_
          rw [← hkvs]
          have := q1.map Ch.key
          simpa [kvOf, Function.comp_def, kvKey] using this
        · have hs6 := hs.drop.p4.p4.p4.p4.p4
          rw [← hkvs] at hs6
          have hm : sat h (MpA (fun k : Key => AV.str k) Ch.key (chV tp td) bm W.l :: _) := mpA.2 ⟨pl, c, ⟨q1, q2, q3⟩, hs6⟩
          have hm2 := hm.p2.p2.p2.p4.p4
          have hm3 : sat h (WtP w s A W :: Ow 1 (e 7) ((ks0 ++ (es.map kvKey).filter (inR lo hi)).map fun k => [.str k]) :: StP s A o :: F) := wrP.2 ⟨lv, bm, hw, hm2⟩
          exact ⟨hm3.p1, rfl⟩
    clear hs hp
    rintro e h ⟨v, ex, hex, hs, he⟩
    have hk1 := hk.2.1
    have hexl : (ex.filter (inR lo hi)).length ≤ W.l.length := by
      have := hex.length_eq
      rw [List.length_map] at this
      exact this ▸ List.length_filter_le _ _
    simp (disch := omega) only [go_sem, simprocAttr, he]
    refine call_use (sort_S hs (by rw [List.length_append]; omega)) ?_
    rintro r h ⟨ks', p1, p2, hs⟩
    simp (disch := omega) only [go_sem, simprocAttr, he]
    have hpl := p1.length_eq
    rw [List.length_append] at hpl
    refine call_use (comp_S hs p2 (by omega)) ?_
    rintro r h ⟨R, r1, r2, r3, hr, hs⟩
    subst hr
    simp (disch := omega) only [go_sem, simprocAttr]
    refine ⟨R, ⟨r1, by omega, ?_⟩, rfl, hs⟩
    rw [if_neg hh]
    intro k
    rw [r2, p1.mem_iff, List.mem_append, hk0, List.mem_filter, hex.mem_iff]
    have hch : k ∈ W.l.map Ch.key ↔ wChg W k = true := by
      rw [List.mem_map, wChg, List.any_eq_true]
      simp
    rw [hch]
    constructor
    · rintro (⟨h1, h2⟩ | ⟨h1, h2⟩)
      · exact ⟨.inl h1, h2⟩
      · exact ⟨.inr h1, h2⟩
    · rintro ⟨h1 | h1, h2⟩
      · exact .inl ⟨h1, h2⟩
      · exact .inr ⟨h1, h2⟩
end
end Go.Proofs.YtaioncbpfckhaaaGreat
/- The store: a change is taken in; a write is done. -/
set_option linter.unusedSimpArgs false
set_option linter.unusedVariables false
set_option maxRecDepth 10000
namespace Go.Proofs.YtaioncbpfckhaaaGreat
open Go.Hz

section
variable {h : Hp} {F : List Asr} {s w : Nat} {A : Sto} {o : AV} {W : Wr} {n : Int}
theorem mvNoteG {v : Ver} (hs : sat h (MvN tp td s n A o :: F)) (hvr : inI v.rev) (hz : A.old.length + A.chs.length ≤ 90000000) : Triple Tryz.prog 38 [.ptr s 7 0 0, .agg (verC tp td v)] h (fun r h => ∃ ix vm cv L X, (StoOK (A.snoc v) → StoOK (A.snoc v) ∧ IxOK (A.snoc v) L ∧ VmOK (A.snoc v) X) ∧ sat h (MvLn tp td s ix vm cv o n (A.snoc v) L X ++ F)) := by
  obtain ⟨ix, vm, cv, L, X, hok, hs2⟩ := mvN.1 hs
  have hix := fun ok' : StoOK (A.snoc v) => ix_snoc ok' hok.2.1
  have ca := chV_atom (tp := tp) (td := td) v.c
  have cc := chV_cells (tp := tp) (td := td) v.c
  have e1 : (A.snoc v).rev = A.rev := rfl
  have e2 : (A.snoc v).past = A.past := rfl
  obtain ⟨kv, hta⟩ : ∃ kv : Kv, taA tp true (.agg [.str [], .str [], .int .i64 0, .int .i64 0, .int .i64 0, .int .i64 0]) (chV tp td v.c) = some (.tup [.agg (kvC kv), .bool v.c.kv.isSome]) := by
    cases v.c with
    | put kv => exact ⟨kv, rfl⟩
    | del k => exact ⟨kv0, rfl⟩
  have hta2 : taA 92 true (.agg [.str [], .str [], .int .i64 0, .int .i64 0, .int .i64 0, .int .i64 0]) (chV tp td v.c) = some (.tup [.agg (kvC kv), .bool v.c.kv.isSome]) := hta
  refine t38 (Nat.le_of_ble_eq_true rfl) ?_
  simp (disch := omega) only [F38, verC, ca, go_sem, simprocAttr]
  refine new_opq hs2 fun a h hs => ?_
  have ha := hs.at
  simp (disch := omega) only [go_sem, simprocAttr, ha, hta2, verC]
  refine new_opq hs fun b h hs => ?_
  have hb := hs.at
  have hs3 := hs.set (o' := .row 6 [kvC kv] 1)
  have ha := hs3.p1.at
  have hp := hs3.p2.at
  simp only [kvC, verC] at hs3 ha hp
  simp (disch := omega) only [go_sem, simprocAttr, hb, kvC, ha, hp]
  generalize Hp.set h b _ = h3 at hs3 ha hp ⊢
  refine inv_key hs3 v.c fun h hs => ?_
  have ha := hs.p1.at
  have hp := hs.p2.at
  simp (disch := omega) only [go_sem, simprocAttr, ha, hp]
  have hb1 : (!v.c.kv.isSome) = (mkV v).2 := by show _ = v.c.kv.isNone; cases v.c.kv <;> rfl
  rw [hb1]
  have hs4 : sat h (IxP ix L :: pto b (.row 6 [[.str kv.key, .str kv.val, .int .i64 kv.create, .int .i64 kv.mod, .int .i64 kv.ver, .int .i64 kv.lease]] 1) :: pto a (.row 2 [[.int .i64 v.rev, chV tp td v.c]] 1) :: pto s (.row 7 [[.int .i64 A.rev, .int .i64 A.past, .int .i64 n, .ptr ix 2 0 0, .map vm, cv, o]] 1) :: Ow 2 cv (A.chs.map (verC tp td)) :: MpA (fun k : Key => AV.str k) Vn.key Vn.v vm X :: (X.map (VnP tp td) ++ F)) := hs.p3
  have hLn := ix_num hok.2.1
  have hLl := ix_len hok.2.1
  refine call_use (ixPut (key := v.c.key) (m := mkV v) hs4 hok.2.1.1 (fun x hx => by have := hLl x hx; omega) (by omega) hvr) ?_
  rintro r h ⟨hr', hs⟩
  subst hr'
  have ha := hs.p2.at
  have hp := hs.p3.at
  simp (disch := omega) only [go_sem, simprocAttr, ha, hp]
  refine inv_key hs v.c fun h hs => ?_
  have ha := hs.p2.at
  have hp := hs.p3.at
  simp (disch := omega) only [go_sem, simprocAttr, ha, hp]
  refine inv_key hs v.c fun h hs => ?_
  have ha := hs.p2.at
  have hp := hs.p3.at
  by_cases hx : ∃ x ∈ X, x.key = v.c.key
  · obtain ⟨x, hx, hxk⟩ := hx
    have hl := lk_hit keyOK_str hs.p5 hok.2.2.1 hx (ok := false) (z := .nils)
    simp only [Bool.false_eq_true, if_false] at hl
    rw [hxk] at hl
    simp (disch := omega) only [go_sem, simprocAttr, ha, hp, hl, ca]
    refine new_opq hs fun n2 h hs => ?_
    obtain ⟨l1, l2, rfl⟩ := List.append_of_mem hx
    have hs5 : sat h ((pto n2 (.row 2 [[.int .i64 v.rev, chV tp td v.c]] 1) :: IxP ix (putL L v.c.key (mkV v)) :: pto b (.row 6 [[.str kv.key, .str kv.val, .int .i64 kv.create, .int .i64 kv.mod, .int .i64 kv.ver, .int .i64 kv.lease]] 1) :: pto a (.row 2 [[.int .i64 v.rev, chV tp td v.c]] 1) :: pto s (.row 7 [[.int .i64 A.rev, .int .i64 A.past, .int .i64 n, .ptr ix 2 0 0, .map vm, cv, o]] 1) :: Ow 2 cv (A.chs.map (verC tp td)) :: MpA (fun k : Key => AV.str k) Vn.key Vn.v vm (l1 ++ x :: l2) :: l1.map (VnP tp td)) ++ VnP tp td x :: (l2.map (VnP tp td) ++ F)) := by simpa using hs
    have hs6 : sat h (VnP tp td x :: pto n2 (.row 2 [[.int .i64 v.rev, chV tp td v.c]] 1) :: IxP ix (putL L v.c.key (mkV v)) :: pto b (.row 6 [[.str kv.key, .str kv.val, .int .i64 kv.create, .int .i64 kv.mod, .int .i64 kv.ver, .int .i64 kv.lease]] 1) :: pto a (.row 2 [[.int .i64 v.rev, chV tp td v.c]] 1) :: pto s (.row 7 [[.int .i64 A.rev, .int .i64 A.past, .int .i64 n, .ptr ix 2 0 0, .map vm, cv, o]] 1) :: Ow 2 cv (A.chs.map (verC tp td)) :: MpA (fun k : Key => AV.str k) Vn.key Vn.v vm (l1 ++ x :: l2) :: (l1.map (VnP tp td) ++ (l2.map (VnP tp td) ++ F))) := hs5.mid
    have hxv := (hok.2.2.2.1 x (by simp)).1
    have hxl := vers_le (A := A) x.key
    rw [← hxv] at hxl
    simp (disch := omega) only [go_sem, simprocAttr]
    refine app_satO (s := 2) hs6 (src_one hs6.p1.at) (atoms_one (by simp only [List.all_cons, List.all_nil, atom_int, ca, Bool.and_self])) (by simp; omega) fun v' h hs ca' aa => ?_
    have hp := hs.p5.at
    simp (disch := omega) only [go_sem, simprocAttr, hp, ca', aa]
    rw [← hxk]
    refine mup_set keyOK_str hs.p7 hok.2.2.1 (x := x) (y := (⟨x.key, v', x.vs ++ [v]⟩ : Vn)) (by simp) rfl fun h hs => ?_
    have hX' : ((l1 ++ x :: l2).map fun z => if z.key = x.key then (⟨x.key, v', x.vs ++ [v]⟩ : Vn) else z) = l1 ++ ⟨x.key, v', x.vs ++ [v]⟩ :: l2 := by
      have hnd := hok.2.2.1
      rw [List.map_append, List.map_cons, List.nodup_append, List.nodup_cons] at hnd
      rw [List.map_append, List.map_cons, if_pos rfl]
      congr 1
      · exact (List.map_congr_left fun z hz => if_neg fun e : z.key = x.key => hnd.2.2 _ (List.mem_map_of_mem hz) _ (by simp) e).trans (List.map_id _)
      · congr 1
        exact (List.map_congr_left fun z hz => if_neg fun e : z.key = x.key => hnd.2.1.1 (e ▸ List.mem_map_of_mem hz)).trans (List.map_id _)
    rw [hX'] at hs
    have ha := hs.p5.at
    have hp := hs.p6.at
    simp (disch := omega) only [go_sem, simprocAttr, ha, hp, ca]
    refine new_opq hs fun n3 h hs => ?_
    simp (disch := omega) only [go_sem, simprocAttr]
    refine app_sat hs.p8 (src_one hs.at) (atoms_one (by simp only [List.all_cons, List.all_nil, atom_int, ca, Bool.and_self])) (by simp; omega) fun cv' h hs ca2 aa2 => ?_
    have hp := hs.p8.at
    simp (disch := omega) only [go_sem, simprocAttr, hp, ca2, aa2]
    refine ⟨ix, vm, cv', putL L v.c.key (mkV v), l1 ++ ⟨x.key, v', x.vs ++ [v]⟩ :: l2, fun ok' => ⟨ok', hix ok', vmOK_old hok.2.2 hxk⟩, ?_⟩
    have hs7 := hs.p8.set (o' := .row 7 [[.int .i64 A.rev, .int .i64 A.past, .int .i64 n, .ptr ix 2 0 0, .map vm, cv', o]] 1)
    have t1 : (A.snoc v).chs.map (verC tp td) = A.chs.map (verC tp td) ++ [[.int .i64 v.rev, chV tp td v.c]] := by simp [Sto.snoc, verC]
    rw [← t1] at hs7
    have t2 : VnP tp td ⟨x.key, v', x.vs ++ [v]⟩ = Ow 2 v' (x.vs.map (verC tp td) ++ [[.int .i64 v.rev, chV tp td v.c]]) := by simp [VnP, verC]
    rw [← t2] at hs7
    have hs8 := hs7.p2.drop.p4.drop.p5.drop.p5.drop.p2.p2.p4.p3.p4
    have hs9 := sat.unmid (l1 := [pto s (.row 7 [[.int .i64 A.rev, .int .i64 A.past, .int .i64 n, .ptr ix 2 0 0, .map vm, cv', o]] 1), IxP ix (putL L v.c.key (mkV v)), Ow 2 cv' ((A.snoc v).chs.map (verC tp td)), MpA (fun k : Key => AV.str k) Vn.key Vn.v vm (l1 ++ ⟨x.key, v', x.vs ++ [v]⟩ :: l2)] ++ l1.map (VnP tp td)) (l2 := l2.map (VnP tp td) ++ F) hs8
    simpa [MvLn, e1, e2] using hs9
  · have hl := lk_miss keyOK_str hs.p5 (q := v.c.key) (fun x h1 h2 => hx ⟨x, h1, h2⟩) (ok := false) (z := .nils)
    simp only [Bool.false_eq_true, if_false] at hl
    simp (disch := omega) only [go_sem, simprocAttr, ha, hp, hl, ca]
    refine new_opq hs fun n2 h hs => ?_
    simp (disch := omega) only [go_sem, simprocAttr]
    have hs6 : sat h (Ow 2 .nils [] :: pto n2 (.row 2 [[.int .i64 v.rev, chV tp td v.c]] 1) :: _) := hs.add ow_nil
    refine app_satO (s := 2) hs6 (src_one hs6.p1.at) (atoms_one (by simp only [List.all_cons, List.all_nil, atom_int, ca, Bool.and_self])) (by simp) fun v' h hs ca' aa => ?_
    have hp := hs.p5.at
    simp (disch := omega) only [go_sem, simprocAttr, hp, ca', aa]
    refine mup_new keyOK_str hs.p7 (y := (⟨v.c.key, v', [v]⟩ : Vn)) (fun x h1 h2 => hx ⟨x, h1, h2⟩) fun h hs => ?_
    have ha := hs.p5.at
    have hp := hs.p6.at
    simp (disch := omega) only [go_sem, simprocAttr, ha, hp, ca]
    refine new_opq hs fun n3 h hs => ?_
    simp (disch := omega) only [go_sem, simprocAttr]
    refine app_sat hs.p8 (src_one hs.at) (atoms_one (by simp only [List.all_cons, List.all_nil, atom_int, ca, Bool.and_self])) (by simp; omega) fun cv' h hs ca2 aa2 => ?_
    have hp := hs.p8.at
    simp (disch := omega) only [go_sem, simprocAttr, hp, ca2, aa2]
    refine ⟨ix, vm, cv', putL L v.c.key (mkV v), X ++ [⟨v.c.key, v', [v]⟩], fun ok' => ⟨ok', hix ok', vmOK_new hok.2.2 (fun x h1 h2 => hx ⟨x, h1, h2⟩)⟩, ?_⟩
    have hs7 := hs.p8.set (o' := .row 7 [[.int .i64 A.rev, .int .i64 A.past, .int .i64 n, .ptr ix 2 0 0, .map vm, cv', o]] 1)
    have t1 : (A.snoc v).chs.map (verC tp td) = A.chs.map (verC tp td) ++ [[.int .i64 v.rev, chV tp td v.c]] := by simp [Sto.snoc, verC]
    rw [← t1] at hs7
    have t2 : VnP tp td ⟨v.c.key, v', [v]⟩ = Ow 2 v' ([] ++ [[.int .i64 v.rev, chV tp td v.c]]) := by simp [VnP, verC]
    rw [← t2] at hs7
    have hs8 := hs7.p2.drop.p4.drop.p5.drop.p5.drop.p2.p2.p4.p3.p4
    have hs9 := sat.unmid (l1 := [pto s (.row 7 [[.int .i64 A.rev, .int .i64 A.past, .int .i64 n, .ptr ix 2 0 0, .map vm, cv', o]] 1), IxP ix (putL L v.c.key (mkV v)), Ow 2 cv' ((A.snoc v).chs.map (verC tp td)), MpA (fun k : Key => AV.str k) Vn.key Vn.v vm (X ++ [⟨v.c.key, v', [v]⟩])] ++ X.map (VnP tp td)) (l2 := F) hs8
    simpa [MvLn, e1, e2] using hs9
theorem mvNote {v : Ver} (hs : sat h (MvN tp td s n A o :: F)) (ok' : StoOK (A.snoc v)) (hz : A.old.length + A.chs.length ≤ 90000000) (hr : A.rev ≤ 1000000000000000) : Triple Tryz.prog 38 [.ptr s 7 0 0, .agg (verC tp td v)] h (fun r h => sat h (MvN tp td s n (A.snoc v) o :: F)) := by
  have hvr := ok'.chr v (by simp [Sto.snoc])
  have hpa := ok'.past
  have e1 : (A.snoc v).rev = A.rev := rfl
  have e2 : (A.snoc v).past = A.past := rfl
  exact (mvNoteG hs (by unfold inI; omega) hz).mono fun r h ⟨ix, vm, cv, L, X, h1, h2⟩ => mvN.2 ⟨ix, vm, cv, L, X, h1 ok', h2⟩
end
end Go.Proofs.YtaioncbpfckhaaaGreat
/- The store: a write is done; keys are deleted. -/
set_option linter.unusedSimpArgs false
set_option linter.unusedVariables false
set_option maxRecDepth 10000
namespace Go.Proofs.YtaioncbpfckhaaaGreat
open Go.Hz

section
variable {h : Hp} {F : List Asr} {s w : Nat} {A : Sto} {o : AV} {W : Wr}
theorem mvDone (hs : sat h (WtP w s A W :: StP s A (.ptr w 4 0 0) :: F)) (hz : A.old.length + A.chs.length + W.l.length ≤ 80000000) (hr : A.rev ≤ 100000000000000) : Triple Tryz.prog 15 [.ptr w 4 0 0] h (fun r h => r = .int .i64 (stDone A W).rev ∧ sat h (StP s (stDone A W) .nilp :: F)) := by
  have ok := MvP.ok hs.p1
  have hpa := ok.past
  have hre := ok.rev
  obtain ⟨lv0, bm0, hw, hs0⟩ := wrP.1 hs
  have hp0 := hs0.at
  refine t15 (Nat.le_of_ble_eq_true rfl) ?_
  simp (disch := omega) only [F15, hp0, go_sem, simprocAttr]
  refine call_use (mvClosed hs) ?_
  rintro r h ⟨hr, hs⟩
  subst hr
  simp (disch := omega) only [go_sem, simprocAttr]
  obtain ⟨lv, bm, _, hs1⟩ := wrP.1 hs
  obtain ⟨ix, vm, cv, L, X, hok, hs2⟩ := mvP.1 hs1.p3
  have hq := hs2.at
  have hs3 : sat h (pto s (.row 7 [[.int .i64 A.rev, .int .i64 A.past, .int .i64 A.now.length, .ptr ix 2 0 0, .map vm, cv, .ptr w 4 0 0]] 1) :: IxP ix L :: Ow 2 cv (A.chs.map (verC tp td)) :: MpA (fun k : Key => AV.str k) Vn.key Vn.v vm X :: (X.map (VnP tp td) ++ (pto w (.row 4 [[.ptr s 7 0 0, lv, .map bm, .int .i64 W.cur.length]] 1) :: Ow 1 lv (W.l.map fun c => [chV tp td c]) :: MpA (fun k : Key => AV.str k) Ch.key (chV tp td) bm W.l :: F))) := hs2
  have hs4 := hs3.set (o' := .row 7 [[.int .i64 A.rev, .int .i64 A.past, .int .i64 A.now.length, .ptr ix 2 0 0, .map vm, cv, .nilp]] 1)
  have mk : ∀ {h : Hp}, sat h (pto s (.row 7 [[.int .i64 A.rev, .int .i64 A.past, .int .i64 A.now.length, .ptr ix 2 0 0, .map vm, cv, .nilp]] 1) :: IxP ix L :: Ow 2 cv (A.chs.map (verC tp td)) :: MpA (fun k : Key => AV.str k) Vn.key Vn.v vm X :: (X.map (VnP tp td) ++ (pto w (.row 4 [[.ptr s 7 0 0, lv, .map bm, .int .i64 W.cur.length]] 1) :: Ow 1 lv (W.l.map fun c => [chV tp td c]) :: MpA (fun k : Key => AV.str k) Ch.key (chV tp td) bm W.l :: F))) →
      sat h (StP s A .nilp :: pto w (.row 4 [[.ptr s 7 0 0, lv, .map bm, .int .i64 W.cur.length]] 1) :: Ow 1 lv (W.l.map fun c => [chV tp td c]) :: MpA (fun k : Key => AV.str k) Ch.key (chV tp td) bm W.l :: F) := fun hs => mvP.2 ⟨ix, vm, cv, L, X, hok, hs⟩
  have hs5 := mk hs4
  have hw5 := hs5.p1.at
  have hlv := hs5.p2.els.len
  rw [List.length_map] at hlv
  have hsq := hs4.at
  simp (disch := omega) only [go_sem, simprocAttr, hq, hw5, hlv]
  by_cases hl : W.l = []
  · have e0 : ((W.l.length : Int) == 0) = true := by rw [hl]; rfl
    have ef : stDone A W = A := by rw [stDone, if_pos hl]
    rw [ef]
    simp (disch := omega) only [go_sem, simprocAttr, e0, hsq]
    exact hs5.p1.drop.p1.drop.p1.drop
  have e0 : ((W.l.length : Int) == 0) = false := by
    have := List.length_pos_iff.2 hl
    simp; omega
  have okd := stDone_ok ok hw
  have ed : stDone A W = ⟨A.rev + 1, A.past, A.old, A.chs ++ W.l.map fun c => ⟨A.rev + 1, c⟩⟩ := by rw [stDone, if_neg hl]
  have hnow := stDone_now hw
  rw [ed] at okd hnow ⊢
  have ok0 : StoOK ⟨A.rev + 1, A.past, A.old, A.chs⟩ := stOK_front okd
  have mkN : ∀ {h : Hp} {n : Int}, sat h (pto s (.row 7 [[.int .i64 (A.rev + 1), .int .i64 A.past, .int .i64 n, .ptr ix 2 0 0, .map vm, cv, .nilp]] 1) :: IxP ix L :: Ow 2 cv (A.chs.map (verC tp td)) :: MpA (fun k : Key => AV.str k) Vn.key Vn.v vm X :: (X.map (VnP tp td) ++ (pto w (.row 4 [[.ptr s 7 0 0, lv, .map bm, .int .i64 W.cur.length]] 1) :: Ow 1 lv (W.l.map fun c => [chV tp td c]) :: MpA (fun k : Key => AV.str k) Ch.key (chV tp td) bm W.l :: F))) →
      sat h (MvN tp td s n ⟨A.rev + 1, A.past, A.old, A.chs⟩ .nilp :: pto w (.row 4 [[.ptr s 7 0 0, lv, .map bm, .int .i64 W.cur.length]] 1) :: Ow 1 lv (W.l.map fun c => [chV tp td c]) :: MpA (fun k : Key => AV.str k) Ch.key (chV tp td) bm W.l :: F) := fun hs => mvN.2 ⟨ix, vm, cv, L, X, ⟨ok0, hok.2.1, hok.2.2⟩, hs⟩
  generalize Hp.set h s _ = h4 at hs4 hs5 hw5 hsq ⊢
  have hs6 := hs4.set (o' := .row 7 [[.int .i64 (A.rev + 1), .int .i64 A.past, .int .i64 A.now.length, .ptr ix 2 0 0, .map vm, cv, .nilp]] 1)
  have hw6 := (mkN hs6).p1.at
  have hs7 := hs6.set (o' := .row 7 [[.int .i64 (A.rev + 1), .int .i64 A.past, .int .i64 W.cur.length, .ptr ix 2 0 0, .map vm, cv, .nilp]] 1)
  have hs8 := mkN hs7
  have hw8 := hs8.p1.at
  rw [Hp.set_set] at hs8 hw8
  simp (disch := omega) only [go_sem, simprocAttr, e0, hsq, hw6, hw8, hlv]
  generalize Hp.set h4 s _ = h5 at hs8 hw8 ⊢
  rcases hs8.p2.cases with ⟨_, hn0, _⟩ | ⟨b, cap, hv, hs9, hle⟩
  · exact absurd (List.map_eq_nil_iff.1 hn0) hl
  subst hv
  have hll : (W.l.map fun c => [chV tp td c]).length = W.l.length := by simp
  rw [hll] at hle
  simp only [hll]
  refine run_up (N := W.l.length) (fun i e h => sat h (MvN tp td s W.cur.length ⟨A.rev + 1, A.past, A.old, A.chs ++ (W.l.take i).map fun c => ⟨A.rev + 1, c⟩⟩ .nilp :: pto b (.row 1 (W.l.map fun c => [chV tp td c]) cap) :: F) ∧
    (e 3 = .ptr s 7 0 0 ∧ e 46 = .arr b 1 0 W.l.length cap ∧ e 47 = .int .i64 W.l.length ∧ e 48 = .int .i64 i)) ⟨?_, rfl, rfl, rfl, rfl⟩ ?_
  · have : A.chs ++ ((W.l.take 0).map fun c => (⟨A.rev + 1, c⟩ : Ver)) = A.chs := by simp
    rw [this]
    exact hs9.p2.drop.p2.drop.p1
  clear hs hs0 hs1 hs2 hs3 hs4 hs5 hs6 hs7 hs8 hs9 hp0 hw5 hw6 hw8 hsq hq
  rintro i e h hi ⟨hs, he⟩
  have m1 : (i : Int) + 1 = ((i + 1 : Nat) : Int) := by omega
  simp (disch := omega) only [go_sem, simprocAttr, he]
  refine cnd_dec (fun h1 => ?_) (fun h1 => ?_)
  · have hi : i < W.l.length := by omega
    have hb := hs.p1.at
    have hrow : (W.l.map fun c => [chV tp td c])[i]? = some [chV tp td W.l[i]] := by simp [hi]
    obtain ⟨ix', vm', cv', L', X', hok', hs2⟩ := mvN.1 hs
    have hq := hs2.at
    simp (disch := omega) only [go_sem, simprocAttr, he, hb, hrow, hq, Int.toNat_natCast]
    have hsn : (⟨A.rev + 1, A.past, A.old, A.chs ++ (W.l.take i).map fun c => ⟨A.rev + 1, c⟩⟩ : Sto).snoc ⟨A.rev + 1, W.l[i]⟩ = ⟨A.rev + 1, A.past, A.old, A.chs ++ (W.l.take (i + 1)).map fun c => ⟨A.rev + 1, c⟩⟩ := by
      unfold Sto.snoc
      rw [List.take_succ_eq_append_getElem hi]
      simp only [List.map_append, List.map_cons, List.map_nil, List.append_assoc]
    have hok2 : StoOK ⟨A.rev + 1, A.past, A.old, A.chs ++ (W.l.take (i + 1)).map fun c => ⟨A.rev + 1, c⟩⟩ := by
      have h2 : (A.chs ++ W.l.map fun c => (⟨A.rev + 1, c⟩ : Ver)) = (A.chs ++ (W.l.take (i + 1)).map fun c => (⟨A.rev + 1, c⟩ : Ver)) ++ (W.l.drop (i + 1)).map fun c => (⟨A.rev + 1, c⟩ : Ver) := by
        rw [List.append_assoc, ← List.map_append, List.take_append_drop]
      rw [h2] at okd
      exact stOK_front okd
    have hcc := chV_cells (tp := tp) (td := td) W.l[i]
    have hn := mvNote (v := ⟨A.rev + 1, W.l[i]⟩) hs (by rw [hsn]; exact hok2) (by simp only [List.length_append, List.length_map, List.length_take]; omega) (by show A.rev + 1 ≤ _; omega)
    rw [hsn] at hn
    have hca := chV_atom (tp := tp) (td := td) W.l[i]
    simp (disch := omega) only [go_sem, simprocAttr, hcc, hca]
    refine call_use hn ?_
    intro r h hs
    simp (disch := omega) only [go_sem, simprocAttr, he, m1]
    exact ⟨by omega, hs⟩
  · have hi : i = W.l.length := by omega
    subst hi
    rw [List.take_length] at hs
    obtain ⟨ix', vm', cv', L', X', hok', hs2⟩ := mvN.1 hs
    have hq := hs2.at
    simp (disch := omega) only [go_sem, simprocAttr, he, hq]
    rw [← hnow] at hs
    exact hs.d1
theorem mvWKeysR {lo hi : Key} (hs : sat h (WtP w s A W :: StP s A o :: F)) (hz : A.old.length + A.chs.length + W.l.length ≤ 40000000) : Triple Tryz.prog 31 [.ptr w 4 0 0, .str lo, .str hi] h (fun r h => ∃ ks, WKeys A W lo hi ks ∧ r = strsV ks ∧ sat h (WtP w s A W :: StP s A o :: F)) := mvWKeys hs (by omega)
theorem mvDel {lo hi : Key} (hs : sat h (WtP w s A W :: StP s A (.ptr w 4 0 0) :: F)) (hz : A.old.length + A.chs.length + W.l.length ≤ 40000000) : Triple Tryz.prog 11 [.ptr w 4 0 0, .str lo, .str hi] h (fun r h => ∃ ks, WKeys A W lo hi ks ∧ r = .int .i64 (wDels W ks).1 ∧ sat h (WtP w s A (wDels W ks).2 :: StP s A (.ptr w 4 0 0) :: F)) := by
  have ok := MvP.ok hs.p1
  have hkey := now_keys ok
  refine t11 (Nat.le_of_ble_eq_true rfl) ?_
  simp (disch := omega) only [F11, go_sem, simprocAttr]
  refine call_use (mvClosed hs) ?_
  rintro r h ⟨hr, hs⟩
  subst hr
  simp (disch := omega) only [go_sem, simprocAttr]
  refine call_use (mvWKeysR (lo := lo) (hi := hi) hs hz) ?_
  rintro v h ⟨ks, hk, hv, hs⟩
  subst hv
  have hw := WrP.ok hs
  have hkl := hk.2.1
  have lenK : lenL (strsV ks) = some (.int .i64 ks.length) := by simp [strsV, lenL]
  simp (disch := omega) only [go_sem, simprocAttr, lenK]
  refine run_up (N := ks.length) (fun i e h => sat h (WtP w s A (wDels W (ks.take i)).2 :: StP s A (.ptr w 4 0 0) :: F) ∧ (e 0 = .ptr w 4 0 0 ∧ e 7 = .int .i64 (wDels W (ks.take i)).1 ∧ e 19 = strsV ks ∧ e 20 = .int .i64 ks.length ∧ e 21 = .int .i64 i)) ⟨hs, rfl, rfl, rfl, rfl, rfl⟩ ?_
  clear hs
  rintro i e h hi ⟨hs, he⟩
  have m1 : (i : Int) + 1 = ((i + 1 : Nat) : Int) := by omega
  simp (disch := omega) only [go_sem, simprocAttr, he, m1]
  refine cnd_dec (fun h1 => ?_) (fun h1 => ?_)
  · have hi : i < ks.length := by omega
    have hik : iaA 1 (strsV ks) (.int .i64 (i : Int)) = some (.ro [.str ks[i]]) := ia_lst (f := fun k => [AV.str k]) hi fun _ => rfl
    have hst : wDels W (ks.take (i + 1)) = ((wDels W (ks.take i)).1 + (wDel1 (wDels W (ks.take i)).2 ks[i]).1, (wDel1 (wDels W (ks.take i)).2 ks[i]).2) := by
      rw [List.take_succ_eq_append_getElem hi]; exact wDels_snoc
    have hbnd := wDels_len (ks := ks.take i) (W := W)
    rw [List.length_take] at hbnd
    generalize hWi : wDels W (ks.take i) = Wi at hs he hst hbnd
    obtain ⟨ni, Wi⟩ := Wi
    simp only [] at hs he hst hbnd
    have hwi := WrP.ok hs
    obtain ⟨lv, bm, _, hs1⟩ := wrP.1 hs
    have hp := hs1.at
    obtain ⟨tw, hl⟩ : ∃ v, lkA true true .nili h (.map bm) (.str ks[i]) = some (.tup [v, .bool (wChg Wi ks[i])]) := by
      cases hc : wChg Wi ks[i] with
      | true =>
        obtain ⟨c, hcm, hck⟩ := wChg_t hc
        rw [← hck]
        exact ⟨_, lk_hit keyOK_str hs1.p2 hwi.nd hcm⟩
      | false => exact ⟨_, lk_miss keyOK_str hs1.p2 (wChg_f hc)⟩
    simp (disch := omega) only [go_sem, simprocAttr, he, hik, hp, hl]
    refine call_use (mvNow (key := ks[i]) hs (by omega)) ?_
    rintro r h ⟨hr, hs⟩
    subst hr
    simp (disch := omega) only [go_sem, simprocAttr]
    refine new_opq hs fun a h hs => ?_
    have ha := hs.at
    generalize hkv : (kvget Wi.cur ks[i]).getD kv0 = kv
    have hs2 := hs.set (o' := .row 6 [kvC kv] 1)
    simp only [kvC] at hs2
    simp (disch := omega) only [go_sem, simprocAttr, ha, kvC, he]
    generalize Hp.set h a _ = h2 at hs2 ⊢
    by_cases hskip : wChg Wi ks[i] = true ∨ kvget Wi.cur ks[i] = none
    · have e1 : wDel1 Wi ks[i] = (0, Wi) := by rw [wDel1, if_pos hskip]
      rw [e1] at hst
      simp only [Nat.add_zero] at hst
      rw [hst]
      cases hg : kvget Wi.cur ks[i] with
      | none =>
        simp (disch := omega) only [go_sem, simprocAttr, Option.isSome_none, he, m1]
        exact ⟨by omega, hs2.drop⟩
      | some y =>
        have hc : wChg Wi ks[i] = true := by rcases hskip with h | h; exact h; rw [hg] at h; cases h
        simp (disch := omega) only [go_sem, simprocAttr, Option.isSome_some, hc, he, m1]
        exact ⟨by omega, hs2.drop⟩
    · have hc : wChg Wi ks[i] = false := by simpa using fun h => hskip (.inl h)
      obtain ⟨y, hy⟩ : ∃ y, kvget Wi.cur ks[i] = some y := by
        cases hg : kvget Wi.cur ks[i] with
        | none => exact absurd (.inr hg) hskip
        | some y => exact ⟨y, rfl⟩
      have e1 : wDel1 Wi ks[i] = (1, ⟨done Wi.cur (.del ks[i]), Wi.l ++ [.del ks[i]]⟩) := by rw [wDel1, if_neg hskip]
      rw [e1] at hst
      rw [hst]
      have hyk : ks[i] ≠ [] ∧ ks[i].length ≤ 100 := by
        have h3 := hy
        rw [now_same ok hwi hc] at h3
        obtain ⟨h4, h5⟩ := kvget_some h3
        rw [← h5]; exact hkey y h4
      simp (disch := omega) only [go_sem, simprocAttr, hy, Option.isSome_some, hc, he]
      obtain ⟨lv2, bm2, _, hs3⟩ := wrP.1 hs2.p1
      have hlay : Triple Tryz.prog 33 [.ptr w 4 0 0, chV tp td (.del ks[i])] _ _ := mvLay hwi hs3 (by omega) hc hyk (fun _ => by show kvget Wi.cur ks[i] ≠ none; rw [hy]; simp) (fun _ h => by cases h)
      refine call_use hlay ?_
      rintro r h ⟨lv4, hok', hs⟩
      have hp := hs.at
      have hpos : 0 < Wi.cur.length := List.length_pos_of_mem (kvget_some hy).1
      have hcl := cur_le hwi
      have m3 : (ni : Int) + 1 = ((ni + 1 : Nat) : Int) := by omega
      simp (disch := omega) only [go_sem, simprocAttr, he, hp, m1, m3]
      have hdl := done_len (c := .del ks[i]) (hwi.srt ok)
      rw [show (Ch.del ks[i]).key = ks[i] from rfl, hy] at hdl
      have hdl2 : ((done Wi.cur (.del ks[i])).length : Int) = (Wi.cur.length : Int) - 1 := by rw [hdl]; simp [Ch.kv]; omega
      refine ⟨by omega, wrP.2 ⟨lv4, bm2, hok', ?_⟩⟩
      rw [hdl2]
      exact hs.set.p3.drop.p3.p3.p3.p3
  · have hi : i = ks.length := by omega
    subst hi
    rw [List.take_length] at hs he
    simp (disch := omega) only [go_sem, simprocAttr, he]
    exact ⟨ks, hk, rfl, hs⟩
end
end Go.Proofs.YtaioncbpfckhaaaGreat
/- within, the chapter's example. -/
set_option linter.unusedSimpArgs false
set_option linter.unusedVariables false
set_option maxRecDepth 10000
namespace Go.Proofs.YtaioncbpfckhaaaGreat
open Go.Hz

def KA (i : Nat) : Sto := ⟨i, 0, [], (List.range i).map fun (j : Nat) => ⟨(j : Int) + 1, .put ⟨[97], [120], 1, (j : Int) + 1, (j : Int) + 1, 0⟩⟩⟩
theorem KA_step0 : stDone (KA 0) (wPut ((KA 0).rev + 1) ⟨(KA 0).now, []⟩ [97] [120] 0).2 = KA 1 := by rfl
theorem KA_step1 : stDone (KA 1) (wPut ((KA 1).rev + 1) ⟨(KA 1).now, []⟩ [97] [120] 0).2 = KA 2 := by rfl
section
variable {h : Hp} {F : List Asr}
end
end Go.Proofs.YtaioncbpfckhaaaGreat
/- Watchers: the chapter's example, a put of a key, within. -/
set_option linter.unusedSimpArgs false
set_option linter.unusedVariables false
set_option maxRecDepth 10000
namespace Go.Proofs.YtaioncbpfckhaaaGreat
open Go.Hz

/-- A number from 0 to n - 1. -/
theorem within13 {h : Hp} {F : List Asr} (hs : sat h F) {a : Int} {n : Nat} (h1 : -9223372036854775808 ≤ a) (h2 : a ≤ 9223372036854775807) (hn : 0 < n) (hn2 : n ≤ 4611686018427387904) :
    Triple Tryz.prog 8 [.int .i64 a, .int .i64 n] h (fun r h => ∃ k : Nat, r = .int .i64 k ∧ (k : Int) = a % n ∧ k < n ∧ sat h F) := by
  have m1 := Int.tmod_lt_of_pos a (b := n) (by omega)
  have m2 : -(n : Int) < a.tmod n := by
    have := Int.tmod_lt_of_pos (-a) (b := n) (by omega)
    rw [Int.neg_tmod] at this
    omega
  have hn0 : ¬ (n : Int) = 0 := by omega
  have e := Int.mul_tdiv_add_tmod a n
  have em : a % n = (a.tmod n) % n := by
    conv => lhs; rw [← e]
    rw [Int.mul_add_emod_self_left]
  refine t8 (Nat.le_of_ble_eq_true rfl) ?_
  simp (disch := omega) only [F8, hn0, go_sem, simprocAttr]
  refine cnd_dec (fun hc => ?_) (fun hc => ?_)
  · simp (disch := omega) only [go_sem, simprocAttr]
    refine ⟨(a.tmod n + n).toNat, by congr 1; omega, ?_, by omega, hs⟩
    rw [em, ← Int.add_emod_right, Int.emod_eq_of_lt (by omega) (by omega)]
    omega
  · simp (disch := omega) only [go_sem, simprocAttr]
    refine ⟨(a.tmod n).toNat, by congr 1; omega, ?_, by omega, hs⟩
    rw [em, Int.emod_eq_of_lt (by omega) (by omega)]
    omega
section
variable {h : Hp} {F : List Asr} {s : Nat} {A : Sto} {o : AV}
def X1 : List Wc := [⟨1, [97], [], 1, .behind⟩]
theorem KA_poll : (hPoll (KA 2) X1 1 10).1 = ((KA 2).chs, 0) := by decide
theorem hbOK0 : HbOK 0 [] := ⟨List.nodup_nil, fun _ h => (by cases h), fun _ h => (by cases h), fun _ h => (by cases h)⟩
theorem known13 (hs : sat h F) : Triple Tryz.prog 4 [] h (fun r h => r = .bool true ∧ sat h F) := by
  refine t4 (Nat.le_of_ble_eq_true rfl) ?_
  simp (disch := omega) only [F4, go_sem, simprocAttr]
  refine call_use (mvNew hs) ?_
  rintro r h ⟨s, hr, hs⟩
  subst hr
  simp (disch := omega) only [go_sem, simprocAttr]
  refine call_use (hbNew (s := s) hs) ?_
  rintro r h ⟨hb, hr, hs⟩
  subst hr
  simp (disch := omega) only [go_sem, simprocAttr]
  refine blk_join (Q := fun e h => ∃ o, sat h (StP s (KA 2) o :: HbP hb s 0 [] :: F) ∧ (e 1 = .ptr s 7 0 0 ∧ e 2 = .ptr hb 3 0 0)) ?_ ?_
  · refine run_up (N := 2) (fun i e h => ∃ o, sat h (StP s (KA i) o :: HbP hb s 0 [] :: F) ∧ (e 1 = .ptr s 7 0 0 ∧ e 2 = .ptr hb 3 0 0 ∧ e 3 = .int .i64 i)) ⟨.nilp, hs.p1, rfl, rfl, rfl⟩ ?_
    clear hs
    rintro i e h hi ⟨o, hs, he⟩
    have m1 : (i : Int) + 1 = ((i + 1 : Nat) : Int) := by omega
    simp (disch := omega) only [go_sem, simprocAttr, he, m1]
    refine cnd_dec (fun h1 => ?_) (fun h1 => ?_)
    · have hi : i < 2 := by omega
      simp (disch := omega) only [go_sem, simprocAttr, he]
      refine call_use (mvWrite hs) ?_
      rintro r h ⟨w, hr, hs⟩
      subst hr
      simp (disch := omega) only [go_sem, simprocAttr, he]
      have hKl : (KA i).chs.length = i := by simp [KA]
      have hKn : (KA i).now.length ≤ i := by
        have := doneL_le (cs := (KA i).chs.map Ver.c) (l := (KA i).old)
        rw [List.length_map, hKl] at this
        simpa [Sto.now, KA] using this
      refine call_use (mvPut (key := [97]) (val := [120]) (lease := 0) hs (by omega) (by simp) (by show (KA i).now.length ≤ _; omega) (by show (i : Int) ≤ _; omega)) ?_
      rintro r h ⟨hr, hs⟩
      subst hr
      simp (disch := omega) only [go_sem, simprocAttr, he]
      refine call_use (mvDone hs ?_ (by show (i : Int) ≤ _; omega)) ?_
      · have : (wPut ((KA i).rev + 1) ⟨(KA i).now, []⟩ [97] [120] 0).2.l.length ≤ 1 := by
          unfold wPut; split <;> (try split) <;> (try split) <;> (try split) <;> simp
        have h0 : (KA i).old.length = 0 := rfl
        omega
      rintro r h ⟨hr, hs⟩
      subst hr
      simp (disch := omega) only [go_sem, simprocAttr, he, m1]
      refine ⟨by omega, .nilp, ?_⟩
      match i, hi, hs with
      | 0, _, hs => rw [KA_step0] at hs; exact hs
      | 1, _, hs => rw [KA_step1] at hs; exact hs
    · have hi : i = 2 := by omega
      subst hi
      simp (disch := omega) only [go_sem, simprocAttr, he]
      exact ⟨o, hs⟩
  clear hs
  rintro e h ⟨o, hs, he⟩
  have ok := MvP.ok hs
  simp (disch := omega) only [go_sem, simprocAttr, he]
  refine call_use (hbWatch (lo := [97]) (hi := []) (from_ := 1) hs.p1 hbOK0 (by omega) (by unfold i64; omega)) ?_
  rintro r h ⟨hr, hX, hs⟩
  subst hr
  simp (disch := omega) only [go_sem, simprocAttr, he]
  have hP := hbPoll (mo := 10) (id := 1) hs hX (by unfold i64; omega) (by decide) (by decide) ok
  refine call_use hP ?_
  rintro r h ⟨hr, hs⟩
  subst hr
  have e1 : (hPoll (KA 2) ([] ++ [⟨0 + 1, [97], [], max 1 1, .behind⟩]) 1 10).1 = ((KA 2).chs, 0) := KA_poll
  rw [e1]
  have ei : iaA 8 (evsV (KA 2).chs) (.int .i64 1) = some (.ro (evC ⟨2, .put ⟨[97], [120], 1, 2, 2, 0⟩⟩)) := by rfl
  have el : lenL (evsV (KA 2).chs) = some (.int .i64 2) := by rfl
  rw [evC_eq2] at ei
  simp (disch := omega) only [go_sem, simprocAttr, ei, el]
  exact hs.d1.drop
end
end Go.Proofs.YtaioncbpfckhaaaGreat
/- Events that are alike; the law WatchApart, walked. -/
set_option linter.unusedSimpArgs false
set_option linter.unusedVariables false
set_option maxRecDepth 10000
namespace Go.Proofs.YtaioncbpfckhaaaGreat
open Go.Hz

section
variable {h : Hp} {F : List Asr} {s : Nat} {A : Sto} {o : AV}
theorem ev_self2 (v : Ver) : eqsA [PK.i, PK.b, PK.s, PK.s, PK.i, PK.i, PK.i, PK.i] true (.agg (evC v)) (.agg (evC v)) = some (.bool false) := by
  simp [eqsA, eqCs, eqC, evC, kvC]
theorem sameEvs2 (hs : sat h F) {l : List Ver} (hl : l.length ≤ 9223372036854775807) : Triple Tryz.prog 23 [evsV l, evsV l] h (fun r h => r = .bool true ∧ sat h F) := by
  have len2 : lenL (evsV l) = some (.int .i64 l.length) := by simp [lenL]
  refine t23 (Nat.le_of_ble_eq_true rfl) ?_
  simp (disch := omega) only [F23, len2, go_sem, simprocAttr]
  refine run_up (N := l.length) (fun i e h => sat h F ∧ (e 0 = evsV l ∧ e 1 = evsV l ∧ e 5 = .int .i64 i)) ⟨hs, rfl, rfl, rfl⟩ ?_
  clear hs
  rintro i e h hi ⟨hs, he⟩
  have m1 : (i : Int) + 1 = ((i + 1 : Nat) : Int) := by omega
  simp (disch := omega) only [go_sem, simprocAttr, he, m1, len2]
  refine cnd_dec (fun h1 => ?_) (fun h1 => ?_)
  · have hi : i < l.length := by omega
    have ez := ia_lst (f := evC) (l := l) (i := i) (s := 8) (k := .i64) hi (fun _ => rfl)
    have ek := ev_self2 l[i]
    rw [evC_eq2] at ek ez
    simp (disch := omega) only [go_sem, simprocAttr, he, ez, ek, m1]
    exact ⟨by omega, hs⟩
  · simp (disch := omega) only [go_sem, simprocAttr, he]
    exact hs
end
end Go.Proofs.YtaioncbpfckhaaaGreat
/- Calls of watchers: not too much of one; in a range; events that are alike. -/
set_option linter.unusedSimpArgs false
set_option linter.unusedVariables false
set_option maxRecDepth 10000
namespace Go.Proofs.YtaioncbpfckhaaaGreat
open Go.Hz

section
variable {h : Hp} {F : List Asr}
theorem few13 (hs : sat h F) {c : Cl13} (hc : c.ok) : Triple Tryz.prog 7 [.agg c.row] h (fun r h => ∃ b, r = .bool b ∧ (b = true → c.keys.length ≤ 30) ∧ sat h F) := by
  obtain ⟨_, _, _, h1, h2, h3, h4⟩ := hc
  have lenD := len_keysV c.keys
  refine t7 (Nat.le_of_ble_eq_true rfl) ?_
  simp (disch := omega) only [F7, Cl13.row, atom_keysV, cells_keysV, go_sem, simprocAttr]
  refine new_opq hs fun a h hs => ?_
  have ha := hs.at
  simp (disch := omega) only [go_sem, simprocAttr, ha]
  refine run_up (N := min c.keys.length 50) (fun i e h => sat h (pto a (.row 6 [c.row] 1) :: F) ∧ ∃ n : Int, 0 ≤ n ∧ n ≤ 2097152 + 1048576 * i ∧ (e 1 = .ptr a 6 0 0 ∧ e 3 = .int .i64 n ∧ e 4 = .int .i64 i)) ⟨hs, _, ?_, ?_, rfl, rfl, rfl⟩ ?_
  · omega
  · omega
  clear hs ha
  rintro i e h hi ⟨hs, n, n1, n2, he⟩
  have ha := hs.at
  simp only [Cl13.row] at ha
  have m1 : (i : Int) + 1 = ((i + 1 : Nat) : Int) := by omega
  by_cases g1 : i < min c.keys.length 50
  · have hi' : i < c.keys.length := by omega
    have c1 : ((i : Int) < c.keys.length) = True := by simp; omega
    have c2 : ((i : Int) < 50) = True := by simp; omega
    have hia := at_keysV hi'
    have k1 := h4 _ (List.getElem_mem hi')
    generalize c.keys[i] = d at hia k1
    simp (disch := omega) only [go_sem, simprocAttr, he, ha, lenD, c1, c2, hia, m1]
    exact ⟨g1, hs, _, by omega, by omega, rfl⟩
  · have hfin : ∀ e' : Env, e' 1 = .ptr a 6 0 0 → e' 3 = .int .i64 n → True := fun _ _ _ => trivial
    by_cases hi' : i < c.keys.length
    case' pos =>
      have c1 : ((i : Int) < c.keys.length) = True := by simp; omega
      have c2 : ((i : Int) < 50) = False := by simp; omega
      simp (disch := omega) only [go_sem, simprocAttr, he, ha, lenD, c1, c2]
    case' neg =>
      have c1 : ((i : Int) < c.keys.length) = False := by simp; omega
      simp (disch := omega) only [go_sem, simprocAttr, he, ha, lenD, c1]
    all_goals
      refine cnd_bool (fun q => ?_) (fun q => ?_)
      · simp (disch := omega) only [go_sem, simprocAttr, he, q]
        exact ⟨_, rfl, fun _ => by simp at q; omega, hs.drop⟩
      · simp (disch := omega) only [go_sem, simprocAttr, he, q]
        exact ⟨false, rfl, fun h => (by simp at h), hs.drop⟩
/-- Events that can be read. -/
def RdEv (h : Hp) (v : AV) (l : List Ver) : Prop := ∀ i (hi : i < l.length), ∃ b cap rc es, v = .arr b 8 0 l.length cap ∧ h b = some (.row 8 es rc) ∧ es[i]? = some (evC l[i])
theorem RdEv.ow {v : AV} {l : List Ver} (hs : sat h (Ow 8 v (l.map evC) :: F)) : RdEv h v l := fun i hi => by
  obtain ⟨b, cap, h1, h2, h3⟩ := ev_row2 hs hi
  exact ⟨b, cap, _, _, h1, h2, h3⟩
end
end Go.Proofs.YtaioncbpfckhaaaGreat
/- The document's store: a key's place, a change done, the keys at a revision. -/
set_option linter.unusedSimpArgs false
set_option linter.unusedVariables false
set_option maxRecDepth 10000
namespace Go.Proofs.YtaioncbpfckhaaaGreat
open Go.Hz

section
variable {h : Hp} {F : List Asr}

theorem rgFind {l : List Kv} {key : Key} {k : Nat} (hs : sat h F) (hl : l.length ≤ 1000000000) (hk : k ≤ l.length) (h1 : ∀ i (hi : i < l.length), i < k → ltK l[i].key key = true) (h2 : ∀ i (hi : i < l.length), k ≤ i → ltK l[i].key key = false) :
    Triple Tryz.prog 57 [kvsV l, .str key] h (fun r h => r = .int .i64 k ∧ sat h F) := by
  have len2 : lenL (kvsV l) = some (.int .i64 l.length) := by simp [lenL]
  refine t57 (Nat.le_of_ble_eq_true rfl) ?_
  simp (disch := omega) only [F57, len2, go_sem, simprocAttr]
  refine run_loopN (fun n e h => ∃ i j : Nat, n = j - i ∧ i ≤ k ∧ k ≤ j ∧ j ≤ l.length ∧ sat h F ∧ (e 0 = kvsV l ∧ e 1 = .str key ∧ e 5 = .int .i64 i ∧ e 6 = .int .i64 j)) l.length ⟨0, l.length, rfl, Nat.zero_le _, hk, Nat.le_refl _, hs, rfl, rfl, rfl, rfl⟩ ?_
  clear hs
  rintro n e h ⟨i, j, rfl, hik, hkj, hjl, hs, he⟩
  simp (disch := omega) only [go_sem, simprocAttr, he]
  refine cnd_dec (fun hlt => ?_) (fun hge => ?_)
  · have hlt : i < j := by omega
    have em : ((i : Int) + j).tdiv 2 = (((i + j) / 2 : Nat) : Int) := by rw [Int.tdiv_eq_ediv_of_nonneg (by omega)]; omega
    obtain ⟨m, hm, hm1, hm2⟩ : ∃ m, m = (i + j) / 2 ∧ i ≤ m ∧ m < j := ⟨_, rfl, by omega, by omega⟩
    rw [← hm] at em
    have hia : iaA 6 (kvsV l) (.int .i64 (m : Int)) = some (.ro (kvC (l[m]'(by omega)))) := ia_lst (f := kvC) (by omega) fun _ => rfl
    by_cases hmk : m < k
    · have hb : Op.bytesLess (l[m]'(by omega)).key key = true := h1 m (by omega) hmk
      have m1 : (m : Int) + 1 = ((m + 1 : Nat) : Int) := by omega
      simp (disch := omega) only [go_sem, simprocAttr, he, em, hia, kvC, hb, m1]
      exact ⟨j - (m + 1), by omega, m + 1, j, rfl, by omega, hkj, hjl, hs, rfl, rfl⟩
    · have hb : Op.bytesLess (l[m]'(by omega)).key key = false := h2 m (by omega) (by omega)
      simp (disch := omega) only [go_sem, simprocAttr, he, em, hia, kvC, hb]
      exact ⟨m - i, by omega, i, m, rfl, hik, by omega, by omega, hs, rfl, rfl⟩
  · simp (disch := omega) only [go_sem, simprocAttr, he]
    exact ⟨by rw [show i = k by omega], hs⟩
theorem evC_key {v : Ver} : (v.c.kv.getD ⟨v.c.key, [], 0, v.rev, 0, 0⟩).key = v.c.key := by
  cases v.c <;> rfl
theorem rgDoneO {l : List Kv} {v : Ver} (hs : sat h F) (hS : SrtK l) (hl : l.length ≤ 1000000) : Triple Tryz.prog 56 [kvsV l, .agg (evC v)] h (fun r h => sat h (Ow 6 r ((done l v.c).map kvC) :: F)) := by
  obtain ⟨k, there, hk, h1, h2, h3, _, h4⟩ := done_cut hS v.c
  have len2 : lenL (kvsV l) = some (.int .i64 l.length) := by simp [lenL]
  have ek := evC_key (v := v)
  have em : (v.c.kv.isNone = true ∧ v.c.kv = none) ∨ (v.c.kv.isNone = false ∧ v.c.kv = some (v.c.kv.getD ⟨v.c.key, [], 0, v.rev, 0, 0⟩)) := by
    cases v.c <;> simp [Ch.kv]
  unfold evC
  generalize v.c.kv.getD ⟨v.c.key, [], 0, v.rev, 0, 0⟩ = x at ek em
  refine t56 (Nat.le_of_ble_eq_true rfl) ?_
  simp (disch := omega) only [F56, kvC, go_sem, simprocAttr]
  refine new_opq hs fun a h hs => ?_
  have ha := hs.at
  rw [ek] at ha hs
  simp (disch := omega) only [go_sem, simprocAttr, ha]
  refine call_use (rgFind hs (by omega) hk h1 h2) ?_
  rintro r h ⟨hr, hs⟩
  subst hr
  have ha := hs.at
  have hkl : (k < l.length ∧ ∃ y, iaA 6 (kvsV l) (.int .i64 (k : Int)) = some (.ro (kvC y)) ∧ (y.key == v.c.key) = there) ∨ (¬ k < l.length ∧ there = false) := by
    by_cases hlt : k < l.length
    · refine .inl ⟨hlt, l[k], ia_lst (f := kvC) hlt fun _ => rfl, ?_⟩
      cases there with
      | true => obtain ⟨_, h6⟩ := h3.1 rfl; simpa using h6
      | false =>
        rw [beq_eq_false_iff_ne]
        exact fun e => by have := h3.2 ⟨hlt, e⟩; cases this
    · refine .inr ⟨hlt, ?_⟩
      cases there with
      | true => obtain ⟨h5, _⟩ := h3.1 rfl; exact absurd h5 hlt
      | false => rfl
  have s1 : slcL 6 (kvsV l) none (some (.int .i64 (k : Int))) = some (kvsV (l.take k)) := by
    have := slc_lstHi (es := l.map kvC) (s := 6) (n := k) (k := .i64) (by simpa using hk) (kvC_len l)
    rw [← List.map_take] at this; exact this
  have s2 : ∀ j : Nat, j ≤ l.length → slcL 6 (kvsV l) (some (.int .i64 (j : Int))) none = some (kvsV (l.drop j)) := by
    intro j hj
    have := slc_lstLo (es := l.map kvC) (s := 6) (n := j) (k := .i64) (by simpa using hj) (kvC_len l)
    rw [← List.map_drop] at this; exact this
  have s3 := s2 k hk
  have m1 : (k : Int) + 1 = ((k + 1 : Nat) : Int) := by omega
  simp (disch := omega) only [go_sem, simprocAttr, len2]
  refine cnd_join1 (Q := fun e h => sat h (pto a (.row 8 [[.int .i64 v.rev, .bool v.c.kv.isNone, .str v.c.key, .str x.val, .int .i64 x.create, .int .i64 x.mod, .int .i64 x.ver, .int .i64 x.lease]] 1) :: F) ∧ (e 0 = kvsV l ∧ e 3 = .ptr a 8 0 0 ∧ e 5 = .int .i64 k ∧ e 6 = .bool there)) ?_ ?_
  · rcases hkl with ⟨hlt, y, hy, hyt⟩ | ⟨hlt, hth⟩
    · have c1 : ((k : Int) < l.length) = True := by simp; omega
      simp (disch := omega) only [go_sem, simprocAttr, c1, hy, ha, kvC, hyt]
      exact hs
    · have c1 : ((k : Int) < l.length) = False := by simp; omega
      rw [hth]
      simp (disch := omega) only [go_sem, simprocAttr, c1]
      exact hs
  clear hs ha
  rintro e h ⟨hs, he⟩
  simp (disch := omega) only [go_sem, simprocAttr, he, s1]
  refine app_sat (hs.add ow_nil) (src_lst (kvC_len _)) (atoms_kv _) (by simp; omega) fun v1 h hs c1 a1 => ?_
  have ha := hs.p1.at
  simp (disch := omega) only [go_sem, simprocAttr, c1, a1, he, ha]
  refine cnd_join (Q := fun e h => sat h (Ow 6 (e 7) ((l.take k ++ v.c.kv.toList).map kvC) :: F) ∧ (e 0 = kvsV l ∧ e 5 = .int .i64 k ∧ e 6 = .bool there)) ?_ ?_
  · rcases em with ⟨e1, e2⟩ | ⟨e1, e2⟩
    · simp (disch := omega) only [go_sem, simprocAttr, e1, he]
      rw [e2, Option.toList_none, List.append_nil]
      exact hs.d1
    · simp (disch := omega) only [go_sem, simprocAttr, e1, he, ha]
      refine new_opq hs fun z h hs => ?_
      simp (disch := omega) only [go_sem, simprocAttr]
      refine app_sat hs.p1 (src_one hs.at) (atoms_one (by simp [AV.isAtom])) (by simp; omega) fun v2 h hs c2 a2 => ?_
      simp (disch := omega) only [go_sem, simprocAttr, c2, a2, he]
      rw [e2, Option.toList_some, List.map_append]
      have hkx : kvC x = [.str v.c.key, .str x.val, .int .i64 x.create, .int .i64 x.mod, .int .i64 x.ver, .int .i64 x.lease] := by rw [← ek]; rfl
      rw [List.map_cons, List.map_nil, hkx]
      simpa using hs.d1.d1
  clear hs he ha
  rintro e h ⟨hs, he⟩
  simp (disch := omega) only [go_sem, simprocAttr, he]
  refine cnd_join (Q := fun e h => sat h (Ow 6 (e 7) ((l.take k ++ v.c.kv.toList).map kvC) :: F) ∧ (e 0 = kvsV l ∧ e 5 = .int .i64 (if there = true then k + 1 else k : Nat))) ?_ ?_
  · cases there with
    | true =>
      simp (disch := omega) only [go_sem, simprocAttr, he, m1]
      exact hs
    | false =>
      simp (disch := omega) only [go_sem, simprocAttr, he]
      exact hs
  clear hs he
  rintro e h ⟨hs, he⟩
  have hj : (if there = true then k + 1 else k) ≤ l.length := by
    cases there with
    | true => obtain ⟨h5, _⟩ := h3.1 rfl; rw [if_pos rfl]; omega
    | false => rw [if_neg (by simp)]; exact hk
  have s4 := s2 _ hj
  generalize (if there = true then k + 1 else k) = j at he h4 hj s4
  simp (disch := omega) only [go_sem, simprocAttr, he, s4]
  refine app_sat hs (src_lst (kvC_len _)) (atoms_kv _) (by simp; cases v.c.kv <;> simp <;> omega) fun v1 h hs c1 a1 => ?_
  simp (disch := omega) only [go_sem, simprocAttr, c1, a1, he]
  rw [h4]
  simpa using hs
theorem rgDone {l : List Kv} {v : Ver} {lv : AV} (hv : SlV lv (l.map kvC)) (hs : sat h F) (hS : SrtK l) (hl : l.length ≤ 1000000) : Triple Tryz.prog 56 [lv, .agg (evC v)] h (fun r h => r = kvsV (done l v.c) ∧ sat h F) :=
  Triple.vi (bs := [kvsV l, .agg (evC v)]) ⟨hv.vi, VI.refl _, trivial⟩ (Triple.lst 6 ((rgDoneO hs hS hl).mono fun r h hs => ⟨_, _, hs, fun h hs => ⟨rfl, hs⟩⟩))
end
end Go.Proofs.YtaioncbpfckhaaaGreat
