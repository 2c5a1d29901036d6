/- The order in which a region that may be done in any order is walked, and the look that this order serves. -/
import Derived.Test.YtfbflmiipepmiaaHzWp
namespace Go.Hz

def itLooks (x : AItem) : List Nat :=
  match x.g with
  | none => x.op.looks
  | some (g, _) => g :: x.op.looks

theorem itLooks_item (P : Program) (x : AItem) : (x.item P).looks = itLooks x := by
  obtain ⟨d, op, g⟩ := x
  cases g <;> rfl

def noIn (d : Option Nat) (l : List Nat) : Bool := match d with | some t => !l.contains t | none => true
def neD (d d' : Option Nat) : Bool := match d with | some t => d' != some t | none => true

theorem noIn_ok {d : Option Nat} {l : List Nat} (h : noIn d l = true) : ∀ t, d = some t → t ∉ l := fun t ht => by
  rw [ht] at h; simpa [noIn] using h
theorem neD_ok {d d' : Option Nat} (h : neD d d' = true) : ∀ t, d = some t → d' ≠ some t := fun t ht => by
  rw [ht] at h; simpa [neD] using h

def kindsB (kx ky : Kind) (ob : Bool) : Bool :=
  match kx, ky with
  | .pure, _ => true
  | _, .pure => true
  | .load, .load => true
  | .load, .mk => true
  | .mk, .mk => true
  | .load, .eff => ob
  | .eff, .mk => true
  | _, _ => false

def compatB (it : Nat → AItem) (obl : Nat → List Nat) (ix iy : Nat) : Bool :=
  let x := it ix
  let y := it iy
  noIn x.d (itLooks y) && (noIn y.d (itLooks x) && (neD x.d y.d && (noIn x.d (itLooks x) &&
  ((obl ix).all (fun l => noIn y.d (itLooks (it l)) && neD y.d (it l).d) &&
  kindsB x.op.kind y.op.kind ((obl iy).contains ix)))))

theorem kind_pure {P : Program} {x : AItem} (h : x.op.kind = .pure) : (x.item P).s.isPure = true := by
  obtain ⟨d, op, g⟩ := x
  have := AOp.kind_pure (P := P) h
  cases g with
  | none => exact this
  | some gw =>
    obtain ⟨g, w⟩ := gw
    simp only [AItem.item]
    revert this
    cases op.sm P <;> simp [Sm.guard, Sm.isPure]
theorem kind_load {P : Program} {x : AItem} (h : x.op.kind = .load) : (x.item P).s.isLoad = true := by
  obtain ⟨d, op, g⟩ := x
  have := AOp.kind_load (P := P) h
  cases g with
  | none => exact this
  | some gw =>
    obtain ⟨g, w⟩ := gw
    simp only [AItem.item]
    revert this
    cases op.sm P <;> simp [Sm.guard, Sm.isLoad]
theorem kind_mk {P : Program} {x : AItem} (h : x.op.kind = .mk) : (x.item P).s.isMk = true := by
  obtain ⟨d, op, g⟩ := x
  have := AOp.kind_mk (P := P) h
  cases g with
  | none => exact this
  | some gw =>
    obtain ⟨g, w⟩ := gw
    simp only [AItem.item]
    revert this
    cases op.sm P <;> simp [Sm.guard, Sm.isMk]
theorem kind_eff {P : Program} {x : AItem} (h : x.op.kind = .eff) : (x.item P).s.isEff = true := by
  obtain ⟨d, op, g⟩ := x
  have := AOp.kind_eff (P := P) h
  cases g with
  | none => exact this
  | some gw =>
    obtain ⟨g, w⟩ := gw
    simp only [AItem.item]
    revert this
    cases op.sm P <;> simp [Sm.guard, Sm.isEff]

theorem compatB_ok {P : Program} {it : Nat → AItem} {obl : Nat → List Nat} {ix iy : Nat} (h : compatB it obl ix iy = true) : Compat (fun i => (it i).item P) obl ix iy := by
  simp only [compatB, Bool.and_eq_true, List.all_eq_true] at h
  obtain ⟨h1, h2, h3, h4, h5, h7⟩ := h
  refine ⟨⟨?_, ?_, ?_⟩, ?_, ?_, ?_⟩
  · simp only [AItem.item_d, itLooks_item]; exact noIn_ok h1
  · simp only [AItem.item_d, itLooks_item]; exact noIn_ok h2
  · simp only [AItem.item_d]; exact neD_ok h3
  · simp only [AItem.item_d, itLooks_item]; exact noIn_ok h4
  · intro l hl t ht
    simp only [AItem.item_d, itLooks_item] at ht ⊢
    exact ⟨noIn_ok (h5 l hl).1 t ht, neD_ok (h5 l hl).2 t ht⟩
  · cases hx : (it ix).op.kind with
    | pure => exact .inl (kind_pure hx)
    | load =>
      cases hy : (it iy).op.kind with
      | pure => exact .inr (.inl (kind_pure hy))
      | load => exact .inr (.inr (.inl ⟨kind_load hx, .inl (kind_load hy)⟩))
      | mk => exact .inr (.inr (.inl ⟨kind_load hx, .inr (kind_mk hy)⟩))
      | eff =>
        rw [hx, hy] at h7
        exact .inr (.inr (.inr (.inr (.inl ⟨kind_load hx, kind_eff hy, by simpa [kindsB] using h7⟩))))
    | mk =>
      cases hy : (it iy).op.kind with
      | pure => exact .inr (.inl (kind_pure hy))
      | mk => exact .inr (.inr (.inr (.inl ⟨kind_mk hx, kind_mk hy⟩)))
      | load => rw [hx, hy] at h7; simp [kindsB] at h7
      | eff => rw [hx, hy] at h7; simp [kindsB] at h7
    | eff =>
      cases hy : (it iy).op.kind with
      | pure => exact .inr (.inl (kind_pure hy))
      | mk => exact .inr (.inr (.inr (.inr (.inr ⟨kind_eff hx, kind_mk hy⟩))))
      | load => rw [hx, hy] at h7; simp [kindsB] at h7
      | eff => rw [hx, hy] at h7; simp [kindsB] at h7

def pairsB (f : Nat → Nat → Bool) : List Nat → Bool
  | [] => true
  | x :: l => l.all (f x) && pairsB f l

theorem pairsB_ok {f : Nat → Nat → Bool} {R : Nat → Nat → Prop} (hf : ∀ x y, f x y = true → R x y) : ∀ {l : List Nat}, pairsB f l = true → l.Pairwise R
  | [], _ => List.Pairwise.nil
  | x :: l, h => by
    simp only [pairsB, Bool.and_eq_true, List.all_eq_true] at h
    exact List.pairwise_cons.2 ⟨fun y hy => hf x y (h.1 y hy), pairsB_ok hf h.2⟩

/-! ### what waits for what, as numbers -/

def force {α : Type} (n : Nat) (k : Nat → α) : α := match n with | 0 => k 0 | m + 1 => k (m + 1)
theorem force_eq {α : Type} (n : Nat) (k : Nat → α) : force n k = k n := by cases n <;> rfl

def edgeM (look : Nat → Nat) (es : List Edge) (s : Nat) : Nat := es.foldl (fun s e => if Region.binds .any e then s ||| (2 ^ e.on ||| look e.on) else s) s
def lookL (acc : List Nat) (j i : Nat) : Nat := if i < j then acc.getD (j - 1 - i) 0 else 0

/-- The numbers, one behind the other; 'acc': the last first. -/
def befK {α : Type} : List Oper → Nat → List Nat → (List Nat → α) → α
  | [], _, acc, k => k acc
  | o :: rest, j, acc, k => force (edgeM (lookL acc j) o.after.toList 0) fun v => befK rest (j + 1) (v :: acc) k

theorem edgeM_bit {look : Nat → Nat} {x : Nat} : ∀ (es : List Edge) (s : Nat), (edgeM look es s).testBit x = true ↔ s.testBit x = true ∨ ∃ e ∈ es, Region.binds .any e = true ∧ (e.on = x ∨ (look e.on).testBit x = true)
  | [], s => by simp [edgeM]
  | e :: es, s => by
    have ih := edgeM_bit (look := look) (x := x) es
    unfold edgeM at ih ⊢
    rw [List.foldl_cons, ih]
    by_cases hb : Region.binds .any e = true
    · rw [if_pos hb]
      simp only [Nat.testBit_or, Bool.or_eq_true, Nat.testBit_two_pow, decide_eq_true_eq, List.mem_cons, exists_eq_or_imp, hb, true_and]
      constructor
      · rintro ((h | h | h) | h)
        · exact .inl h
        · exact .inr (.inl (.inl h))
        · exact .inr (.inl (.inr h))
        · exact .inr (.inr h)
      · rintro (h | (h | h) | h)
        · exact .inl (.inl h)
        · exact .inl (.inr (.inl h))
        · exact .inl (.inr (.inr h))
        · exact .inr h
    · rw [if_neg hb]
      simp only [List.mem_cons, exists_eq_or_imp, hb]
      simp

/-- That the numbers are what they are said to be. -/
def BefOK (ops : List Oper) (acc : List Nat) (j : Nat) : Prop :=
  acc.length = j ∧ ∀ y (hy : y < j) (hy' : y < ops.length), acc.getD (j - 1 - y) 0 = edgeM (fun i => if i < y then acc.getD (j - 1 - i) 0 else 0) ops[y].after.toList 0

theorem befK_eq {α : Type} {k : List Nat → α} {ops : List Oper} : ∀ (rest pre : List Oper) (acc : List Nat), ops = pre ++ rest → BefOK ops acc pre.length → ∃ acc', befK rest pre.length acc k = k acc' ∧ BefOK ops acc' ops.length
  | [], pre, acc, he, hb => ⟨acc, rfl, by rw [he]; simpa [he] using hb⟩
  | o :: rest, pre, acc, he, hb => by
    have hpl : (pre ++ [o]).length = pre.length + 1 := by simp
    have hstep : BefOK ops (edgeM (lookL acc pre.length) o.after.toList 0 :: acc) (pre ++ [o]).length := by
      obtain ⟨h1, h2⟩ := hb
      refine ⟨by simp [h1], fun y hy hy' => ?_⟩
      rw [hpl] at hy ⊢
      have shift : ∀ i, i < pre.length → (edgeM (lookL acc pre.length) o.after.toList 0 :: acc).getD (pre.length + 1 - 1 - i) 0 = acc.getD (pre.length - 1 - i) 0 := fun i hi => by
        rw [show pre.length + 1 - 1 - i = (pre.length - 1 - i) + 1 from by omega]; rfl
      by_cases hyl : y = pre.length
      · subst hyl
        have ho : ops[pre.length]'hy' = o := by
          simp only [he]
          rw [List.getElem_append_right (by omega)]; simp
        rw [ho, show pre.length + 1 - 1 - pre.length = 0 from by omega]
        simp only [List.getD_cons_zero]
        congr 1
        funext i
        unfold lookL
        split
        · rename_i hi; exact (shift i hi).symm
        · rfl
      · have hy2 : y < pre.length := by omega
        rw [shift y hy2, h2 y hy2 hy']
        congr 1
        funext i
        split
        · rename_i hi; exact (shift i (by omega)).symm
        · rfl
    have := befK_eq (k := k) (ops := ops) rest (pre ++ [o]) _ (by rw [he]; simp) hstep
    rw [hpl] at this
    obtain ⟨acc', h3, h4⟩ := this
    exact ⟨acc', by rw [befK, force_eq]; exact h3, h4⟩

def reachL (acc : List Nat) (n x y : Nat) : Bool := (acc.getD (n - 1 - y) 0).testBit x && decide (y < n)

theorem reachL_ok {ops : Array Oper} {acc : List Nat} (h : BefOK ops.toList acc ops.size) : Reaches ops (reachL acc ops.size) := by
  intro listed x y
  induction y using Nat.strongRecOn with
  | _ y ih =>
    intro oy hc hy hall hr
    simp only [reachL, Bool.and_eq_true, decide_eq_true_eq] at hr
    have hyl : y < ops.toList.length := by simpa using hr.2
    rw [h.2 y hr.2 hyl, edgeM_bit] at hr
    have hoy : ops.toList[y] = oy := by
      rw [Array.getElem?_eq_getElem hr.2] at hy
      have := Option.some.inj hy
      simpa using this
    rw [hoy] at hr
    rcases hr.1 with h0 | ⟨e, he, hb, h0⟩
    · simp at h0
    · have hl := hall e (by simpa using he) hb
      rcases h0 with h0 | h0
      · rw [← h0]; exact hl
      · split at h0
        · rename_i hlt
          have hel : e.on < ops.size := by omega
          have hoe : ops[e.on]? = some ops[e.on] := Array.getElem?_eq_getElem hel
          exact ih e.on hlt ops[e.on] hc hoe (fun e' he' hb' => hc e.on _ hoe hl e' he' hb') (by simp only [reachL, h0, hel, decide_true, Bool.and_self])
        · simp at h0

theorem reachL_dep {ops : Array Oper} {acc : List Nat} (h : BefOK ops.toList acc ops.size) {x y : Nat} (hd : dep ops y x = true) : reachL acc ops.size x y = true := by
  unfold dep at hd
  split at hd <;> first | (cases hd; done) | skip
  rename_i oj hj
  obtain ⟨e, he, hb⟩ := Array.any_eq_true'.1 hd
  simp only [Bool.and_eq_true, beq_iff_eq] at hb
  have hlt : y < ops.size := (Array.getElem?_eq_some_iff.1 hj).1
  have hyl : y < ops.toList.length := by simpa using hlt
  have hoy : ops.toList[y] = oj := by
    rw [Array.getElem?_eq_getElem hlt] at hj
    have := Option.some.inj hj
    simpa using this
  simp only [reachL, Bool.and_eq_true, decide_eq_true_eq]
  refine ⟨?_, hlt⟩
  rw [h.2 y hlt hyl, edgeM_bit, hoy]
  exact .inr ⟨e, by simpa using he, hb.1, .inl hb.2⟩

/-! ### the look -/

def clearB (rb : Nat → Nat → Bool) (it : Nat → AItem) (obl : Nat → List Nat) (x y : Nat) : Bool :=
  (obl y).all fun l => l == x || ((noIn (it x).d (itLooks (it l)) && neD (it x).d (it l).d) || rb x l)

def orderB (n : Nat) (acc : List Nat) (it : Nat → AItem) (obl : Nat → List Nat) (c : List Nat) : Bool :=
  pairsB (fun x y => x != y && ((reachL acc n x y || compatB it obl x y) && (!reachL acc n y x && (!(obl x).contains y && clearB (reachL acc n) it obl x y)))) c &&
    (c.all fun x => !reachL acc n x x && (decide (acc.getD (n - 1 - x) 0 < 2 ^ n) && (decide (x < n) && (obl x).all fun l => decide (l < n) && l != x))) && ((List.range n).all (fun i => c.contains i) && c.length == n)

theorem orderB_ok {P : Program} {ops : Array Oper} {acc : List Nat} (hb : BefOK ops.toList acc ops.size) {it : Nat → AItem} {obl : Nat → List Nat} {c : List Nat} (h : orderB ops.size acc it obl c = true) :
    OrderOK ops (reachL acc ops.size) (fun i => (it i).item P) obl c ∧ (∀ i ∈ c, i < ops.size) ∧ (∀ i, i < ops.size → i ∈ c) ∧ c.length = ops.size := by
  simp only [orderB, Bool.and_eq_true, List.all_eq_true] at h
  obtain ⟨⟨h1, h2⟩, h3, h4⟩ := h
  have nod : ∀ x y, reachL acc ops.size y x = false → dep ops x y = false := fun x y hr => by
    cases hd : dep ops x y with
    | false => rfl
    | true => rw [reachL_dep hb hd] at hr; cases hr
  refine ⟨⟨pairsB_ok (fun x y hxy => ?_) h1, pairsB_ok (fun x y hxy => ?_) h1, pairsB_ok (fun x y hxy => ?_) h1, pairsB_ok (fun x y hxy => ?_) h1, pairsB_ok (fun x y hxy => ?_) h1, fun y hy l hl => ?_, fun x hx => ?_, fun x hx oy hoy e he hbe => ?_⟩, fun i hi => ?_, fun i hi => ?_, by simpa using h4⟩
  · simp only [Bool.and_eq_true, bne_iff_ne] at hxy; exact hxy.1
  · simp only [Bool.and_eq_true, Bool.or_eq_true] at hxy
    exact hxy.2.1.symm.imp compatB_ok id
  · simp only [Bool.and_eq_true, Bool.not_eq_true'] at hxy; exact nod _ _ hxy.2.2.1
  · simp only [Bool.and_eq_true, Bool.not_eq_true'] at hxy; exact ⟨hxy.2.2.1, by simpa using hxy.2.2.2.1⟩
  · simp only [Bool.and_eq_true] at hxy
    have := hxy.2.2.2.2
    simp only [clearB, List.all_eq_true, Bool.or_eq_true, beq_iff_eq, Bool.and_eq_true] at this
    intro l hl
    rcases this l hl with h | h | h
    · exact .inl h
    · refine .inr (.inl fun t ht => ?_)
      simp only [AItem.item_d, itLooks_item] at ht ⊢
      exact ⟨noIn_ok h.1 t ht, neD_ok h.2 t ht⟩
    · exact .inr (.inr h)
  · have := (h2 y hy).2.2.2
    have := this l hl
    simpa using this
  · exact nod _ _ (by simpa using (h2 x hx).1)
  · have hx' := (h2 x hx).2.1
    have hr : reachL acc ops.size e.on x = true := reachL_dep hb (by
      unfold dep
      rw [hoy]
      exact Array.any_eq_true'.2 ⟨e, he, by simp [hbe]⟩)
    simp only [reachL, Bool.and_eq_true] at hr
    simp only [decide_eq_true_eq] at hx'
    rcases Nat.lt_or_ge e.on ops.size with hlt | hge
    · exact hlt
    · have := Nat.testBit_lt_two_pow (Nat.lt_of_lt_of_le hx' (Nat.pow_le_pow_right (by omega) hge))
      rw [this] at hr; cases hr.1
  · simpa using (h2 i hi).2.2.1
  · simpa using h3 i (List.mem_range.2 hi)

/-- The order: what computes and what reads as early as may be, then what does something, what makes a block last. -/
def rank : Kind → Nat
  | .pure => 0
  | .load => 0
  | .eff => 1
  | .mk => 2

def pickB (it : Nat → AItem) (l : List Nat) : Option Nat :=
  match l.find? (fun i => rank (it i).op.kind == 0), l.find? (fun i => rank (it i).op.kind == 1), l with
  | some i, _, _ => some i
  | none, some i, _ => some i
  | none, none, i :: _ => some i
  | none, none, [] => none

/-- Which are ready: not done, and all that they wait for is done. -/
def readyL (n : Nat) (acc : List Nat) (done : Nat) : List Nat := (List.range n).filter fun i => !done.testBit i && Nat.beq (Nat.land (acc.getD (n - 1 - i) 0) done) (acc.getD (n - 1 - i) 0)

def canonB (n : Nat) (acc : List Nat) (it : Nat → AItem) : Nat → Nat → List Nat → List Nat
  | 0, _, out => out.reverse
  | m + 1, done, out => match pickB it (readyL n acc done) with
    | some i => force (done ||| 2 ^ i) fun done' => canonB n acc it m done' (i :: out)
    | none => out.reverse

def oblB (n : Nat) (acc : List Nat) (it : Nat → AItem) (c : List Nat) (y : Nat) : List Nat :=
  match (it y).op.kind with
  | .eff => (c.takeWhile (fun x => !Nat.beq x y)).filter fun x => (match (it x).op.kind with | .load => true | _ => false) && !reachL acc n x y
  | _ => []

def assocL : List (Nat × List Nat) → Nat → List Nat
  | [], _ => []
  | (k, v) :: l, y => if Nat.beq k y = true then v else assocL l y

def compReg (P : Program) (n : Nat) (ops : Array Oper) (draw : Bool) : Option (List (AItem × List AItem)) :=
  match compItems P n ops ops.toList with
  | some xs =>
    if draw = true then befK ops.toList 0 [] fun acc =>
      let c := canonB ops.size acc (getI xs) ops.size 0 []
      let ob := assocL (c.map fun y => (y, oblB ops.size acc (getI xs) c y))
      if orderB ops.size acc (getI xs) ob c = true then some (c.map fun i => (getI xs i, (ob i).map (getI xs))) else none
    else some (xs.map fun x => (x, []))
  | none => none

theorem compReg_ok {P : Program} {id n : Nat} {ops : Array Oper} {draw : Bool} {l : List (AItem × List AItem)} (hm : P.follows .mixedOrders = true) (hl : compReg P n ops draw = some l) {Q : Exit → Act → World → Prop} {K : Env → Hp → Prop} {fz : Nat → Prop} {e : Env} {h : Hp} {a : Act} {w : World}
    (hst : St n fz e h a w) (hh : wpS P l e h K) (hq : ∀ fz' e' h' a' w', K e' h' → St n fz' e' h' a' w' → Ext fz h w fz' h' w' → a'.defers = a.defers → Q .normal a' w') : (Code.region id ops draw).wp P Q a w := by
  unfold compReg at hl
  split at hl <;> first | (cases hl; done) | skip
  rename_i xs hx
  cases draw with
  | false =>
    simp only [Bool.false_eq_true, if_false] at hl
    cases hl
    exact region_text hx hst hh hq
  | true =>
    simp only [if_true] at hl
    obtain ⟨acc, h0, hbo⟩ := befK_eq (k := fun acc =>
      let c := canonB ops.size acc (getI xs) ops.size 0 []
      let ob := assocL (c.map fun y => (y, oblB ops.size acc (getI xs) c y))
      if orderB ops.size acc (getI xs) ob c = true then some (c.map fun i => (getI xs i, (ob i).map (getI xs))) else none) ops.toList [] [] rfl ⟨rfl, fun y hy => by simp at hy⟩
    have hl2 := h0.symm.trans hl
    clear h0 hl
    have hbo' : BefOK ops.toList acc ops.size := by simpa using hbo
    simp only at hl2
    split at hl2 <;> first | (cases hl2; done) | skip
    rename_i hok
    cases hl2
    obtain ⟨h1, h2, h3, hlen⟩ := orderB_ok (P := P) hbo' hok
    have hI := wpS_I _ _ _ hh
    refine wp_region_any hm ?_
    generalize canonB ops.size acc (getI xs) ops.size 0 [] = c at *
    have hst1 : St n fz e h a { w with drawn := w.drawn + 1 } := ⟨hst.size, hst.env, hst.rel.drew⟩
    have := region_any (reachL_ok hbo') (fun i => AItem.good P _) (items_sim hx) (Q := Q) ops.size c (Array.replicate ops.size false) hlen h1 (by simp) (fun j oj hj hl => by
      rcases Nat.lt_or_ge j ops.size with hh | hh
      · simp [hh] at hl
      · simp [hh] at hl) h2 (fun i hi => by simp [hi, h3 i hi]) fz e h a _ hst1 hI (fun fz' e' h' a' w' k s x d => hq fz' e' h' a' w' k s ((Ext.drew).trans x) d)
    exact this

end Go.Hz
