/- Code over the proofs' values; functions; from a walk over it to what a call does. -/
import Derived.Test.YtfbflmiipepmiaaHzComp
namespace Go.Hz

structure AItem where
  d : Option Nat
  op : AOp
  g : Option (Nat × Bool) := none

instance : Inhabited AItem := ⟨⟨none, default, none⟩⟩

def AItem.item (P : Program) (x : AItem) : Item :=
  match x.g with
  | none => ⟨x.d, x.op.sm P, x.op.looks⟩
  | some (g, w) => ⟨x.d, (x.op.sm P).guard g w, g :: x.op.looks⟩

theorem AItem.good (P : Program) (x : AItem) : (x.item P).s.good (x.item P).looks := by
  obtain ⟨d, op, g⟩ := x
  cases g with
  | none => exact op.good P
  | some gw => obtain ⟨g, w⟩ := gw; exact good_guard (op.good P)

theorem AItem.item_d (P : Program) (x : AItem) : (x.item P).d = x.d := by
  obtain ⟨d, op, g⟩ := x
  cases g with
  | none => rfl
  | some gw => rfl

/-- A load that was done reads what it read. -/
def stab (P : Program) (l : AItem) (e : Env) (h : Hp) : Prop :=
  match (l.item P).s, l.d with
  | .load f, some d => f e h = some (e d)
  | _, _ => False

/-- One step: an operation, and the loads that must stand. -/
def stepA (P : Program) (x : AItem) (obl : List AItem) (e : Env) (h : Hp) (K : Env → Hp → Prop) : Prop :=
  match (x.item P).s with
  | .pure f => ∃ v, f e = some v ∧ K (e.put x.d v) h
  | .load f => ∃ v, f e h = some v ∧ K (e.put x.d v) h
  | .mk f => ∃ r, f e = some r ∧ match r with
    | .inl v => K (e.put x.d v) h
    | .inr (o, g) => ∀ n, h n = none → K (e.put x.d (g n)) (h.set n o)
  | .eff f => f e h fun v h' => (∀ l ∈ obl, stab P l (e.put x.d v) h') ∧ K (e.put x.d v) h'

def wpS (P : Program) : List (AItem × List AItem) → Env → Hp → (Env → Hp → Prop) → Prop
  | [], e, h, K => K e h
  | (x, obl) :: l, e, h, K => stepA P x obl e h fun e' h' => wpS P l e' h' K

theorem wpS_I {P : Program} {items : Nat → AItem} {obl : Nat → List Nat} {K : Env → Hp → Prop} : ∀ (l : List Nat) (e : Env) (h : Hp),
    wpS P (l.map fun i => (items i, (obl i).map items)) e h K → wpI (fun i => (items i).item P) obl l e h K
  | [], _, _, hh => hh
  | i :: l, e, h, hh => by
    simp only [List.map_cons, wpS] at hh
    simp only [wpI]
    unfold stepA at hh
    unfold stepI
    have hg := (items i).good P
    have hst : ∀ (j : Nat) (e : Env) (h : Hp), stab P (items j) e h → stable (fun i => (items i).item P) j e h := fun j e h hs => by
      unfold stab at hs
      unfold stable
      rw [AItem.item_d]; exact hs
    rw [AItem.item_d]
    split <;> rename_i heq <;> simp only [heq] at hh hg
    · obtain ⟨v, h1, h2⟩ := hh; exact ⟨v, h1, wpS_I l _ _ h2⟩
    · obtain ⟨v, h1, h2⟩ := hh; exact ⟨v, h1, wpS_I l _ _ h2⟩
    · obtain ⟨r, h1, h2⟩ := hh
      refine ⟨r, h1, ?_⟩
      cases r with
      | inl v => exact wpS_I l _ _ h2
      | inr og => exact fun n hn => wpS_I l _ _ (h2 n hn)
    · refine hg.2.1 _ _ _ _ (fun v h' ⟨a, b⟩ => ⟨fun j hj => hst j _ _ (a _ (List.mem_map_of_mem hj)), wpS_I l _ _ b⟩) hh

inductive ACode where
  | skip
  | reg (l : List (AItem × List AItem))
  | seq (a b : ACode)
  | cond (c : AE) (t f : ACode)
  | block (id : Nat) (b : ACode)
  | loop (b : ACode)
  | exit (id : Nat)
  | ret

def wpA (P : Program) : ACode → Env → Hp → (Env → Hp → Prop) → (Env → Hp → Prop) → (Nat → Env → Hp → Prop) → Prop
  | .skip, e, h, kn, _, _ => kn e h
  | .reg l, e, h, kn, _, _ => wpS P l e h kn
  | .seq a b, e, h, kn, kr, kx => wpA P a e h (fun e h => wpA P b e h kn kr kx) kr kx
  | .cond c t f, e, h, kn, kr, kx => ∃ b, c.ev e = .bool b ∧ (b = true → wpA P t e h kn kr kx) ∧ (b = false → wpA P f e h kn kr kx)
  | .block id b, e, h, kn, kr, kx => wpA P b e h kn kr fun i e h => if i = id then kn e h else kx i e h
  | .loop b, e, h, _, kr, kx => ∃ (I : Env → Hp → Prop) (μ : Env → Hp → Nat), I e h ∧ ∀ e h, I e h → wpA P b e h (fun e' h' => I e' h' ∧ μ e' h' < μ e h) kr kx
  | .exit id, e, h, _, _, kx => kx id e h
  | .ret, e, h, _, kr, _ => kr e h

theorem stepA_mono {P : Program} {x : AItem} {obl : List AItem} {e : Env} {h : Hp} {K K' : Env → Hp → Prop} (hk : ∀ e h, K e h → K' e h) (hh : stepA P x obl e h K) : stepA P x obl e h K' := by
  have hg := x.good P
  unfold stepA at *
  split <;> rename_i heq <;> simp only [heq] at hh hg
  · obtain ⟨v, h1, h2⟩ := hh; exact ⟨v, h1, hk _ _ h2⟩
  · obtain ⟨v, h1, h2⟩ := hh; exact ⟨v, h1, hk _ _ h2⟩
  · obtain ⟨r, h1, h2⟩ := hh
    refine ⟨r, h1, ?_⟩
    cases r with
    | inl v => exact hk _ _ h2
    | inr og => exact fun n hn => hk _ _ (h2 n hn)
  · exact hg.2.1 _ _ _ _ (fun v h' ⟨a, b⟩ => ⟨a, hk _ _ b⟩) hh

theorem wpS_mono {P : Program} {K K' : Env → Hp → Prop} (hk : ∀ e h, K e h → K' e h) : ∀ (l : List (AItem × List AItem)) (e : Env) (h : Hp), wpS P l e h K → wpS P l e h K'
  | [], _, _, hh => hk _ _ hh
  | (_, _) :: l, _, _, hh => stepA_mono (fun e h => wpS_mono hk l e h) hh

/-! ### from the model's code -/

def dstOK (n : Nat) : Option Nat → Bool
  | some d => decide (d < n)
  | none => true

def compItem (P : Program) (n : Nat) (ops : Array Oper) (o : Oper) : Option AItem :=
  match compOp P o with
  | some op => if dstOK n o.dst = true then
      match o.guard with
      | none => some ⟨o.dst, op, none⟩
      | some (j, w) => match (ops[j]?).bind (·.dst) with
        | some g => some ⟨o.dst, op, some (g, w)⟩
        | none => none
    else none
  | none => none

def compItems (P : Program) (n : Nat) (ops : Array Oper) : List Oper → Option (List AItem)
  | [] => some []
  | o :: l => match compItem P n ops o, compItems P n ops l with
    | some x, some xs => some (x :: xs)
    | _, _ => none

theorem compItem_sim {P : Program} {n : Nat} {ops : Array Oper} {o : Oper} {x : AItem} {i : Nat} {S : Nat → Item} (h : compItem P n ops o = some x) (ho : ops[i]? = some o) (hS : S i = x.item P) : Sim P ops n S i := by
  unfold compItem at h
  split at h <;> first | (cases h; done) | skip
  rename_i op hop
  split at h <;> first | (cases h; done) | skip
  rename_i hd
  have hok := compOp_ok hop
  have hd' : ∀ t, o.dst = some t → t < n := fun t ht => by rw [ht] at hd; simpa [dstOK] using hd
  split at h
  · rename_i hg
    cases h
    refine hok.sim ho hd' (by rw [hS]; rfl) (by rw [hS]; exact AItem.good P _) ?_
    rw [hg, hS]; rfl
  · rename_i j w hg
    split at h <;> first | (cases h; done) | skip
    rename_i g hgd
    cases h
    refine hok.sim ho hd' (by rw [hS]; rfl) (by rw [hS]; exact AItem.good P _) ?_
    rw [hg, hS]
    exact ⟨g, hgd, rfl⟩

theorem compItems_get {P : Program} {n : Nat} {ops : Array Oper} : ∀ {l : List Oper} {xs : List AItem}, compItems P n ops l = some xs → xs.length = l.length ∧ ∀ i (h : i < l.length) (h' : i < xs.length), compItem P n ops l[i] = some xs[i]
  | [], xs, h => by cases h; exact ⟨rfl, fun i h => by simp at h⟩
  | o :: l, xs, h => by
    unfold compItems at h
    split at h <;> first | (cases h; done) | skip
    rename_i x xs' h1 h2
    cases h
    obtain ⟨g1, g2⟩ := compItems_get h2
    refine ⟨by simp [g1], fun i a b => ?_⟩
    cases i with
    | zero => exact h1
    | succ i => exact g2 i (by simpa using a) (by simpa using b)

/-- A number outside the region: an operation that does nothing. -/
def nopItem : AItem := ⟨none, .mv (.cs (.tup [])), none⟩

def getI (xs : List AItem) (i : Nat) : AItem := xs.getD i nopItem

theorem sim_out {P : Program} {ops : Array Oper} {n : Nat} {S : Nat → Item} {i : Nat} (hi : ops[i]? = none) (hS : S i = nopItem.item P) : Sim P ops n S i := by
  intro Q fz e h a w K hst hh next hk
  unfold wpOp
  rw [hi]
  unfold stepI at hh
  rw [hS] at hh
  obtain ⟨v, _, h2⟩ := hh
  exact hk fz _ h a w h2 hst (Ext.refl _ _ _) rfl

theorem items_sim {P : Program} {n : Nat} {ops : Array Oper} {xs : List AItem} (h : compItems P n ops ops.toList = some xs) (i : Nat) : Sim P ops n (fun i => (getI xs i).item P) i := by
  obtain ⟨g1, g2⟩ := compItems_get h
  by_cases hi : i < ops.size
  · have h1 : i < ops.toList.length := by simpa using hi
    have h2 : i < xs.length := by rw [g1]; exact h1
    refine compItem_sim (o := ops[i]) (x := xs[i]) (by simpa using g2 i h1 h2) (Array.getElem?_eq_getElem hi) ?_
    simp only [getI, List.getD_eq_getElem?_getD, List.getElem?_eq_getElem h2, Option.getD_some]
  · refine sim_out (Array.getElem?_eq_none (by omega)) ?_
    have h2 : ¬ i < xs.length := by rw [g1]; simpa using hi
    simp only [getI, List.getD_eq_getElem?_getD, List.getElem?_eq_none (by omega : xs.length ≤ i), Option.getD_none]

/-- What the end of a piece of code must give. -/
def Fin (n : Nat) (fz0 : Nat → Prop) (h0 : Hp) (w0 : World) (K : Env → Hp → Prop) (a : Act) (w : World) : Prop :=
  ∃ fz e h, St n fz e h a w ∧ K e h ∧ Ext fz0 h0 w0 fz h w ∧ a.defers = []

theorem ops_text {P : Program} {ops : Array Oper} {n : Nat} {S : Nat → Item} (hsim : ∀ i, Sim P ops n S i) (hgood : ∀ i, (S i).s.good (S i).looks) {Q : Exit → Act → World → Prop} {K : Env → Hp → Prop} : ∀ (l : List Nat) (fz : Nat → Prop) (e : Env) (h : Hp) (a : Act) (w : World),
    St n fz e h a w → wpI S (fun _ => []) l e h K → (∀ fz' e' h' a' w', K e' h' → St n fz' e' h' a' w' → Ext fz h w fz' h' w' → a'.defers = a.defers → Q .normal a' w') → wpOps P ops Q l a w
  | [], fz, e, h, a, w, hst, hh, hq => hq fz e h a w hh hst (Ext.refl _ _ _) rfl
  | i :: l, fz, e, h, a, w, hst, hh, hq => by
    rw [wpOps_cons]
    refine hsim i Q fz e h a w _ hst hh _ fun fz' e' h' a' w' hk hst' hx hd => ?_
    exact ops_text hsim hgood l fz' e' h' a' w' hst' hk fun fz2 e2 h2 a2 w2 hk2 hst2 hx2 hd2 => hq fz2 e2 h2 a2 w2 hk2 hst2 (hx.trans hx2) (hd2.trans hd)

theorem region_text {P : Program} {id n : Nat} {ops : Array Oper} {xs : List AItem} (hx : compItems P n ops ops.toList = some xs) {Q : Exit → Act → World → Prop} {K : Env → Hp → Prop} {fz : Nat → Prop} {e : Env} {h : Hp} {a : Act} {w : World} (hst : St n fz e h a w)
    (hh : wpS P (xs.map fun x => (x, [])) e h K) (hq : ∀ fz' e' h' a' w', K e' h' → St n fz' e' h' a' w' → Ext fz h w fz' h' w' → a'.defers = a.defers → Q .normal a' w') : (Code.region id ops false).wp P Q a w := by
  refine wp_region (ops_text (items_sim hx) (fun i => AItem.good P _) (List.range ops.size) fz e h a w hst ?_ hq)
  have hl := (compItems_get hx).1
  have : xs.map (fun x => (x, ([] : List AItem))) = (List.range ops.size).map fun i => (getI xs i, (([] : List Nat)).map (getI xs)) := by
    apply List.ext_getElem
    · simp [hl]
    · intro i h1 h2
      simp at h1
      simp [getI, h1]
  rw [this] at hh
  exact wpS_I _ _ _ hh

end Go.Hz
