/- A logic over the model's memory: values whose frozen parts stand inline, a heap of owned blocks, and what a call does to them. -/
import Derived.Below
import Derived.Orders
namespace Go.Hz

/-- A value as the proofs see it: what is never written again (lst, ro) stands inline; what is owned is named by its block. -/
inductive AV where
  | undef
  | bool (b : Bool)
  | int (k : IntKind) (n : Int)
  | str (l : List UInt8)
  | nilp
  | ptr (b s i k : Nat)
  | ro (cells : List AV)
  | nils
  | emp
  | lst (es : List (List AV))
  | arr (b s off len cap : Nat)
  | nilm
  | map (b : Nat)
  | fn (f : FuncId) (caps : List AV)
  | nilf
  | nili
  | iface (t : TypeId) (v : AV)
  | agg (cs : List AV)
  | tup (vs : List AV)

instance : Inhabited AV := ⟨.undef⟩

/-- The cells of a value. -/
def AV.cells : AV → List AV
  | .agg cs => cs
  | v => [v]

/-- What a value of the proofs says of a value of the model; fz: the blocks that are never written again; H: the memory. -/
inductive VR (fz : Nat → Prop) (H : Array Obj) : AV → Value → Prop
  | undef (v) : VR fz H .undef v
  | bool (b) : VR fz H (.bool b) (.bool b)
  | int (k n) : VR fz H (.int k n) (.int k n)
  | str (l) : VR fz H (.str l) (.string ⟨l.toArray⟩)
  | nilp : VR fz H .nilp (.pointer none)
  | ptr (b s i k) : VR fz H (.ptr b s i k) (.pointer (some ⟨b, i * s + k, none⟩))
  | ro (cells : List AV) (b o : Nat) (c : Array Value) (T fr) (hf : fz b) (hb : H[b]? = some (.cells c T fr)) (hc : o + cells.length ≤ c.size)
      (h : ∀ k (h1 : k < cells.length) (h2 : o + k < c.size), VR fz H cells[k] c[o + k]) : VR fz H (.ro cells) (.pointer (some ⟨b, o, none⟩))
  | nils : VR fz H .nils (.slice none 0 0)
  | emp (a : Addr) (cap) : VR fz H .emp (.slice (some a) 0 cap)
  | lst (es : List (List AV)) (b o s cap : Nat) (c : Array Value) (T fr) (hf : fz b) (hb : H[b]? = some (.cells c T fr)) (hl : es.length ≤ cap)
      (hs : ∀ i (h : i < es.length), es[i].length = s) (hc : o + es.length * s ≤ c.size)
      (h : ∀ i (h1 : i < es.length) k (h2 : k < es[i].length) (h3 : o + i * s + k < c.size), VR fz H es[i][k] c[o + i * s + k]) :
      VR fz H (.lst es) (.slice (some ⟨b, o, none⟩) es.length cap)
  | lst0 (a : Option Addr) (cap) (h0 : a = none → cap = 0) : VR fz H (.lst []) (.slice a 0 cap)
  | arr (b s off len cap) : VR fz H (.arr b s off len cap) (.slice (some ⟨b, off * s, none⟩) len cap)
  | arr0 (b s off o) : VR fz H (.arr b s off 0 0) (.slice (some ⟨b, o, none⟩) 0 0)
  | nilm : VR fz H .nilm (.map none)
  | map (b) : VR fz H (.map b) (.map (some b))
  | fn (f) (caps : List AV) (vs : Array Value) (hl : caps.length = vs.size) (h : ∀ i (h1 : i < caps.length) (h2 : i < vs.size), VR fz H caps[i] vs[i]) :
      VR fz H (.fn f caps) (.func (.func f) #[] vs)
  | nilf : VR fz H .nilf .nilFunc
  | nili : VR fz H .nili .nilIface
  | iface (t v cv) (h : VR fz H v cv) : VR fz H (.iface t v) (.iface t cv)
  | agg (cs : List AV) (vs : Array Value) (hl : cs.length = vs.size) (h : ∀ i (h1 : i < cs.length) (h2 : i < vs.size), VR fz H cs[i] vs[i]) :
      VR fz H (.agg cs) (.agg vs)
  | tup (cs : List AV) (vs : Array Value) (hl : cs.length = vs.size) (h : ∀ i (h1 : i < cs.length) (h2 : i < vs.size), VR fz H cs[i] vs[i]) :
      VR fz H (.tup cs) (.tuple vs)

/-- More frozen blocks, and the frozen ones as they were: what held holds. -/
theorem VR.mono {fz fz' : Nat → Prop} {H H' : Array Obj} {v : AV} {cv : Value} (h : VR fz H v cv) (h1 : ∀ b, fz b → fz' b)
    (h2 : ∀ b, fz b → H'[b]? = H[b]?) : VR fz' H' v cv := by
  induction h with
  | undef v => exact .undef v
  | bool b => exact .bool b
  | int k n => exact .int k n
  | str l => exact .str l
  | nilp => exact .nilp
  | ptr b s i k => exact .ptr b s i k
  | ro cells b o c T fr hf hb hc h ih => exact .ro cells b o c T fr (h1 b hf) ((h2 b hf).trans hb) hc ih
  | nils => exact .nils
  | emp a c => exact .emp a c
  | lst es b o s cap c T fr hf hb hl hs hc h ih => exact .lst es b o s cap c T fr (h1 b hf) ((h2 b hf).trans hb) hl hs hc ih
  | lst0 a cap h0 => exact .lst0 a cap h0
  | arr b s off len cap => exact .arr b s off len cap
  | arr0 b s off o => exact .arr0 b s off o
  | nilm => exact .nilm
  | map b => exact .map b
  | fn f caps vs hl h ih => exact .fn f caps vs hl ih
  | nilf => exact .nilf
  | nili => exact .nili
  | iface t v cv h ih => exact .iface t v cv ih
  | agg cs vs hl h ih => exact .agg cs vs hl ih
  | tup cs vs hl h ih => exact .tup cs vs hl ih

/-- Values side by side. -/
def VRs (fz : Nat → Prop) (H : Array Obj) (as : List AV) (vs : List Value) : Prop :=
  as.length = vs.length ∧ ∀ i (h1 : i < as.length) (h2 : i < vs.length), VR fz H as[i] vs[i]

theorem VRs.mono {fz fz' : Nat → Prop} {H H' : Array Obj} {as : List AV} {vs : List Value} (h : VRs fz H as vs) (h1 : ∀ b, fz b → fz' b)
    (h2 : ∀ b, fz b → H'[b]? = H[b]?) : VRs fz' H' as vs := ⟨h.1, fun i a b => (h.2 i a b).mono h1 h2⟩

theorem VRs.nil {fz : Nat → Prop} {H : Array Obj} : VRs fz H [] [] := ⟨rfl, fun i h => by simp at h⟩

theorem VRs.cons {fz : Nat → Prop} {H : Array Obj} {a : AV} {v : Value} {as : List AV} {vs : List Value} (h : VR fz H a v) (hs : VRs fz H as vs) :
    VRs fz H (a :: as) (v :: vs) := by
  refine ⟨by simp [hs.1], fun i h1 h2 => ?_⟩
  cases i with
  | zero => exact h
  | succ i => exact hs.2 i (by simpa using h1) (by simpa using h2)

theorem VRs.append {fz : Nat → Prop} {H : Array Obj} {as bs : List AV} {vs us : List Value} (h : VRs fz H as vs) (hs : VRs fz H bs us) :
    VRs fz H (as ++ bs) (vs ++ us) := by
  refine ⟨by simp [h.1, hs.1], fun i h1 h2 => ?_⟩
  by_cases hi : i < as.length
  · simp only [List.getElem_append_left hi, List.getElem_append_left (h.1 ▸ hi)]
    exact h.2 i hi (h.1 ▸ hi)
  · have hi' : as.length ≤ i := by omega
    have hi2 : vs.length ≤ i := by rw [← h.1]; omega
    simp only [List.getElem_append_right hi', List.getElem_append_right hi2]
    have hl := h.1
    have e : i - vs.length = i - as.length := by omega
    simp only [e]
    exact hs.2 _ (by simp at h1; omega) (by have := hs.1; simp at h1; omega)

/-- What a block holds, as the proofs see it. -/
inductive AObj where
  | row (s : Nat) (es : List (List AV)) (cap : Nat)
  | mp (kvs : List (AV × AV × Nat)) (clock : Nat)
  | itr (m : Option Nat) (since : Nat) (seen : List Nat) (stepped : Nat)

/-- The owned blocks. -/
abbrev Hp := Nat → Option AObj

def Hp.set (h : Hp) (b : Nat) (o : AObj) : Hp := fun x => if x = b then some o else h x
def Hp.del (h : Hp) (b : Nat) : Hp := fun x => if x = b then none else h x
def Hp.emp : Hp := fun _ => none

@[simp] theorem Hp.set_same (h : Hp) (b : Nat) (o : AObj) : h.set b o b = some o := by simp [Hp.set]
theorem Hp.set_ne (h : Hp) {b x : Nat} (o : AObj) (hx : x ≠ b) : h.set b o x = h x := by simp [Hp.set, hx]
@[simp] theorem Hp.del_same (h : Hp) (b : Nat) : h.del b b = none := by simp [Hp.del]
theorem Hp.del_ne (h : Hp) {b x : Nat} (hx : x ≠ b) : h.del b x = h x := by simp [Hp.del, hx]
theorem Hp.set_apply (h : Hp) (b : Nat) (o : AObj) (x : Nat) : h.set b o x = if x = b then some o else h x := rfl
theorem Hp.del_apply (h : Hp) (b x : Nat) : h.del b x = if x = b then none else h x := rfl
theorem Hp.emp_apply (x : Nat) : Hp.emp x = none := rfl
theorem Hp.set_set (h : Hp) (b : Nat) (o o' : AObj) : (h.set b o).set b o' = h.set b o' := by
  funext x; simp only [Hp.set]; split <;> rfl
theorem Hp.set_comm (h : Hp) {a b : Nat} (o o' : AObj) (hab : a ≠ b) : (h.set a o).set b o' = (h.set b o').set a o := by
  funext x; simp only [Hp.set]; split <;> split <;> simp_all

/-- No cell of the block is one that may not be written. -/
def Soft (c : Array Value) (fr : Nat × Nat) : Prop := (fr.1 = 0 ∧ fr.2 = 0) ∨ c.size ≤ fr.1

theorem Soft.at {c : Array Value} {fr : Nat × Nat} (h : Soft c fr) (i : Nat) (hi : i < c.size) : ¬ (fr.1 ≤ i ∧ i < fr.2) := by
  rcases h with ⟨h1, h2⟩ | h <;> omega
theorem Soft.zero {c : Array Value} : Soft c (0, 0) := .inl ⟨rfl, rfl⟩
theorem Soft.sized {c c' : Array Value} {fr : Nat × Nat} (h : Soft c fr) (hs : c'.size = c.size) : Soft c' fr := by
  unfold Soft at *; rw [hs]; exact h

/-- The entries of a map, as the proofs see them: in the order in which they lie. -/
def EntriesR (fz : Nat → Prop) (H : Array Obj) (kvs : List (AV × AV × Nat)) (es : List MapEntry) : Prop :=
  kvs.length = es.length ∧ ∀ i (h1 : i < kvs.length) (h2 : i < es.length), VR fz H kvs[i].1 es[i].key ∧ VR fz H kvs[i].2.1 es[i].val ∧ es[i].born = kvs[i].2.2

inductive OR (fz : Nat → Prop) (H : Array Obj) : AObj → Obj → Prop
  | row (s : Nat) (es : List (List AV)) (cap : Nat) (c : Array Value) (T fr) (hcap : es.length ≤ cap) (hs : ∀ i (h : i < es.length), es[i].length = s) (hc : c.size = cap * s) (hsoft : Soft c fr)
      (h : ∀ i (h1 : i < es.length) k (h2 : k < es[i].length) (h3 : i * s + k < c.size), VR fz H es[i][k] c[i * s + k]) :
      OR fz H (.row s es cap) (.cells c T fr)
  | mp (kvs : List (AV × AV × Nat)) (es : Array MapEntry) (clock : Nat) (h : EntriesR fz H kvs es.toList) : OR fz H (.mp kvs clock) (.map es clock)
  | itr (m : Option Nat) (since : Nat) (seen : List Nat) (stepped : Nat) : OR fz H (.itr m since seen stepped) (.mapIter m since seen.toArray stepped)

theorem OR.mono {fz fz' : Nat → Prop} {H H' : Array Obj} {v : AObj} {cv : Obj} (h : OR fz H v cv) (h1 : ∀ b, fz b → fz' b)
    (h2 : ∀ b, fz b → H'[b]? = H[b]?) : OR fz' H' v cv := by
  cases h with
  | row s es cap c T fr hcap hs hc hsoft h => exact .row s es cap c T fr hcap hs hc hsoft fun i a k b d => (h i a k b d).mono h1 h2
  | mp kvs es clock h => exact .mp kvs es clock ⟨h.1, fun i a b => ⟨(h.2 i a b).1.mono h1 h2, (h.2 i a b).2.1.mono h1 h2, (h.2 i a b).2.2⟩⟩
  | itr m since seen stepped => exact .itr m since seen stepped

/-- The memory holds what is owned, and what is frozen is not owned. -/
structure Rel (fz : Nat → Prop) (h : Hp) (w : World) : Prop where
  lt : ∀ b, fz b → b < w.heap.size
  own : ∀ b o, h b = some o → ¬ fz b ∧ ∃ c, w.heap[b]? = some c ∧ OR fz w.heap o c

/-- How memory goes on: what is neither owned nor new is as it was. -/
structure Ext (fz : Nat → Prop) (h : Hp) (w : World) (fz' : Nat → Prop) (h' : Hp) (w' : World) : Prop where
  os : w'.os = w.os
  tape : w'.tape = w.tape
  output : w'.output = w.output
  size : w.heap.size ≤ w'.heap.size
  grow : ∀ b, fz b → fz' b
  keep : ∀ b, b < w.heap.size → h b = none → w'.heap[b]? = w.heap[b]? ∧ h' b = none
  new : ∀ b, fz' b → fz b ∨ (∃ o, h b = some o) ∨ w.heap.size ≤ b

theorem Ext.refl (fz : Nat → Prop) (h : Hp) (w : World) : Ext fz h w fz h w :=
  ⟨rfl, rfl, rfl, Nat.le_refl _, fun _ h => h, fun _ _ h => ⟨rfl, h⟩, fun _ h => .inl h⟩

theorem Ext.trans {fz fz1 fz2 : Nat → Prop} {h h1 h2 : Hp} {w w1 w2 : World} (a : Ext fz h w fz1 h1 w1) (b : Ext fz1 h1 w1 fz2 h2 w2) : Ext fz h w fz2 h2 w2 := by
  refine ⟨b.os.trans a.os, b.tape.trans a.tape, b.output.trans a.output, Nat.le_trans a.size b.size, fun x hx => b.grow x (a.grow x hx), fun x hx hn => ?_, fun x hx => ?_⟩
  · obtain ⟨e1, n1⟩ := a.keep x hx hn
    obtain ⟨e2, n2⟩ := b.keep x (Nat.lt_of_lt_of_le hx a.size) n1
    exact ⟨e2.trans e1, n2⟩
  · by_cases hs : x < w.heap.size
    · by_cases hn : h x = none
      · rcases b.new x hx with h' | ⟨o, h'⟩ | h'
        · exact a.new x h'
        · rw [(a.keep x hs hn).2] at h'; cases h'
        · exact .inr (.inr (Nat.le_trans a.size h'))
      · exact .inr (.inl (Option.ne_none_iff_exists'.1 hn))
    · exact .inr (.inr (by omega))

theorem Rel.frozen {fz fz' : Nat → Prop} {h h' : Hp} {w w' : World} (r : Rel fz h w) (e : Ext fz h w fz' h' w') : ∀ b, fz b → w'.heap[b]? = w.heap[b]? := fun b hb => by
  have hn : h b = none := by
    cases hh : h b with
    | none => rfl
    | some o => exact absurd hb (r.own b o hh).1
  exact (e.keep b (r.lt b hb) hn).1

theorem VR.ext {fz fz' : Nat → Prop} {h h' : Hp} {w w' : World} {v : AV} {cv : Value} (x : VR fz w.heap v cv) (r : Rel fz h w) (e : Ext fz h w fz' h' w') : VR fz' w'.heap v cv :=
  x.mono e.grow (r.frozen e)
theorem VRs.ext {fz fz' : Nat → Prop} {h h' : Hp} {w w' : World} {v : List AV} {cv : List Value} (x : VRs fz w.heap v cv) (r : Rel fz h w) (e : Ext fz h w fz' h' w') : VRs fz' w'.heap v cv :=
  x.mono e.grow (r.frozen e)

/-- Less is owned. -/
theorem Rel.sub {fz : Nat → Prop} {h h' : Hp} {w : World} (r : Rel fz h w) (hs : ∀ b o, h' b = some o → h b = some o) : Rel fz h' w :=
  ⟨r.lt, fun b o hb => r.own b o (hs b o hb)⟩

/-- A function, called with what the values say over these owned blocks, returns, and then 'post' holds. -/
def Triple (P : Program) (f : FuncId) (args : List AV) (h : Hp) (post : AV → Hp → Prop) : Prop :=
  ∀ (fz : Nat → Prop) (w : World) (cargs : Array Value), Rel fz h w → VRs fz w.heap args cargs.toList →
    Calls P f cargs w fun e w' => ∃ cv r h' fz', e = .returned cv ∧ VR fz' w'.heap r cv ∧ Rel fz' h' w' ∧ Ext fz h w fz' h' w' ∧ post r h'

theorem Triple.mono {P : Program} {f : FuncId} {args : List AV} {h : Hp} {post post' : AV → Hp → Prop} (t : Triple P f args h post) (hp : ∀ r h', post r h' → post' r h') :
    Triple P f args h post' := fun fz w cargs r a => (t fz w cargs r a).mono fun _ _ ⟨cv, x, h', fz', e1, e2, e3, e4, e5⟩ => ⟨cv, x, h', fz', e1, e2, e3, e4, hp _ _ e5⟩

end Go.Hz
