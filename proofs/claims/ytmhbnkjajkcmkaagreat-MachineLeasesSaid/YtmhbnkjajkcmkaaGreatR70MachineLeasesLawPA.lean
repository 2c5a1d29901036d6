/- A logic over the model's memory: values whose frozen parts stand inline, a heap of owned blocks, and what a call does to them. -/
import Derived.Below
import Derived.Orders
import Derived.OrdersIn
import Derived.RangeFuncLeaves
import Derived.RangeFuncRecord
import Derived.Laws.Sem
import Derived.Laws.Externs
import Derived.KernelRfl
set_option linter.unusedSimpArgs false
set_option linter.unusedVariables false
set_option linter.unusedSectionVars false
namespace Go.Hz
inductive AV where
 | undef
 | bool (b:Bool)
 | int (k:IntKind) (n:Int)
 | str (l:List UInt8)
 | nilp
 | ptr (b s i k : Nat)
 | ro (cells:List AV)
 | nils
 | emp
 | lst (es:List (List AV))
 | arr (b s off len cap : Nat)
 | nilm
 | map (b:Nat)
 | fn (f:FuncId) (caps:List AV)
 | nilf
 | yl (l:Nat)
 | nili
 | iface (t:TypeId) (v:AV)
 | agg (cs:List AV)
 | tup (vs:List AV)
instance : Inhabited AV:=⟨.undef⟩
def AV.cells : AV → List AV
 | .agg cs => cs
 | v => [v]
inductive VR (fz:Nat → Prop) (H:Array Obj) : AV → Value → Prop
 | undef (v) : VR fz H .undef v
 | bool (b) : VR fz H (.bool b) (.bool b)
 | int (k n) : VR fz H (.int k n) (.int k n)
 | str (l) : VR fz H (.str l) (.string ⟨l.toArray⟩)
 | nilp : VR fz H .nilp (.pointer none)
 | ptr (b s i k) : VR fz H (.ptr b s i k) (.pointer (some ⟨b,i * s + k,none⟩))
 | ro (cells:List AV) (b o : Nat) (c:Array Value) (T fr) (hf : fz b) (hb:H[b]? = some (.cells c T fr)) (hc : o + cells.length ≤ c.size)
   (h:∀ k (h1 : k < cells.length) (h2 : o + k < c.size),VR fz H cells[k] c[o + k]) : VR fz H (.ro cells) (.pointer (some ⟨b,o,none⟩))
 | nils : VR fz H .nils (.slice none 0 0)
 | emp (a:Addr) (cap) : VR fz H .emp (.slice (some a) 0 cap)
 | lst (es:List (List AV)) (b o s cap : Nat) (c:Array Value) (T fr) (hf : fz b) (hb:H[b]? = some (.cells c T fr)) (hl : es.length ≤ cap)
   (hs:∀ i (h : i < es.length),es[i].length = s) (hc : o + es.length * s ≤ c.size)
   (h:∀ i (h1 : i < es.length) k (h2 : k < es[i].length) (h3 : o + i * s + k < c.size),VR fz H es[i][k] c[o + i * s + k]) :
   VR fz H (.lst es) (.slice (some ⟨b,o,none⟩) es.length cap)
 | lst0 (a:Option Addr) (cap) (h0 : a = none → cap = 0) : VR fz H (.lst []) (.slice a 0 cap)
 | arr (b s off len cap) : VR fz H (.arr b s off len cap) (.slice (some ⟨b,off * s,none⟩) len cap)
 | arr0 (b s off o) : VR fz H (.arr b s off 0 0) (.slice (some ⟨b,o,none⟩) 0 0)
 | nilm : VR fz H .nilm (.map none)
 | map (b) : VR fz H (.map b) (.map (some b))
 | fn (f) (caps:List AV) (vs:Array Value) (hl : caps.length = vs.size) (h:∀ i (h1 : i < caps.length) (h2 : i < vs.size),VR fz H caps[i] vs[i]) :
   VR fz H (.fn f caps) (.func (.func f) #[] vs)
 | nilf : VR fz H .nilf .nilFunc
 | yl (l) : VR fz H (.yl l) (.func (.yield l) #[] #[])
 | nili : VR fz H .nili .nilIface
 | iface (t v cv) (h:VR fz H v cv) : VR fz H (.iface t v) (.iface t cv)
 | agg (cs:List AV) (vs:Array Value) (hl : cs.length = vs.size) (h:∀ i (h1 : i < cs.length) (h2 : i < vs.size),VR fz H cs[i] vs[i]) :
   VR fz H (.agg cs) (.agg vs)
 | tup (cs:List AV) (vs:Array Value) (hl : cs.length = vs.size) (h:∀ i (h1 : i < cs.length) (h2 : i < vs.size),VR fz H cs[i] vs[i]) :
   VR fz H (.tup cs) (.tuple vs)
theorem VR.mono {fz fz' : Nat → Prop} {H H' : Array Obj} {v:AV} {cv:Value} (h:VR fz H v cv) (h1:∀ b,fz b → fz' b)
  (h2:∀ b,fz b → H'[b]? = H[b]?) : VR fz' H' v cv:=by
 induction h with
 | undef v => exact .undef v
 | bool b => exact .bool b
 | int k n => exact .int k n
 | str l => exact .str l
 | nilp => exact .nilp
 | ptr b s i k => exact .ptr b s i k
 | ro cells b o c T fr hf hb hc h ih => exact .ro cells b o c T fr (h1 b hf) ((h2 b hf).trans hb) hc ih
 | nils => exact .nils
 | emp a c => exact .emp a c
 | lst es b o s cap c T fr hf hb hl hs hc h ih => exact .lst es b o s cap c T fr (h1 b hf) ((h2 b hf).trans hb) hl hs hc ih
 | lst0 a cap h0 => exact .lst0 a cap h0
 | arr b s off len cap => exact .arr b s off len cap
 | arr0 b s off o => exact .arr0 b s off o
 | nilm => exact .nilm
 | map b => exact .map b
 | fn f caps vs hl h ih => exact .fn f caps vs hl ih
 | nilf => exact .nilf
 | yl l => exact .yl l
 | nili => exact .nili
 | iface t v cv h ih => exact .iface t v cv ih
 | agg cs vs hl h ih => exact .agg cs vs hl ih
 | tup cs vs hl h ih => exact .tup cs vs hl ih
def VRs (fz:Nat → Prop) (H:Array Obj) (as:List AV) (vs:List Value) : Prop :=
 as.length = vs.length∧∀ i (h1 : i < as.length) (h2 : i < vs.length),VR fz H as[i] vs[i]
theorem VRs.mono {fz fz' : Nat → Prop} {H H' : Array Obj} {as:List AV} {vs:List Value} (h:VRs fz H as vs) (h1:∀ b,fz b → fz' b)
  (h2:∀ b,fz b → H'[b]? = H[b]?) : VRs fz' H' as vs:=⟨h.1,fun i a b => (h.2 i a b).mono h1 h2⟩
theorem VRs.nil {fz:Nat → Prop} {H:Array Obj} : VRs fz H [] []:=⟨rfl,fun i h => by simp at h⟩
theorem VRs.cons {fz:Nat → Prop} {H:Array Obj} {a:AV} {v:Value} {as:List AV} {vs:List Value} (h:VR fz H a v) (hs:VRs fz H as vs) :
  VRs fz H (a :: as) (v :: vs):=by
 refine ⟨by simp [hs.1],fun i h1 h2 => ?_⟩
 cases i with
 | zero => exact h
 | succ i => exact hs.2 i (by simpa using h1) (by simpa using h2)
theorem VRs.append {fz:Nat → Prop} {H:Array Obj} {as bs : List AV} {vs us : List Value} (h:VRs fz H as vs) (hs:VRs fz H bs us) :
  VRs fz H (as ++ bs) (vs ++ us):=by
 refine ⟨by simp [h.1,hs.1],fun i h1 h2 => ?_⟩
 by_cases hi : i < as.length
 ·simp only [List.getElem_append_left hi,List.getElem_append_left (h.1 ▸ hi)]
  exact h.2 i hi (h.1 ▸ hi)
 ·have hi' : as.length ≤ i:=by omega
  have hi2 : vs.length ≤ i:=by rw [← h.1]; omega
  simp only [List.getElem_append_right hi',List.getElem_append_right hi2]
  have hl:=h.1
  have e : i - vs.length = i - as.length:=by omega
  simp only [e]
  exact hs.2 _ (by simp at h1; omega) (by have:=hs.1; simp at h1; omega)
inductive AObj where
 | row (s:Nat) (es:List (List AV)) (cap:Nat)
 | mp (kvs:List (AV × AV × Nat)) (clock:Nat)
 | itr (m:Option Nat) (since:Nat) (seen:List Nat) (stepped:Nat)
 | lp (n:Nat) (e:Nat → AV) (ps:List Nat) (asg bd : Code)
abbrev Hp:=Nat → Option AObj
def Hp.set (h:Hp) (b:Nat) (o:AObj) : Hp:=fun x => if x = b then some o else h x
def Hp.del (h:Hp) (b:Nat) : Hp:=fun x => if x = b then none else h x
def Hp.emp : Hp:=fun _ => none
@[simp] theorem Hp.set_same (h:Hp) (b:Nat) (o:AObj) : h.set b o b = some o:=by simp [Hp.set]
theorem Hp.set_ne (h:Hp) {b x : Nat} (o:AObj) (hx : x ≠ b) : h.set b o x = h x:=by simp [Hp.set,hx]
@[simp] theorem Hp.del_same (h:Hp) (b:Nat) : h.del b b = none:=by simp [Hp.del]
theorem Hp.del_ne (h:Hp) {b x : Nat} (hx : x ≠ b) : h.del b x = h x:=by simp [Hp.del,hx]
theorem Hp.set_set (h:Hp) (b:Nat) (o o' : AObj) : (h.set b o).set b o' = h.set b o':=by
 funext x; simp only [Hp.set]; split <;> rfl
theorem Hp.set_comm (h:Hp) {a b : Nat} (o o' : AObj) (hab : a ≠ b) : (h.set a o).set b o' = (h.set b o').set a o:=by
 funext x; simp only [Hp.set]; split <;> split <;> simp_all
def Soft (c:Array Value) (fr:Nat × Nat) : Prop:=(fr.1 = 0∧fr.2 = 0) ∨ c.size ≤ fr.1
theorem Soft.at {c:Array Value} {fr:Nat × Nat} (h:Soft c fr) (i:Nat) (hi : i < c.size) : ¬ (fr.1 ≤ i∧i < fr.2):=by
 rcases h with ⟨h1,h2⟩ | h <;> omega
theorem Soft.zero {c:Array Value} : Soft c (0,0):=.inl ⟨rfl,rfl⟩
theorem Soft.sized {c c' : Array Value} {fr:Nat × Nat} (h:Soft c fr) (hs : c'.size = c.size) : Soft c' fr:=by
 unfold Soft at *; rw [hs]; exact h
def EntriesR (fz:Nat → Prop) (H:Array Obj) (kvs:List (AV × AV × Nat)) (es:List MapEntry) : Prop :=
 kvs.length = es.length∧∀ i (h1 : i < kvs.length) (h2 : i < es.length),VR fz H kvs[i].1 es[i].key∧VR fz H kvs[i].2.1 es[i].val∧es[i].born = kvs[i].2.2
inductive OR (fz:Nat → Prop) (H:Array Obj) : AObj → Obj → Prop
 | row (s:Nat) (es:List (List AV)) (cap:Nat) (c:Array Value) (T fr) (hcap : es.length ≤ cap) (hs:∀ i (h : i < es.length),es[i].length = s) (hc : c.size = cap * s) (hsoft:Soft c fr)
   (h:∀ i (h1 : i < es.length) k (h2 : k < es[i].length) (h3 : i * s + k < c.size),VR fz H es[i][k] c[i * s + k]) :
   OR fz H (.row s es cap) (.cells c T fr)
 | mp (kvs:List (AV × AV × Nat)) (es:Array MapEntry) (clock:Nat) (h:EntriesR fz H kvs es.toList) : OR fz H (.mp kvs clock) (.map es clock)
 | itr (m:Option Nat) (since:Nat) (seen:List Nat) (stepped:Nat) : OR fz H (.itr m since seen stepped) (.mapIter m since seen.toArray stepped)
 | lp (n:Nat) (e:Nat → AV) (ps:List Nat) (asg bd : Code) (f:FuncId) (tmps:Array Value) (ds:Nat) (hs : tmps.size = n) (h:∀ t,VR fz H (e t) (tmps.getD t undef)) :
   OR fz H (.lp n e ps asg bd) (.loop { state:=.ready,pending:=none,fn:=f,tmps,params:=ps.toArray,assign:=asg,body:=bd,defers:=ds })
theorem OR.mono {fz fz' : Nat → Prop} {H H' : Array Obj} {v:AObj} {cv:Obj} (h:OR fz H v cv) (h1:∀ b,fz b → fz' b)
  (h2:∀ b,fz b → H'[b]? = H[b]?) : OR fz' H' v cv:=by
 cases h with
 | row s es cap c T fr hcap hs hc hsoft h => exact .row s es cap c T fr hcap hs hc hsoft fun i a k b d => (h i a k b d).mono h1 h2
 | mp kvs es clock h => exact .mp kvs es clock ⟨h.1,fun i a b => ⟨(h.2 i a b).1.mono h1 h2,(h.2 i a b).2.1.mono h1 h2,(h.2 i a b).2.2⟩⟩
 | itr m since seen stepped => exact .itr m since seen stepped
 | lp n e ps asg bd f tmps ds hs h => exact .lp n e ps asg bd f tmps ds hs fun t => (h t).mono h1 h2
structure Rel (fz:Nat → Prop) (h:Hp) (w:World) : Prop where
 lt : ∀ b,fz b → b < w.heap.size
 own : ∀ b o,h b = some o → ¬ fz b∧∃ c,w.heap[b]? = some c∧OR fz w.heap o c
structure Ext (fz:Nat → Prop) (h:Hp) (w:World) (fz' : Nat → Prop) (h' : Hp) (w' : World) : Prop where
 os : w'.os = w.os
 tape : w'.tape = w.tape
 output : w'.output = w.output
 size : w.heap.size ≤ w'.heap.size
 grow : ∀ b,fz b → fz' b
 keep : ∀ b,b < w.heap.size → h b = none → w'.heap[b]? = w.heap[b]?∧h' b = none
 new : ∀ b,fz' b → fz b ∨ (∃ o,h b = some o) ∨ w.heap.size ≤ b
theorem Ext.refl (fz:Nat → Prop) (h:Hp) (w:World) : Ext fz h w fz h w :=
 ⟨rfl,rfl,rfl,Nat.le_refl _,fun _ h => h,fun _ _ h => ⟨rfl,h⟩,fun _ h => .inl h⟩
theorem Ext.trans {fz fz1 fz2 : Nat → Prop} {h h1 h2 : Hp} {w w1 w2 : World} (a:Ext fz h w fz1 h1 w1) (b:Ext fz1 h1 w1 fz2 h2 w2) : Ext fz h w fz2 h2 w2:=by
 refine ⟨b.os.trans a.os,b.tape.trans a.tape,b.output.trans a.output,Nat.le_trans a.size b.size,fun x hx => b.grow x (a.grow x hx),fun x hx hn => ?_,fun x hx => ?_⟩
 ·obtain ⟨e1,n1⟩:=a.keep x hx hn
  obtain ⟨e2,n2⟩:=b.keep x (Nat.lt_of_lt_of_le hx a.size) n1
  exact ⟨e2.trans e1,n2⟩
 ·by_cases hs : x < w.heap.size
  ·by_cases hn : h x = none
   ·rcases b.new x hx with h' | ⟨o,h'⟩ | h'
    ·exact a.new x h'
    ·rw [(a.keep x hs hn).2] at h'; cases h'
    ·exact .inr (.inr (Nat.le_trans a.size h'))
   ·exact .inr (.inl (Option.ne_none_iff_exists'.1 hn))
  ·exact .inr (.inr (by omega))
theorem Rel.frozen {fz fz' : Nat → Prop} {h h' : Hp} {w w' : World} (r:Rel fz h w) (e:Ext fz h w fz' h' w') : ∀ b,fz b → w'.heap[b]? = w.heap[b]?:=fun b hb => by
 have hn : h b = none:=by
  cases hh : h b with
  | none => rfl
  | some o => exact absurd hb (r.own b o hh).1
 exact (e.keep b (r.lt b hb) hn).1
theorem VR.ext {fz fz' : Nat → Prop} {h h' : Hp} {w w' : World} {v:AV} {cv:Value} (x:VR fz w.heap v cv) (r:Rel fz h w) (e:Ext fz h w fz' h' w') : VR fz' w'.heap v cv :=
 x.mono e.grow (r.frozen e)
theorem VRs.ext {fz fz' : Nat → Prop} {h h' : Hp} {w w' : World} {v:List AV} {cv:List Value} (x:VRs fz w.heap v cv) (r:Rel fz h w) (e:Ext fz h w fz' h' w') : VRs fz' w'.heap v cv :=
 x.mono e.grow (r.frozen e)
theorem Rel.sub {fz:Nat → Prop} {h h' : Hp} {w:World} (r:Rel fz h w) (hs:∀ b o,h' b = some o → h b = some o) : Rel fz h' w :=
 ⟨r.lt,fun b o hb => r.own b o (hs b o hb)⟩
def Triple (P:Program) (f:FuncId) (args:List AV) (h:Hp) (post:AV → Hp → Prop) : Prop :=
 ∀ (fz:Nat → Prop) (w:World) (cargs:Array Value),Rel fz h w → VRs fz w.heap args cargs.toList →
  Calls P f cargs w fun e w' => ∃ cv r h' fz',e = .returned cv∧VR fz' w'.heap r cv∧Rel fz' h' w'∧Ext fz h w fz' h' w'∧post r h'
theorem Triple.mono {P:Program} {f:FuncId} {args:List AV} {h:Hp} {post post' : AV → Hp → Prop} (t:Triple P f args h post) (hp:∀ r h',post r h' → post' r h') :
  Triple P f args h post':=fun fz w cargs r a => (t fz w cargs r a).mono fun _ _ ⟨cv,x,h',fz',e1,e2,e3,e4,e5⟩ => ⟨cv,x,h',fz',e1,e2,e3,e4,hp _ _ e5⟩
end Go.Hz
/- Steps over the proofs' values; a region's operations may be carried out in any order that its edges allow. -/
namespace Go.Hz
abbrev Env:=Nat → AV
def Env.upd (e:Env) (d:Nat) (v:AV) : Env:=fun t => if t = d then v else e t
def Env.put (e:Env) (d:Option Nat) (v:AV) : Env:=match d with | some t => e.upd t v | none => e
theorem Env.upd_apply (e:Env) (d:Nat) (v:AV) (t:Nat) : e.upd d v t = if t = d then v else e t:=rfl
theorem Env.put_some (e:Env) (d:Nat) (v:AV) : e.put (some d) v = e.upd d v:=rfl
theorem Env.put_none (e:Env) (v:AV) : e.put none v = e:=rfl
theorem Env.put_apply (e:Env) {d:Option Nat} (v:AV) {t:Nat} (h : d ≠ some t) : e.put d v t = e t:=by
 cases d with
 | none => rfl
 | some d => simp only [Env.put,Env.upd]; rw [if_neg]; intro hh; exact h (by rw [hh])
theorem Env.put_comm (e:Env) {c d : Option Nat} (u v : AV) (h:∀ t,c = some t → d ≠ some t) : (e.put c u).put d v = (e.put d v).put c u:=by
 cases c with
 | none => rfl
 | some c =>
  cases d with
  | none => rfl
  | some d =>
   have hne : c ≠ d:=fun hh => h c rfl (by rw [hh])
   funext t
   simp only [Env.put,Env.upd]
   split <;> split <;> simp_all
inductive Sm where
 | pure (f:Env → Option AV)
 | load (f:Env → Hp → Option AV)
 | mk (f:Env → Option (AV ⊕ (AObj × (Nat → AV))))
 | eff (f:Env → Hp → (AV → Hp → Prop) → Prop)
structure Item where
 d : Option Nat
 s : Sm
 looks : List Nat
def stable (S:Nat → Item) (l:Nat) (e:Env) (h:Hp) : Prop :=
 match (S l).s,(S l).d with
 | .load f,some d => f e h = some (e d)
 | _,_ => False
def stepI (S:Nat → Item) (obl:List Nat) (x:Item) (e:Env) (h:Hp) (K:Env → Hp → Prop) : Prop :=
 match x.s with
 | .pure f => ∃ v,f e = some v∧K (e.put x.d v) h
 | .load f => ∃ v,f e h = some v∧K (e.put x.d v) h
 | .mk f => ∃ r,f e = some r∧match r with
  | .inl v => K (e.put x.d v) h
  | .inr (o,g) => ∀ n,h n = none → K (e.put x.d (g n)) (h.set n o)
 | .eff f => f e h fun v h' => (∀ l ∈ obl,stable S l (e.put x.d v) h')∧K (e.put x.d v) h'
def Sm.good (looks:List Nat) : Sm → Prop
 | .pure f => ∀ e e' : Env,(∀ t ∈ looks,e t = e' t) → f e = f e'
 | .load f => (∀ (e e' : Env) h,(∀ t ∈ looks,e t = e' t) → f e h = f e' h)∧(∀ e h v n o,f e h = some v → h n = none → f e (h.set n o) = some v) ∧
   (∀ e,∃ R : List Nat,∀ h h' : Hp,(∀ b ∈ R,h b = h' b) → f e h = f e h')
 | .mk f => ∀ e e' : Env,(∀ t ∈ looks,e t = e' t) → f e = f e'
 | .eff f => (∀ (e e' : Env) h K,(∀ t ∈ looks,e t = e' t) → f e h K → f e' h K)∧(∀ e h K K',(∀ v h',K v h' → K' v h') → f e h K → f e h K') ∧
   (∀ e h K n o,h n = none → f e h K → f e (h.set n o) fun v h'' => ∃ h',h' n = none∧h'' = h'.set n o∧K v h')
theorem stepI_drop {S:Nat → Item} {obl obl' : List Nat} {x:Item} (hx : x.s.good x.looks) (ho:∀ l ∈ obl',l ∈ obl) {e:Env} {h:Hp} {K:Env → Hp → Prop}
  (hh : stepI S obl x e h K) : stepI S obl' x e h K:=by
 unfold stepI at *
 split <;> simp only [*] at hh hx
 ·exact hh
 ·exact hh
 ·exact hh
 ·exact hx.2.1 _ _ _ _ (fun v h' ⟨a,b⟩ => ⟨fun l hl => a l (ho l hl),b⟩) hh
def Sm.isPure : Sm → Bool | .pure _ => true | _ => false
def Sm.isLoad : Sm → Bool | .load _ => true | _ => false
def Sm.isMk : Sm → Bool | .mk _ => true | _ => false
def Sm.isEff : Sm → Bool | .eff _ => true | _ => false
def apartI (x y : Item) : Prop:=(∀ t,x.d = some t → t ∉ y.looks)∧(∀ t,y.d = some t → t ∉ x.looks)∧(∀ t,x.d = some t → y.d ≠ some t)
structure Compat (S:Nat → Item) (obl:Nat → List Nat) (ix iy : Nat) : Prop where
 apart : apartI (S ix) (S iy)
 self : ∀ t,(S ix).d = some t → t ∉ (S ix).looks
 ob : ∀ l ∈ obl ix,(∀ t,(S iy).d = some t → t ∉ (S l).looks∧(S l).d ≠ some t)
 kinds : (S ix).s.isPure = true ∨ (S iy).s.isPure = true ∨ ((S ix).s.isLoad = true∧((S iy).s.isLoad = true ∨ (S iy).s.isMk = true)) ∨
  ((S ix).s.isMk = true∧(S iy).s.isMk = true) ∨ ((S ix).s.isLoad = true∧(S iy).s.isEff = true∧ix ∈ obl iy) ∨
  ((S ix).s.isEff = true∧(S iy).s.isMk = true) ∨ ((S ix).s.isMk = true∧(S iy).s.isLoad = true)
def FinH (h:Hp) : Prop := ∃ N,∀ n,N ≤ n → h n = none
theorem FinH.set {h:Hp} (f:FinH h) {n:Nat} {o:AObj} : FinH (h.set n o):=by
 obtain ⟨N,hN⟩:=f
 refine ⟨N + n + 1,fun m hm => ?_⟩
 rw [Hp.set_ne _ _ (by omega)]
 exact hN m (by omega)
theorem FinH.free {h:Hp} (f:FinH h) (R:List Nat) : ∃ n,h n = none∧n ∉ R:=by
 obtain ⟨N,hN⟩:=f
 have key : ∀ R : List Nat,∃ M,∀ r ∈ R,r < M:=by
  intro R
  induction R with
  | nil => exact ⟨0,by simp⟩
  | cons r R ih =>
   obtain ⟨M,hM⟩:=ih
   refine ⟨M + r + 1,fun x hx => ?_⟩
   rcases List.mem_cons.1 hx with rfl | hx
   ·omega
   ·have:=hM x hx; omega
 obtain ⟨M,hM⟩:=key R
 exact ⟨N + M,hN _ (by omega),fun hh => by have:=hM _ hh; omega⟩
def yOK (y:Item) (e:Env) : Prop :=
 match y.s with
 | .pure f => ∃ v,f e = some v
 | .mk f => ∃ r,f e = some r
 | _ => True
theorem stable_put {S:Nat → Item} {l:Nat} (hg:(S l).s.good (S l).looks) {e:Env} {h:Hp} {d:Option Nat} {v:AV}
  (hd:∀ t,d = some t → t ∉ (S l).looks∧(S l).d ≠ some t) : stable S l (e.put d v) h ↔ stable S l e h:=by
 unfold stable
 cases hs : (S l).s with
 | load f =>
  cases hdl : (S l).d with
  | none => simp
  | some dl =>
   simp only
   rw [hs] at hg
   have h1 : f (e.put d v) h = f e h:=hg.1 _ _ _ fun t ht => Env.put_apply _ _ fun hh => (hd t hh).1 ht
   have h2 : e.put d v dl = e dl:=Env.put_apply _ _ fun hh => (hd dl hh).2 hdl
   rw [h1,h2]
 | _ => simp
theorem stable_set {S:Nat → Item} {l:Nat} (hg:(S l).s.good (S l).looks) {e:Env} {h:Hp} {n:Nat} {o:AObj} (hn : h n = none)
  (hh : stable S l e h) : stable S l e (h.set n o):=by
 unfold stable at *
 cases hs : (S l).s with
 | load f =>
  cases hdl : (S l).d with
  | none => simp [hs,hdl] at hh
  | some dl =>
   simp only [hs,hdl] at hh ⊢
   rw [hs] at hg
   exact hg.2.1 _ _ _ _ _ hh hn
 | _ => simp [hs] at hh
theorem swap {S:Nat → Item} {obl:Nat → List Nat} (hgood:∀ i,(S i).s.good (S i).looks) {ix iy : Nat} (hc:Compat S obl ix iy) {e:Env} {h:Hp}
  (hl : yOK (S iy) e) (hf:(S iy).s.isLoad = true → FinH h) {O1 O2 : List Nat} (hO1 : ix ∈ obl iy → ix ∈ O1) (hO2:∀ l ∈ O2,l ∈ O1∧∀ t,(S ix).d = some t → t ∉ (S l).looks∧(S l).d ≠ some t)
  {K:Env → Hp → Prop} (hh : stepI S (obl ix) (S ix) e h fun e' h' => stepI S O1 (S iy) e' h' K) :
  stepI S O2 (S iy) e h fun e' h' => stepI S (obl ix) (S ix) e' h' K:=by
 obtain ⟨⟨a1,a2,a3⟩,hself,ho,hk⟩:=hc
 have keepO : ∀ (e:Env) (h' : Hp) (u v : AV),(∀ l ∈ O1,stable S l ((e.put (S ix).d v).put (S iy).d u) h') → ∀ l ∈ O2,stable S l (e.put (S iy).d u) h':=fun e h' u v hs l hl => by
  obtain ⟨x1,x2⟩:=hO2 l hl
  have:=hs l x1
  rwa [Env.put_comm _ _ _ a3,stable_put (hgood l) x2] at this
 have gx:=hgood ix
 have gy:=hgood iy
 have a3' : ∀ t,(S iy).d = some t → (S ix).d ≠ some t:=fun t ht hx => a3 t hx ht
 have cx : ∀ (v:AV) (e:Env) (t),t ∈ (S ix).looks → e.put (S iy).d v t = e t:=fun v e t ht => Env.put_apply _ _ fun hh => a2 t hh ht
 have cy : ∀ (v:AV) (e:Env) (t),t ∈ (S iy).looks → e.put (S ix).d v t = e t:=fun v e t ht => Env.put_apply _ _ fun hh => a1 t hh ht
 have pc : ∀ (e:Env) (u v : AV),(e.put (S ix).d u).put (S iy).d v = (e.put (S iy).d v).put (S ix).d u:=fun e u v => Env.put_comm e u v a3
 generalize hX : S ix = X at *
 generalize hY : S iy = Y at *
 obtain ⟨dx,sx,lx⟩:=X
 obtain ⟨dy,sy,ly⟩:=Y
 simp only at *
 have swapO : ∀ (v u : AV) (h' : Hp),(∀ l ∈ obl ix,stable S l (e.put dx v) h') → ∀ l ∈ obl ix,stable S l ((e.put dy u).put dx v) h':=fun v u h' hs l hl => by
  rw [← pc e v u,stable_put (hgood l) (ho l hl)]
  exact hs l hl
 cases sy with
 | pure fy =>
  -- y's value does not hang on x
  have key : ∀ v,fy (e.put dx v) = fy e:=fun v => gy _ _ fun t ht => cy v e t ht
  obtain ⟨vy,hvy⟩:=hl
  refine ⟨vy,hvy,?_⟩
  unfold stepI at hh ⊢
  cases sx with
  | pure f =>
   obtain ⟨v,h1,v2,h2,h3⟩:=hh
   rw [key,hvy] at h2
   cases h2
   exact ⟨v,(gx _ _ fun t ht => cx vy e t ht).trans h1,by rw [← pc]; exact h3⟩
  | load f =>
   obtain ⟨v,h1,v2,h2,h3⟩:=hh
   rw [key,hvy] at h2
   cases h2
   exact ⟨v,(gx.1 _ _ _ fun t ht => cx vy e t ht).trans h1,by rw [← pc]; exact h3⟩
  | mk f =>
   obtain ⟨r,h1,h2⟩:=hh
   refine ⟨r,(gx _ _ fun t ht => cx vy e t ht).trans h1,?_⟩
   cases r with
   | inl v =>
    obtain ⟨v2,h2,h3⟩:=h2
    rw [key,hvy] at h2
    cases h2
    simp only
    rw [← pc]; exact h3
   | inr og =>
    intro n hn
    obtain ⟨v2,h2,h3⟩:=h2 n hn
    rw [key,hvy] at h2
    cases h2
    rw [← pc]; exact h3
  | eff f =>
   refine gx.1 _ _ _ _ (fun t ht => (cx vy e t ht).symm) (gx.2.1 _ _ _ _ ?_ hh)
   rintro v h' ⟨hs,v2,h2,h3⟩
   rw [key,hvy] at h2
   cases h2
   exact ⟨swapO _ _ _ hs,by rw [← pc]; exact h3⟩
 | load fy =>
  have key : ∀ v h,fy (e.put dx v) h = fy e h:=fun v h => gy.1 _ _ _ fun t ht => cy v e t ht
  unfold stepI at hh ⊢
  cases sx with
  | pure f =>
   obtain ⟨v,h1,v2,h2,h3⟩:=hh
   rw [key] at h2
   exact ⟨v2,h2,v,(gx _ _ fun t ht => cx v2 e t ht).trans h1,by rw [← pc]; exact h3⟩
  | load f =>
   obtain ⟨v,h1,v2,h2,h3⟩:=hh
   rw [key] at h2
   exact ⟨v2,h2,v,(gx.1 _ _ _ fun t ht => cx v2 e t ht).trans h1,by rw [← pc]; exact h3⟩
  | mk f =>
   obtain ⟨r,h1,h2⟩:=hh
   cases r with
   | inl v =>
    obtain ⟨v2,h2,h3⟩:=h2
    rw [key] at h2
    exact ⟨v2,h2,.inl v,(gx _ _ fun t ht => cx v2 e t ht).trans h1,by simp only; rw [← pc]; exact h3⟩
   | inr og =>
    obtain ⟨R,hR⟩:=gy.2.2 e
    obtain ⟨m,hm,hmR⟩:=(hf rfl).free R
    obtain ⟨v2,h3,_⟩:=h2 m hm
    rw [key,hR (h.set m og.1) h fun b hb => Hp.set_ne _ _ fun hh => hmR (hh ▸ hb)] at h3
    refine ⟨v2,h3,.inr og,(gx _ _ fun t ht => cx v2 e t ht).trans h1,fun n hn => ?_⟩
    obtain ⟨v3,h4,h5⟩:=h2 n hn
    rw [key,gy.2.1 _ _ _ _ _ h3 hn] at h4
    cases h4
    rw [← pc]; exact h5
  | eff f => simp [Sm.isPure,Sm.isLoad,Sm.isMk,Sm.isEff] at hk
 | mk fy =>
  have key : ∀ v,fy (e.put dx v) = fy e:=fun v => gy _ _ fun t ht => cy v e t ht
  obtain ⟨ry,hry⟩:=hl
  refine ⟨ry,hry,?_⟩
  unfold stepI at hh ⊢
  cases sx with
  | pure f =>
   obtain ⟨v,h1,r2,h2,h3⟩:=hh
   rw [key,hry] at h2
   cases h2
   cases ry with
   | inl vy => exact ⟨v,(gx _ _ fun t ht => cx vy e t ht).trans h1,by rw [← pc]; exact h3⟩
   | inr og => exact fun n hn => ⟨v,(gx _ _ fun t ht => cx _ e t ht).trans h1,by rw [← pc]; exact h3 n hn⟩
  | load f =>
   obtain ⟨v,h1,r2,h2,h3⟩:=hh
   rw [key,hry] at h2
   cases h2
   cases ry with
   | inl vy => exact ⟨v,(gx.1 _ _ _ fun t ht => cx vy e t ht).trans h1,by rw [← pc]; exact h3⟩
   | inr og => exact fun n hn => ⟨v,(gx.1 _ _ _ fun t ht => cx _ e t ht).trans (gx.2.1 _ _ _ _ _ h1 hn),by rw [← pc]; exact h3 n hn⟩
  | mk f =>
   obtain ⟨r,h1,h2⟩:=hh
   cases r with
   | inl v =>
    obtain ⟨r2,h2,h3⟩:=h2
    rw [key,hry] at h2
    cases h2
    cases ry with
    | inl vy => exact ⟨.inl v,(gx _ _ fun t ht => cx vy e t ht).trans h1,by simp only; rw [← pc]; exact h3⟩
    | inr og => exact fun n hn => ⟨.inl v,(gx _ _ fun t ht => cx _ e t ht).trans h1,by simp only; rw [← pc]; exact h3 n hn⟩
   | inr og =>
    cases ry with
    | inl vy =>
     refine ⟨.inr og,(gx _ _ fun t ht => cx vy e t ht).trans h1,fun n hn => ?_⟩
     obtain ⟨r2,h2,h3⟩:=h2 n hn
     rw [key,hry] at h2
     cases h2
     rw [← pc]; exact h3
    | inr og2 =>
     refine fun n hn => ⟨.inr og,(gx _ _ fun t ht => cx _ e t ht).trans h1,fun m hm => ?_⟩
     have hmn : m ≠ n:=fun hh => by rw [hh,Hp.set_same] at hm; cases hm
     have hm' : h m = none:=by rwa [Hp.set_ne _ _ hmn] at hm
     obtain ⟨r2,h2,h3⟩:=h2 m hm'
     rw [key,hry] at h2
     cases h2
     have h4:=h3 n (by rw [Hp.set_ne _ _ (Ne.symm hmn)]; exact hn)
     rw [← pc,Hp.set_comm _ _ _ (Ne.symm hmn)]; exact h4
  | eff f =>
   cases ry with
   | inl vy =>
    refine gx.1 _ _ _ _ (fun t ht => (cx vy e t ht).symm) (gx.2.1 _ _ _ _ ?_ hh)
    rintro v h' ⟨hs,r2,h2,h3⟩
    rw [key,hry] at h2
    cases h2
    exact ⟨swapO _ _ _ hs,by rw [← pc]; exact h3⟩
   | inr og =>
    intro n hn
    refine gx.1 _ _ _ _ (fun t ht => (cx _ e t ht).symm) (gx.2.1 _ _ _ _ ?_ (gx.2.2 _ _ _ _ og.1 hn hh))
    rintro v h'' ⟨h',hn',rfl,hs,r2,h2,h3⟩
    rw [key,hry] at h2
    cases h2
    exact ⟨fun l hl => stable_set (hgood l) hn' (swapO _ _ _ hs l hl),by rw [← pc]; exact h3 n hn'⟩
 | eff fy =>
  unfold stepI at hh ⊢
  cases sx with
  | pure f =>
   obtain ⟨v,h1,h2⟩:=hh
   refine gy.2.1 _ _ _ _ ?_ (gy.1 _ _ _ _ (fun t ht => cy v e t ht) h2)
   rintro u h' ⟨hs,h3⟩
   exact ⟨keepO _ _ _ _ hs,v,(gx _ _ fun t ht => cx u e t ht).trans h1,by rw [← pc]; exact h3⟩
  | load f =>
   have hin : ix ∈ obl iy:=by simpa [Sm.isPure,Sm.isLoad,Sm.isMk,Sm.isEff] using hk
   obtain ⟨v,h1,h2⟩:=hh
   refine gy.2.1 _ _ _ _ ?_ (gy.1 _ _ _ _ (fun t ht => cy v e t ht) h2)
   rintro u h' ⟨hs,h3⟩
   have h4:=hs ix (hO1 hin)
   unfold stable at h4
   rw [hX] at h4
   simp only at h4
   cases dx with
   | none => simp at h4
   | some d =>
    simp only at h4
    rw [pc] at h4
    have hs1 : ((e.put dy u).put (some d) v) d = v:=by simp [Env.put,Env.upd]
    have hs2 : f ((e.put dy u).put (some d) v) h' = f (e.put dy u) h' :=
     gx.1 _ _ _ fun t ht => Env.put_apply _ _ fun hh => hself d rfl (by cases hh; exact ht)
    rw [hs1,hs2] at h4
    exact ⟨keepO _ _ _ _ hs,v,h4,by rw [← pc]; exact h3⟩
  | mk f => simp [Sm.isPure,Sm.isLoad,Sm.isMk,Sm.isEff] at hk
  | eff f => simp [Sm.isPure,Sm.isLoad,Sm.isMk,Sm.isEff] at hk
def wpI (S:Nat → Item) (obl:Nat → List Nat) : List Nat → Env → Hp → (Env → Hp → Prop) → Prop
 | [],e,h,K => K e h
 | i :: l,e,h,K => stepI S (obl i) (S i) e h fun e' h' => wpI S obl l e' h' K
def Clear (S:Nat → Item) (ob:List Nat) : List Nat → Prop
 | [] => True
 | ix :: pre => (∀ l ∈ ob,l ≠ ix → l ∉ pre → ∀ t,(S ix).d = some t → t ∉ (S l).looks∧(S l).d ≠ some t)∧Clear S ob pre
theorem move_front {S:Nat → Item} {obl:Nat → List Nat} (hgood:∀ i,(S i).s.good (S i).looks) {iy:Nat} {post:List Nat} {K:Env → Hp → Prop} :
    ∀ (pre:List Nat) (e:Env) (h:Hp),pre.Nodup → (∀ ix ∈ pre,Compat S obl ix iy) → Clear S (obl iy) pre → yOK (S iy) e → ((S iy).s.isLoad = true → FinH h) → wpI S obl (pre ++ iy :: post) e h K →
      stepI S ((obl iy).filter fun l => !pre.contains l) (S iy) e h fun e' h' => wpI S obl (pre ++ post) e' h' K
  | [],e,h,_,_,_,_,_,hh => stepI_drop (hgood iy) (fun l h => by simpa using h) hh
  | ix :: pre,e,h,hnd,hc,hcl,hl,hfi,hh => by
    have hap:=(hc ix (by simp)).apart
    have keep : ∀ v,yOK (S iy) (e.put (S ix).d v):=fun v => by
      unfold yOK at *
      have hg:=hgood iy
      cases hs : (S iy).s with
      | pure f =>
        rw [hs] at hg hl
        obtain ⟨v',h'⟩:=hl
        exact ⟨v',(hg _ _ fun t ht => Env.put_apply _ _ fun hh => hap.1 t hh ht).trans h'⟩
      | mk f =>
        rw [hs] at hg hl
        obtain ⟨v',h'⟩:=hl
        exact ⟨v',(hg _ _ fun t ht => Env.put_apply _ _ fun hh => hap.1 t hh ht).trans h'⟩
      | load f => trivial
      | eff f => trivial
    have ih:=fun v h' (hf' : (S iy).s.isLoad = true → FinH h') => move_front hgood (iy:=iy) (post:=post) (K:=K) pre (e.put (S ix).d v) h' (List.nodup_cons.1 hnd).2 (fun i hi => hc i (by simp [hi])) hcl.2 (keep v) hf'
    have hh' : stepI S (obl ix) (S ix) e h fun e' h' => wpI S obl (pre ++ iy :: post) e' h' K:=hh
    refine swap hgood (hc ix (by simp)) hl hfi (O1:=(obl iy).filter fun l => !pre.contains l) (fun hx => by simpa using ⟨hx,(List.nodup_cons.1 hnd).1⟩)
      (fun l hl => by
        simp at hl
        exact ⟨by simp [hl],hcl.1 l hl.1 hl.2.1 hl.2.2⟩) (K:=fun e' h' => wpI S obl (pre ++ post) e' h' K) ?_
    unfold stepI at hh' ⊢
    have hg:=hgood ix
    cases hs : (S ix).s with
    | pure f => rw [hs] at hh'; obtain ⟨v,h1,h2⟩:=hh'; exact ⟨v,h1,ih v h hfi h2⟩
    | load f => rw [hs] at hh'; obtain ⟨v,h1,h2⟩:=hh'; exact ⟨v,h1,ih v h hfi h2⟩
    | mk f =>
      rw [hs] at hh'
      obtain ⟨r,h1,h2⟩:=hh'
      refine ⟨r,h1,?_⟩
      cases r with
      | inl v => exact ih v h hfi h2
      | inr og => exact fun n hn => ih _ _ (fun hy => (hfi hy).set) (h2 n hn)
    | eff f =>
      have hk:=(hc ix (by simp)).kinds
      rw [hs] at hh' hg hk
      have hny : (S iy).s.isLoad = true → False:=fun hy => by
        cases hs2 : (S iy).s <;> rw [hs2] at hk hy <;> simp [Sm.isPure,Sm.isLoad,Sm.isMk,Sm.isEff] at hk hy
      exact hg.2.1 _ _ _ _ (fun v h' ⟨a,b⟩ => ⟨a,ih v h' (fun hy => (hny hy).elim) b⟩) hh'
structure LiveP (S:Nat → Item) (obl:Nat → List Nat) (Live:Env → Hp → Prop) : Prop where
 prog : ∀ i e h K,Live e h → stepI S (obl i) (S i) e h K → ∃ e' h',K e' h'∧Live e' h'∧∃ v,e' = e.put (S i).d v
theorem yOK_of {S:Nat → Item} {obl:Nat → List Nat} {Live:Env → Hp → Prop} (hgood:∀ i,(S i).s.good (S i).looks) (hp:LiveP S obl Live) {iy:Nat} {post:List Nat} {K:Env → Hp → Prop} :
  ∀ (pre:List Nat) (e:Env) (h:Hp),(∀ ix ∈ pre,Compat S obl ix iy) → Live e h → wpI S obl (pre ++ iy :: post) e h K → yOK (S iy) e
 | [],e,h,_,_,hh => by
  have hh' : stepI S (obl iy) (S iy) e h fun e' h' => wpI S obl post e' h' K:=hh
  unfold yOK
  unfold stepI at hh'
  cases hs : (S iy).s with
  | pure f => rw [hs] at hh'; obtain ⟨v,h1,_⟩:=hh'; exact ⟨v,h1⟩
  | mk f => rw [hs] at hh'; obtain ⟨v,h1,_⟩:=hh'; exact ⟨v,h1⟩
  | load f => trivial
  | eff f => trivial
 | ix :: pre,e,h,hc,hl,hh => by
  have hh' : stepI S (obl ix) (S ix) e h fun e' h' => wpI S obl (pre ++ iy :: post) e' h' K:=hh
  obtain ⟨e',h',h1,h2,v,rfl⟩:=hp.prog ix e h _ hl hh'
  have ih:=yOK_of hgood hp pre _ h' (fun i hi => hc i (by simp [hi])) h2 h1
  have hap:=(hc ix (by simp)).apart
  have hg:=hgood iy
  unfold yOK at *
  cases hs : (S iy).s with
  | pure f =>
   rw [hs] at hg ih
   obtain ⟨v',h'⟩:=ih
   exact ⟨v',(hg _ _ fun t ht => (Env.put_apply _ _ fun hh => hap.1 t hh ht).symm).trans h'⟩
  | mk f =>
   rw [hs] at hg ih
   obtain ⟨v',h'⟩:=ih
   exact ⟨v',(hg _ _ fun t ht => (Env.put_apply _ _ fun hh => hap.1 t hh ht).symm).trans h'⟩
  | load f => trivial
  | eff f => trivial
end Go.Hz
/- The states of a walk; a region of the model in any order, from one order over the proofs' values. -/
namespace Go.Hz
def EnvR (fz:Nat → Prop) (H:Array Obj) (e:Env) (tmps:Array Value) : Prop := ∀ t,VR fz H (e t) (tmps.getD t undef)
structure St (n:Nat) (fz:Nat → Prop) (e:Env) (h:Hp) (a:Act) (w:World) : Prop where
 size : a.tmps.size = n
 env : EnvR fz w.heap e a.tmps
 rel : Rel fz h w
theorem Rel.fin {fz:Nat → Prop} {h:Hp} {w:World} (r:Rel fz h w) : FinH h:=⟨w.heap.size,fun n hn => by
 cases hh : h n with
 | none => rfl
 | some o =>
  obtain ⟨_,c,hc,_⟩:=r.own n o hh
  have:=(Array.getElem?_eq_some_iff.1 hc).1
  omega⟩
theorem EnvR.put {fz:Nat → Prop} {H:Array Obj} {e:Env} {a:Act} {d:Option Nat} {v:AV} {cv:Value} (he:EnvR fz H e a.tmps) (hv:VR fz H v cv)
  (hd:∀ t,d = some t → t < a.tmps.size) : EnvR fz H (e.put d v) (a.put d cv).tmps:=by
 cases d with
 | none => exact he
 | some d =>
  intro t
  simp only [Env.put,Env.upd,Act.put]
  by_cases ht : t = d
  ·subst ht
   have:=hd t rfl
   simp [this]; exact hv
  ·rw [if_neg ht]
   have:=he t
   simpa [Array.getElem?_setIfInBounds_ne (Ne.symm ht)] using this
theorem Act.put_size (a:Act) (d:Option Nat) (v:Value) : (a.put d v).tmps.size = a.tmps.size:=by cases d <;> simp [Act.put]
theorem Act.put_defers' (a:Act) (d:Option Nat) (v:Value) : (a.put d v).defers = a.defers:=by cases d <;> rfl
def Mks (s0:Nat) (fz:Nat → Prop) (h:Hp) (w:World) (ds:List Deferred) : Prop :=
 ∃ rs : List Nat,ds = rs.map (fun r => ({ target:=.collected r,args := #[] } : Deferred))∧rs.Nodup∧∀ r ∈ rs,s0 ≤ r∧w.heap[r]? = some (.deferred (some []))∧h r = none∧¬ fz r
theorem Mks.nil {s0:Nat} {fz:Nat → Prop} {h:Hp} {w:World} : Mks s0 fz h w []:=⟨[],rfl,.nil,fun r hr => by simp at hr⟩
theorem Mks.ext {s0:Nat} {fz fz' : Nat → Prop} {h h' : Hp} {w w' : World} {ds:List Deferred} (m:Mks s0 fz h w ds) (x:Ext fz h w fz' h' w') : Mks s0 fz' h' w' ds:=by
 obtain ⟨rs,h1,h2,h3⟩:=m
 refine ⟨rs,h1,h2,fun r hr => ?_⟩
 obtain ⟨a1,a2,a3,a4⟩:=h3 r hr
 have hlt:=(Array.getElem?_eq_some_iff.1 a2).1
 obtain ⟨k1,k2⟩:=x.keep r hlt a3
 refine ⟨a1,k1.trans a2,k2,fun hf => ?_⟩
 rcases x.new r hf with h | ⟨o,h⟩ | h
 ·exact a4 h
 ·rw [a3] at h; cases h
 ·omega
theorem Mks.putObj {s0:Nat} {fz:Nat → Prop} {h:Hp} {w:World} {ds:List Deferred} (m:Mks s0 fz h w ds) {l:Nat} {r:Loop} {o:Obj} (hl : w.heap[l]? = some (.loop r)) : Mks s0 fz h (w.putObj l o) ds:=by
 obtain ⟨rs,h1,h2,h3⟩:=m
 refine ⟨rs,h1,h2,fun r hr => ?_⟩
 obtain ⟨a1,a2,a3,a4⟩:=h3 r hr
 exact ⟨a1,(World.putObj_heap_other (fun e => by rw [e,hl] at a2; cases a2)).trans a2,a3,a4⟩
theorem Mks.sub {s0:Nat} {fz:Nat → Prop} {h h' : Hp} {w:World} {ds:List Deferred} (m:Mks s0 fz h w ds) (hs:∀ r,h r = none → h' r = none) : Mks s0 fz h' w ds:=by
 obtain ⟨rs,h1,h2,h3⟩:=m
 exact ⟨rs,h1,h2,fun r hr => let ⟨a1,a2,a3,a4⟩:=h3 r hr; ⟨a1,a2,hs r a3,a4⟩⟩
theorem Mks.frm {s0:Nat} {fz:Nat → Prop} {h:Hp} {w:World} {ds:List Deferred} (m:Mks s0 fz h w ds) {l:Nat} {ob:AObj} {c:Obj} (hl : w.heap[l]? = some c) (ho:OR fz w.heap ob c) : Mks s0 fz (h.set l ob) w ds:=by
 obtain ⟨rs,h1,h2,h3⟩:=m
 refine ⟨rs,h1,h2,fun r hr => ?_⟩
 obtain ⟨a1,a2,a3,a4⟩:=h3 r hr
 have hrl : r ≠ l:=fun e => by
  rw [e,hl] at a2
  cases a2
  cases ho
 exact ⟨a1,a2,by rw [Hp.set_ne _ _ hrl]; exact a3,a4⟩
abbrev FR (ro:Option Nat) : Fence := { Fence.wide with round:=ro }
theorem room_FR {ro:Option Nat} (n:Nat) : (FR ro).room n:=fun _ h => by cases h
def Sim (P:Program) (ops:Array Oper) (n:Nat) (S:Nat → Item) (i:Nat) : Prop :=
 ∀ (ro:Option Nat) (Q:Exit → Act → World → Prop) fz e h a w K,St n fz e h a w → stepI S [] (S i) e h K → ∀ next : Act → World → Prop,
  (∀ fz' e' h' a' w',K e' h' → St n fz' e' h' a' w' → Ext fz h w fz' h' w' → a'.defers = a.defers → next a' w') → wpOpIn (FR ro) 0 P ops Q i next a w
theorem Rows.some {P:Program} {row:String} {args:Array Value} {w:World} {R:Value → World → Prop} (h:Rows P row args w R) : ∃ v w',R v w':=by
 obtain ⟨v,w',hr,_⟩:=h default []
 exact ⟨v,w',hr⟩
theorem wpOp_some {P:Program} {ops:Array Oper} {i:Nat} {K:Act → World → Prop} {a:Act} {w:World} (h : wpOpIn (FR none) 0 P ops (fun _ _ _ => False) i K a w) : ∃ a' w',K a' w':=by
 unfold wpOpIn at h
 split at h
 ·exact ⟨_,_,h⟩
 ·split at h
  ·have h:=h.2
   unfold Oper.uponIn at h
   split at h
   ·exact ⟨_,_,h⟩
   ·exact ⟨_,_,h⟩
   ·exact ⟨_,_,h⟩
   ·obtain ⟨e,w',_,hr,_⟩:=h.2.2 [] (room_FR _)
    cases e with
    | returned v => exact ⟨_,_,hr⟩
    | panicked c => exact hr.elim
    | outgrown => obtain ⟨_,_,h⟩:=hr; exact h.elim
   ·obtain ⟨v,w',hr,_⟩:=h.2 default [] (room_FR _)
    exact ⟨_,_,hr⟩
   ·obtain ⟨e,w',hr,_⟩:=h.2.2 default [] (room_FR _)
    cases e with
    | returned v => exact ⟨_,_,hr⟩
    | panicked c => exact hr.elim
    | outgrown => obtain ⟨_,_,h⟩:=hr; exact h.elim
   ·exact h.elim
   ·exact h.elim
  ·exact ⟨_,_,h.2⟩
theorem stepI_put {S:Nat → Item} {obl:List Nat} {x:Item} (hx : x.s.good x.looks) {e:Env} {h:Hp} {K:Env → Hp → Prop} (hh : stepI S obl x e h K) :
  stepI S obl x e h fun e' h' => K e' h'∧∃ v,e' = e.put x.d v:=by
 unfold stepI at *
 split <;> simp only [*] at hh hx
 ·obtain ⟨v,h1,h2⟩:=hh; exact ⟨v,h1,h2,v,rfl⟩
 ·obtain ⟨v,h1,h2⟩:=hh; exact ⟨v,h1,h2,v,rfl⟩
 ·obtain ⟨r,h1,h2⟩:=hh
  refine ⟨r,h1,?_⟩
  cases r with
  | inl v => exact ⟨h2,v,rfl⟩
  | inr og => exact fun n hn => ⟨h2 n hn,_,rfl⟩
 ·exact hx.2.1 _ _ _ _ (fun v h' ⟨a,b⟩ => ⟨a,b,v,rfl⟩) hh
theorem live_of_sim {P:Program} {ops:Array Oper} {n:Nat} {S:Nat → Item} {obl:Nat → List Nat} (hgood:∀ i,(S i).s.good (S i).looks)
  (hsim:∀ i,Sim P ops n S i) : LiveP S obl fun e h => ∃ fz a w,St n fz e h a w:=by
 refine ⟨fun i e h K ⟨fz,a,w,hst⟩ hh => ?_⟩
 have h1:=stepI_put (hgood i) (stepI_drop (hgood i) (obl':=[]) (fun l h => by simp at h) hh)
 obtain ⟨_,_,e',h',hk,h2,h3⟩:=wpOp_some (hsim i none (fun _ _ _ => False) fz e h a w _ hst h1 (fun _ _ => ∃ e' h',(K e' h'∧∃ v,e' = e.put (S i).d v)∧∃ fz a w,St n fz e' h' a w)
  (fun fz' e' h' a' w' hk hs _ _ => ⟨e',h',hk,fz',a',w',hs⟩))
 exact ⟨e',h',hk.1,⟨h2,h3⟩,hk.2⟩
def dep (ops:Array Oper) (y x : Nat) : Bool :=
 match ops[y]? with
 | some oj => oj.after.any fun e => Region.binds .any e && e.on == x
 | none => false
theorem getD_both' {listed:Array Bool} {i:Nat} (h : listed.getD i true = false) : listed.getD i false = false:=by
 rcases Nat.lt_or_ge i listed.size with h' | h'
 ·simp [h'] at h ⊢; exact h
 ·simp [Array.getElem?_eq_none h'] at h
def ClosedL (ops:Array Oper) (listed:Array Bool) : Prop :=
 ∀ j oj,ops[j]? = some oj → listed.getD j false = true → ∀ e ∈ oj.after,Region.binds .any e = true → listed.getD e.on false = true
def Reaches (ops:Array Oper) (reach:Nat → Nat → Bool) : Prop :=
 ∀ (listed:Array Bool) (x y : Nat) (oy:Oper),ClosedL ops listed → ops[y]? = some oy → (∀ e ∈ oy.after,Region.binds .any e = true → listed.getD e.on false = true) → reach x y = true → listed.getD x false = true
structure OrderOK (ops:Array Oper) (reach:Nat → Nat → Bool) (S:Nat → Item) (obl:Nat → List Nat) (c:List Nat) : Prop where
 nodup : c.Nodup
 pair : c.Pairwise fun x y => Compat S obl x y ∨ reach x y = true
 topo : c.Pairwise fun x y => dep ops x y = false
 back : c.Pairwise fun x y => reach y x = false∧y ∉ obl x
 clear : c.Pairwise fun x y => ∀ l ∈ obl y,l = x ∨ (∀ t,(S x).d = some t → t ∉ (S l).looks∧(S l).d ≠ some t) ∨ reach x l = true
 obin : ∀ y ∈ c,∀ l ∈ obl y,l < ops.size∧l ≠ y
 self : ∀ x ∈ c,dep ops x x = false
 inb : ∀ x ∈ c,∀ oy,ops[x]? = some oy → ∀ e ∈ oy.after,Region.binds .any e = true → e.on < ops.size
theorem region_any {P:Program} {ops:Array Oper} {reach:Nat → Nat → Bool} (hreach:Reaches ops reach) {n:Nat} {S:Nat → Item} {obl:Nat → List Nat} (hgood:∀ i,(S i).s.good (S i).looks)
  (hsim:∀ i,Sim P ops n S i) (ro:Option Nat) {Q:Exit → Act → World → Prop} {K:Env → Hp → Prop} :
  ∀ (m:Nat) (c:List Nat) (listed:Array Bool),c.length = m → OrderOK ops reach S obl c → listed.size = ops.size → ClosedL ops listed → (∀ i ∈ c,i < ops.size) →
   (∀ i,i < ops.size → (listed.getD i true = false ↔ i ∈ c)) → ∀ fz e h a w,St n fz e h a w → wpI S obl c e h K →
   (∀ fz' e' h' a' w',K e' h' → St n fz' e' h' a' w' → Ext fz h w fz' h' w' → a'.defers = a.defers → Q .normal a' w') → wpAnyIn (FR ro) 0 P .any ops Q m listed a w:=by
 intro m
 induction m with
 | zero =>
  intro c listed hm _ hsz _ _ hin fz e h a w hst hh hq
  have hc0 : c = []:=List.eq_nil_of_length_eq_zero hm
  subst hc0
  refine ⟨?_,hq fz e h a w hh hst (Ext.refl _ _ _) rfl⟩
  apply List.eq_nil_iff_forall_not_mem.2
  intro i hi
  obtain ⟨h1,oi,h2,_⟩:=mem_ready.1 hi
  have:=(hin i (Array.getElem?_eq_some_iff.1 h2).1).1 h1
  simp at this
 | succ m ih =>
  intro c listed hm hok hsz hcl hlt hin fz e h a w hst hh hq
  have hready : ∀ i,i ∈ Region.ready .any ops listed → i ∈ c:=fun i hi => by
   obtain ⟨h1,oi,h2,_⟩:=mem_ready.1 hi
   exact (hin i (Array.getElem?_eq_some_iff.1 h2).1).1 h1
  refine ⟨fun hnil => ?_,fun i hi => ?_⟩
  ·-- the head of what is left is ready
   exfalso
   cases c with
   | nil => simp at hm
   | cons x c =>
    have hx:=hlt x (by simp)
    have hmem : x ∈ Region.ready .any ops listed:=by
     refine mem_ready.2 ⟨(hin x hx).2 (by simp),ops[x],by simp [hx],fun ed he hb => ?_⟩
     have hdx : dep ops x ed.on = true:=by
      unfold dep
      simp only [Array.getElem?_eq_getElem hx]
      exact Array.any_eq_true'.2 ⟨ed,he,by simp [hb]⟩
     have hnc : ed.on ∉ x :: c:=by
      intro hmem
      rcases List.mem_cons.1 hmem with h1 | h1
      ·rw [h1,hok.self x (by simp)] at hdx; cases hdx
      ·have:=(List.pairwise_cons.1 hok.topo).1 _ h1
       rw [this] at hdx; cases hdx
     have hlt':=hok.inb x (by simp) ops[x] (by simp [hx]) ed he hb
     have:=mt (hin ed.on hlt').1 hnc
     have hls : ed.on < listed.size:=by rw [hsz]; exact hlt'
     simp [hls] at this ⊢
     exact this
    rw [hnil] at hmem; simp at hmem
  ·obtain ⟨pre,post,rfl⟩:=List.append_of_mem (hready i hi)
   obtain ⟨hun,oi,hoi,hall⟩:=mem_ready.1 hi
   have hcomp : ∀ x ∈ pre,Compat S obl x i:=fun x hx => by
    have:=(List.pairwise_append.1 hok.pair).2.2 x hx i (by simp)
    rcases this with h1 | h1
    ·exact h1
    ·exfalso
     have h2:=hreach listed _ _ oi hcl hoi hall h1
     have h3:=(hin x (hlt x (by simp [hx]))).2 (by simp [hx])
     rw [getD_both' h3] at h2; cases h2
   have hyok:=yOK_of hgood (live_of_sim hgood hsim (obl:=obl)) pre e h hcomp ⟨fz,a,w,hst⟩ hh
   have hnd : pre.Nodup:=(List.nodup_append.1 hok.nodup).1
   have hclear : ∀ (p1 p2 : List Nat),pre = p1 ++ p2 → Clear S (obl i) p2:=by
    intro p1 p2
    induction p2 generalizing p1 with
    | nil => intro _; trivial
    | cons x p2 ih2 =>
     intro hp
     refine ⟨fun l hl hlx hlp => ?_,ih2 (p1 ++ [x]) (by rw [hp]; simp)⟩
     have hxp : x ∈ pre:=by rw [hp]; simp
     rcases (List.pairwise_append.1 hok.clear).2.2 x hxp i (by simp) l hl with h1 | h1 | h1
     ·exact absurd h1 hlx
     ·exact h1
     ·exfalso
      have hxun:=(hin x (hlt x (by simp [hxp]))).2 (by simp [hxp])
      obtain ⟨hlsz,hlne⟩:=hok.obin i (by simp) l hl
      -- l is still to come: else x had been listed
      have hlun : listed.getD l true = false:=by
       cases hll : listed.getD l true with
       | false => rfl
       | true =>
        exfalso
        have hl2 : listed.getD l false = true:=by
         have : l < listed.size:=by rw [hsz]; exact hlsz
         simp [this] at hll ⊢; exact hll
        have h2:=hreach listed x l ops[l] hcl (by simp [hlsz]) (fun e' he' hb' => hcl l ops[l] (by simp [hlsz]) hl2 e' he' hb') h1
        rw [getD_both' hxun] at h2; cases h2
      have hlc:=(hin l hlsz).1 hlun
      rcases List.mem_append.1 hlc with h2 | h2
      ·rw [hp] at h2
       rcases List.mem_append.1 h2 with h3 | h3
       ·have hb:=hok.back
        rw [hp,List.append_assoc] at hb
        have:=((List.pairwise_append.1 hb).2.2 l h3 x (by simp)).1
        rw [this] at h1; cases h1
       ·rcases List.mem_cons.1 h3 with h4 | h4
        ·exact hlx h4
        ·exact hlp h4
      ·rcases List.mem_cons.1 h2 with h3 | h3
       ·exact hlne h3
       ·have hb:=(List.pairwise_append.1 hok.back).2.1
        exact ((List.pairwise_cons.1 hb).1 l h3).2 hl
   have hmv:=stepI_drop (hgood i) (obl':=[]) (fun l hl => by simp at hl) (move_front hgood pre e h hnd hcomp (hclear [] pre rfl) hyok (fun _ => hst.rel.fin) hh)
   refine hsim i ro Q fz e h a w _ hst hmv _ fun fz' e' h' a' w' hk hst' hext hd => ?_
   have hsub : (pre ++ post).Sublist (pre ++ i :: post):=by simp
   refine ih (pre ++ post) _ (by simp at hm ⊢; omega) ⟨hok.nodup.sublist hsub,hok.pair.sublist hsub,hok.topo.sublist hsub,hok.back.sublist hsub,hok.clear.sublist hsub,fun x hx => hok.obin x (hsub.subset hx),fun x hx => hok.self x (hsub.subset hx),fun x hx => hok.inb x (hsub.subset hx)⟩ (by simp [hsz]) ?_
    (fun x hx => hlt x (hsub.subset hx)) ?_ fz' e' h' a' w' hst' hk (fun fz2 e2 h2 a2 w2 hk2 hst2 hext2 hd2 => hq fz2 e2 h2 a2 w2 hk2 hst2 (hext.trans hext2) (hd2.trans hd))
   ·intro j oj hj hl ed he hb
    by_cases hij : i = j
    ·subst hij
     have : oj = oi:=Option.some.inj (hj.symm.trans hoi)
     subst this
     exact getD_set_true (hall ed he hb)
    ·rw [getD_set_ne false hij] at hl
     exact getD_set_true (hcl j oj hj hl ed he hb)
   ·intro j hj
    by_cases hij : i = j
    ·subst hij
     have hnot : i ∉ pre ++ post:=fun hmem => by
      have h1:=hok.nodup
      have h2:=List.nodup_append.1 h1
      rcases List.mem_append.1 hmem with h3 | h3
      ·exact absurd rfl (h2.2.2 i h3 i (by simp))
      ·exact (List.nodup_cons.1 h2.2.1).1 h3
     simp only [hnot,iff_false]
     simp [hsz,hj]
    ·rw [getD_set_ne true hij,hin j hj]
     simp only [List.mem_append,List.mem_cons]
     constructor
     ·rintro (h1 | h1 | h1)
      ·exact .inl h1
      ·exact absurd h1.symm hij
      ·exact .inr h1
     ·rintro (h1 | h1)
      ·exact .inl h1
      ·exact .inr (.inr h1)
end Go.Hz
/- The operations over the proofs' values. -/
namespace Go.Hz
inductive AE where
 | tm (n:Nat)
 | cs (v:AV)
def AE.ev (e:Env) : AE → AV
 | .tm n => e n
 | .cs v => v
def atomOf : Value → Option AV
 | .bool b => some (.bool b)
 | .int k n => some (.int k n)
 | .string s => some (.str s.data.toList)
 | .pointer none => some .nilp
 | .slice none 0 0 => some .nils
 | .map none => some .nilm
 | .nilFunc => some .nilf
 | .nilIface => some .nili
 | .tuple vs => if vs.size = 0 then some (.tup []) else none
 | _ => none
def atomsOf : List Value → Option (List AV)
 | [] => some []
 | v :: vs => match atomOf v,atomsOf vs with
  | some a,some as => some (a :: as)
  | _,_ => none
def avOf : Value → Option AV
 | .agg cs => (atomsOf cs.toList).map .agg
 | v => atomOf v
theorem atomOf_ok {v:Value} {a:AV} (h : atomOf v = some a) (fz:Nat → Prop) (H:Array Obj) : VR fz H a v:=by
 unfold atomOf at h
 split at h <;> first | (cases h; done) | skip
 ·cases h; exact .bool _
 ·cases h; exact .int _ _
 ·cases h; rename_i s; exact VR.str s.data.toList
 ·cases h; exact .nilp
 ·cases h; exact .nils
 ·cases h; exact .nilm
 ·cases h; exact .nilf
 ·cases h; exact .nili
 ·rename_i vs
  split at h
  ·rename_i h0
   cases h
   exact .tup [] vs (by simp [h0]) (fun i h1 => by simp at h1)
  ·cases h
theorem atomsOf_ok (fz:Nat → Prop) (H:Array Obj) : ∀ {vs:List Value} {as:List AV},atomsOf vs = some as → VRs fz H as vs
 | [],as,h => by simp [atomsOf] at h; subst h; exact VRs.nil
 | v :: vs,as,h => by
  unfold atomsOf at h
  split at h
  ·rename_i a as' h1 h2
   cases h
   exact VRs.cons (atomOf_ok h1 fz H) (atomsOf_ok fz H h2)
  ·cases h
theorem avOf_ok {v:Value} {a:AV} (h : avOf v = some a) (fz:Nat → Prop) (H:Array Obj) : VR fz H a v:=by
 unfold avOf at h
 split at h
 ·rename_i cs
  cases hh : atomsOf cs.toList with
  | none => rw [hh] at h; cases h
  | some as =>
   rw [hh] at h; cases h
   have:=atomsOf_ok fz H hh
   exact .agg as cs (by simpa using this.1) (fun i h1 h2 => this.2 i h1 (by simpa using h2))
 ·exact atomOf_ok h fz H
section inv
variable {fz:Nat → Prop} {H:Array Obj} {cv:Value}
theorem VR.bool_inv {b:Bool} (h:VR fz H (.bool b) cv) : cv = .bool b:=by cases h; rfl
theorem VR.int_inv {k:IntKind} {n:Int} (h:VR fz H (.int k n) cv) : cv = .int k n:=by cases h; rfl
theorem VR.str_inv {l:List UInt8} (h:VR fz H (.str l) cv) : cv = .string ⟨l.toArray⟩:=by cases h; rfl
theorem VR.nilp_inv (h:VR fz H .nilp cv) : cv = .pointer none:=by cases h; rfl
theorem VR.ptr_inv {b s i k : Nat} (h:VR fz H (.ptr b s i k) cv) : cv = .pointer (some ⟨b,i * s + k,none⟩):=by cases h; rfl
theorem VR.emp_inv (h:VR fz H .emp cv) : ∃ a c,cv = .slice (some a) 0 c:=by cases h; exact ⟨_,_,rfl⟩
theorem VR.nils_inv (h:VR fz H .nils cv) : cv = .slice none 0 0:=by cases h; rfl
theorem VR.nilm_inv (h:VR fz H .nilm cv) : cv = .map none:=by cases h; rfl
theorem VR.map_inv {b:Nat} (h:VR fz H (.map b) cv) : cv = .map (some b):=by cases h; rfl
theorem VR.yl_inv {l:Nat} (h:VR fz H (.yl l) cv) : cv = .func (.yield l) #[] #[]:=by cases h; rfl
theorem VR.nilf_inv (h:VR fz H .nilf cv) : cv = .nilFunc:=by cases h; rfl
theorem VR.nili_inv (h:VR fz H .nili cv) : cv = .nilIface:=by cases h; rfl
theorem VR.iface_inv {t:TypeId} {v:AV} (h:VR fz H (.iface t v) cv) : ∃ u,cv = .iface t u∧VR fz H v u:=by cases h; exact ⟨_,rfl,by assumption⟩
theorem VR.agg_inv {cs:List AV} (h:VR fz H (.agg cs) cv) : ∃ vs,cv = .agg vs∧VRs fz H cs vs.toList:=by
 cases h with
 | agg _ vs hl h => exact ⟨vs,rfl,by simpa using hl,fun i h1 h2 => h i h1 (by simpa using h2)⟩
theorem VR.tup_inv {cs:List AV} (h:VR fz H (.tup cs) cv) : ∃ vs,cv = .tuple vs∧VRs fz H cs vs.toList:=by
 cases h with
 | tup _ vs hl h => exact ⟨vs,rfl,by simpa using hl,fun i h1 h2 => h i h1 (by simpa using h2)⟩
theorem VR.fn_inv {f:FuncId} {caps:List AV} (h:VR fz H (.fn f caps) cv) : ∃ vs,cv = .func (.func f) #[] vs∧VRs fz H caps vs.toList:=by
 cases h with
 | fn _ _ vs hl h => exact ⟨vs,rfl,by simpa using hl,fun i h1 h2 => h i h1 (by simpa using h2)⟩
end inv
def AE.of : Operand → Option AE
 | .tmp n => some (.tm n)
 | .const v => (avOf v).map .cs
 | .func f => some (.cs (.fn f []))
 | .global _ => none
theorem AE.of_ok {x:Operand} {y:AE} (h:AE.of x = some y) {fz:Nat → Prop} {H:Array Obj} {e:Env} {a:Act} (he:EnvR fz H e a.tmps) : VR fz H (y.ev e) (a.eval x):=by
 cases x with
 | tmp t => cases h; exact he t
 | const v =>
  simp only [AE.of] at h
  cases hv : avOf v with
  | none => rw [hv] at h; cases h
  | some u => rw [hv] at h; cases h; exact avOf_ok hv fz H
 | func f => cases h; exact .fn f [] #[] rfl (fun i h1 => by simp at h1)
 | global g => cases h
def AE.looks : AE → List Nat
 | .tm n => [n]
 | .cs _ => []
theorem AE.ev_congr {y:AE} {e e' : Env} (h:∀ t ∈ y.looks,e t = e' t) : y.ev e = y.ev e':=by
 cases y with
 | tm n => exact h n (by simp [AE.looks])
 | cs v => rfl
def stepV (s:Sm) (e:Env) (h:Hp) (K:AV → Hp → Prop) : Prop :=
 match s with
 | .pure f => ∃ v,f e = some v∧K v h
 | .load f => ∃ v,f e h = some v∧K v h
 | .mk f => ∃ r,f e = some r∧match r with
  | .inl v => K v h
  | .inr (o,g) => ∀ n,h n = none → K (g n) (h.set n o)
 | .eff f => f e h K
theorem stepI_V {S:Nat → Item} {x:Item} (hx : x.s.good x.looks) {e:Env} {h:Hp} {K:Env → Hp → Prop} (hh : stepI S [] x e h K) : stepV x.s e h fun v h' => K (e.put x.d v) h':=by
 unfold stepI at hh
 unfold stepV
 split <;> simp only [*] at hh hx ⊢
 ·exact hh
 ·exact hh
 ·exact hh
 ·exact hx.2.1 _ _ _ _ (fun v h' ⟨_,b⟩ => b) hh
def OutOK (P:Program) (s:Sem Next) (w:World) (R:Value → World → Prop) : Prop :=
 match s.run P w with
 | .ok (.value cv) w' => R cv w'
 | .ok .skip w' => R undef w'
 | .ok (.enter f args) w' => Calls P f args w' fun e w'' => ∃ cv,e = .returned cv∧R cv w''
 | .ok (.round l f tmps asg bd) w' => RoundIn (FR none) 0 P l f tmps asg bd w' fun e w'' => ∃ cv,e = .returned cv∧R cv w''
 | _ => False
theorem OutOK.no_defer {P:Program} {o:Oper} {ρ:Operand → Value} {w:World} {R:Value → World → Prop} (h:OutOK P (execOp ρ o) w R) : ∀ c,o.op ≠ .defer c:=by
 intro c hc
 unfold OutOK at h
 simp only [execOp,hc] at h
 rw [Sem.run_bind] at h
 cases hr : (resolve ρ c o.type).run P w with
 | ok d w' => simp [hr,Result.andThen] at h
 | halt x w' => simp [hr,Result.andThen] at h
def After (fz:Nat → Prop) (h:Hp) (w:World) (K:AV → Hp → Prop) (cv:Value) (w' : World) : Prop :=
 ∃ v h' fz',K v h'∧VR fz' w'.heap v cv∧Rel fz' h' w'∧Ext fz h w fz' h' w'
def OpOK (P:Program) (o:Oper) (s:Sm) : Prop :=
 ∀ fz e h (a:Act) w (K:AV → Hp → Prop),EnvR fz w.heap e a.tmps → Rel fz h w → stepV s e h K → OutOK P (execOp a.eval o) w (After fz h w K)
def Sm.guard (g:Nat) (want:Bool) : Sm → Sm
 | .pure f => .pure fun e => match e g with
  | .bool b => if b = want then f e else some (.tup [])
  | .tup [] => some (.tup [])
  | _ => none
 | .load f => .load fun e h => match e g with
  | .bool b => if b = want then f e h else some (.tup [])
  | .tup [] => some (.tup [])
  | _ => none
 | .mk f => .mk fun e => match e g with
  | .bool b => if b = want then f e else some (.inl (.tup []))
  | .tup [] => some (.inl (.tup []))
  | _ => none
 | .eff f => .eff fun e h K => match e g with
  | .bool b => if b = want then f e h K else K (.tup []) h
  | .tup [] => K (.tup []) h
  | _ => False
theorem stepV_guard {s:Sm} {g:Nat} {want:Bool} {e:Env} {h:Hp} {K:AV → Hp → Prop} (hh : stepV (s.guard g want) e h K) :
  (e g = .bool want∧stepV s e h K) ∨ ((e g = .bool (!want) ∨ e g = .tup [])∧K (.tup []) h):=by
 cases s with
 | pure f =>
  obtain ⟨v,h1,h2⟩:=hh
  simp only at h1
  split at h1
  ·rename_i b hb
   split at h1
   ·rename_i hbw; subst hbw; exact .inl ⟨hb,v,h1,h2⟩
   ·rename_i hbw; cases h1; exact .inr ⟨.inl (by rw [hb]; cases b <;> cases want <;> simp_all),h2⟩
  ·rename_i hb; cases h1; exact .inr ⟨.inr hb,h2⟩
  ·cases h1
 | load f =>
  obtain ⟨v,h1,h2⟩:=hh
  simp only at h1
  split at h1
  ·rename_i b hb
   split at h1
   ·rename_i hbw; subst hbw; exact .inl ⟨hb,v,h1,h2⟩
   ·rename_i hbw; cases h1; exact .inr ⟨.inl (by rw [hb]; cases b <;> cases want <;> simp_all),h2⟩
  ·rename_i hb; cases h1; exact .inr ⟨.inr hb,h2⟩
  ·cases h1
 | mk f =>
  obtain ⟨v,h1,h2⟩:=hh
  simp only at h1
  split at h1
  ·rename_i b hb
   split at h1
   ·rename_i hbw; subst hbw; exact .inl ⟨hb,v,h1,h2⟩
   ·rename_i hbw; cases h1; exact .inr ⟨.inl (by rw [hb]; cases b <;> cases want <;> simp_all),h2⟩
  ·rename_i hb; cases h1; exact .inr ⟨.inr hb,h2⟩
  ·cases h1
 | eff f =>
  simp only [stepV,Sm.guard] at hh
  split at hh
  ·rename_i b hb
   split at hh
   ·rename_i hbw; subst hbw; exact .inl ⟨hb,hh⟩
   ·rename_i hbw; exact .inr ⟨.inl (by rw [hb]; cases b <;> cases want <;> simp_all),hh⟩
  ·rename_i hb; exact .inr ⟨.inr hb,hh⟩
  ·exact hh.elim
theorem good_guard {s:Sm} {looks:List Nat} {g:Nat} {want:Bool} (hs : s.good looks) : (s.guard g want).good (g :: looks):=by
 cases s with
 | pure f =>
  intro e e' hh
  simp only [hh g (by simp),hs e e' fun t ht => hh t (by simp [ht])]
 | load f =>
  obtain ⟨h1,h2,h3⟩:=hs
  refine ⟨fun e e' h hh => ?_,fun e h v n o hh hn => ?_,fun e => ?_⟩
  ·simp only [hh g (by simp),h1 e e' h fun t ht => hh t (by simp [ht])]
  ·revert hh
   simp only
   split
   ·split
    ·exact fun hh => h2 _ _ _ _ _ hh hn
    ·exact id
   ·exact id
   ·exact id
  ·obtain ⟨R,hR⟩:=h3 e
   exact ⟨R,fun h h' hh => by simp only [hR h h' hh]⟩
 | mk f =>
  intro e e' hh
  simp only [hh g (by simp),hs e e' fun t ht => hh t (by simp [ht])]
 | eff f =>
  obtain ⟨h1,h2,h3⟩:=hs
  refine ⟨fun e e' h K hh => ?_,fun e h K K' hk => ?_,fun e h K n o hn => ?_⟩
  ·simp only
   rw [← hh g (by simp)]
   split
   ·split
    ·exact h1 e e' h K (fun t ht => hh t (by simp [ht]))
    ·exact id
   ·exact id
   ·exact id
  ·simp only
   split
   ·split
    ·exact h2 _ _ _ _ hk
    ·exact hk _ _
   ·exact hk _ _
   ·exact id
  ·simp only
   split
   ·split
    ·exact h3 _ _ _ _ _ hn
    ·exact fun hf => ⟨h,hn,rfl,hf⟩
   ·exact fun hf => ⟨h,hn,rfl,hf⟩
   ·exact id
theorem OpOK.sim {P:Program} {ops:Array Oper} {n:Nat} {S:Nat → Item} {i:Nat} {o:Oper} {s:Sm} (hok:OpOK P o s) (ho : ops[i]? = some o)
    (hd:∀ t,o.dst = some t → t < n) (hS:(S i).d = o.dst) (hg:(S i).s.good (S i).looks)
    (hgd : match o.guard with
      | none => (S i).s = s
      | some (j,want) => ∃ g,((ops[j]?).bind (·.dst)) = some g∧(S i).s = s.guard g want) : Sim P ops n S i:=by
  intro ro Q fz e h a w K hst hh next hk
  have hV:=stepI_V hg hh
  rw [hS] at hV
  have fin : ∀ cv w',After fz h w (fun v h' => K (e.put o.dst v) h') cv w' → next (a.put o.dst cv) w':=by
    rintro cv w' ⟨v,h',fz',h1,h2,h3,h4⟩
    refine hk fz' _ h' _ w' h1 ⟨by rw [Act.put_size]; exact hst.size,EnvR.put (fun t => ?_) h2 (fun t ht => by rw [hst.size]; exact hd t ht),h3⟩ h4 (Act.put_defers' _ _ _)
    exact (hst.env t).ext hst.rel h4
  have run : stepV s e h (fun v h' => K (e.put o.dst v) h') → o.wpIn (FR ro) 0 P a w next Q:=by
    intro hV
    have:=hok fz e h a w _ hst.env hst.rel hV
    refine ⟨fun _ _ => trivial,?_⟩
    rw [Oper.semAt_eq _ _ _ this.no_defer]
    unfold OutOK at this
    unfold Oper.uponIn
    split at this
    · rename_i hr; rw [hr]; exact fin _ _ this
    · rename_i hr; rw [hr]; exact fin _ _ this
    · rename_i hr; rw [hr]; exact ⟨(fun h => by cases h),(callsIn_wide (n:=0 - 1)).2 (this.mono fun ed w'' ⟨cv,h1,h2⟩ => by subst h1; exact fin _ _ h2)⟩
    · rename_i hr; rw [hr]; exact ⟨(fun h => by cases h),RoundIn.mono (F:=FR none) this fun ed w'' ⟨cv,h1,h2⟩ => by subst h1; exact fin _ _ h2⟩
    · exact this.elim
  have yv : ∀ {g:Nat} {v:Value},a.tmps.getD g undef = v → v ≠ undef → a.tmps[g]? = some v:=fun {g v} h1 h2 => by
    rcases Nat.lt_or_ge g a.tmps.size with h | h
    · simp [h] at h1 ⊢; exact h1
    · simp [Array.getElem?_eq_none h] at h1; exact absurd h1.symm h2
  unfold wpOpIn
  simp only [ho]
  cases hgu : o.guard with
  | none =>
    rw [hgu] at hgd
    simp only at hgd
    rw [hgd] at hV
    simp only [Region.wanted,hgu,if_true]
    exact run hV
  | some jw =>
    obtain ⟨j,want⟩:=jw
    rw [hgu] at hgd
    obtain ⟨g,hg1,hg2⟩:=hgd
    rw [hg2] at hV
    rcases stepV_guard hV with ⟨h1,h2⟩ | ⟨h1,h2⟩
    · have h3:=hst.env g
      rw [h1] at h3
      have h4 : a.tmps[g]? = some (.bool want):=yv (h3.bool_inv) (by simp [undef])
      have : Region.wanted o (yielded ops a.tmps) = true:=by
        simp [Region.wanted,hgu,yielded,hg1,h4]
      simp only [this,if_true]
      exact run h2
    · have h3:=hst.env g
      have : Region.wanted o (yielded ops a.tmps) = false:=by
        rcases h1 with h1 | h1
        · rw [h1] at h3
          have h4 : a.tmps[g]? = some (.bool (!want)):=yv (h3.bool_inv) (by simp [undef])
          simp [Region.wanted,hgu,yielded,hg1,h4]
        · rw [h1] at h3
          obtain ⟨vs,h4,_⟩:=h3.tup_inv
          have h5 : ∀ b,a.tmps[g]? ≠ some (.bool b):=fun b hb => by simp [hb] at h4
          have h6 : yielded ops a.tmps j = none:=by
            unfold yielded
            simp only [hg1,Option.bind_some]
          simp [Region.wanted,hgu,h6]
      simp only [this,if_false,Bool.false_eq_true]
      exact ⟨fun _ _ => trivial,fin _ _ ⟨_,h,fz,h2,.tup [] #[] rfl (fun i h1 => by simp at h1),hst.rel,Ext.refl _ _ _⟩⟩
end Go.Hz
/- Operations that only compute. -/
namespace Go.Hz
theorem OpOK.of_pure {P:Program} {o:Oper} {f:Env → Option AV}
  (h:∀ (fz:Nat → Prop) (e:Env) (a:Act) (w:World),EnvR fz w.heap e a.tmps → ∀ v,f e = some v → ∃ cv,(execOp a.eval o).run P w = .ok (.value cv) w∧VR fz w.heap v cv) : OpOK P o (.pure f):=by
 intro fz e hp a w K he hr hh
 obtain ⟨v,h1,h2⟩:=hh
 obtain ⟨cv,h3,h4⟩:=h fz e a w he v h1
 unfold OutOK
 rw [h3]
 exact ⟨v,hp,fz,h2,h4,hr,Ext.refl _ _ _⟩
theorem OpOK.of_load {P:Program} {o:Oper} {f:Env → Hp → Option AV}
  (h:∀ (fz:Nat → Prop) (e:Env) (hp:Hp) (a:Act) (w:World),EnvR fz w.heap e a.tmps → Rel fz hp w → ∀ v,f e hp = some v → ∃ cv,(execOp a.eval o).run P w = .ok (.value cv) w∧VR fz w.heap v cv) : OpOK P o (.load f):=by
 intro fz e hp a w K he hr hh
 obtain ⟨v,h1,h2⟩:=hh
 obtain ⟨cv,h3,h4⟩:=h fz e hp a w he hr v h1
 unfold OutOK
 rw [h3]
 exact ⟨v,hp,fz,h2,h4,hr,Ext.refl _ _ _⟩
def _root_.Go.TypeDesc.isAg : TypeDesc → Bool
 | .struct _ | .array _ _ => true
 | _ => false
section sem
variable {α β : Type} {P:Program} {w w' : World}
theorem run_bind (s:Sem α) (f : α → Sem β) : (s >>= f).run P w = (s.run P w).andThen fun a w' => (f a).run P w':=Sem.run_bind P w s f
theorem run_pure (a : α) : (pure a : Sem α).run P w = .ok a w:=rfl
theorem run_value (s:Sem Value) {v:Value} (h : s.run P w = .ok v w') : (do pure (Next.value (← s)) : Sem Next).run P w = .ok (.value v) w':=by
 simp [h]
theorem run_underlying {t:TypeId} {d:TypeDesc} (h:P.underlying t = some d) : (underlying t).run P w = .ok d w:=by
 simp [underlying,h]
theorem run_typeInfo {t:TypeId} {i:TypeInfo} (h:P.info? t = some i) : (typeInfo t).run P w = .ok i w:=by
 simp [typeInfo,h]
theorem run_sizeOf {t:TypeId} {i:TypeInfo} (h:P.info? t = some i) : (sizeOf t).run P w = .ok i.size w:=by
 simp [sizeOf,run_typeInfo h]
theorem run_zero {t:TypeId} {i:TypeInfo} {v:Value} (h:P.info? t = some i) (hz : i.zero = some v) : (zeroValue t).run P w = .ok v w:=by
 simp [zeroValue,run_typeInfo h,hz]
theorem run_isAgg {t:TypeId} {d:TypeDesc} (h:P.underlying t = some d) : (isAgg t).run P w = .ok d.isAg w:=by
 simp only [isAgg,run_bind,run_underlying h,Result.andThen_ok]
 cases d <;> rfl
end sem
def bitsA (op:BinOp) (k:IntKind) (x y : Int) : Int :=
 let a:=BitVec.ofInt k.bits x
 let b:=BitVec.ofInt k.bits y
 match op with
 | .and => k.wrap (a &&& b).toNat
 | .or => k.wrap (a ||| b).toNat
 | .xor => k.wrap (a ^^^ b).toNat
 | _ => k.wrap (a &&& ~~~b).toNat
def binA (op:BinOp) : AV → AV → Option AV
 | .int k a,.int k' b =>
  match op with
  | .shl => if 0 ≤ b then some (.int k (k.wrap (a * 2 ^ (min b.toNat k.bits)))) else none
  | .shr => if 0 ≤ b then some (.int k (a.fdiv (2 ^ (min b.toNat k.bits)))) else none
  | .add => if k = k' then some (.int k (k.wrap (a + b))) else none
  | .sub => if k = k' then some (.int k (k.wrap (a - b))) else none
  | .mul => if k = k' then some (.int k (k.wrap (a * b))) else none
  | .quo => if k = k'∧b ≠ 0 then some (.int k (k.wrap (a.tdiv b))) else none
  | .rem => if k = k'∧b ≠ 0 then some (.int k (a.tmod b)) else none
  | .and | .or | .xor | .andNot => if k = k' then some (.int k (bitsA op k a b)) else none
  | .eql => if k = k' then some (.bool (a == b)) else none
  | .neq => if k = k' then some (.bool (a != b)) else none
  | .lss => if k = k' then some (.bool (decide (a < b))) else none
  | .leq => if k = k' then some (.bool (decide (a ≤ b))) else none
  | .gtr => if k = k' then some (.bool (decide (b < a))) else none
  | .geq => if k = k' then some (.bool (decide (b ≤ a))) else none
 | .str a,.str b =>
  match op with
  | .add => if a.length + b.length < 9223372036854775808 then some (.str (a ++ b)) else none
  | .eql => some (.bool (a == b))
  | .neq => some (.bool (a != b))
  | .lss => some (.bool (Op.bytesLess a b))
  | .leq => some (.bool (Op.bytesLess a b || a == b))
  | .gtr => some (.bool !(Op.bytesLess a b || a == b))
  | .geq => some (.bool !(Op.bytesLess a b))
  | _ => none
 | _,_ => none
theorem byteArray_toList (l:List UInt8) : (ByteArray.mk l.toArray).toList = l:=by
 have h : ∀ (b:ByteArray) (i:Nat) (acc:List UInt8),ByteArray.toList.loop b i acc = acc.reverse ++ b.data.toList.drop i:=by
  intro b i acc
  fun_induction ByteArray.toList.loop b i acc with
  | case1 i r hlt ih =>
   rw [ih]
   have hlt' : i < b.data.toList.length:=by simpa using hlt
   rw [List.drop_eq_getElem_cons hlt']
   simp only [List.reverse_cons,List.append_assoc,List.singleton_append]
   congr 2
   show b.get! i = _
   simp [ByteArray.get!]
   rw [getElem!_pos b.data i (by simpa using hlt)]
  | case2 i r hlt =>
   have : b.data.toList.length ≤ i:=by simpa using hlt
   rw [List.drop_eq_nil_of_le this]; simp
 unfold ByteArray.toList
 rw [h]; simp
theorem byteArray_append (a b : List UInt8) : ByteArray.mk a.toArray ++ ByteArray.mk b.toArray = ByteArray.mk (a ++ b).toArray:=by
 apply ByteArray.ext
 simp
theorem sim_bin {P:Program} {o:Oper} {op:BinOp} {t t' : TypeId} {x y : Operand} {x' y' : AE} (ho : o.op = .binOp op t x y t') (hx:AE.of x = some x') (hy:AE.of y = some y') :
    OpOK P o (.pure fun e => binA op (x'.ev e) (y'.ev e)):=by
  refine OpOK.of_pure fun fz e a w he v hv => ?_
  have h1:=AE.of_ok hx he
  have h2:=AE.of_ok hy he
  simp only [execOp,ho]
  suffices h : ∃ cv,(eqGuard op t x y (a.eval x) (a.eval y) >>= fun _ => binOp op t (a.eval x) (a.eval y)).run P w = .ok cv w∧VR fz w.heap v cv by
    obtain ⟨cv,h3,h4⟩:=h
    exact ⟨cv,run_value _ h3,h4⟩
  generalize a.eval x = cx at *
  generalize a.eval y = cy at *
  generalize x'.ev e = ax at *
  generalize y'.ev e = ay at *
  unfold binA at hv
  split at hv
  · rename_i k n k' m
    cases h1.int_inv
    cases h2.int_inv
    have hg : (eqGuard op t x y (.int k n) (.int k' m)).run P w = .ok () w:=by unfold eqGuard; cases op <;> rfl
    rw [run_bind,hg,Result.andThen_ok]
    cases op <;> simp only at hv <;> split at hv <;> first | (cases hv; done) | skip
    all_goals rename_i hc
    all_goals cases hv
    all_goals first
      | (subst hc
         simp only [binOp,ne_eq,not_true_eq_false,if_false,Op.intBits,Op.intCmp,Op.intArith]
         first | exact ⟨_,rfl,.int _ _⟩ | exact ⟨_,rfl,.bool _⟩)
      | (obtain ⟨rfl,h0⟩:=hc
         simp only [binOp,ne_eq,not_true_eq_false,if_false,Op.intDiv,h0]
         exact ⟨_,rfl,.int _ _⟩)
      | (have hc' : ¬ m < 0:=by omega
         simp only [binOp,Op.shift,hc',if_false]
         exact ⟨_,rfl,.int _ _⟩)
  · rename_i s s'
    cases h1.str_inv
    cases h2.str_inv
    have hg : (eqGuard op t x y (.string ⟨s.toArray⟩) (.string ⟨s'.toArray⟩)).run P w = .ok () w:=by unfold eqGuard; cases op <;> rfl
    rw [run_bind,hg,Result.andThen_ok]
    cases op <;> simp only at hv <;> first | (cases hv; done) | skip
    case add =>
      split at hv
      · rename_i hc
        cases hv
        simp only [binOp,Op.stringOp]
        rw [if_neg (by
          show ¬ (((s.toArray.size + s'.toArray.size : Nat) : Int) > IntKind.i64.max)
          simp only [IntKind.max,IntKind.signed,IntKind.bits,List.size_toArray,if_true]; omega)]
        exact ⟨_,rfl,by rw [byteArray_append]; exact .str _⟩
      · cases hv
    all_goals cases hv
    all_goals simp only [binOp,Op.stringOp,byteArray_toList]
    all_goals exact ⟨_,rfl,.bool _⟩
  · cases hv
end Go.Hz
namespace Go.Hz
section more
variable {P:Program} {o:Oper}
theorem sim_mv {x:Operand} {x' : AE} (ho : o.op = .move x ∨ o.op = .assign x) (hx:AE.of x = some x') : OpOK P o (.pure fun e => some (x'.ev e)):=by
 refine OpOK.of_pure fun fz e a w he v hv => ?_
 cases hv
 refine ⟨a.eval x,?_,AE.of_ok hx he⟩
 rcases ho with ho | ho <;> simp only [execOp,ho] <;> rfl
def pickA (c a b : AV) : Option AV :=
 match c with
 | .bool t => some (if t then a else b)
 | _ => none
theorem sim_pick {c x y : Operand} {c' x' y' : AE} (ho : o.op = .pick c x y) (hc:AE.of c = some c') (hx:AE.of x = some x') (hy:AE.of y = some y') :
  OpOK P o (.pure fun e => pickA (c'.ev e) (x'.ev e) (y'.ev e)):=by
 refine OpOK.of_pure fun fz e a w he v hv => ?_
 have h0:=AE.of_ok hc he
 have h1:=AE.of_ok hx he
 have h2:=AE.of_ok hy he
 unfold pickA at hv
 split at hv
 ·rename_i t ht
  rw [ht] at h0
  cases hv
  refine ⟨if t then a.eval x else a.eval y,?_,by split <;> assumption⟩
  simp [execOp,ho,h0.bool_inv,asBool]
 ·cases hv
inductive NK where
 | bool | ptr | sl | mp | fn | ifc
def eqN : NK → AV → AV → Option Bool
 | .bool,.bool a,.bool b => some (a == b)
 | .ptr,.nilp,.nilp => some true
 | .ptr,.ptr _ _ _ _,.nilp => some false
 | .ptr,.nilp,.ptr _ _ _ _ => some false
 | .ptr,.ro _,.nilp => some false
 | .ptr,.ptr b s i k,.ptr b' s' i' k' => if b = b'∧s = s'∧i = i'∧k = k' then some true else none
 | .sl,.nils,.nils => some true
 | .sl,.arr _ _ _ _ _,.nils => some false
 | .sl,.emp,.nils => some false
 | .sl,.lst (_ :: _),.nils => some false
 | .mp,.nilm,.nilm => some true
 | .mp,.map _,.nilm => some false
 | .fn,.nilf,.nilf => some true
 | .fn,.fn _ _,.nilf => some false
 | .ifc,.iface _ _,.nili => some false
 | .ifc,.nili,.nili => some true
 | _,_,_ => none
def NK.fits : NK → TypeDesc → Bool
 | .bool,.bool => true
 | .ptr,.pointer _ => true
 | .sl,.slice _ => true
 | .mp,.map _ _ => true
 | .fn,.func _ _ _ => true
 | .ifc,.interface _ => true
 | _,_ => false
theorem VR.ptr_some {fz:Nat → Prop} {H:Array Obj} {cv:Value} {cs:List AV} (h:VR fz H (.ro cs) cv) : ∃ a,cv = .pointer (some a):=by cases h; exact ⟨_,rfl⟩
theorem VR.arr_some {fz:Nat → Prop} {H:Array Obj} {cv:Value} {b s off len cap : Nat} (h:VR fz H (.arr b s off len cap) cv) : ∃ a,cv = .slice (some a) len cap:=by
 cases h <;> exact ⟨_,rfl⟩
theorem VR.lst_some {fz:Nat → Prop} {H:Array Obj} {cv:Value} {e:List AV} {es:List (List AV)} (h:VR fz H (.lst (e :: es)) cv) : ∃ a cap,cv = .slice (some a) (e :: es).length cap:=by
 cases h; exact ⟨_,_,rfl⟩
def elemOK (P:Program) : TypeDesc → Bool
 | .pointer el => (P.info? el).isSome
 | _ => true
theorem eqN_run {k:NK} {t:TypeId} {d:TypeDesc} (hd:P.underlying t = some d) (hk : k.fits d = true) (hq : elemOK P d = true) {fz:Nat → Prop} {w:World} {ax ay : AV} {cx cy : Value} {b:Bool}
  (hx:VR fz w.heap ax cx) (hy:VR fz w.heap ay cy) (h : eqN k ax ay = some b) : (Op.equal t cx cy).run P w = .ok b w:=by
 unfold Op.equal Op.maxDepth
 rw [show (10000:Nat) = 9999 + 1 from rfl]
 unfold Op.equalIn
 rw [run_bind,run_underlying hd,Result.andThen_ok]
 unfold eqN at h
 split at h <;> first | (cases h; done) | skip
 all_goals first | cases h | skip
 ·cases hx.bool_inv; cases hy.bool_inv; cases d <;> simp [NK.fits] at hk; rfl
 ·cases hx.nilp_inv; cases hy.nilp_inv; cases d <;> simp [NK.fits] at hk; rfl
 ·cases hx.ptr_inv; cases hy.nilp_inv; cases d <;> simp [NK.fits] at hk; rfl
 ·cases hx.nilp_inv; cases hy.ptr_inv; cases d <;> simp [NK.fits] at hk; rfl
 ·obtain ⟨a,rfl⟩:=hx.ptr_some; cases hy.nilp_inv; cases d <;> simp [NK.fits] at hk; rfl
 ·split at h <;> first | (cases h; done) | skip
  rename_i he
  obtain ⟨rfl,rfl,rfl,rfl⟩:=he
  cases h
  cases hx.ptr_inv; cases hy.ptr_inv
  cases d <;> simp [NK.fits] at hk
  rename_i el
  simp only [elemOK] at hq
  obtain ⟨inf,hinf⟩:=Option.isSome_iff_exists.1 hq
  simp only []
  rw [run_bind,run_sizeOf hinf,Result.andThen_ok]
  by_cases h0 : inf.size = 0
  ·simp [h0]
  ·simp [h0,sameAddr]
 ·cases hx.nils_inv; cases hy.nils_inv; cases d <;> simp [NK.fits] at hk; rfl
 ·obtain ⟨a,rfl⟩:=hx.arr_some; cases hy.nils_inv; cases d <;> simp [NK.fits] at hk; rfl
 ·obtain ⟨a,c,rfl⟩:=hx.emp_inv; cases hy.nils_inv; cases d <;> simp [NK.fits] at hk; rfl
 ·obtain ⟨a,c,rfl⟩:=hx.lst_some; cases hy.nils_inv; cases d <;> simp [NK.fits] at hk; rfl
 ·cases hx.nilm_inv; cases hy.nilm_inv; cases d <;> simp [NK.fits] at hk; rfl
 ·cases hx.map_inv; cases hy.nilm_inv; cases d <;> simp [NK.fits] at hk; rfl
 ·cases hx.nilf_inv; cases hy.nilf_inv; cases d <;> simp [NK.fits] at hk; rfl
 ·obtain ⟨vs,rfl,_⟩:=hx.fn_inv; cases hy.nilf_inv; cases d <;> simp [NK.fits] at hk; rfl
 ·obtain ⟨vs,rfl,_⟩:=hx.iface_inv; cases hy.nili_inv; cases d <;> simp [NK.fits] at hk; rfl
 ·cases hx.nili_inv; cases hy.nili_inv; cases d <;> simp [NK.fits] at hk; rfl
theorem sim_eqn {neg:Bool} {t t' : TypeId} {x y : Operand} {x' y' : AE} {k:NK} {d:TypeDesc} (ho : o.op = .binOp (if neg then .neq else .eql) t x y t') (hd:P.underlying t = some d) (hk : k.fits d = true) (hq : elemOK P d = true)
  (hx:AE.of x = some x') (hy:AE.of y = some y') (hc:(y matches .const _) = true ∨ (match k with | .ifc => false | _ => true) = true) :
  OpOK P o (.pure fun e => (eqN k (x'.ev e) (y'.ev e)).map fun b => .bool (if neg then !b else b)):=by
 refine OpOK.of_pure fun fz e a w he v hv => ?_
 have h1:=AE.of_ok hx he
 have h2:=AE.of_ok hy he
 cases hb : eqN k (x'.ev e) (y'.ev e) with
 | none => rw [hb] at hv; cases hv
 | some b =>
  rw [hb] at hv
  cases hv
  have hrun:=eqN_run hd hk hq h1 h2 hb
  refine ⟨.bool (if neg then !b else b),?_,.bool _⟩
  simp only [execOp,ho]
  refine run_value _ ?_
  have hg : (eqGuard (if neg then .neq else .eql) t x y (a.eval x) (a.eval y)).run P w = .ok () w:=by
   generalize a.eval x = cx at *
   generalize hcy : a.eval y = cy at *
   generalize x'.ev e = ax at *
   generalize y'.ev e = ay at *
   unfold eqN at hb
   split at hb <;> first | (cases hb; done) | skip
   ·cases h1.bool_inv; cases h2.bool_inv; cases neg <;> rfl
   ·cases h1.nilp_inv; cases h2.nilp_inv; cases neg <;> rfl
   ·cases h1.ptr_inv; cases h2.nilp_inv; cases neg <;> rfl
   ·cases h1.nilp_inv; cases h2.ptr_inv; cases neg <;> rfl
   ·obtain ⟨a,rfl⟩:=h1.ptr_some; cases h2.nilp_inv; cases neg <;> rfl
   ·cases h1.ptr_inv; cases h2.ptr_inv; cases neg <;> rfl
   ·cases h1.nils_inv; cases h2.nils_inv; cases neg <;> rfl
   ·obtain ⟨a,rfl⟩:=h1.arr_some; cases h2.nils_inv; cases neg <;> rfl
   ·obtain ⟨a,c,rfl⟩:=h1.emp_inv; cases h2.nils_inv; cases neg <;> rfl
   ·obtain ⟨a,c,rfl⟩:=h1.lst_some; cases h2.nils_inv; cases neg <;> rfl
   ·cases h1.nilm_inv; cases h2.nilm_inv; cases neg <;> rfl
   ·cases h1.map_inv; cases h2.nilm_inv; cases neg <;> rfl
   ·cases h1.nilf_inv; cases h2.nilf_inv; cases neg <;> rfl
   ·obtain ⟨vs,rfl,_⟩:=h1.fn_inv; cases h2.nilf_inv; cases neg <;> rfl
   ·obtain ⟨vs,rfl,_⟩:=h1.iface_inv; cases h2.nili_inv; cases neg <;> rfl
   ·cases h1.nili_inv; cases h2.nili_inv
    rcases hc with hc | hc
    ·cases y <;> simp at hc
     cases x <;> cases neg <;> rfl
    ·simp at hc
  rw [run_bind,hg,Result.andThen_ok]
  generalize a.eval x = cx at *
  generalize a.eval y = cy at *
  generalize x'.ev e = ax at *
  generalize y'.ev e = ay at *
  have hne : binOp (if neg then .neq else .eql) t cx cy = (Op.equal t cx cy >>= fun r => pure (.bool (if neg then !r else r))):=by
   unfold eqN at hb
   split at hb <;> first | (cases hb; done) | skip
   ·cases h1.bool_inv; cases h2.bool_inv; cases neg <;> rfl
   ·cases h1.nilp_inv; cases h2.nilp_inv; cases neg <;> rfl
   ·cases h1.ptr_inv; cases h2.nilp_inv; cases neg <;> rfl
   ·cases h1.nilp_inv; cases h2.ptr_inv; cases neg <;> rfl
   ·obtain ⟨a,rfl⟩:=h1.ptr_some; cases h2.nilp_inv; cases neg <;> rfl
   ·cases h1.ptr_inv; cases h2.ptr_inv; cases neg <;> rfl
   ·cases h1.nils_inv; cases h2.nils_inv; cases neg <;> rfl
   ·obtain ⟨a,rfl⟩:=h1.arr_some; cases h2.nils_inv; cases neg <;> rfl
   ·obtain ⟨a,c,rfl⟩:=h1.emp_inv; cases h2.nils_inv; cases neg <;> rfl
   ·obtain ⟨a,c,rfl⟩:=h1.lst_some; cases h2.nils_inv; cases neg <;> rfl
   ·cases h1.nilm_inv; cases h2.nilm_inv; cases neg <;> rfl
   ·cases h1.map_inv; cases h2.nilm_inv; cases neg <;> rfl
   ·cases h1.nilf_inv; cases h2.nilf_inv; cases neg <;> rfl
   ·obtain ⟨vs,rfl,_⟩:=h1.fn_inv; cases h2.nilf_inv; cases neg <;> rfl
   ·obtain ⟨vs,rfl,_⟩:=h1.iface_inv; cases h2.nili_inv; cases neg <;> rfl
   ·cases h1.nili_inv; cases h2.nili_inv; cases neg <;> rfl
  rw [hne]
  simp [hrun]
def unA (op:UnOp) : AV → Option AV
 | .int k n => match op with
  | .neg => some (.int k (k.wrap (0 - n)))
  | .xor => some (.int k (bitsA .xor k (if k.signed then -1 else k.max) n))
  | _ => none
 | .bool b => match op with
  | .not => some (.bool (!b))
  | _ => none
 | _ => none
theorem sim_un {op:UnOp} {t:TypeId} {x:Operand} {x' : AE} (ho : o.op = .unOp op t x) (hx:AE.of x = some x') : OpOK P o (.pure fun e => unA op (x'.ev e)):=by
 refine OpOK.of_pure fun fz e a w he v hv => ?_
 have h1:=AE.of_ok hx he
 simp only [execOp,ho]
 generalize a.eval x = cx at *
 generalize x'.ev e = ax at *
 unfold unA at hv
 split at hv
 ·cases h1.int_inv
  cases op <;> cases hv
  ·exact ⟨_,rfl,.int _ _⟩
  ·exact ⟨_,rfl,.int _ _⟩
 ·cases h1.bool_inv
  cases op <;> cases hv
  exact ⟨_,rfl,.bool _⟩
 ·cases hv
def cviA (k:IntKind) : AV → Option AV
 | .int _ n => some (.int k (k.wrap n))
 | _ => none
theorem sim_cvi {s d : TypeId} {k:IntKind} {ds:TypeDesc} {x:Operand} {x' : AE} (ho : o.op = .convert s d x) (hs:P.underlying s = some ds) (hd:P.underlying d = some (.int k)) (hx:AE.of x = some x') :
  OpOK P o (.pure fun e => cviA k (x'.ev e)):=by
 refine OpOK.of_pure fun fz e a w he v hv => ?_
 have h1:=AE.of_ok hx he
 simp only [execOp,ho]
 generalize a.eval x = cx at *
 generalize x'.ev e = ax at *
 unfold cviA at hv
 split at hv
 ·cases h1.int_inv
  cases hv
  refine ⟨_,run_value _ ?_,.int _ _⟩
  unfold convert
  simp only [run_bind,run_underlying hs,run_underlying hd,Result.andThen_ok]
  cases ds <;> rfl
 ·cases hv
def strA : AV → Option AV
 | .str l => some (.str l)
 | _ => none
theorem sim_cvs {s d : TypeId} {x:Operand} {x' : AE} (ho : o.op = .convert s d x) (hs:P.underlying s = some .string) (hd:P.underlying d = some .string) (hx:AE.of x = some x') :
  OpOK P o (.pure fun e => strA (x'.ev e)):=by
 refine OpOK.of_pure fun fz e a w he v hv => ?_
 have h1:=AE.of_ok hx he
 simp only [execOp,ho]
 generalize a.eval x = cx at *
 generalize x'.ev e = ax at *
 unfold strA at hv
 split at hv
 ·cases h1.str_inv
  cases hv
  refine ⟨_,run_value _ ?_,.str _⟩
  unfold convert
  simp only [run_bind,run_underlying hs,run_underlying hd,Result.andThen_ok]
  rfl
 ·cases hv
def ckA : AV → Option AV
 | .ptr b s i k => some (.ptr b s i k)
 | .ro c => some (.ro c)
 | .fn f c => some (.fn f c)
 | .iface t v => some (.iface t v)
 | _ => none
theorem sim_nilck {x:Operand} {x' : AE} (ho : o.op = .nilCheck x) (hx:AE.of x = some x') : OpOK P o (.pure fun e => ckA (x'.ev e)):=by
 refine OpOK.of_pure fun fz e a w he v hv => ?_
 have h1:=AE.of_ok hx he
 simp only [execOp,ho]
 generalize a.eval x = cx at *
 generalize x'.ev e = ax at *
 unfold ckA at hv
 split at hv <;> first | (cases hv; done) | skip
 ·cases hv; cases h1.ptr_inv; exact ⟨_,rfl,h1⟩
 ·cases hv; obtain ⟨a,rfl⟩:=h1.ptr_some; exact ⟨_,rfl,h1⟩
 ·cases hv; obtain ⟨vs,rfl,_⟩:=h1.fn_inv; exact ⟨_,rfl,h1⟩
 ·cases hv; obtain ⟨u,rfl,_⟩:=h1.iface_inv; exact ⟨_,rfl,h1⟩
def faA (off:Nat) : AV → Option AV
 | .ptr b s i k => some (.ptr b s i (k + off))
 | .ro c => if off ≤ c.length then some (.ro (c.drop off)) else none
 | _ => none
theorem Addr.add_none (b o n : Nat) : (⟨b,o,none⟩ : Addr).add n = ⟨b,o + n,none⟩:=by
 unfold Addr.add; split <;> simp_all
theorem VR.ro_drop {fz:Nat → Prop} {H:Array Obj} {c:List AV} {cv:Value} {off:Nat} (h:VR fz H (.ro c) cv) (hl : off ≤ c.length) :
  ∃ b o,cv = .pointer (some ⟨b,o,none⟩)∧VR fz H (.ro (c.drop off)) (.pointer (some ⟨b,o + off,none⟩)):=by
 cases h with
 | ro cells b o cs T fr hf hb hc h =>
  refine ⟨b,o,rfl,.ro _ b (o + off) cs T fr hf hb (by simp; omega) fun k h1 h2 => ?_⟩
  have h1' : off + k < c.length:=by simp at h1; omega
  have:=h (off + k) h1' (by omega)
  simp only [List.getElem_drop,Nat.add_assoc] at this ⊢
  exact this
theorem sim_fa {s:TypeId} {fs:Array Field} {fl:Field} {i:TypeInfo} {x:Operand} {x' : AE} {n:Nat} (ho : o.op = .fieldAddr s x n) (hs:P.underlying s = some (.struct fs)) (hf : fs[n]? = some fl)
  (hi:P.info? fl.type = some i) (h0 : i.size ≠ 0) (hx:AE.of x = some x') : OpOK P o (.pure fun e => faA fl.offset (x'.ev e)):=by
 refine OpOK.of_pure fun fz e a w he v hv => ?_
 have h1:=AE.of_ok hx he
 simp only [execOp,ho]
 generalize a.eval x = cx at *
 generalize x'.ev e = ax at *
 have key : ∀ b o',cx = .pointer (some ⟨b,o',none⟩) → (Instr.fieldAt s cx n).run P w = .ok (.pointer (some ⟨b,o' + fl.offset,none⟩)) w:=fun b o' hc => by
  subst hc
  unfold Instr.fieldAt fieldPlace
  simp [run_underlying hs,hf,Instr.sureAddr,run_sizeOf hi,h0,Addr.add_none]
 unfold faA at hv
 split at hv
 ·cases hv; cases h1.ptr_inv
  exact ⟨_,run_value _ (key _ _ rfl),by rw [Nat.add_assoc]; exact .ptr _ _ _ _⟩
 ·split at hv
  ·rename_i hl
   cases hv
   obtain ⟨b,o',rfl,h2⟩:=h1.ro_drop hl
   exact ⟨_,run_value _ (key _ _ rfl),h2⟩
  ·cases hv
 ·cases hv
def partA (cs:List AV) (off sz : Nat) (ag:Bool) : Option AV :=
 if ag then (if off + sz ≤ cs.length then some (.agg ((cs.drop off).take sz)) else none) else cs[off]?
theorem part_run {t:TypeId} {d:TypeDesc} {i:TypeInfo} {fz:Nat → Prop} {w:World} {cs:List AV} {vs:Array Value} {off:Nat} {v:AV} (hd:P.underlying t = some d) (hi:P.info? t = some i)
  (hr:VRs fz w.heap cs vs.toList) (hv : partA cs off i.size d.isAg = some v) :
  ∃ cv,(part t vs off).run P w = .ok cv w∧VR fz w.heap v cv:=by
 unfold part
 rw [run_bind,run_isAgg hd,Result.andThen_ok]
 generalize d.isAg = ag at *
 unfold partA at hv
 cases ag with
 | true =>
  simp only [if_true] at hv ⊢
  split at hv
  ·rename_i hle
   cases hv
   have hl:=hr.1
   simp only [Array.length_toList] at hl
   refine ⟨.agg (vs.extract off (off + i.size)),by simp [run_sizeOf hi],.agg _ _ (by simp; omega) fun j h1 h2 => ?_⟩
   have h3:=hr.2 (off + j) (by simp at h1; omega) (by simp at h1; simp; omega)
   simp only [List.getElem_take,List.getElem_drop,Array.getElem_extract]
   simpa using h3
  ·cases hv
 | false =>
  simp only [Bool.false_eq_true,if_false] at hv ⊢
  have hlt : off < cs.length:=(List.getElem?_eq_some_iff.1 hv).1
  have hl:=hr.1
  simp only [Array.length_toList] at hl
  have h3:=hr.2 off hlt (by simp; omega)
  have e1 : vs[off]? = some vs[off]:=Array.getElem?_eq_getElem (by omega)
  rw [e1]
  have e2 : cs[off] = v:=by rw [List.getElem?_eq_getElem hlt] at hv; exact Option.some.inj hv
  exact ⟨_,rfl,by rw [← e2]; simpa using h3⟩
def fldA (off sz : Nat) (ag:Bool) : AV → Option AV
 | .agg cs => partA cs off sz ag
 | _ => none
theorem sim_fld {s:TypeId} {fs:Array Field} {fl:Field} {i:TypeInfo} {d:TypeDesc} {x:Operand} {x' : AE} {n:Nat} (ho : o.op = .field s x n) (hs:P.underlying s = some (.struct fs)) (hf : fs[n]? = some fl)
  (hd:P.underlying fl.type = some d) (hi:P.info? fl.type = some i) (hx:AE.of x = some x') :
  OpOK P o (.pure fun e => fldA fl.offset i.size d.isAg (x'.ev e)):=by
 refine OpOK.of_pure fun fz e a w he v hv => ?_
 have h1:=AE.of_ok hx he
 simp only [execOp,ho]
 generalize a.eval x = cx at *
 generalize x'.ev e = ax at *
 unfold fldA at hv
 split at hv
 ·obtain ⟨vs,rfl,h2⟩:=h1.agg_inv
  obtain ⟨cv,h3,h4⟩:=part_run hd hi h2 hv
  refine ⟨cv,run_value _ ?_,h4⟩
  unfold Instr.field
  simp [run_underlying hs,hf,asAgg,h3]
 ·cases hv
def ixsA : AV → AV → Option AV
 | .str l,.int _ n => if 0 ≤ n then (l[n.toNat]?).map fun b => .int .u8 b.toNat else none
 | _,_ => none
theorem byteArray_get? (l:List UInt8) (n:Nat) : (ByteArray.mk l.toArray)[n]? = l[n]?:=by
 by_cases h : n < l.length
 ·rw [List.getElem?_eq_getElem h]
  have h' : n < (ByteArray.mk l.toArray).size:=by simpa [ByteArray.size] using h
  rw [getElem?_pos (ByteArray.mk l.toArray) n h']
  rfl
 ·rw [List.getElem?_eq_none (by omega)]
  rw [getElem?_neg (ByteArray.mk l.toArray) n (by simpa [ByteArray.size] using h)]
theorem sim_ixs {t:TypeId} {x y : Operand} {x' y' : AE} (ho : o.op = .index t x y) (ht:P.underlying t = some .string) (hx:AE.of x = some x') (hy:AE.of y = some y') :
  OpOK P o (.pure fun e => ixsA (x'.ev e) (y'.ev e)):=by
 refine OpOK.of_pure fun fz e a w he v hv => ?_
 have h1:=AE.of_ok hx he
 have h2:=AE.of_ok hy he
 simp only [execOp,ho]
 generalize a.eval x = cx at *
 generalize a.eval y = cy at *
 generalize x'.ev e = ax at *
 generalize y'.ev e = ay at *
 unfold ixsA at hv
 split at hv
 ·rename_i l k n
  cases h1.str_inv
  cases h2.int_inv
  split at hv
  ·rename_i h0
   cases hb : l[n.toNat]? with
   | none => rw [hb] at hv; cases hv
   | some b =>
    rw [hb] at hv; cases hv
    refine ⟨_,run_value _ ?_,.int _ _⟩
    unfold Instr.index
    simp [run_underlying ht,asIntOf,h0,byteArray_get?,hb]
  ·cases hv
 ·cases hv
def iaA (s:Nat) : AV → AV → Option AV
 | .arr b s' off len _,.int _ n => if s' = s∧0 ≤ n∧n < len then some (.ptr b s (off + n.toNat) 0) else none
 | .lst es,.int _ n => if 0 ≤ n then (match es[n.toNat]? with
  | some el => if el.length = s then some (.ro el) else none
  | none => none) else none
 | _,_ => none
theorem sim_ia {t el : TypeId} {i:TypeInfo} {x y : Operand} {x' y' : AE} (ho : o.op = .indexAddr t x y) (ht:P.underlying t = some (.slice el)) (hi:P.info? el = some i) (hx:AE.of x = some x') (hy:AE.of y = some y') :
  OpOK P o (.pure fun e => iaA i.size (x'.ev e) (y'.ev e)):=by
 refine OpOK.of_pure fun fz e a w he v hv => ?_
 have h1:=AE.of_ok hx he
 have h2:=AE.of_ok hy he
 simp only [execOp,ho]
 generalize a.eval x = cx at *
 generalize a.eval y = cy at *
 generalize x'.ev e = ax at *
 generalize y'.ev e = ay at *
 have key : ∀ (ad:Addr) (len cap : Nat) (k:IntKind) (n:Int),cx = .slice (some ad) len cap → cy = .int k n → 0 ≤ n → n < len →
   (Instr.indexAt t cx cy).run P w = .ok (.pointer (some (ad.add (n.toNat * i.size)))) w:=fun ad len cap k n hc hc' h0 hn => by
  subst hc hc'
  unfold Instr.indexAt
  simp [run_underlying ht,asIntOf,h0,hn,run_sizeOf hi]
 unfold iaA at hv
 split at hv
 ·rename_i b s' off len cap k n
  cases h2.int_inv
  split at hv
  ·rename_i hc
   obtain ⟨rfl,h0,hn⟩:=hc
   cases hv
   cases h1 with
   | arr => exact ⟨_,run_value _ (key _ _ _ _ _ rfl rfl h0 hn),by rw [Addr.add_none,← Nat.add_mul,show (off + n.toNat) * i.size = (off + n.toNat) * i.size + 0 from rfl]; exact .ptr _ _ _ _⟩
   | arr0 => simp at hn; omega
  ·cases hv
 ·rename_i es k n
  cases h2.int_inv
  split at hv
  ·rename_i h0
   cases hb : es[n.toNat]? with
   | none => rw [hb] at hv; cases hv
   | some el' =>
    rw [hb] at hv
    simp only at hv
    split at hv
    ·rename_i hsz
     cases hv
     have hlt : n.toNat < es.length:=(List.getElem?_eq_some_iff.1 hb).1
     have hel : es[n.toNat] = el':=by rw [List.getElem?_eq_getElem hlt] at hb; exact Option.some.inj hb
     cases h1 with
     | lst _ b o' s cap c T fr hf hb' hl hs hc h =>
      have hss : s = i.size:=by rw [← hsz,← hel]; exact (hs _ hlt).symm
      subst hss
      have hle : n.toNat * i.size + i.size ≤ es.length * i.size:=by rw [← Nat.succ_mul]; exact Nat.mul_le_mul_right _ hlt
      refine ⟨_,run_value _ (key _ _ _ _ _ rfl rfl h0 (by omega)),?_⟩
      rw [Addr.add_none]
      subst hel
      refine .ro _ b _ c T fr hf hb' (by rw [hs _ hlt]; omega) fun k h1 h2 => h _ hlt k h1 h2
     | lst0 => simp at hlt
    ·cases hv
  ·cases hv
 ·cases hv
end more
end Go.Hz
/- More operations that only compute: slicing, lengths, tuples, structs made by value, interfaces, function values. -/
namespace Go.Hz
section
variable {P:Program} {o:Oper}
def boundA : Option AV → Nat → Option Nat
 | none,d => some d
 | some (.int _ n),_ => if 0 ≤ n then some n.toNat else none
 | _,_ => none
def slcS (x:AV) (lo hi : Option AV) : Option AV :=
 match x with
 | .str l => match boundA lo 0,boundA hi l.length with
  | some a,some b => if a ≤ b∧b ≤ l.length then some (.str ((l.take b).drop a)) else none
  | _,_ => none
 | _ => none
def slcL (s:Nat) (x:AV) (lo hi : Option AV) : Option AV :=
 match x with
 | .lst es => match boundA lo 0,boundA hi es.length with
  | some a,some b => if a ≤ b∧b ≤ es.length∧(∀ el ∈ es,el.length = s) then some (.lst ((es.take b).drop a)) else none
  | _,_ => none
 | .arr b' s' off len cap => match boundA lo 0,boundA hi len with
  | some a,some b => if a ≤ b∧b ≤ cap∧len ≤ cap∧s' = s then some (.arr b' s (off + a) (b - a) (cap - a)) else none
  | _,_ => none
 | .nils => match boundA lo 0,boundA hi 0 with
  | some a,some b => if a = 0∧b = 0 then some .nils else none
  | _,_ => none
 | .emp => match boundA lo 0,boundA hi 0 with
  | some a,some b => if a = 0∧b = 0 then some .emp else none
  | _,_ => none
 | _ => none
theorem bound_run {v:Option AV} {cv:Option Value} {fz:Nat → Prop} {w:World} {d y n : Nat} {code:BoundsCode} (hv : match v,cv with
    | none,none => True
    | some a,some c => VR fz w.heap a c
    | _,_ => False) (hb : boundA v d = some n) (hn : n ≤ y) :
    (match cv with
      | some c => Instr.sliceBound c y code
      | none => pure d).run P w = .ok n w:=by
  cases v with
  | none =>
    cases cv with
    | none => cases hb; rfl
    | some c => exact hv.elim
  | some a =>
    cases cv with
    | none => exact hv.elim
    | some c =>
      unfold boundA at hb
      cases a <;> simp at hb
      cases hv.int_inv
      obtain ⟨h0,rfl⟩:=hb
      unfold Instr.sliceBound
      rename_i k q
      have : q ≤ (y:Int):=by omega
      simp [asIntOf,h0,this]
def optR (fz:Nat → Prop) (w:World) (v:Option AV) (cv:Option Value) : Prop:=match v,cv with
  | none,none => True
  | some a,some c => VR fz w.heap a c
  | _,_ => False
theorem bounds_run {lo hi : Option AV} {clo chi : Option Value} {fz:Nat → Prop} {w:World} {isS:Bool} {len cap a b : Nat} (h1 : optR fz w lo clo) (h2 : optR fz w hi chi)
  (ha : boundA lo 0 = some a) (hb : boundA hi len = some b) (hab : a ≤ b) (hbc : b ≤ cap) (hl : chi = none → len ≤ cap) :
  (Instr.sliceBounds isS len cap clo chi none).run P w = .ok (a,b,cap) w:=by
 have e1:=bound_run (P:=P) (y:=cap) (code:=if isS then .sliceAcap else .sliceAlen) h2 hb hbc
 have e2:=bound_run (P:=P) (y:=b) (code:=.sliceB) h1 ha hab
 unfold Instr.sliceBounds
 cases chi with
 | none =>
  have hbl : b = len:=by
   cases hi with
   | none => cases hb; rfl
   | some a => exact h2.elim
  subst hbl
  cases clo with
  | none => simp at e2 ⊢; exact e2
  | some c => simp at e2 ⊢; simp [e2]
 | some ch =>
  simp at e1
  cases clo with
  | none => simp at e2 ⊢; simp [e1,e2]
  | some c => simp at e2 ⊢; simp [e1,e2]
def AE.ofO : Option Operand → Option (Option AE)
 | none => some none
 | some x => (AE.of x).map some
theorem AE.ofO_ok {x:Option Operand} {y:Option AE} (h:AE.ofO x = some y) {fz:Nat → Prop} {w:World} {e:Env} {a:Act} (he:EnvR fz w.heap e a.tmps) :
  optR fz w (y.map (·.ev e)) (x.map a.eval):=by
 cases x with
 | none => cases h; trivial
 | some x =>
  simp only [AE.ofO] at h
  cases hx : AE.of x with
  | none => rw [hx] at h; cases h
  | some z => rw [hx] at h; cases h; exact AE.of_ok hx he
theorem byteArray_extract (l:List UInt8) (a b : Nat) : (ByteArray.mk l.toArray).extract a b = ByteArray.mk ((l.take b).drop a).toArray:=by
 apply ByteArray.ext
 simp [List.extract_eq_take_drop,List.drop_take]
theorem VR.lst_sub {fz:Nat → Prop} {H:Array Obj} {es:List (List AV)} {cv:Value} {a b s : Nat} (h:VR fz H (.lst es) cv) (hab : a ≤ b) (hb : b ≤ es.length) (hs:∀ el ∈ es,el.length = s) :
  ∃ ad cap,cv = .slice ad es.length cap∧b ≤ cap∧VR fz H (.lst ((es.take b).drop a)) (.slice (if cap = a then ad else ad.map (·.add (a * s))) (b - a) (cap - a)):=by
 cases h with
 | lst0 ad cap h0 =>
  have : b = 0:=by simpa using hb
  subst this
  have : a = 0:=by omega
  subst this
  exact ⟨ad,cap,rfl,by omega,.lst0 _ _ (by
   intro hn
   split at hn
   ·exact h0 hn
   ·cases ad with
    | none => exact h0 rfl
    | some _ => cases hn)⟩
 | lst _ bl o s' cap c T fr hf hb' hl hs' hc h =>
  refine ⟨_,cap,rfl,by omega,?_⟩
  by_cases hba : b - a = 0
  ·have : (es.take b).drop a = []:=List.drop_eq_nil_of_le (by simp; omega)
   rw [this,hba]
   exact .lst0 _ _ (by intro hn; split at hn <;> cases hn)
  ·have hlen : ((es.take b).drop a).length = b - a:=by simp; omega
   have hss : s' = s:=by
    have h0 : a < es.length:=by omega
    rw [← hs' a h0]; exact hs _ (List.getElem_mem h0)
   subst hss
   rw [if_neg (by omega),← hlen]
   simp only [Option.map_some,Addr.add_none]
   have hget : ∀ i (h1 : i < ((es.take b).drop a).length),((es.take b).drop a)[i] = es[a + i]'(by rw [hlen] at h1; omega):=fun i h1 => by simp
   refine .lst _ bl _ s' _ c T fr hf hb' (by omega) (fun i h1 => by rw [hget i h1]; exact hs' _ _) ?_ fun i h1 k h2 h3 => ?_
   ·rw [hlen,Nat.add_assoc,← Nat.add_mul,show a + (b - a) = b from by omega]
    have:=Nat.mul_le_mul_right s' hb
    omega
   ·simp only [hget i h1] at h2 ⊢
    have e : o + a * s' + i * s' + k = o + (a + i) * s' + k:=by rw [Nat.add_mul]; omega
    simp only [e] at h3 ⊢
    exact h _ _ k h2 h3
theorem sim_slcS {t:TypeId} {x:Operand} {lo hi : Option Operand} {x' : AE} {lo' hi' : Option AE} (ho : o.op = .slice t x lo hi none) (hd:P.underlying t = some .string)
  (hx:AE.of x = some x') (hlo:AE.ofO lo = some lo') (hhi:AE.ofO hi = some hi') :
  OpOK P o (.pure fun e => slcS (x'.ev e) (lo'.map (·.ev e)) (hi'.map (·.ev e))):=by
 refine OpOK.of_pure fun fz e a w he v hv => ?_
 have h1:=AE.of_ok hx he
 have h2:=AE.ofO_ok hlo he
 have h3:=AE.ofO_ok hhi he
 simp only [execOp,ho,Option.map_none]
 generalize a.eval x = cx at *
 generalize lo.map a.eval = clo at *
 generalize hi.map a.eval = chi at *
 generalize x'.ev e = ax at *
 generalize lo'.map (·.ev e) = alo at *
 generalize hi'.map (·.ev e) = ahi at *
 unfold slcS at hv
 split at hv <;> first | (cases hv; done) | skip
 ·rename_i l
  cases h1.str_inv
  split at hv <;> first | (cases hv; done) | skip
  rename_i p q hp hq
  split at hv <;> first | (cases hv; done) | skip
  rename_i hc
  cases hv
  have:=bounds_run (P:=P) (isS:=false) (cap:=l.length) h2 h3 hp hq hc.1 hc.2 (fun _ => Nat.le_refl _)
  have e1 : (ByteArray.mk l.toArray).size = l.length:=by simp [ByteArray.size]
  refine ⟨_,run_value _ ?_,.str _⟩
  unfold Instr.sliceAt Instr.slice
  simp [run_underlying hd,e1,this,byteArray_extract]
theorem sim_slcL {t el : TypeId} {i:TypeInfo} {x:Operand} {lo hi : Option Operand} {x' : AE} {lo' hi' : Option AE} (ho : o.op = .slice t x lo hi none) (hd:P.underlying t = some (.slice el)) (hi0:P.info? el = some i)
  (hx:AE.of x = some x') (hlo:AE.ofO lo = some lo') (hhi:AE.ofO hi = some hi') :
  OpOK P o (.pure fun e => slcL i.size (x'.ev e) (lo'.map (·.ev e)) (hi'.map (·.ev e))):=by
 refine OpOK.of_pure fun fz e a w he v hv => ?_
 have h1:=AE.of_ok hx he
 have h2:=AE.ofO_ok hlo he
 have h3:=AE.ofO_ok hhi he
 simp only [execOp,ho,Option.map_none]
 generalize a.eval x = cx at *
 generalize lo.map a.eval = clo at *
 generalize hi.map a.eval = chi at *
 generalize x'.ev e = ax at *
 generalize lo'.map (·.ev e) = alo at *
 generalize hi'.map (·.ev e) = ahi at *
 have key : ∀ ad len cap p q,cx = .slice ad len cap → boundA alo 0 = some p → boundA ahi len = some q → p ≤ q → q ≤ cap → (chi = none → len ≤ cap) →
   (Instr.sliceAt t cx clo chi none).run P w = .ok (.slice (if cap = p then ad else ad.map (·.add (p * i.size))) (q - p) (cap - p)) w:=fun ad len cap p q hc hp hq hpq hqc hl => by
  subst hc
  have:=bounds_run (P:=P) (isS:=true) h2 h3 hp hq hpq hqc hl
  unfold Instr.sliceAt Instr.slice
  simp [run_underlying hd,this,run_sizeOf hi0]
 have hlen : ∀ {len q : Nat},boundA ahi len = some q → chi = none → q = len:=fun {len q} hq hc => by
  subst hc
  cases ahi with
  | none => cases hq; rfl
  | some a => exact h3.elim
 unfold slcL at hv
 split at hv <;> first | (cases hv; done) | skip
 ·rename_i es
  split at hv <;> first | (cases hv; done) | skip
  rename_i p q hp hq
  split at hv <;> first | (cases hv; done) | skip
  rename_i hc
  cases hv
  obtain ⟨ad,cap,rfl,hcap,h4⟩:=h1.lst_sub hc.1 hc.2.1 hc.2.2
  exact ⟨_,run_value _ (key _ _ _ _ _ rfl hp hq hc.1 hcap (fun hch => by have:=hlen hq hch; omega)),h4⟩
 ·rename_i bl s' off len cap
  split at hv <;> first | (cases hv; done) | skip
  rename_i p q hp hq
  split at hv <;> first | (cases hv; done) | skip
  rename_i hc
  obtain ⟨hpq,hqc,hlc,rfl⟩:=hc
  cases hv
  obtain ⟨ad,rfl⟩:=h1.arr_some
  refine ⟨_,run_value _ (key _ _ _ _ _ rfl hp hq hpq hqc (fun _ => hlc)),?_⟩
  by_cases hcp : cap = p
  ·have hq' : q = p:=by omega
   subst hq' hcp
   simp only [if_true,Nat.sub_self]
   cases h1 with
   | arr => exact .arr0 _ _ _ _
   | arr0 => exact .arr0 _ _ _ _
  ·rw [if_neg hcp]
   cases h1 with
   | arr =>
    simp only [Option.map_some,Addr.add_none]
    rw [← Nat.add_mul]
    exact .arr _ _ _ _ _
   | arr0 => omega
 ·cases h1.nils_inv
  split at hv <;> first | (cases hv; done) | skip
  rename_i p q hp hq
  split at hv <;> first | (cases hv; done) | skip
  rename_i hc
  obtain ⟨rfl,rfl⟩:=hc
  cases hv
  exact ⟨_,run_value _ (key _ _ _ _ _ rfl hp hq (Nat.le_refl _) (Nat.le_refl _) (fun _ => Nat.le_refl _)),.nils⟩
 ·obtain ⟨ad,cap,rfl⟩:=h1.emp_inv
  split at hv <;> first | (cases hv; done) | skip
  rename_i p q hp hq
  split at hv <;> first | (cases hv; done) | skip
  rename_i hc
  obtain ⟨rfl,rfl⟩:=hc
  cases hv
  refine ⟨_,run_value _ (key _ _ _ _ _ rfl hp hq (Nat.le_refl _) (Nat.zero_le _) (fun _ => Nat.zero_le _)),?_⟩
  by_cases hcp : cap = 0
  ·rw [if_pos hcp]; exact .emp _ _
  ·rw [if_neg hcp]; exact .emp _ _
end
end Go.Hz
/- Lengths, parts of tuples, structs by value, interfaces, function values, min and max. -/
namespace Go.Hz
section
variable {P:Program} {o:Oper}
def lenS : AV → Option AV
 | .str l => some (.int .i64 l.length)
 | _ => none
def lenL : AV → Option AV
 | .lst es => some (.int .i64 es.length)
 | .arr _ _ _ len _ => some (.int .i64 len)
 | .nils => some (.int .i64 0)
 | .emp => some (.int .i64 0)
 | _ => none
def capL : AV → Option AV
 | .arr _ _ _ _ cap => some (.int .i64 cap)
 | .nils => some (.int .i64 0)
 | _ => none
theorem VR.lst_inv {fz:Nat → Prop} {H:Array Obj} {es:List (List AV)} {cv:Value} (h:VR fz H (.lst es) cv) : ∃ ad cap,cv = .slice ad es.length cap:=by
 cases h <;> exact ⟨_,_,rfl⟩
theorem sim_lenS {t:TypeId} {ats:Array TypeId} {x:Operand} {x' : AE} (ho : o.op = .call { callee:=.builtin .len,args := #[x],argTypes:=ats }) (ht : ats[0]? = some t)
  (hd:P.underlying t = some .string) (hx:AE.of x = some x') : OpOK P o (.pure fun e => lenS (x'.ev e)):=by
 refine OpOK.of_pure fun fz e a w he v hv => ?_
 have h1:=AE.of_ok hx he
 simp only [execOp,ho,resolve,List.map_toArray,List.map_cons,List.map_nil]
 generalize a.eval x = cx at *
 generalize x'.ev e = ax at *
 unfold lenS at hv
 split at hv <;> first | (cases hv; done) | skip
 rename_i l
 cases hv
 cases h1.str_inv
 refine ⟨.int .i64 l.length,?_,.int _ _⟩
 rw [run_bind,run_pure,Result.andThen_ok]
 refine run_value _ ?_
 unfold Builtin.len_
 simp only [ht,List.getElem?_toArray,List.getElem?_cons_zero]
 rw [run_bind,run_underlying hd,Result.andThen_ok]
 show Result.ok (goInt ((ByteArray.mk l.toArray).size : Nat)) w = _
 have : (ByteArray.mk l.toArray).size = l.length:=by simp [ByteArray.size]
 rw [this]; rfl
theorem sim_lenL {t el : TypeId} {ats:Array TypeId} {x:Operand} {x' : AE} (ho : o.op = .call { callee:=.builtin .len,args := #[x],argTypes:=ats }) (ht : ats[0]? = some t)
  (hd:P.underlying t = some (.slice el)) (hx:AE.of x = some x') : OpOK P o (.pure fun e => lenL (x'.ev e)):=by
 refine OpOK.of_pure fun fz e a w he v hv => ?_
 have h1:=AE.of_ok hx he
 simp only [execOp,ho,resolve,List.map_toArray,List.map_cons,List.map_nil]
 generalize a.eval x = cx at *
 generalize x'.ev e = ax at *
 have key : ∀ ad (n cap : Nat),cx = .slice ad n cap → (do let d ← (pure { target:=.builtin .len ats o.type (List.map (fun x => match x with | .const _ => true | _ => false) [x]).toArray,args:=[cx].toArray } : Sem Deferred); invoke d.target d.args : Sem Next).run P w = .ok (.value (.int .i64 n)) w:=fun ad n cap hc => by
  subst hc
  rw [run_bind,run_pure,Result.andThen_ok]
  refine run_value _ ?_
  unfold Builtin.len_
  simp only [ht,List.getElem?_toArray,List.getElem?_cons_zero]
  rw [run_bind,run_underlying hd,Result.andThen_ok]
  rfl
 unfold lenL at hv
 split at hv <;> first | (cases hv; done) | skip
 all_goals cases hv
 ·obtain ⟨ad,cap,hc⟩:=h1.lst_inv
  exact ⟨_,key _ _ _ hc,.int _ _⟩
 ·obtain ⟨ad,hc⟩:=h1.arr_some
  exact ⟨_,key _ _ _ hc,.int _ _⟩
 ·exact ⟨_,key _ _ _ h1.nils_inv,.int _ _⟩
 ·obtain ⟨ad,c,hc⟩:=h1.emp_inv
  exact ⟨_,key _ _ _ hc,.int _ _⟩
theorem sim_capL {t el : TypeId} {ats:Array TypeId} {x:Operand} {x' : AE} (ho : o.op = .call { callee:=.builtin .cap,args := #[x],argTypes:=ats }) (ht : ats[0]? = some t)
  (hd:P.underlying t = some (.slice el)) (hx:AE.of x = some x') : OpOK P o (.pure fun e => capL (x'.ev e)):=by
 refine OpOK.of_pure fun fz e a w he v hv => ?_
 have h1:=AE.of_ok hx he
 simp only [execOp,ho,resolve,List.map_toArray,List.map_cons,List.map_nil]
 generalize a.eval x = cx at *
 generalize x'.ev e = ax at *
 have key : ∀ ad (n cap : Nat),cx = .slice ad n cap → (do let d ← (pure { target:=.builtin .cap ats o.type (List.map (fun x => match x with | .const _ => true | _ => false) [x]).toArray,args:=[cx].toArray } : Sem Deferred); invoke d.target d.args : Sem Next).run P w = .ok (.value (.int .i64 cap)) w:=fun ad n cap hc => by
  subst hc
  rw [run_bind,run_pure,Result.andThen_ok]
  refine run_value _ ?_
  unfold Builtin.cap_
  simp only [ht,List.getElem?_toArray,List.getElem?_cons_zero]
  rw [run_bind,run_underlying hd,Result.andThen_ok]
  rfl
 unfold capL at hv
 split at hv <;> first | (cases hv; done) | skip
 all_goals cases hv
 ·obtain ⟨ad,hc⟩:=h1.arr_some
  exact ⟨_,key _ _ _ hc,.int _ _⟩
 ·exact ⟨_,key _ _ _ h1.nils_inv,.int _ _⟩
def extA (n:Nat) : AV → Option AV
 | .tup vs => vs[n]?
 | _ => none
theorem VRs.get {fz:Nat → Prop} {H:Array Obj} {as:List AV} {vs:Array Value} {n:Nat} {v:AV} (h:VRs fz H as vs.toList) (hv : as[n]? = some v) : ∃ c,vs[n]? = some c∧VR fz H v c:=by
 have hlt : n < as.length:=(List.getElem?_eq_some_iff.1 hv).1
 have hl:=h.1
 simp only [Array.length_toList] at hl
 have h3:=h.2 n hlt (by simp; omega)
 have e2 : as[n] = v:=by rw [List.getElem?_eq_getElem hlt] at hv; exact Option.some.inj hv
 exact ⟨vs[n],Array.getElem?_eq_getElem (by omega),by rw [← e2]; simpa using h3⟩
theorem sim_ext {x:Operand} {x' : AE} {n:Nat} (ho : o.op = .extract x n) (hx:AE.of x = some x') : OpOK P o (.pure fun e => extA n (x'.ev e)):=by
 refine OpOK.of_pure fun fz e a w he v hv => ?_
 have h1:=AE.of_ok hx he
 simp only [execOp,ho]
 generalize a.eval x = cx at *
 generalize x'.ev e = ax at *
 unfold extA at hv
 split at hv
 ·obtain ⟨vs,rfl,h2⟩:=h1.tup_inv
  obtain ⟨c,h3,h4⟩:=h2.get hv
  exact ⟨c,run_value _ (by simp [Instr.extract,h3]),h4⟩
 ·cases hv
theorem sim_mkif {t:TypeId} {d:TypeDesc} {x:Operand} {x' : AE} (ho : o.op = .makeInterface t x) (hd:P.underlying t = some d) (hn:∀ ms,d ≠ .interface ms) (hx:AE.of x = some x') :
  OpOK P o (.pure fun e => some (.iface t (x'.ev e))):=by
 refine OpOK.of_pure fun fz e a w he v hv => ?_
 have h1:=AE.of_ok hx he
 cases hv
 simp only [execOp,ho]
 refine ⟨.iface t (a.eval x),run_value _ ?_,.iface _ _ _ h1⟩
 unfold Instr.makeInterface
 rw [run_bind,run_underlying hd,Result.andThen_ok]
 cases d <;> first | rfl | exact absurd rfl (hn _)
def taA (t:TypeId) (ok:Bool) (zero:AV) : AV → Option AV
 | .iface t' v => if t' = t then some (if ok then .tup [v,.bool true] else v) else if ok then some (.tup [zero,.bool false]) else none
 | .nili => if ok then some (.tup [zero,.bool false]) else none
 | _ => none
theorem VR.tup2 {fz:Nat → Prop} {H:Array Obj} {a b : AV} {c d : Value} (h1:VR fz H a c) (h2:VR fz H b d) : VR fz H (.tup [a,b]) (.tuple #[c,d]):=by
 refine .tup _ _ rfl fun i h3 h4 => ?_
 match i,h3 with
 | 0,_ => exact h1
 | 1,_ => exact h2
theorem sim_ta {t xt : TypeId} {d:TypeDesc} {i:TypeInfo} {z:Value} {za:AV} {ok:Bool} {x:Operand} {x' : AE} (ho : o.op = .typeAssert x xt t ok) (hd:P.underlying t = some d) (hn:∀ ms,d ≠ .interface ms)
  (hi:P.info? t = some i) (hz : i.zero = some z) (hza : avOf z = some za) (hx:AE.of x = some x') : OpOK P o (.pure fun e => taA t ok za (x'.ev e)):=by
 refine OpOK.of_pure fun fz e a w he v hv => ?_
 have h1:=AE.of_ok hx he
 simp only [execOp,ho]
 generalize a.eval x = cx at *
 generalize x'.ev e = ax at *
 unfold taA at hv
 split at hv <;> first | (cases hv; done) | skip
 ·rename_i t' v'
  obtain ⟨u,rfl,h2⟩:=h1.iface_inv
  have hrun : ∀ r,(if t' = t then (.ok (if ok then .tuple #[u,.bool true] else u) w : Result Value) else if ok then .ok (.tuple #[z,.bool false]) w else .halt (.stuck "") w) = .ok r w →
    (Instr.typeAssert (.iface t' u) xt t ok).run P w = .ok r w:=fun r hr => by
   unfold Instr.typeAssert
   rw [run_bind,run_underlying hd,Result.andThen_ok]
   have : (∀ ms,d ≠ .interface ms):=hn
   cases d <;> first | (exact absurd rfl (hn _)) | skip
   all_goals
    simp only
    split
    ·rename_i htt
     rw [if_pos htt] at hr
     cases hr
     cases ok <;> rfl
    ·rename_i htt
     rw [if_neg htt] at hr
     cases ok with
     | true => simp at hr; subst hr; simp [run_zero hi hz]
     | false => simp at hr
  split at hv
  ·rename_i htt
   cases hv
   refine ⟨_,run_value _ (hrun (if ok then .tuple #[u,.bool true] else u) (by rw [if_pos htt])),?_⟩
   cases ok
   ·exact h2
   ·exact VR.tup2 h2 (.bool _)
  ·rename_i htt
   split at hv
   ·rename_i hok
    cases hv
    exact ⟨_,run_value _ (hrun (.tuple #[z,.bool false]) (by rw [if_neg htt,if_pos hok])),VR.tup2 (avOf_ok hza _ _) (.bool _)⟩
   ·cases hv
 ·cases h1.nili_inv
  split at hv
  ·rename_i hok
   cases hv
   refine ⟨.tuple #[z,.bool false],run_value _ ?_,VR.tup2 (avOf_ok hza _ _) (.bool _)⟩
   unfold Instr.typeAssert
   rw [run_bind,run_underlying hd,Result.andThen_ok]
   cases d <;> first | (exact absurd rfl (hn _)) | skip
   all_goals simp [hok,run_zero hi hz]
  ·cases hv
def AE.ofL : List Operand → Option (List AE)
 | [] => some []
 | x :: xs => match AE.of x,AE.ofL xs with
  | some y,some ys => some (y :: ys)
  | _,_ => none
theorem AE.ofL_ok {fz:Nat → Prop} {H:Array Obj} {e:Env} {a:Act} (he:EnvR fz H e a.tmps) : ∀ {xs:List Operand} {ys:List AE},AE.ofL xs = some ys → VRs fz H (ys.map (·.ev e)) (xs.map a.eval)
 | [],ys,h => by cases h; exact VRs.nil
 | x :: xs,ys,h => by
  unfold AE.ofL at h
  split at h
  ·rename_i y ys' h1 h2
   cases h
   exact VRs.cons (AE.of_ok h1 he) (AE.ofL_ok he h2)
  ·cases h
theorem sim_mkfn {f:FuncId} {caps:Array Operand} {caps' : List AE} (ho : o.op = .makeFunc (.func f) #[] caps) (hc:AE.ofL caps.toList = some caps') :
  OpOK P o (.pure fun e => some (.fn f (caps'.map (·.ev e)))):=by
 refine OpOK.of_pure fun fz e a w he v hv => ?_
 cases hv
 have h1:=AE.ofL_ok he hc
 simp only [execOp,ho]
 refine ⟨.func (.func f) #[] (caps.map a.eval),run_value _ (by simp [Instr.makeFunc]),.fn f _ _ (by have:=h1.1; simpa using this) fun i h2 h3 => ?_⟩
 have:=h1.2 i h2 (by simpa using h3)
 simpa using this
def mmA (mx:Bool) : AV → AV → Option AV
 | .int k x,.int k' y => if k = k' then some (.int k (if mx then (if x < y then y else x) else (if y < x then y else x))) else none
 | _,_ => none
theorem sim_mm {mx:Bool} {ats:Array TypeId} {x y : Operand} {x' y' : AE} (ho : o.op = .call { callee:=.builtin (if mx then .max else .min),args := #[x,y],argTypes:=ats }) (hx:AE.of x = some x') (hy:AE.of y = some y') :
  OpOK P o (.pure fun e => mmA mx (x'.ev e) (y'.ev e)):=by
 refine OpOK.of_pure fun fz e a w he v hv => ?_
 have h1:=AE.of_ok hx he
 have h2:=AE.of_ok hy he
 simp only [execOp,ho,resolve,List.map_toArray,List.map_cons,List.map_nil]
 generalize a.eval x = cx at *
 generalize a.eval y = cy at *
 generalize x'.ev e = ax at *
 generalize y'.ev e = ay at *
 unfold mmA at hv
 split at hv <;> first | (cases hv; done) | skip
 split at hv <;> first | (cases hv; done) | skip
 rename_i hk
 cases h1.int_inv
 cases h2.int_inv
 cases hv
 subst hk
 refine ⟨_,?_,.int _ _⟩
 cases mx
 ·simp [invoke,builtin,Builtin.min_,Builtin.min2]
 ·simp [invoke,builtin,Builtin.max_,Builtin.max2]
end
end Go.Hz
/- Memory: what is read and what is written. -/
namespace Go.Hz
section
variable {P:Program} {o:Oper}
def Reads (fz:Nat → Prop) (w:World) (a:Addr) (cs:List AV) : Prop :=
 ∀ j (h : j < cs.length),∃ cv,w.cell? (a.add j) = some cv∧VR fz w.heap cs[j] cv
theorem cell_of {w:World} {b o : Nat} {c:Array Value} {T:TypeId} {fr:Nat × Nat} (h : w.heap[b]? = some (.cells c T fr)) : w.cell? ⟨b,o,none⟩ = c[o]?:=by
 simp [World.cell?,h]
theorem VR.ro_reads {fz:Nat → Prop} {w:World} {cs:List AV} {cv:Value} (h:VR fz w.heap (.ro cs) cv) : ∃ b o,cv = .pointer (some ⟨b,o,none⟩)∧Reads fz w ⟨b,o,none⟩ cs:=by
 cases h with
 | ro _ b o c T fr hf hb hc h =>
  refine ⟨b,o,rfl,fun j hj => ?_⟩
  have hlt : o + j < c.size:=by omega
  refine ⟨c[o + j],?_,h j hj hlt⟩
  rw [Addr.add_none,cell_of hb,Array.getElem?_eq_getElem hlt]
theorem Rel.row {fz:Nat → Prop} {h:Hp} {w:World} (r:Rel fz h w) {b s cap : Nat} {es:List (List AV)} (hb : h b = some (.row s es cap)) :
  ¬ fz b∧∃ c T fr,w.heap[b]? = some (.cells c T fr)∧es.length ≤ cap∧(∀ i (h : i < es.length),es[i].length = s)∧c.size = cap * s∧Soft c fr ∧
   (∀ i (h1 : i < es.length) k (h2 : k < es[i].length) (h3 : i * s + k < c.size),VR fz w.heap es[i][k] c[i * s + k]):=by
 obtain ⟨h1,c,h2,h3⟩:=r.own b _ hb
 refine ⟨h1,?_⟩
 cases h3 with
 | row _ _ _ c T fr hcap hs hc hsoft h => exact ⟨c,T,fr,h2,hcap,hs,hc,hsoft,h⟩
theorem mul_le_of {i n s : Nat} (h : i < n) : i * s + s ≤ n * s:=by rw [← Nat.succ_mul]; exact Nat.mul_le_mul_right _ h
theorem Rel.row_reads {fz:Nat → Prop} {h:Hp} {w:World} (r:Rel fz h w) {b s cap i : Nat} {es:List (List AV)} {cs:List AV} (hb : h b = some (.row s es cap)) (hi : es[i]? = some cs) (k:Nat) :
  Reads fz w ⟨b,i * s + k,none⟩ (cs.drop k):=by
 obtain ⟨_,c,T,fr,h1,h2,h3,h4,_,h5⟩:=r.row hb
 intro j hj
 have hlt : i < es.length:=(List.getElem?_eq_some_iff.1 hi).1
 have hel : es[i] = cs:=by rw [List.getElem?_eq_getElem hlt] at hi; exact Option.some.inj hi
 subst hel
 simp at hj
 have hs:=h3 i hlt
 have hle:=mul_le_of (s:=s) (Nat.lt_of_lt_of_le hlt h2)
 have hkj : i * s + (k + j) < c.size:=by omega
 refine ⟨c[i * s + (k + j)],?_,?_⟩
 ·rw [Addr.add_none,cell_of h1,Nat.add_assoc,Array.getElem?_eq_getElem hkj]
 ·have:=h5 i hlt (k + j) (by omega) hkj
  simpa using this
def cellsAt (h:Hp) : AV → Option (List AV)
 | .ptr b s i k => match h b with
  | some (.row s' es _) => if s' = s then (es[i]?).map (·.drop k) else none
  | _ => none
 | .ro cs => some cs
 | _ => none
theorem cellsAt_ok {fz:Nat → Prop} {h:Hp} {w:World} (r:Rel fz h w) {v:AV} {cv:Value} {cs:List AV} (hv:VR fz w.heap v cv) (hc : cellsAt h v = some cs) :
  ∃ b o,cv = .pointer (some ⟨b,o,none⟩)∧Reads fz w ⟨b,o,none⟩ cs:=by
 unfold cellsAt at hc
 split at hc <;> first | (cases hc; done) | skip
 ·cases hv.ptr_inv
  split at hc <;> first | (cases hc; done) | skip
  rename_i s' es _ hb
  split at hc <;> first | (cases hc; done) | skip
  rename_i hs
  subst hs
  cases hi : es[(_:Nat)]? with
  | none => rw [hi] at hc; cases hc
  | some e => rw [hi] at hc; cases hc; exact ⟨_,_,rfl,r.row_reads hb hi _⟩
 ·cases hc; exact hv.ro_reads
theorem loadCellsFrom_run {fz:Nat → Prop} {w:World} {a:Addr} {cs:List AV} (hr:Reads fz w a cs) : ∀ (n i : Nat) (acc:Array Value),i + n ≤ cs.length →
  ∃ vs : List Value,(loadCellsFrom a i n acc).run P w = .ok (acc ++ vs.toArray) w∧VRs fz w.heap ((cs.drop i).take n) vs
 | 0,i,acc,_ => ⟨[],by simp [loadCellsFrom],by simpa using VRs.nil⟩
 | n + 1,i,acc,h => by
  obtain ⟨cv,h1,h2⟩:=hr i (by omega)
  obtain ⟨vs,h3,h4⟩:=loadCellsFrom_run hr n (i + 1) (acc.push cv) (by omega)
  refine ⟨cv :: vs,?_,?_⟩
  ·unfold loadCellsFrom
   simp [h1,h3]
  ·rw [List.drop_eq_getElem_cons (by omega : i < cs.length),List.take_succ_cons]
   exact VRs.cons h2 h4
theorem loadVar_run {fz:Nat → Prop} {w:World} {a:Addr} {cs:List AV} {t:TypeId} {d:TypeDesc} {i:TypeInfo} {v:AV} (hr:Reads fz w a cs) (hd:P.underlying t = some d) (hi:P.info? t = some i)
  (hv : partA cs 0 i.size d.isAg = some v) : ∃ cv,(loadVar t a).run P w = .ok cv w∧VR fz w.heap v cv:=by
 unfold loadVar
 rw [run_bind,run_isAgg hd,Result.andThen_ok]
 unfold partA at hv
 cases hag : d.isAg with
 | true =>
  rw [hag] at hv
  simp only [if_true,Nat.zero_add,List.drop_zero] at hv
  split at hv <;> first | (cases hv; done) | skip
  rename_i hle
  cases hv
  obtain ⟨vs,h1,h2⟩:=loadCellsFrom_run (P:=P) hr i.size 0 #[] (by omega)
  refine ⟨.agg vs.toArray,?_,?_⟩
  ·simp only [if_true]
   simp [run_sizeOf hi,loadCells,h1]
  ·have hl:=h2.1
   simp only [List.drop_zero] at h2 hl
   exact .agg _ _ (by simpa using hl) (fun j h3 h4 => by simpa using h2.2 j h3 (by simpa using h4))
 | false =>
  rw [hag] at hv
  simp only [Bool.false_eq_true,if_false] at hv ⊢
  have hlt : 0 < cs.length:=(List.getElem?_eq_some_iff.1 hv).1
  obtain ⟨cv,h1,h2⟩:=hr 0 hlt
  have e2 : cs[0] = v:=by rw [List.getElem?_eq_getElem hlt] at hv; exact Option.some.inj hv
  have h1' : w.cell? a = some cv:=by simpa [Addr.add] using h1
  exact ⟨cv,by simp [h1'],by rw [← e2]; exact h2⟩
def ldA (sz:Nat) (ag:Bool) (h:Hp) (v:AV) : Option AV :=
 match cellsAt h v with
 | some cs => partA cs 0 sz ag
 | none => none
theorem sim_ld {t:TypeId} {d:TypeDesc} {i:TypeInfo} {x:Operand} {x' : AE} (ho : o.op = .load t x) (hd:P.underlying t = some d) (hi:P.info? t = some i) (hx:AE.of x = some x') :
  OpOK P o (.load fun e h => ldA i.size d.isAg h (x'.ev e)):=by
 refine OpOK.of_load fun fz e h a w he hr v hv => ?_
 have h1:=AE.of_ok hx he
 simp only [execOp,ho]
 unfold ldA at hv
 split at hv <;> first | (cases hv; done) | skip
 rename_i cs hcs
 obtain ⟨b,o',h2,h3⟩:=cellsAt_ok hr h1 hcs
 obtain ⟨cv,h4,h5⟩:=loadVar_run (P:=P) h3 hd hi hv
 refine ⟨cv,run_value _ ?_,h5⟩
 unfold Instr.loadAt
 simp [h2,Instr.sureAddr,h4]
def AV.isAtom : AV → Bool
 | .undef | .agg _ | .tup _ => false
 | _ => true
theorem VR.oneCell {fz:Nat → Prop} {H:Array Obj} {v:AV} {cv:Value} (h:VR fz H v cv) (ha : v.isAtom = true) : cv.oneCell' = true:=by
 cases h <;> first | rfl | simp [AV.isAtom] at ha
def writeA (c:Array Value) (o:Nat) : List Value → Array Value
 | [] => c
 | v :: vs => writeA (c.setIfInBounds o v) (o + 1) vs
theorem writeA_size (vs:List Value) : ∀ (c:Array Value) (o:Nat),(writeA c o vs).size = c.size:=by
 induction vs with
 | nil => intro c o; rfl
 | cons v vs ih => intro c o; simp [writeA,ih]
theorem writeA_out (vs:List Value) : ∀ (c:Array Value) (o x : Nat),x < o ∨ o + vs.length ≤ x → (writeA c o vs)[x]? = c[x]?:=by
 induction vs with
 | nil => intro c o x _; rfl
 | cons v vs ih =>
  intro c o x hx
  simp only [List.length_cons] at hx
  rw [writeA,ih _ _ _ (by omega),Array.getElem?_setIfInBounds_ne (by omega)]
theorem writeA_in (vs:List Value) : ∀ (c:Array Value) (o j : Nat) (_ : j < vs.length),o + vs.length ≤ c.size → (writeA c o vs)[o + j]? = some vs[j]:=by
 induction vs with
 | nil => intro c o j hj; simp at hj
 | cons v vs ih =>
  intro c o j hj hc
  simp only [List.length_cons] at hj hc
  cases j with
  | zero =>
   rw [writeA,writeA_out _ _ _ _ (by omega)]
   simp [show o < c.size from by omega]
  | succ j =>
   have:=ih (c.setIfInBounds o v) (o + 1) j (by omega) (by simp; omega)
   rw [writeA,show o + (j + 1) = o + 1 + j from by omega,this]; rfl
theorem setCell_heap {w:World} {b o : Nat} {c:Array Value} {T:TypeId} {fr:Nat × Nat} {v:Value} (h : w.heap[b]? = some (.cells c T fr)) :
  (w.setCell ⟨b,o,none⟩ v).heap = w.heap.setIfInBounds b (.cells (c.setIfInBounds o v) T fr):=by
 have hb : b < w.heap.size:=(Array.getElem?_eq_some_iff.1 h).1
 have hv : w.heap[b] = .cells c T fr:=(Array.getElem?_eq_some_iff.1 h).2
 apply Array.ext_getElem?
 intro i
 simp only [World.setCell,Array.getElem?_modify,Array.getElem?_setIfInBounds]
 by_cases hi : b = i
 ·subst hi; simp [hb,hv]
 ·simp [hi]
def withBlock (w:World) (b:Nat) (o:Obj) : World := { w with heap:=w.heap.setIfInBounds b o }
theorem storeCells_run {b:Nat} {T:TypeId} {fr:Nat × Nat} : ∀ (vs:List Value) (w:World) (c:Array Value) (o i : Nat),w.heap[b]? = some (.cells c T fr) → Soft c fr → o + i + vs.length ≤ c.size →
  (∀ v ∈ vs,v.oneCell' = true) → (storeCells ⟨b,o,none⟩ vs i).run P w = .ok () (withBlock w b (.cells (writeA c (o + i) vs) T fr))
 | [],w,c,o,i,h,_,_,_ => by
  have hb : b < w.heap.size:=(Array.getElem?_eq_some_iff.1 h).1
  have hv : w.heap[b] = .cells c T fr:=(Array.getElem?_eq_some_iff.1 h).2
  have : withBlock w b (.cells (writeA c (o + i) []) T fr) = w:=by
   unfold withBlock writeA
   have : w.heap.setIfInBounds b (.cells c T fr) = w.heap:=by
    apply Array.ext_getElem?
    intro j
    rw [Array.getElem?_setIfInBounds]
    by_cases hj : b = j
    ·subst hj; simp [hb,hv]
    ·simp [hj]
   rw [this]
  rw [this]; rfl
 | v :: vs,w,c,o,i,h,hs,hl,hv => by
  simp only [List.length_cons] at hl
  have hb : b < w.heap.size:=(Array.getElem?_eq_some_iff.1 h).1
  have hcell : w.cell? ⟨b,o + i,none⟩ = some c[o + i]:=by rw [cell_of h,Array.getElem?_eq_getElem (by omega)]
  have hfr : w.frozen? ⟨b,o + i,none⟩ = false:=by
   have:=hs.at (o + i) (by omega)
   simp only [World.frozen?,h]
   simpa using this
  have h2 : (w.setCell ⟨b,o + i,none⟩ v).heap[b]? = some (.cells (c.setIfInBounds (o + i) v) T fr):=by
   rw [setCell_heap h]; simp [hb]
  have ih:=storeCells_run vs (w.setCell ⟨b,o + i,none⟩ v) (c.setIfInBounds (o + i) v) o (i + 1) h2 (hs.sized (by simp)) (by simp; omega) (fun u hu => hv u (by simp [hu]))
  unfold storeCells
  rw [run_bind,Addr.add_none,run_store P w _ v .plain (hv v (by simp)),hcell]
  simp only [hfr,Bool.false_eq_true,if_false,Result.andThen_ok]
  rw [ih]
  unfold withBlock
  rw [setCell_heap h]
  simp only [World.setCell,writeA,Nat.add_assoc]
  congr 2
  apply Array.ext_getElem?
  intro j
  simp only [Array.getElem?_setIfInBounds]
  by_cases hj : b = j
  ·subst hj; simp [hb]
  ·simp [hj]
end
end Go.Hz
/- Stores, new variables, literals of slices. -/
namespace Go.Hz
section
variable {P:Program} {o:Oper}
theorem withBlock_other {w:World} {b x : Nat} {ob:Obj} (h : x ≠ b) : (withBlock w b ob).heap[x]? = w.heap[x]?:=by
 simp [withBlock,Ne.symm h]
theorem withBlock_same {w:World} {b:Nat} {ob:Obj} (h : b < w.heap.size) : (withBlock w b ob).heap[b]? = some ob:=by
 simp [withBlock,h]
theorem Rel.turn {fz:Nat → Prop} {h:Hp} {w:World} (r:Rel fz h w) {b:Nat} {a a' : AObj} (hb : h b = some a) {ob:Obj} (ho:OR fz w.heap a' ob) :
  Rel fz (h.set b a') (withBlock w b ob)∧Ext fz h w fz (h.set b a') (withBlock w b ob):=by
 have hnf:=(r.own b a hb).1
 obtain ⟨c,hc,_⟩:=(r.own b a hb).2
 have hlt : b < w.heap.size:=(Array.getElem?_eq_some_iff.1 hc).1
 have hfr : ∀ x,fz x → (withBlock w b ob).heap[x]? = w.heap[x]?:=fun x hx => withBlock_other fun hh => hnf (hh ▸ hx)
 refine ⟨⟨fun x hx => by simpa [withBlock] using r.lt x hx,fun x ox hx => ?_⟩,⟨rfl,rfl,rfl,by simp [withBlock],fun _ h => h,fun x hx hn => ?_,fun _ h => .inl h⟩⟩
 ·by_cases hxb : x = b
  ·subst hxb
   rw [Hp.set_same] at hx
   cases hx
   exact ⟨hnf,ob,withBlock_same hlt,ho.mono (fun _ h => h) hfr⟩
  ·rw [Hp.set_ne _ _ hxb] at hx
   obtain ⟨h1,c,h2,h3⟩:=r.own x ox hx
   exact ⟨h1,c,(withBlock_other hxb).trans h2,h3.mono (fun _ h => h) hfr⟩
 ·have hxb : x ≠ b:=fun hh => by rw [hh,hb] at hn; cases hn
  exact ⟨withBlock_other hxb,by rw [Hp.set_ne _ _ hxb]; exact hn⟩
def pushed (w:World) (ob:Obj) : World := { w with heap:=w.heap.push ob }
theorem pushed_old {w:World} {x:Nat} {ob:Obj} (h : x < w.heap.size) : (pushed w ob).heap[x]? = w.heap[x]?:=by
 simp only [pushed]; rw [Array.getElem?_push,if_neg (by omega)]
theorem pushed_new {w:World} {ob:Obj} : (pushed w ob).heap[w.heap.size]? = some ob:=by
 show (w.heap.push ob)[w.heap.size]? = some ob
 simp
theorem Rel.none_of_ge {fz:Nat → Prop} {h:Hp} {w:World} (r:Rel fz h w) {n:Nat} (hn : w.heap.size ≤ n) : h n = none:=by
 cases hh : h n with
 | none => rfl
 | some o =>
  obtain ⟨_,c,hc,_⟩:=r.own n o hh
  have:=(Array.getElem?_eq_some_iff.1 hc).1
  omega
theorem Rel.make {fz:Nat → Prop} {h:Hp} {w:World} (r:Rel fz h w) {a:AObj} {ob:Obj} (ho:OR fz w.heap a ob) :
  h w.heap.size = none∧Rel fz (h.set w.heap.size a) (pushed w ob)∧Ext fz h w fz (h.set w.heap.size a) (pushed w ob):=by
 have hfr : ∀ x,fz x → (pushed w ob).heap[x]? = w.heap[x]?:=fun x hx => pushed_old (r.lt x hx)
 refine ⟨r.none_of_ge (Nat.le_refl _),⟨fun x hx => by have:=r.lt x hx; simp [pushed]; omega,fun x ox hx => ?_⟩,⟨rfl,rfl,rfl,by simp [pushed],fun _ h => h,fun x hx hn => ?_,fun _ h => .inl h⟩⟩
 ·by_cases hxb : x = w.heap.size
  ·subst hxb
   rw [Hp.set_same] at hx
   cases hx
   exact ⟨fun hf => by have:=r.lt _ hf; omega,ob,pushed_new,ho.mono (fun _ h => h) hfr⟩
  ·rw [Hp.set_ne _ _ hxb] at hx
   obtain ⟨h1,c,h2,h3⟩:=r.own x ox hx
   have:=(Array.getElem?_eq_some_iff.1 h2).1
   exact ⟨h1,c,(pushed_old this).trans h2,h3.mono (fun _ h => h) hfr⟩
 ·exact ⟨pushed_old hx,by rw [Hp.set_ne _ _ (by omega)]; exact hn⟩
theorem VR.cells {fz:Nat → Prop} {H:Array Obj} {v:AV} {cv:Value} (h:VR fz H v cv) (ha:∀ c ∈ v.cells,c.isAtom = true) : VRs fz H v.cells cv.cells.toList:=by
 cases v with
 | agg cs =>
  obtain ⟨vs,rfl,h2⟩:=h.agg_inv
  exact h2
 | undef => simp [AV.cells,AV.isAtom] at ha
 | tup vs => simp [AV.cells,AV.isAtom] at ha
 | _ =>
  have h1:=h.oneCell rfl
  have : cv.cells = #[cv]:=by cases cv <;> first | rfl | simp [Value.oneCell'] at h1
  rw [this]
  exact VRs.cons h VRs.nil
theorem VRs.atoms {fz:Nat → Prop} {H:Array Obj} {as:List AV} {vs:List Value} (h:VRs fz H as vs) (ha:∀ c ∈ as,c.isAtom = true) : ∀ v ∈ vs,v.oneCell' = true:=by
 intro v hv
 obtain ⟨i,hi,rfl⟩:=List.getElem_of_mem hv
 have hi' : i < as.length:=by rw [h.1]; exact hi
 exact (h.2 i hi' hi).oneCell (ha _ (List.getElem_mem hi'))
def splice (cs:List AV) (k:Nat) (vs:List AV) : List AV:=cs.take k ++ vs ++ cs.drop (k + vs.length)
theorem splice_length {cs:List AV} {k:Nat} {vs:List AV} (h : k + vs.length ≤ cs.length) : (splice cs k vs).length = cs.length:=by
 simp [splice]; omega
def stA (sz:Nat) (h:Hp) (p v : AV) : Option Hp :=
 match p with
 | .ptr b s i k => match h b with
  | some (.row s' es cap) => match es[i]? with
   | some cs => if s' = s∧v.cells.length = sz∧k + sz ≤ cs.length∧(v.cells.all AV.isAtom) = true then some (h.set b (.row s (es.set i (splice cs k v.cells)) cap)) else none
   | none => none
  | _ => none
 | _ => none
theorem sim_st {t:TypeId} {i:TypeInfo} {x y : Operand} {x' y' : AE} (ho : o.op = .store t x y) (hi:P.info? t = some i) (hx:AE.of x = some x') (hy:AE.of y = some y') :
  OpOK P o (.eff fun e h K => ∃ h',stA i.size h (x'.ev e) (y'.ev e) = some h'∧K (.tup []) h'):=by
 intro fz e h a w K he hr hh
 obtain ⟨h',h1,hk⟩:=hh
 have hx1:=AE.of_ok hx he
 have hy1:=AE.of_ok hy he
 unfold OutOK
 simp only [execOp,ho]
 generalize a.eval x = cx at *
 generalize a.eval y = cy at *
 generalize x'.ev e = ax at *
 generalize y'.ev e = ay at *
 unfold stA at h1
 split at h1 <;> first | (cases h1; done) | skip
 rename_i b s ix k
 split at h1 <;> first | (cases h1; done) | skip
 rename_i s' es cap hb
 split at h1 <;> first | (cases h1; done) | skip
 rename_i cs hcs
 split at h1 <;> first | (cases h1; done) | skip
 rename_i hc
 obtain ⟨rfl,hsz,hfit,hat⟩:=hc
 cases h1
 cases hx1.ptr_inv
 obtain ⟨hnf,c,T,fr,g1,g2,g3,g4,g5,g6⟩:=hr.row hb
 have hat' : ∀ c ∈ ay.cells,c.isAtom = true:=by simpa using hat
 have hcl:=hy1.cells hat'
 have hlt : ix < es.length:=(List.getElem?_eq_some_iff.1 hcs).1
 have hel : es[ix] = cs:=by rw [List.getElem?_eq_getElem hlt] at hcs; exact Option.some.inj hcs
 subst hel
 have hs:=g3 ix hlt
 have hle:=mul_le_of (s:=s') (Nat.lt_of_lt_of_le hlt g2)
 have hln:=hcl.1
 have hrun:=storeCells_run (P:=P) cy.cells.toList w c (ix * s' + k) 0 g1 g5 (by omega) (hcl.atoms hat')
 have hst : (Instr.storeAt t (.pointer (some ⟨b,ix * s' + k,none⟩)) cy).run P w = .ok () (withBlock w b (.cells (writeA c (ix * s' + k) cy.cells.toList) T fr)):=by
  unfold Instr.storeAt storeVar
  have hz : cy.cells.size = i.size:=by rw [← hsz,hln]; simp
  simp [Instr.sureAddr,run_sizeOf hi,hz,hrun]
 have hrun2 : (do Instr.storeAt t (.pointer (some ⟨b,ix * s' + k,none⟩)) cy; pure Next.skip : Sem Next).run P w = .ok .skip (withBlock w b (.cells (writeA c (ix * s' + k) cy.cells.toList) T fr)):=by
  rw [run_bind,hst]; rfl
 rw [hrun2]
 have hor : OR fz w.heap (.row s' (es.set ix (splice es[ix] k ay.cells)) cap) (.cells (writeA c (ix * s' + k) cy.cells.toList) T fr):=by
  have hsp:=splice_length (cs:=es[ix]) (k:=k) (vs:=ay.cells) (by omega)
  have hlens : ∀ j (hj : j < (es.set ix (splice es[ix] k ay.cells)).length),(es.set ix (splice es[ix] k ay.cells))[j].length = s':=fun j hj => by
   rw [List.getElem_set]
   split
   ·rw [hsp]; exact hs
   ·exact g3 j (by simpa using hj)
  refine .row _ _ _ _ _ _ (by simpa using g2) hlens (by rw [writeA_size]; exact g4) (g5.sized (writeA_size _ _ _)) fun j h1 q h2 h3 => ?_
  have hj : j < es.length:=by simpa using h1
  have hq : q < s':=by rw [← hlens j h1]; exact h2
  have hcj : j * s' + q < c.size:=by rwa [writeA_size] at h3
  have hjs:=g3 j hj
  -- where the cell lies
  by_cases hin : j = ix∧k ≤ q∧q < k + ay.cells.length
  ·obtain ⟨rfl,hq1,hq2⟩:=hin
   have e1 : (writeA c (j * s' + k) cy.cells.toList)[j * s' + q] = cy.cells.toList[q - k]'(by omega):=by
    have:=writeA_in cy.cells.toList c (j * s' + k) (q - k) (by omega) (by omega)
    rw [show j * s' + k + (q - k) = j * s' + q from by omega,Array.getElem?_eq_getElem h3] at this
    exact Option.some.inj this
   have e2 : ((es.set j (splice es[j] k ay.cells))[j])[q] = ay.cells[q - k]'(by omega):=by
    simp only [List.getElem_set_self,splice]
    rw [List.getElem_append_left (by simp; omega),List.getElem_append_right (by simp; omega)]
    congr 1
    simp; omega
   rw [e1,e2]
   exact hcl.2 _ _ _
  ·have e1 : (writeA c (ix * s' + k) cy.cells.toList)[j * s' + q] = c[j * s' + q]:=by
    have hout : j * s' + q < ix * s' + k ∨ ix * s' + k + cy.cells.toList.length ≤ j * s' + q:=by
     rcases Nat.lt_trichotomy j ix with hji | hji | hji
     ·have:=mul_le_of (s:=s') hji; omega
     ·subst hji
      have : q < k ∨ k + ay.cells.length ≤ q:=by omega
      omega
     ·have:=mul_le_of (s:=s') hji; omega
    have:=writeA_out cy.cells.toList c (ix * s' + k) (j * s' + q) hout
    rw [Array.getElem?_eq_getElem h3,Array.getElem?_eq_getElem hcj] at this
    exact Option.some.inj this
   have e2 : ((es.set ix (splice es[ix] k ay.cells))[j])[q] = es[j][q]'(by omega):=by
    by_cases hji : j = ix
    ·subst hji
     have hq' : q < k ∨ k + ay.cells.length ≤ q:=by omega
     simp only [List.getElem_set_self,splice]
     rcases hq' with hq' | hq'
     ·rw [List.getElem_append_left (by simp; omega),List.getElem_append_left (by simp; omega),List.getElem_take]
     ·rw [List.getElem_append_right (by simp; omega),List.getElem_drop]
      congr 1
      simp; omega
    ·simp only [List.getElem_set_ne (Ne.symm hji)]
   rw [e1,e2]
   exact g6 j hj q (by omega) hcj
 obtain ⟨r1,r2⟩:=hr.turn hb hor
 exact ⟨.tup [],_,fz,hk,.tup [] #[] rfl (fun i h1 => by simp at h1),r1,r2⟩
theorem OR.one {fz:Nat → Prop} {H:Array Obj} {cs:List AV} {vs:Array Value} {T:TypeId} (h:VRs fz H cs vs.toList) : OR fz H (.row cs.length [cs] 1) (.cells vs T (0,0)):=by
 have hl:=h.1
 simp only [Array.length_toList] at hl
 refine .row _ _ _ _ _ _ (by simp) (fun i hi => ?_) (by omega) Soft.zero fun i h1 k h2 h3 => ?_
 ·have : i = 0:=by simp at hi; omega
  subst this; rfl
 ·have : i = 0:=by simp at h1; omega
  subst this
  have h2' : k < cs.length:=h2
  have:=h.2 k h2' (by simp; omega)
  simpa using this
theorem atomOf_cells {z:Value} {v:AV} (h : atomOf z = some v) : v.cells = [v]:=by
 unfold atomOf at h
 split at h <;> first | (cases h; rfl) | skip
 ·split at h
  ·cases h; rfl
  ·cases h
 ·cases h
def zeroA (z:Value) : Option (List AV):=(avOf z).map AV.cells
theorem zeroA_ok {z:Value} {cs:List AV} (h : zeroA z = some cs) (fz:Nat → Prop) (H:Array Obj) : VRs fz H cs z.cells.toList:=by
 unfold zeroA at h
 cases hz : avOf z with
 | none => rw [hz] at h; cases h
 | some v =>
  rw [hz] at h
  cases h
  have h1:=avOf_ok hz fz H
  cases z with
  | agg cs =>
   simp only [avOf] at hz
   cases hh : atomsOf cs.toList with
   | none => rw [hh] at hz; cases hz
   | some as => rw [hh] at hz; cases hz; exact atomsOf_ok fz H hh
  | _ =>
   have hv : v.cells = [v]:=atomOf_cells (by simpa only [avOf] using hz)
   rw [hv]
   exact VRs.cons h1 VRs.nil
theorem sim_box {t:TypeId} {x:Operand} {x' : AE} (ho : o.op = .box t x) (hx:AE.of x = some x') :
  OpOK P o (.mk fun e => if ((x'.ev e).cells.all AV.isAtom) = true then some (.inr (.row (x'.ev e).cells.length [(x'.ev e).cells] 1,fun n => .ptr n (x'.ev e).cells.length 0 0)) else none):=by
 intro fz e h a w K he hr hh
 obtain ⟨r,h1,h2⟩:=hh
 have hx1:=AE.of_ok hx he
 dsimp only at h1
 split at h1 <;> first | (cases h1; done) | skip
 rename_i hat
 cases h1
 simp only at h2
 unfold OutOK
 simp only [execOp,ho]
 have hcl:=hx1.cells (by simpa using hat)
 have hm:=hr.make (OR.one (T:=t) hcl)
 have hrun : (do pure (Next.value (← Instr.box t (a.eval x))) : Sem Next).run P w = .ok (.value (.pointer (some ⟨w.heap.size,0,none⟩))) (pushed w (.cells (a.eval x).cells t (0,0))):=by
  rfl
 rw [hrun]
 refine ⟨_,_,fz,h2 w.heap.size hm.1,?_,hm.2.1,hm.2.2⟩
 have:=VR.ptr (fz:=fz) (H:=(pushed w (.cells (a.eval x).cells t (0,0))).heap) w.heap.size (x'.ev e).cells.length 0 0
 simpa using this
theorem sim_alloc {t:TypeId} {i:TypeInfo} {z:Value} {cs:List AV} (ho : o.op = .alloc t) (hi:P.info? t = some i) (hz : i.zero = some z) (hc : zeroA z = some cs) :
  OpOK P o (.mk fun _ => some (.inr (.row cs.length [cs] 1,fun n => .ptr n cs.length 0 0))):=by
 intro fz e h a w K he hr hh
 obtain ⟨r,h1,h2⟩:=hh
 cases h1
 simp only at h2
 unfold OutOK
 simp only [execOp,ho]
 have hm:=hr.make (OR.one (T:=t) (zeroA_ok hc fz w.heap))
 have hrun : (do pure (Next.value (← Instr.alloc t true (.tuple #[]))) : Sem Next).run P w = .ok (.value (.pointer (some ⟨w.heap.size,0,none⟩))) (pushed w (.cells z.cells t (0,0))):=by
  refine run_value _ ?_
  unfold Instr.alloc
  rw [run_bind,run_zero hi hz,Result.andThen_ok]
  rfl
 rw [hrun]
 refine ⟨_,_,fz,h2 w.heap.size hm.1,?_,hm.2.1,hm.2.2⟩
 have:=VR.ptr (fz:=fz) (H:=(pushed w (.cells z.cells t (0,0))).heap) w.heap.size cs.length 0 0
 simpa using this
end
end Go.Hz
/- Elements one behind the other: literals of slices, make, append, copy, strings and bytes. -/
namespace Go.Hz
section
variable {P:Program} {o:Oper}
def cf (c:Array Value) (x:Nat) : Option Value:=c[x]?
def Fl (fz:Nat → Prop) (H:Array Obj) (es:List (List AV)) (s off : Nat) (c:Nat → Option Value) : Prop :=
 ∀ i k e v,es[i]? = some e → e[k]? = some v → ∃ cv,c (off + i * s + k) = some cv∧VR fz H v cv
def Sized (s:Nat) (es:List (List AV)) : Prop := ∀ e ∈ es,e.length = s
theorem OR.of_fl {fz:Nat → Prop} {H:Array Obj} {es:List (List AV)} {s cap : Nat} {c:Array Value} {T:TypeId} {fr:Nat × Nat} (hcap : es.length ≤ cap) (hs:Sized s es) (hc : c.size = cap * s) (hsoft:Soft c fr)
  (h:Fl fz H es s 0 (cf c)) : OR fz H (.row s es cap) (.cells c T fr):=by
 refine .row _ _ _ _ _ _ hcap (fun i hi => hs _ (List.getElem_mem hi)) hc hsoft fun i h1 k h2 h3 => ?_
 obtain ⟨cv,h4,h5⟩:=h i k es[i] es[i][k] (List.getElem?_eq_getElem h1) (List.getElem?_eq_getElem h2)
 rw [Nat.zero_add,cf,Array.getElem?_eq_getElem h3] at h4
 rw [Option.some.inj h4]; exact h5
theorem Rel.row_fl {fz:Nat → Prop} {h:Hp} {w:World} (r:Rel fz h w) {b s cap : Nat} {es:List (List AV)} (hb : h b = some (.row s es cap)) :
  ∃ c T fr,w.heap[b]? = some (.cells c T fr)∧es.length ≤ cap∧Sized s es∧c.size = cap * s∧Soft c fr∧Fl fz w.heap es s 0 (cf c):=by
 obtain ⟨_,c,T,fr,h1,h2,h3,h4,h5,h6⟩:=r.row hb
 refine ⟨c,T,fr,h1,h2,fun e he => ?_,h4,h5,fun i k e v hi hk => ?_⟩
 ·obtain ⟨i,hi,rfl⟩:=List.getElem_of_mem he
  exact h3 i hi
 ·have hlt : i < es.length:=(List.getElem?_eq_some_iff.1 hi).1
  have hel : es[i] = e:=(List.getElem?_eq_some_iff.1 hi).2
  subst hel
  have hk' : k < es[i].length:=(List.getElem?_eq_some_iff.1 hk).1
  have hkv : es[i][k] = v:=(List.getElem?_eq_some_iff.1 hk).2
  subst hkv
  have:=h3 i hlt
  have:=mul_le_of (s:=s) (Nat.lt_of_lt_of_le hlt h2)
  have hb' : i * s + k < c.size:=by omega
  exact ⟨c[i * s + k],by rw [Nat.zero_add,cf,Array.getElem?_eq_getElem hb'],h6 i hlt k hk' hb'⟩
theorem VR.lst_fl {fz:Nat → Prop} {w:World} {es:List (List AV)} {cv:Value} (h:VR fz w.heap (.lst es) cv) (hne : es ≠ []) :
  ∃ b o s cap c T fr,cv = .slice (some ⟨b,o,none⟩) es.length cap∧w.heap[b]? = some (.cells c T fr)∧Sized s es∧o + es.length * s ≤ c.size∧Fl fz w.heap es s o (cf c):=by
 cases h with
 | lst0 => exact absurd rfl hne
 | lst _ b o s cap c T fr hf hb hl hs hc h =>
  refine ⟨b,o,s,cap,c,T,fr,rfl,hb,fun e he => ?_,hc,fun i k e v hi hk => ?_⟩
  ·obtain ⟨i,hi,rfl⟩:=List.getElem_of_mem he
   exact hs i hi
  ·have hlt : i < es.length:=(List.getElem?_eq_some_iff.1 hi).1
   have hel : es[i] = e:=(List.getElem?_eq_some_iff.1 hi).2
   subst hel
   have hk' : k < es[i].length:=(List.getElem?_eq_some_iff.1 hk).1
   have hkv : es[i][k] = v:=(List.getElem?_eq_some_iff.1 hk).2
   subst hkv
   have:=hs i hlt
   have:=mul_le_of (s:=s) hlt
   have hb' : o + i * s + k < c.size:=by omega
   exact ⟨c[o + i * s + k],by rw [cf,Array.getElem?_eq_getElem hb'],h i hlt k hk' hb'⟩
theorem Fl.take {fz:Nat → Prop} {H:Array Obj} {es:List (List AV)} {s off n : Nat} {c:Nat → Option Value} (h:Fl fz H es s off c) : Fl fz H (es.take n) s off c:=by
 intro i k e v hi hk
 rw [List.getElem?_take] at hi
 split at hi
 ·exact h i k e v hi hk
 ·cases hi
theorem Fl.drop {fz:Nat → Prop} {H:Array Obj} {es:List (List AV)} {s off n : Nat} {c:Nat → Option Value} (h:Fl fz H es s off c) : Fl fz H (es.drop n) s (off + n * s) c:=by
 intro i k e v hi hk
 rw [List.getElem?_drop] at hi
 obtain ⟨cv,h1,h2⟩:=h _ k e v hi hk
 exact ⟨cv,by rw [show off + n * s + i * s + k = off + (n + i) * s + k from by rw [Nat.add_mul]; omega]; exact h1,h2⟩
theorem Fl.congr {fz:Nat → Prop} {H:Array Obj} {es:List (List AV)} {s off off' : Nat} {c c' : Nat → Option Value} (h:Fl fz H es s off c) (hs:Sized s es)
  (hc:∀ x,x < es.length * s → c' (off' + x) = c (off + x)) : Fl fz H es s off' c':=by
 intro i k e v hi hk
 obtain ⟨cv,h1,h2⟩:=h i k e v hi hk
 have hlt : i < es.length:=(List.getElem?_eq_some_iff.1 hi).1
 have hk' : k < e.length:=(List.getElem?_eq_some_iff.1 hk).1
 rw [hs e (List.mem_of_getElem? hi)] at hk'
 have:=mul_le_of (s:=s) hlt
 refine ⟨cv,?_,h2⟩
 rw [Nat.add_assoc,hc _ (by omega),← Nat.add_assoc]; exact h1
theorem Fl.append {fz:Nat → Prop} {H:Array Obj} {es es' : List (List AV)} {s off : Nat} {c:Nat → Option Value} (h:Fl fz H es s off c) (h' : Fl fz H es' s (off + es.length * s) c) : Fl fz H (es ++ es') s off c:=by
 intro i k e v hi hk
 rw [List.getElem?_append] at hi
 split at hi
 ·exact h i k e v hi hk
 ·rename_i hlt
  obtain ⟨cv,h1,h2⟩:=h' _ k e v hi hk
  refine ⟨cv,?_,h2⟩
  rw [show off + i * s + k = off + es.length * s + (i - es.length) * s + k from by
   rw [show i = es.length + (i - es.length) from by omega,Nat.add_mul]
   simp [Nat.add_assoc]]
  exact h1
def srcA (s:Nat) (h:Hp) : AV → Option (List (List AV))
 | .nils => some []
 | .emp => some []
 | .lst es => if (∀ e ∈ es,e.length = s) then some es else none
 | .arr b s' off len _ => match h b with
  | some (.row s'' es _) => if s' = s∧s'' = s∧off + len ≤ es.length then some ((es.drop off).take len) else none
  | _ => none
 | .str l => if s = 1 then some (l.map fun b => [.int .u8 b.toNat]) else none
 | _ => none
theorem loadCells_run {w:World} {b o' : Nat} {c:Array Value} {T:TypeId} {fr:Nat × Nat} (hb : w.heap[b]? = some (.cells c T fr)) {n:Nat} (hn : o' + n ≤ c.size) :
  (loadCells ⟨b,o',none⟩ n).run P w = .ok (c.extract o' (o' + n)) w:=by
 have : ∀ (n i : Nat) (acc:Array Value),o' + i + n ≤ c.size → (loadCellsFrom ⟨b,o',none⟩ i n acc).run P w = .ok (acc ++ c.extract (o' + i) (o' + i + n)) w:=by
  intro n
  induction n with
  | zero => intro i acc _; simp [loadCellsFrom]; omega
  | succ n ih =>
   intro i acc h
   unfold loadCellsFrom
   have hlt : o' + i < c.size:=by omega
   have h1 : w.cell? (Addr.add ⟨b,o',none⟩ i) = some c[o' + i]:=by rw [Addr.add_none,cell_of hb,Array.getElem?_eq_getElem hlt]
   rw [run_bind,run_load,h1]
   simp only [Result.andThen_ok]
   rw [ih (i + 1) (acc.push c[o' + i]) (by omega)]
   congr 1
   apply Array.ext_getElem?
   intro j
   simp only [Array.getElem?_append,Array.size_push,Array.getElem?_push,Array.getElem?_extract]
   by_cases hj : j < acc.size
   ·simp [hj,show j < acc.size + 1 from by omega,show j ≠ acc.size from by omega]
   ·by_cases hj2 : j = acc.size
    ·subst hj2
     simp [hlt]
     omega
    ·have e1 : ¬ j < acc.size + 1:=by omega
     simp only [e1,hj,if_false]
     have e2 : j - acc.size = (j - (acc.size + 1)) + 1:=by omega
     rw [e2]
     have e3 : o' + (i + 1) + (j - (acc.size + 1)) = o' + i + (j - (acc.size + 1) + 1):=by omega
     rw [e3,show o' + (i + 1) + n = o' + i + (n + 1) from by omega]
     have e4 : (j - (acc.size + 1) < min (o' + i + (n + 1)) c.size - (o' + (i + 1))) = (j - (acc.size + 1) + 1 < min (o' + i + (n + 1)) c.size - (o' + i)):=by
      apply propext; omega
     simp only [e4]
 have:=this n 0 #[] (by omega)
 simpa [loadCells] using this
theorem srcA_run {fz:Nat → Prop} {h:Hp} {w:World} (r:Rel fz h w) {v:AV} {cv:Value} {s:Nat} {es:List (List AV)} (hv:VR fz w.heap v cv) (hs : srcA s h v = some es) :
  Sized s es∧(Builtin.lenOf cv).run P w = .ok es.length w∧∀ n,n ≤ es.length → ∃ vs : Array Value,(Builtin.firstCells s n cv).run P w = .ok vs w∧vs.size = n * s∧Fl fz w.heap (es.take n) s 0 (cf vs):=by
 unfold srcA at hs
 split at hs <;> first | (cases hs; done) | skip
 ·cases hs
  cases hv.nils_inv
  refine ⟨fun e he => by simp at he,rfl,fun n hn => ⟨#[],rfl,?_,?_⟩⟩
  ·simp at hn; subst hn; simp
  ·intro i k e v hi; simp at hi
 ·cases hs
  obtain ⟨ad,cap,rfl⟩:=hv.emp_inv
  refine ⟨fun e he => by simp at he,rfl,fun n hn => ⟨#[],?_,?_,?_⟩⟩
  ·simp at hn; subst hn; simp [Builtin.firstCells,loadCells,loadCellsFrom]
  ·simp at hn; subst hn; simp
  ·intro i k e v hi; simp at hi
 ·rename_i es0
  split at hs <;> first | (cases hs; done) | skip
  rename_i hsz
  cases hs
  refine ⟨hsz,?_,fun n hn => ?_⟩
  ·obtain ⟨ad,cap,rfl⟩:=hv.lst_inv; rfl
  ·by_cases hne : es = []
   ·subst hne
    simp at hn; subst hn
    obtain ⟨ad,cap,rfl⟩:=hv.lst_inv
    refine ⟨#[],?_,by simp,fun i k e v hi => by simp at hi⟩
    cases ad with
    | none => rfl
    | some a => simp [Builtin.firstCells,loadCells,loadCellsFrom]
   ·obtain ⟨b,o',s',cap,c,T,fr,rfl,hb,hs',hc,hfl⟩:=hv.lst_fl hne
    have hss : s' = s:=by
     obtain ⟨e,es',rfl⟩:=List.exists_cons_of_ne_nil hne
     rw [← hs' e (by simp)]; exact hsz e (by simp)
    subst hss
    have hle:=Nat.mul_le_mul_right s' hn
    refine ⟨c.extract o' (o' + n * s'),?_,by simp; omega,?_⟩
    ·unfold Builtin.firstCells
     exact loadCells_run hb (by omega)
    ·refine hfl.take.congr (fun e he => hsz e (List.mem_of_mem_take he)) fun x hx => ?_
     rw [List.length_take,Nat.min_eq_left hn] at hx
     simp only [Nat.zero_add,cf,Array.getElem?_extract]
     rw [if_pos (by omega)]
 ·rename_i b s' off len cap
  split at hs <;> first | (cases hs; done) | skip
  rename_i s'' es0 rcap hb
  split at hs <;> first | (cases hs; done) | skip
  rename_i hc
  obtain ⟨rfl,rfl,hle⟩:=hc
  cases hs
  obtain ⟨c,T,fr,hw,g1,g2,g3,g4,g5⟩:=r.row_fl hb
  have hlen : ((es0.drop off).take len).length = len:=by simp; omega
  have hsub : Sized s'' ((es0.drop off).take len):=fun e he => g2 e (List.mem_of_mem_drop (List.mem_of_mem_take he))
  refine ⟨hsub,?_,fun n hn => ?_⟩
  ·obtain ⟨ad,rfl⟩:=hv.arr_some
   rw [hlen]; rfl
  ·rw [hlen] at hn
   have hmul:=Nat.mul_le_mul_right s'' (show off + n ≤ rcap by omega)
   rw [Nat.add_mul] at hmul
   have hfl : Fl fz w.heap (((es0.drop off).take len).take n) s'' (off * s'') (cf c):=by
    have:=(g5.drop (n:=off)).take (n:=len) |>.take (n:=n)
    rwa [Nat.zero_add] at this
   have hsz : Sized s'' (((es0.drop off).take len).take n):=fun e he => hsub e (List.mem_of_mem_take he)
   by_cases h0 : n = 0
   ·subst h0
    refine ⟨#[],?_,by simp,fun i k e v hi => by simp at hi⟩
    obtain ⟨ad,rfl⟩:=hv.arr_some
    simp [Builtin.firstCells,loadCells,loadCellsFrom]
   ·cases hv with
    | arr0 => omega
    | arr =>
     refine ⟨c.extract (off * s'') (off * s'' + n * s''),?_,by simp; omega,?_⟩
     ·unfold Builtin.firstCells
      exact loadCells_run hw (by omega)
     ·refine hfl.congr hsz fun x hx => ?_
      have hl2 : (((es0.drop off).take len).take n).length = n:=by rw [List.length_take,hlen]; omega
      rw [hl2] at hx
      simp only [Nat.zero_add,cf,Array.getElem?_extract]
      rw [if_pos (by omega)]
 ·rename_i l
  split at hs <;> first | (cases hs; done) | skip
  rename_i h1
  subst h1
  cases hs
  cases hv.str_inv
  have hsz : (ByteArray.mk l.toArray).size = l.length:=by simp [ByteArray.size]
  refine ⟨fun e he => ?_,?_,fun n hn => ?_⟩
  ·obtain ⟨x,_,rfl⟩:=List.mem_map.1 he; rfl
  ·rw [List.length_map,← hsz]; rfl
  ·simp only [List.length_map] at hn
   refine ⟨((l.take n).map fun b => Value.int .u8 b.toNat).toArray,?_,by simp; omega,?_⟩
   ·unfold Builtin.firstCells
    show Result.ok (Array.map (fun b => Value.int IntKind.u8 ↑b.toNat) ((ByteArray.mk l.toArray).extract 0 n).data) w = _
    rw [byteArray_extract]
    simp
   ·intro i k e v hi hk
    simp only [List.getElem?_take,List.getElem?_map] at hi
    split at hi <;> first | (cases hi; done) | skip
    rename_i hin
    cases hb : l[i]? with
    | none => rw [hb] at hi; cases hi
    | some b =>
     rw [hb] at hi
     cases hi
     cases k with
     | succ k => simp at hk
     | zero =>
      simp at hk
      subst hk
      refine ⟨.int .u8 b.toNat,?_,.int _ _⟩
      simp [cf,hin,hb]
def lenN : AV → Option Nat
 | .nils => some 0
 | .emp => some 0
 | .lst es => some es.length
 | .arr _ _ _ len _ => some len
 | .str l => some l.length
 | _ => none
def srcN (s:Nat) (h:Hp) (v:AV) (n:Nat) : Option (List (List AV)) :=
 match v with
 | .arr b s' off len _ => match h b with
  | some (.row s'' es _) => if s' = s∧s'' = s∧n ≤ len∧off + n ≤ es.length then some ((es.drop off).take n) else none
  | _ => none
 | v => match srcA s h v with
  | some es => if n ≤ es.length then some (es.take n) else none
  | none => none
theorem lenN_run {fz:Nat → Prop} {w:World} {v:AV} {cv:Value} {n:Nat} (hv:VR fz w.heap v cv) (hn : lenN v = some n) : (Builtin.lenOf cv).run P w = .ok n w:=by
 unfold lenN at hn
 split at hn <;> first | (cases hn; done) | skip
 ·cases hn; cases hv.nils_inv; rfl
 ·cases hn; obtain ⟨ad,cap,rfl⟩:=hv.emp_inv; rfl
 ·cases hn; obtain ⟨ad,cap,rfl⟩:=hv.lst_inv; rfl
 ·cases hn; obtain ⟨ad,rfl⟩:=hv.arr_some; rfl
 ·cases hn; cases hv.str_inv; simp [Builtin.lenOf,ByteArray.size]
theorem srcN_run {fz:Nat → Prop} {h:Hp} {w:World} (r:Rel fz h w) {v:AV} {cv:Value} {s n : Nat} {es:List (List AV)} (hv:VR fz w.heap v cv) (hs : srcN s h v n = some es) :
  Sized s es∧es.length = n∧∃ vs : Array Value,(Builtin.firstCells s n cv).run P w = .ok vs w∧vs.size = n * s∧Fl fz w.heap es s 0 (cf vs):=by
 unfold srcN at hs
 split at hs
 ·rename_i b s' off len cap
  split at hs <;> first | (cases hs; done) | skip
  rename_i s'' es0 rcap hb
  split at hs <;> first | (cases hs; done) | skip
  rename_i hc
  obtain ⟨rfl,rfl,hnl,hle⟩:=hc
  cases hs
  obtain ⟨c,T,fr,hw,g1,g2,g3,g4,g5⟩:=r.row_fl hb
  have hlen : ((es0.drop off).take n).length = n:=by simp; omega
  have hsub : Sized s'' ((es0.drop off).take n):=fun e he => g2 e (List.mem_of_mem_drop (List.mem_of_mem_take he))
  refine ⟨hsub,hlen,?_⟩
  have hmul:=Nat.mul_le_mul_right s'' (show off + n ≤ rcap by omega)
  rw [Nat.add_mul] at hmul
  have hfl : Fl fz w.heap ((es0.drop off).take n) s'' (off * s'') (cf c):=by
   have:=(g5.drop (n:=off)).take (n:=n)
   rwa [Nat.zero_add] at this
  by_cases h0 : n = 0
  ·subst h0
   refine ⟨#[],?_,by simp,fun i k e v hi => by simp at hi⟩
   obtain ⟨ad,rfl⟩:=hv.arr_some
   simp [Builtin.firstCells,loadCells,loadCellsFrom]
  ·cases hv with
   | arr0 => omega
   | arr =>
    refine ⟨c.extract (off * s'') (off * s'' + n * s''),?_,by simp; omega,?_⟩
    ·unfold Builtin.firstCells
     exact loadCells_run hw (by omega)
    ·refine hfl.congr hsub fun x hx => ?_
     rw [hlen] at hx
     simp only [Nat.zero_add,cf,Array.getElem?_extract]
     rw [if_pos (by omega)]
 ·split at hs <;> first | (cases hs; done) | skip
  rename_i es0 he
  split at hs <;> first | (cases hs; done) | skip
  rename_i hle
  cases hs
  obtain ⟨a1,a2,a3⟩:=srcA_run (P:=P) r hv he
  exact ⟨fun e he => a1 e (List.mem_of_mem_take he),by simp; omega,a3 n hle⟩
end
end Go.Hz
/- append. -/
namespace Go.Hz
section
variable {P:Program} {o:Oper}
theorem Fl.written {fz:Nat → Prop} {H:Array Obj} {es:List (List AV)} {s o' : Nat} {c vs : Array Value} (h:Fl fz H es s 0 (cf vs)) (hs:Sized s es) (hv : vs.size = es.length * s) (hc : o' + vs.size ≤ c.size) :
  Fl fz H es s o' (cf (writeA c o' vs.toList)):=by
 refine h.congr hs fun x hx => ?_
 have:=writeA_in vs.toList c o' x (by simp; omega) (by simpa using hc)
 rw [cf,this,Nat.zero_add,cf,Array.getElem?_eq_getElem (by omega)]
 simp
theorem Fl.beside {fz:Nat → Prop} {H:Array Obj} {es:List (List AV)} {s off o' : Nat} {c:Array Value} {vs:List Value} (h:Fl fz H es s off (cf c)) (hs:Sized s es)
  (hd : off + es.length * s ≤ o' ∨ o' + vs.length ≤ off) : Fl fz H es s off (cf (writeA c o' vs)):=by
 refine h.congr hs fun x hx => ?_
 rw [cf,writeA_out _ _ _ _ (by omega)]; rfl
theorem growBy_le (n:Nat) (hn : 256 ≤ n) : ∀ (r c : Nat),c ≤ 3 * n → Builtin.growBy n r c ≤ 3 * n
 | 0,c,h => h
 | r + 1,c,h => by
  unfold Builtin.growBy
  split
  ·exact h
  ·exact growBy_le n hn r _ (by omega)
theorem nextcap_le {n c : Nat} (h : c < n) : Builtin.nextslicecap n c ≤ 3 * n:=by
 unfold Builtin.nextslicecap
 split
 ·omega
 ·split
  ·omega
  ·exact growBy_le n (by omega) 4 c (by omega)
def AtomsL (es:List (List AV)) : Prop := ∀ e ∈ es,∀ v ∈ e,v.isAtom = true
theorem Fl.atoms {fz:Nat → Prop} {H:Array Obj} {es:List (List AV)} {s:Nat} {vs:Array Value} (h:Fl fz H es s 0 (cf vs)) (hs:Sized s es) (hv : vs.size = es.length * s) (ha:AtomsL es) :
  ∀ v ∈ vs.toList,v.oneCell' = true:=by
 intro v hm
 obtain ⟨x,hx,rfl⟩:=List.getElem_of_mem hm
 simp only [Array.length_toList] at hx
 have hs0 : 0 < s:=by
  rcases Nat.eq_zero_or_pos s with h0 | h0
  ·subst h0; rw [Nat.mul_zero] at hv; omega
  ·exact h0
 have hi : x / s < es.length:=Nat.div_lt_of_lt_mul (by rw [Nat.mul_comm,← hv]; exact hx)
 have hk : x % s < es[x / s].length:=by rw [hs _ (List.getElem_mem hi)]; exact Nat.mod_lt _ hs0
 obtain ⟨cv,h1,h2⟩:=h (x / s) (x % s) _ _ (List.getElem?_eq_getElem hi) (List.getElem?_eq_getElem hk)
 have e : x / s * s + x % s = x:=by rw [Nat.mul_comm]; exact Nat.div_add_mod x s
 rw [Nat.zero_add,e,cf,Array.getElem?_eq_getElem hx] at h1
 have:=h2.oneCell (ha _ (List.getElem_mem hi) _ (List.getElem_mem hk))
 rw [← Option.some.inj h1] at this
 simpa using this
def Room (cap n bytes : Nat) : Prop:=n * bytes ≤ 70368744177664 ∨ (cap = 0∧n * bytes ≤ 140737488355328)
theorem nextcap_zero {n:Nat} (h : 0 < n) : Builtin.nextslicecap n 0 = n:=by
 unfold Builtin.nextslicecap
 split
 ·rfl
 ·omega
def appE (s bytes : Nat) (x y : AV) (h:Hp) (K:AV → Hp → Prop) : Prop :=
 ∃ ys,srcA s h y = some ys∧AtomsL ys ∧
 match x with
 | .nils => (ys = [] → K .nils h)∧(ys ≠ [] → ys.length * bytes ≤ 140737488355328∧∀ n c,h n = none → ys.length ≤ c → K (.arr n s 0 ys.length c) (h.set n (.row s ys c)))
 | .arr b s' off len cap => match h b with
  | some (.row s'' es rc) => s' = s∧s'' = s∧off = 0∧len ≤ es.length∧cap = rc∧Room cap (len + ys.length) bytes ∧
   ∀ n c,h.del b n = none → len + ys.length ≤ c → (len + ys.length ≤ cap → n = b∧c = cap) → K (.arr n s 0 (len + ys.length) c) ((h.del b).set n (.row s (es.take len ++ ys) c))
  | _ => False
 | _ => False
theorem zeroCells_size (z:Array Value) (n:Nat) : (Builtin.zeroCells z n).size = n * z.size:=by simp [Builtin.zeroCells]
theorem Rel.del {fz:Nat → Prop} {h:Hp} {w:World} (r:Rel fz h w) (b:Nat) : Rel fz (h.del b) w :=
 r.sub fun x o hx => by
  by_cases hxb : x = b
  ·subst hxb; simp at hx
  ·rwa [Hp.del_ne _ hxb] at hx
theorem Ext.del {fz:Nat → Prop} {h:Hp} {w:World} (b:Nat) : Ext fz h w fz (h.del b) w :=
 ⟨rfl,rfl,rfl,Nat.le_refl _,fun _ h => h,fun x _ hn => ⟨rfl,by
  by_cases hxb : x = b
  ·subst hxb; simp
  ·rwa [Hp.del_ne _ hxb]⟩,fun _ h => .inl h⟩
theorem Rel.drew {fz:Nat → Prop} {h:Hp} {w:World} (r:Rel fz h w) : Rel fz h { w with drawn:=w.drawn + 1 }:=⟨r.lt,r.own⟩
theorem Ext.drew {fz:Nat → Prop} {h:Hp} {w:World} : Ext fz h w fz h { w with drawn:=w.drawn + 1 } :=
 ⟨rfl,rfl,rfl,Nat.le_refl _,fun _ h => h,fun _ _ hn => ⟨rfl,hn⟩,fun _ h => .inl h⟩
theorem grow_after {fz:Nat → Prop} {h:Hp} {w:World} (hr:Rel fz h w) {s n len : Nat} {es ys : List (List AV)} {old new : Array Value} {z:Array Value} {el:TypeId} {K:AV → Hp → Prop} (hle : len = es.length)
  (h1:Sized s es) (h2:Sized s ys) (ho : old.size = es.length * s) (hn : new.size = ys.length * s) (h3:Fl fz w.heap es s 0 (cf old)) (h4:Fl fz w.heap ys s 0 (cf new)) (hz : z.size = s) (hcap : len + ys.length ≤ n)
  (hk:∀ m c,h m = none → len + ys.length ≤ c → K (.arr m s 0 (len + ys.length) c) (h.set m (.row s (es ++ ys) c))) :
  After fz h w K (.slice (some ⟨w.heap.size,0,none⟩) (len + ys.length) n) (pushed w (.cells (old ++ new ++ Builtin.zeroCells z (n - (len + ys.length))) el (0,0))):=by
 subst hle
 have hsz : (old ++ new ++ Builtin.zeroCells z (n - (es.length + ys.length))).size = n * s:=by
  rw [Array.size_append,Array.size_append,zeroCells_size,ho,hn,hz,← Nat.add_mul,← Nat.add_mul]
  congr 1; omega
 have hor : OR fz w.heap (.row s (es ++ ys) n) (.cells (old ++ new ++ Builtin.zeroCells z (n - (es.length + ys.length))) el (0,0)):=by
  refine OR.of_fl (by simpa using hcap) (fun e he => (List.mem_append.1 he).elim (h1 e) (h2 e)) hsz Soft.zero (Fl.append ?_ ?_)
  ·refine h3.congr h1 fun x hx => ?_
   simp only [cf,Nat.zero_add]
   rw [Array.getElem?_append_left (by rw [Array.size_append]; omega),Array.getElem?_append_left (by omega)]
  ·refine h4.congr h2 fun x hx => ?_
   simp only [cf,Nat.zero_add]
   rw [Array.getElem?_append_left (by rw [Array.size_append]; omega),Array.getElem?_append_right (by omega),ho]
   congr 1; omega
 obtain ⟨m1,m2,m3⟩:=hr.make hor
 refine ⟨_,_,fz,hk w.heap.size n m1 hcap,?_,m2,m3⟩
 have:=VR.arr (fz:=fz) (H:=(pushed w (.cells (old ++ new ++ Builtin.zeroCells z (n - (es.length + ys.length))) el (0,0))).heap) w.heap.size s 0 (es.length + ys.length) n
 simpa using this
theorem append_run {ats:Array TypeId} {xt yt el ty : TypeId} {i:TypeInfo} {dy:TypeDesc} {z:Value} (hx : ats[0]? = some xt) (hy : ats[1]? = some yt) (hd:P.underlying xt = some (.slice el)) (hdy:P.underlying yt = some dy)
    (hdi:∀ k,dy ≠ .int k) (hi:P.info? el = some i) (hz : i.zero = some z) (hzs : z.cells.size = i.size) (hb0 : i.bytes ≠ 0) {fz:Nat → Prop} {h:Hp} {w:World} (hr:Rel fz h w) {ax ay : AV} {cx cy : Value} (hvx:VR fz w.heap ax cx) (hvy:VR fz w.heap ay cy)
    {K:AV → Hp → Prop} (hk : appE i.size i.bytes ax ay h K) : ∃ cv w',(Builtin.append_ ats ty #[cx,cy]).run P w = .ok cv w'∧After fz h w K cv w':=by
  obtain ⟨ys,hys,hats,hk⟩:=hk
  obtain ⟨s1,s2,s3⟩:=srcA_run (P:=P) hr hvy hys
  obtain ⟨new,n1,n2,n3⟩:=s3 ys.length (Nat.le_refl _)
  rw [List.take_length] at n3
  have n4:=n3.atoms s1 n2 hats
  have hzeros : (match dy with | .int _ => true | _ => false) = false:=by
    cases dy <;> first | rfl | exact absurd rfl (hdi _)
  have hxa : (#[cx,cy] : Array Value)[0]? = some cx:=rfl
  have hya : (#[cx,cy] : Array Value)[1]? = some cy:=rfl
  have fits : ∀ (base:Option Addr) (sLen sCap : Nat) (w' : World),cx = .slice base sLen sCap → sLen + ys.length ≤ sCap →
      (match base with
        | some a => (storeCells (a.add (sLen * i.size)) new.toList).run P w
        | none => .ok () w) = .ok () w' → (Builtin.append_ ats ty #[cx,cy]).run P w = .ok (.slice base (sLen + ys.length) sCap) w':=fun base sLen sCap w' hc hle hst => by
    subst hc
    unfold Builtin.append_
    simp only [hx,hxa,hya,hy]
    rw [run_bind,run_underlying hd,Result.andThen_ok]
    simp only []
    rw [run_bind,run_sizeOf hi,Result.andThen_ok,run_bind,run_underlying hdy,Result.andThen_ok,run_bind,run_pure,Result.andThen_ok]
    simp only [Bool.false_eq_true,if_false]
    rw [run_bind,s2,Result.andThen_ok,if_pos hle]
    simp only [Bool.not_false,if_true]
    rw [run_bind,n1,Result.andThen_ok]
    cases base with
    | none => simp only at hst; cases hst; rfl
    | some a =>
      simp only at hst ⊢
      rw [run_bind,hst,Result.andThen_ok]; rfl
  have grows : ∀ (base:Option Addr) (sLen sCap : Nat) (old new : Array Value),cx = .slice base sLen sCap → ¬ sLen + ys.length ≤ sCap → Room sCap (sLen + ys.length) i.bytes →
      (Builtin.firstCells i.size sLen cx).run P { w with drawn:=w.drawn + 1 } = .ok old { w with drawn:=w.drawn + 1 } →
      (Builtin.firstCells i.size ys.length cy).run P { w with drawn:=w.drawn + 1 } = .ok new { w with drawn:=w.drawn + 1 } → ∃ n,sLen + ys.length ≤ n ∧
      (Builtin.append_ ats ty #[cx,cy]).run P w = .ok (.slice (some ⟨w.heap.size,0,none⟩) (sLen + ys.length) n)
        (pushed { w with drawn:=w.drawn + 1 } (.cells (old ++ new ++ Builtin.zeroCells z.cells (n - (sLen + ys.length))) el (0,0))):=fun base sLen sCap old new hc hle hb hold hnew => by
    subst hc
    have hnb : ¬ (Builtin.nextslicecap (sLen + ys.length) sCap * i.bytes > 2 ^ 48):=by
      rcases hb with hb | ⟨h0,hb⟩
      · have hnc:=nextcap_le (n:=sLen + ys.length) (c:=sCap) (by omega)
        have:=Nat.mul_le_mul_right i.bytes hnc
        rw [Nat.mul_assoc] at this
        omega
      · subst h0
        rw [nextcap_zero (by omega)]
        omega
    refine ⟨Question.cut (.appendCap (sLen + ys.length) sCap el) (w.tape w.drawn (.appendCap (sLen + ys.length) sCap el)),by simp only [Question.cut]; omega,?_⟩
    unfold Builtin.append_
    simp only [hx,hxa,hya,hy]
    rw [run_bind,run_underlying hd,Result.andThen_ok]
    simp only []
    rw [run_bind,run_sizeOf hi,Result.andThen_ok,run_bind,run_underlying hdy,Result.andThen_ok,run_bind,run_pure,Result.andThen_ok]
    simp only [Bool.false_eq_true,if_false]
    rw [run_bind,s2,Result.andThen_ok,if_neg hle,run_bind,run_typeInfo hi,Result.andThen_ok]
    simp only [hb0,or_false,and_false,if_false]
    rw [run_bind,run_typeInfo hi,Result.andThen_ok,if_neg hnb,run_bind,run_choose]
    have hfo : (Question.appendCap (sLen + ys.length) sCap el).forced = false:=rfl
    rw [hfo]
    simp only [Bool.false_eq_true,if_false,Result.andThen_ok]
    rw [run_bind,run_typeInfo hi,Result.andThen_ok,run_bind,run_askRoom,Result.andThen_ok,run_bind,hold,Result.andThen_ok]
    simp only [Bool.not_false,if_true]
    rw [run_bind,hnew,Result.andThen_ok,run_bind,run_zero hi hz,Result.andThen_ok]
    rfl
  have hr1 : Rel fz h { w with drawn:=w.drawn + 1 }:=hr.drew
  obtain ⟨_,_,t3⟩:=srcA_run (P:=P) hr1 hvy hys
  obtain ⟨new1,m1,m2,m3⟩:=t3 ys.length (Nat.le_refl _)
  rw [List.take_length] at m3
  have emb : ∀ {h0:Hp} {cv:Value} {w' : World},Ext fz h w fz h0 { w with drawn:=w.drawn + 1 } → After fz h0 { w with drawn:=w.drawn + 1 } K cv w' → After fz h w K cv w' :=
    fun hx ⟨v,h',fz',a1,a2,a3,a4⟩ => ⟨v,h',fz',a1,a2,a3,hx.trans a4⟩
  split at hk
  · -- nil
    obtain ⟨k1,k2⟩:=hk
    cases hvx.nils_inv
    by_cases hy0 : ys = []
    · subst hy0
      exact ⟨.slice none 0 0,w,fits none 0 0 w rfl (by simp) rfl,.nils,h,fz,k1 rfl,.nils,hr,Ext.refl _ _ _⟩
    · obtain ⟨k3,k4⟩:=k2 hy0
      have hlen : 0 < ys.length:=List.length_pos_iff.2 hy0
      obtain ⟨n,g1,g2⟩:=grows none 0 0 #[] new1 rfl (by omega) (.inr ⟨rfl,by simpa using k3⟩) rfl m1
      refine ⟨_,_,g2,emb Ext.drew (grow_after hr1 (es:=[]) rfl (fun e he => by simp at he) s1 (by simp) m2 (fun i k e v hi => by simp at hi) m3 hzs g1 ?_)⟩
      intro m c hm hc
      simp only [Nat.zero_add] at hc
      simpa using k4 m c hm hc
  · -- an array
    rename_i b s' off len cap
    split at hk <;> first | exact hk.elim | skip
    rename_i s'' es rc hb
    obtain ⟨rfl,rfl,rfl,hle,rfl,hbb,k⟩:=hk
    obtain ⟨c,T,fr,q1,q2,q3,q4,q5,q6⟩:=hr.row_fl hb
    have htk : Sized i.size (es.take len):=fun e he => q3 e (List.mem_of_mem_take he)
    have htl : (es.take len).length = len:=by simp; omega
    obtain ⟨ad,rfl⟩:=hvx.arr_some
    by_cases hfit : len + ys.length ≤ cap
    · -- it fits
      by_cases hcz : cap = 0
      · -- nothing to write
        have hy0 : ys = []:=List.eq_nil_of_length_eq_zero (by omega)
        have hl0 : len = 0:=by omega
        subst hy0 hl0 hcz
        have hrow : OR fz w.heap (.row i.size (es.take 0 ++ []) 0) (.cells c T fr):=OR.of_fl (by simp) (fun e he => by simp at he) q4 q5 (fun i k e v hi => by simp at hi)
        have hnew : new = #[]:=by
          have : new.size = 0:=by simpa using n2
          exact Array.eq_empty_of_size_eq_zero this
        have hst : (storeCells (ad.add (0 * i.size)) new.toList).run P w = .ok () w:=by rw [hnew]; rfl
        have hf:=fits (some ad) 0 0 w rfl (by simp) hst
        have hnf:=(hr.own b _ hb).1
        refine ⟨_,_,hf,_,_,fz,k b 0 (by simp) (by simp) (fun _ => ⟨rfl,rfl⟩),by simpa using hvx,⟨hr.lt,fun x ox hx => ?_⟩,?_⟩
        · by_cases hxb : x = b
          · subst hxb
            rw [Hp.set_same] at hx
            cases hx
            exact ⟨hnf,_,q1,hrow⟩
          · rw [Hp.set_ne _ _ hxb,Hp.del_ne _ hxb] at hx
            exact hr.own x ox hx
        · refine ⟨rfl,rfl,rfl,Nat.le_refl _,fun _ h => h,fun x hx hn => ⟨rfl,?_⟩,fun _ h => .inl h⟩
          have hxb : x ≠ b:=fun hh => by rw [hh,hb] at hn; cases hn
          rw [Hp.set_ne _ _ hxb,Hp.del_ne _ hxb]; exact hn
      · have had : ad = ⟨b,0,none⟩:=by
          cases hvx with
          | arr => simp
          | arr0 => exact absurd rfl hcz
        subst had
        have hmul:=Nat.mul_le_mul_right i.size hfit
        rw [Nat.add_mul] at hmul
        have hst:=storeCells_run (P:=P) new.toList w c (len * i.size) 0 q1 q5 (by rw [Array.length_toList,n2,q4]; omega) n4
        have hf:=fits (some ⟨b,0,none⟩) len cap _ rfl hfit (by show (storeCells (Addr.add ⟨b,0,none⟩ _) _).run P w = _; rw [Addr.add_none,Nat.zero_add]; exact hst)
        have hor : OR fz w.heap (.row i.size (es.take len ++ ys) cap) (.cells (writeA c (len * i.size + 0) new.toList) T fr):=by
          refine OR.of_fl (by simp; omega) (fun e he => (List.mem_append.1 he).elim (htk e) (s1 e)) (by rw [writeA_size]; exact q4) (q5.sized (writeA_size _ _ _)) (Fl.append ?_ ?_)
          · exact q6.take.beside htk (.inl (by rw [htl]; omega))
          · rw [htl,Nat.zero_add,Nat.add_zero]
            exact n3.written s1 n2 (by omega)
        obtain ⟨r1,r2⟩:=hr.turn hb hor
        have heq : (h.del b).set b (.row i.size (es.take len ++ ys) cap) = h.set b (.row i.size (es.take len ++ ys) cap):=by
          funext x; simp only [Hp.set,Hp.del]; split <;> simp_all
        refine ⟨_,_,hf,_,_,fz,k b cap (by simp) hfit (fun _ => ⟨rfl,rfl⟩),?_,by rw [heq]; exact r1,by rw [heq]; exact r2⟩
        have:=VR.arr (fz:=fz) (H:=(withBlock w b (.cells (writeA c (len * i.size + 0) new.toList) T fr)).heap) b i.size 0 (len + ys.length) cap
        simpa using this
    · -- it grows
      have hold : ∃ old : Array Value,(Builtin.firstCells i.size len (.slice (some ad) len cap)).run P { w with drawn:=w.drawn + 1 } = .ok old { w with drawn:=w.drawn + 1 }∧old.size = (es.take len).length * i.size∧Fl fz w.heap (es.take len) i.size 0 (cf old):=by
        have hsrc : srcA i.size h (.arr b i.size 0 len cap) = some ((es.drop 0).take len):=by
          simp only [srcA,hb,true_and]
          rw [if_pos (by omega)]
        obtain ⟨_,_,u3⟩:=srcA_run (P:=P) hr1 hvx hsrc
        obtain ⟨old,o1,o2,o3⟩:=u3 len (by simp; omega)
        refine ⟨old,o1,by rw [o2,htl],?_⟩
        simpa [List.take_take] using o3
      obtain ⟨old,o1,o2,o3⟩:=hold
      obtain ⟨n,g1,g2⟩:=grows (some ad) len cap old new1 rfl hfit hbb o1 m1
      have hx1 : Ext fz h w fz (h.del b) { w with drawn:=w.drawn + 1 }:=Ext.drew.trans (Ext.del b)
      refine ⟨_,_,g2,emb hx1 (grow_after (hr1.del b) (es:=es.take len) htl.symm htk s1 o2 m2 o3 m3 hzs g1 fun m c hm hc => k m c hm hc fun hf => absurd hf hfit)⟩
  · exact hk.elim
theorem OutOK.of_run {s:Sem Next} {w w' : World} {cv:Value} {R:Value → World → Prop} (h : s.run P w = .ok (.value cv) w') (hr:R cv w') : OutOK P s w R:=by
 unfold OutOK; rw [h]; exact hr
theorem OutOK.of_skip {s:Sem Next} {w w' : World} {R:Value → World → Prop} (h : s.run P w = .ok .skip w') (hr:R undef w') : OutOK P s w R:=by
 unfold OutOK; rw [h]; exact hr
theorem OutOK.of_enter {s:Sem Next} {w w' : World} {f:FuncId} {args:Array Value} {R:Value → World → Prop} (h : s.run P w = .ok (.enter f args) w')
  (hr:Calls P f args w' fun e w'' => ∃ cv,e = .returned cv∧R cv w'') : OutOK P s w R:=by
 unfold OutOK; rw [h]; exact hr
theorem sim_app {ats:Array TypeId} {xt yt el : TypeId} {i:TypeInfo} {dy:TypeDesc} {z:Value} {x y : Operand} {x' y' : AE} (ho : o.op = .call { callee:=.builtin .append,args := #[x,y],argTypes:=ats })
  (hx : ats[0]? = some xt) (hy : ats[1]? = some yt) (hd:P.underlying xt = some (.slice el)) (hdy:P.underlying yt = some dy) (hdi:∀ k,dy ≠ .int k) (hi:P.info? el = some i) (hz : i.zero = some z) (hzs : z.cells.size = i.size) (hb0 : i.bytes ≠ 0)
  (hxx:AE.of x = some x') (hyy:AE.of y = some y') : OpOK P o (.eff fun e h K => appE i.size i.bytes (x'.ev e) (y'.ev e) h K):=by
 intro fz e h a w K he hr hh
 have h1:=AE.of_ok hxx he
 have h2:=AE.of_ok hyy he
 obtain ⟨cv,w',h3,h4⟩:=append_run (ty:=o.type) hx hy hd hdy hdi hi hz hzs hb0 hr h1 h2 hh
 refine OutOK.of_run (w':=w') (cv:=cv) ?_ h4
 simp only [execOp,ho,resolve,List.map_toArray,List.map_cons,List.map_nil]
 rw [run_bind,run_pure,Result.andThen_ok]
 exact run_value _ h3
theorem srcA_set {s:Nat} {h:Hp} {y:AV} {ys:List (List AV)} {n:Nat} {ob:AObj} (hs : srcA s h y = some ys) (hn : h n = none) : srcA s (h.set n ob) y = some ys:=by
 unfold srcA at hs ⊢
 split at hs <;> first | exact hs | skip
 rename_i b s' off len cap
 have hbn : b ≠ n:=fun hh => by rw [hh,hn] at hs; cases hs
 rw [Hp.set_ne _ _ hbn]; exact hs
theorem del_set_comm {h:Hp} {b n : Nat} (ob:AObj) (hbn : b ≠ n) : (h.set n ob).del b = (h.del b).set n ob:=by
 funext x; simp only [Hp.set,Hp.del]; split <;> split <;> simp_all
theorem good_app {s bytes : Nat} {x y : AE} : (Sm.eff fun e h K => appE s bytes (x.ev e) (y.ev e) h K).good (x.looks ++ y.looks):=by
 refine ⟨fun e e' h K hh hf => ?_,fun e h K K' hk hf => ?_,fun e h K n ob hn hf => ?_⟩
 ·dsimp only at hf ⊢
  rwa [← AE.ev_congr (y:=x) fun t ht => hh t (by simp [ht]),← AE.ev_congr (y:=y) fun t ht => hh t (by simp [ht])]
 ·obtain ⟨ys,h1,h2,h3⟩:=hf
  refine ⟨ys,h1,h2,?_⟩
  split at h3
  ·exact ⟨fun h0 => hk _ _ (h3.1 h0),fun h0 => ⟨(h3.2 h0).1,fun n c hn hc => hk _ _ ((h3.2 h0).2 n c hn hc)⟩⟩
  ·split at h3 <;> first | exact h3.elim | skip
   obtain ⟨a1,a2,a3,a4,a5,a6,a7⟩:=h3
   exact ⟨a1,a2,a3,a4,a5,a6,fun n c hn hc hf => hk _ _ (a7 n c hn hc hf)⟩
  ·exact h3.elim
 ·obtain ⟨ys,h1,h2,h3⟩:=hf
  refine ⟨ys,srcA_set h1 hn,h2,?_⟩
  split at h3
  ·refine ⟨fun h0 => ⟨h,hn,rfl,h3.1 h0⟩,fun h0 => ⟨(h3.2 h0).1,fun m c hm hc => ?_⟩⟩
   have hmn : m ≠ n:=fun hh => by rw [hh,Hp.set_same] at hm; cases hm
   rw [Hp.set_ne _ _ hmn] at hm
   exact ⟨_,by rw [Hp.set_ne _ _ (Ne.symm hmn)]; exact hn,Hp.set_comm _ _ _ (Ne.symm hmn),(h3.2 h0).2 m c hm hc⟩
  ·rename_i b s' off len cap _
   have hbn : b ≠ n:=fun hh => by rw [hh,hn] at h3; exact h3.elim
   rw [Hp.set_ne _ _ hbn]
   split at h3 <;> first | exact h3.elim | skip
   obtain ⟨a1,a2,a3,a4,a5,a6,a7⟩:=h3
   refine ⟨a1,a2,a3,a4,a5,a6,fun m c hm hc hf => ?_⟩
   rw [del_set_comm _ hbn] at hm ⊢
   have hmn : m ≠ n:=fun hh => by rw [hh,Hp.set_same] at hm; cases hm
   rw [Hp.set_ne _ _ hmn] at hm
   exact ⟨_,by rw [Hp.set_ne _ _ (Ne.symm hmn),Hp.del_ne _ (Ne.symm hbn)]; exact hn,Hp.set_comm _ _ _ (Ne.symm hmn),a7 m c hm hc hf⟩
  ·exact h3.elim
theorem Triple.frame {f:FuncId} {args:List AV} {h:Hp} {post:AV → Hp → Prop} (t:Triple P f args h post) {n:Nat} {ob:AObj} (hn : h n = none) :
  Triple P f args (h.set n ob) fun r h'' => ∃ h',h' n = none∧h'' = h'.set n ob∧post r h':=by
 intro fz w cargs r a
 have hsub : ∀ b o,h b = some o → (h.set n ob) b = some o:=fun b o hb => by
  have : b ≠ n:=fun hh => by rw [hh,hn] at hb; cases hb
  rw [Hp.set_ne _ _ this]; exact hb
 have r0:=r.sub hsub
 refine (t fz w cargs r0 a).mono ?_
 rintro ed w' ⟨cv,rv,h',fz',rfl,h2,h3,h4,h5⟩
 obtain ⟨hnf,c,hc1,hc2⟩:=r.own n ob (Hp.set_same _ _ _)
 have hlt : n < w.heap.size:=(Array.getElem?_eq_some_iff.1 hc1).1
 obtain ⟨k1,k2⟩:=h4.keep n hlt hn
 refine ⟨cv,rv,h'.set n ob,fz',rfl,h2,⟨h3.lt,fun b o hb => ?_⟩,⟨h4.os,h4.tape,h4.output,h4.size,h4.grow,fun b hb hbn => ?_,fun b hb => ?_⟩,h',k2,rfl,h5⟩
 ·by_cases hbn : b = n
  ·subst hbn
   rw [Hp.set_same] at hb
   cases hb
   refine ⟨fun hf => ?_,c,k1.trans hc1,hc2.mono h4.grow (r0.frozen h4)⟩
   rcases h4.new _ hf with h | ⟨o,h⟩ | h
   ·exact hnf h
   ·rw [hn] at h; cases h
   ·omega
  ·rw [Hp.set_ne _ _ hbn] at hb
   exact h3.own b o hb
 ·have hne : b ≠ n:=fun hh => by rw [hh,Hp.set_same] at hbn; cases hbn
  rw [Hp.set_ne _ _ hne] at hbn ⊢
  exact h4.keep b hb hbn
 ·rcases h4.new b hb with h | ⟨o,h⟩ | h
  ·exact .inl h
  ·exact .inr (.inl ⟨o,hsub b o h⟩)
  ·exact .inr (.inr h)
theorem callFunc_run {f:FuncId} {fn:Func} (hf:P.funcs[f]? = some fn) (hn : fn.name ≠ "runtime.NumGoroutine") (hb : fn.body.isSome = true) (args:Array Value) (w:World) : (callFunc f args).run P w = .ok (.enter f args) w:=by
 unfold callFunc
 rw [run_bind,run_program,Result.andThen_ok]
 have h1 : (fn.name == "runtime.NumGoroutine") = false:=by simpa using hn
 have h2 : fn.body.isNone = false:=by
  cases hh : fn.body with
  | none => rw [hh] at hb; cases hb
  | some b => rfl
 simp only [hf,h1,h2,Bool.false_eq_true,if_false]
 rfl
theorem sim_call {f:FuncId} {fn:Func} {args:Array Operand} {ats:Array TypeId} {args' : List AE} (ho : o.op = .call { callee:=.value (.func f),args,argTypes:=ats }) (hf:P.funcs[f]? = some fn)
  (hn : fn.name ≠ "runtime.NumGoroutine") (hb : fn.body.isSome = true) (ha:AE.ofL args.toList = some args') :
  OpOK P o (.eff fun e h K => Triple P f (args'.map (·.ev e)) h K):=by
 intro fz e h a w K he hr hh
 have h1:=AE.ofL_ok he ha
 have hrun : (execOp a.eval o).run P w = .ok (.enter f (Array.map a.eval args)) w:=by
  simp only [execOp,ho,resolve,Act.eval,Deferred.ofValue]
  rw [run_bind,run_pure,Result.andThen_ok]
  unfold invoke
  simp only [Array.append_empty,Array.empty_append]
  exact callFunc_run hf hn hb _ _
 refine OutOK.of_enter hrun ?_
 refine (hh fz w (Array.map a.eval args) hr (by simpa using h1)).mono ?_
 rintro ed w' ⟨cv,rv,h',fz',rfl,h2,h3,h4,h5⟩
 exact ⟨cv,rfl,rv,h',fz',h5,h2,h3,h4⟩
theorem evs_congr {args:List AE} {e e' : Env} (h:∀ t ∈ args.flatMap AE.looks,e t = e' t) : args.map (·.ev e) = args.map (·.ev e') :=
 List.map_congr_left fun x hx => AE.ev_congr fun t ht => h t (List.mem_flatMap.2 ⟨x,hx,ht⟩)
theorem good_call {f:FuncId} {args:List AE} : (Sm.eff fun e h K => Triple P f (args.map (·.ev e)) h K).good (args.flatMap AE.looks):=by
 refine ⟨fun e e' h K hh hf => ?_,fun e h K K' hk hf => ?_,fun e h K n ob hn hf => ?_⟩
 ·dsimp only at hf ⊢
  rwa [← evs_congr hh]
 ·exact hf.mono hk
 ·exact hf.frame hn
end
end Go.Hz
/- Structs by value, literals of slices, make, copy, strings and bytes. -/
namespace Go.Hz
section
variable {P:Program} {o:Oper}
theorem VRs.splice {fz:Nat → Prop} {H:Array Obj} {cs vs : List AV} {c:Array Value} {us:List Value} {off:Nat} (h:VRs fz H cs c.toList) (hv:VRs fz H vs us) (hl : off + vs.length ≤ cs.length) :
  VRs fz H (splice cs off vs) (writeA c off us).toList:=by
 have hcl:=h.1
 have hul:=hv.1
 simp only [Array.length_toList] at hcl
 refine ⟨by rw [splice_length hl,Array.length_toList (xs:=writeA c off us),writeA_size]; exact hcl,fun j h1 h2 => ?_⟩
 rw [splice_length hl] at h1
 simp only [Array.length_toList,writeA_size] at h2
 simp only [Array.getElem_toList]
 by_cases hin : off ≤ j∧j < off + vs.length
 ·have e1 : (writeA c off us)[j]'(by rw [writeA_size]; exact h2) = us[j - off]'(by omega):=by
   have:=writeA_in us c off (j - off) (by omega) (by omega)
   rw [show off + (j - off) = j from by omega,Array.getElem?_eq_getElem (by rw [writeA_size]; exact h2)] at this
   exact Option.some.inj this
  have e2 : (Hz.splice cs off vs)[j]'(by rw [splice_length hl]; exact h1) = vs[j - off]'(by omega):=by
   simp only [Hz.splice]
   rw [List.getElem_append_left (by simp; omega),List.getElem_append_right (by simp; omega)]
   congr 1
   simp; omega
  rw [e1,e2]
  exact hv.2 _ _ _
 ·have e1 : (writeA c off us)[j]'(by rw [writeA_size]; exact h2) = c[j]:=by
   have:=writeA_out us c off j (by omega)
   rw [Array.getElem?_eq_getElem (by rw [writeA_size]; exact h2),Array.getElem?_eq_getElem h2] at this
   exact Option.some.inj this
  have e2 : (Hz.splice cs off vs)[j]'(by rw [splice_length hl]; exact h1) = cs[j]:=by
   simp only [Hz.splice]
   by_cases hj : j < off
   ·rw [List.getElem_append_left (by simp; omega),List.getElem_append_left (by simp; omega),List.getElem_take]
   ·rw [List.getElem_append_right (by simp; omega),List.getElem_drop]
    congr 1
    simp; omega
  rw [e1,e2]
  have:=h.2 j h1 (by simpa using h2)
  simpa using this
theorem foldl_write (off:Nat) : ∀ (l:List Value) (n:Nat) (c:Array Value),(l.zipIdx n).foldl (fun cs (x:Value × Nat) => cs.setIfInBounds (off + x.2) x.1) c = writeA c (off + n) l
 | [],_,_ => rfl
 | v :: l,n,c => by
  rw [List.zipIdx_cons,List.foldl_cons,foldl_write off l (n + 1)]; rfl
def fillA : List AV → List (Nat × Nat × AV) → Option (List AV)
 | cs,[] => some cs
 | cs,(off,size,v) :: rest => if v.cells.length = size∧off + size ≤ cs.length∧(v.cells.all AV.isAtom) = true then fillA (splice cs off v.cells) rest else none
theorem fill_run {fz:Nat → Prop} {H:Array Obj} {place:Nat → Option (Nat × Nat)} : ∀ (ps:List (Nat × Value)) (qs:List (Nat × Nat × AV)) (cs:List AV) (c:Array Value) (out:List AV),
  ps.length = qs.length → (∀ j (h1 : j < ps.length) (h2 : j < qs.length),place ps[j].1 = some (qs[j].1,qs[j].2.1)∧VR fz H qs[j].2.2 ps[j].2) → VRs fz H cs c.toList → fillA cs qs = some out →
  ∃ c',Instr.fill place c ps = some c'∧VRs fz H out c'.toList
 | [],[],cs,c,out,_,_,h,hf => by cases hf; exact ⟨c,rfl,h⟩
 | [],q :: qs,_,_,_,hl,_,_,_ => by simp at hl
 | p :: ps,[],_,_,_,hl,_,_,_ => by simp at hl
 | (i,v) :: ps,(off,size,av) :: qs,cs,c,out,hl,hp,h,hf => by
  unfold fillA at hf
  split at hf <;> first | (cases hf; done) | skip
  rename_i hc
  obtain ⟨h1,h2,h3⟩:=hc
  obtain ⟨g1,g2⟩:=hp 0 (by simp) (by simp)
  simp only [List.getElem_cons_zero] at g1 g2
  have hcl:=g2.cells (by simpa using h3)
  have hln:=hcl.1
  simp only [Array.length_toList] at hln
  have hcs:=h.1
  simp only [Array.length_toList] at hcs
  unfold Instr.fill
  simp only [g1]
  have hcond : (decide (v.cells.size ≠ size) || decide (off + v.cells.size > c.size)) = false:=by
   simp only [Bool.or_eq_false_iff,decide_eq_false_iff_not]; omega
  simp only [hcond,Bool.false_eq_true,if_false]
  have hfold : v.cells.zipIdx.foldl (fun cs (x:Value × Nat) => cs.setIfInBounds (off + x.2) x.1) c = writeA c off v.cells.toList:=by
   rw [← Array.foldl_toList,Array.toList_zipIdx,foldl_write]; rfl
  have hsp:=VRs.splice h hcl (off:=off) (by omega)
  have:=fill_run ps qs _ (writeA c off v.cells.toList) out (by simpa using hl) (fun j a b => by have:=hp (j + 1) (by simpa using a) (by simpa using b); simpa using this) hsp hf
  obtain ⟨c',h5,h6⟩:=this
  refine ⟨c',?_,h6⟩
  rw [← h5,← hfold]
def AE.ofParts (place:Nat → Option (Nat × Nat)) : List (Nat × Operand) → Option (List (Nat × Nat × AE))
 | [] => some []
 | (i,x) :: ps => match place i,AE.of x,AE.ofParts place ps with
  | some (off,size),some y,some qs => some ((off,size,y) :: qs)
  | _,_,_ => none
theorem AE.ofParts_ok {place:Nat → Option (Nat × Nat)} {fz:Nat → Prop} {H:Array Obj} {e:Env} {a:Act} (he:EnvR fz H e a.tmps) : ∀ {ps:List (Nat × Operand)} {qs:List (Nat × Nat × AE)},AE.ofParts place ps = some qs →
  ps.length = qs.length∧∀ j (h1 : j < ps.length) (h2 : j < qs.length),place ps[j].1 = some (qs[j].1,qs[j].2.1)∧VR fz H (qs[j].2.2.ev e) (a.eval ps[j].2)
 | [],qs,h => by cases h; exact ⟨rfl,fun j h => by simp at h⟩
 | (i,x) :: ps,qs,h => by
  unfold AE.ofParts at h
  split at h <;> first | (cases h; done) | skip
  rename_i off size y qs' h1 h2 h3
  cases h
  obtain ⟨g1,g2⟩:=AE.ofParts_ok he h3
  refine ⟨by simp [g1],fun j a b => ?_⟩
  cases j with
  | zero => exact ⟨h1,AE.of_ok h2 he⟩
  | succ j => exact g2 j (by simpa using a) (by simpa using b)
def evParts (e:Env) (qs:List (Nat × Nat × AE)) : List (Nat × Nat × AV):=qs.map fun q => (q.1,q.2.1,q.2.2.ev e)
def placesOf (P:Program) (fs:Array Field) : List (Nat × Nat):=fs.toList.map fun f => (f.offset,((P.info? f.type).map (·.size)).getD 0)
theorem places_run (fs:List Field) {w:World} (h:∀ f ∈ fs,∃ i,P.info? f.type = some i) :
  (fs.mapM fun f => do pure (f.offset,← sizeOf f.type) : Sem (List (Nat × Nat))).run P w = .ok (fs.map fun f => (f.offset,((P.info? f.type).map (·.size)).getD 0)) w:=by
 induction fs with
 | nil => rfl
 | cons f fs ih =>
  obtain ⟨i,hi⟩:=h f (by simp)
  rw [List.mapM_cons,run_bind]
  simp only [run_bind,run_sizeOf hi,Result.andThen_ok,run_pure,ih fun f hf => h f (by simp [hf])]
  simp [hi]
theorem sim_bld {t:TypeId} {fs:Array Field} {i:TypeInfo} {z:Value} {zs:List AV} {parts:Array (Nat × Operand)} {qs:List (Nat × Nat × AE)} (ho : o.op = .build t parts) (hd:P.underlying t = some (.struct fs)) (hi:P.info? t = some i)
    (hz : i.zero = some z) (hzs : zeroA z = some zs) (hfs:∀ f ∈ fs.toList,∃ i,P.info? f.type = some i) (hq:AE.ofParts ((placesOf P fs)[·]?) parts.toList = some qs) :
    OpOK P o (.pure fun e => (fillA zs (evParts e qs)).map .agg):=by
  refine OpOK.of_pure fun fz e a w he v hv => ?_
  obtain ⟨g1,g2⟩:=AE.ofParts_ok he hq
  cases hf : fillA zs (evParts e qs) with
  | none => rw [hf] at hv; cases hv
  | some out =>
    rw [hf] at hv
    cases hv
    obtain ⟨c',h1,h2⟩:=fill_run (place:=((placesOf P fs)[·]?)) (parts.toList.map fun p => (p.1,a.eval p.2)) (evParts e qs) zs z.cells out (by simp [evParts,g1])
      (fun j a b => by
        have:=g2 j (by simpa using a) (by simpa [evParts] using b)
        simpa [evParts] using this) (zeroA_ok hzs fz w.heap) hf
    have hl:=h2.1
    simp only [Array.length_toList] at hl
    refine ⟨.agg c',?_,.agg _ _ hl fun j a b => h2.2 j a (by simpa using b)⟩
    simp only [execOp,ho]
    refine run_value _ ?_
    unfold Instr.build
    rw [run_bind,run_zero hi hz,Result.andThen_ok,run_bind,run_underlying hd,Result.andThen_ok]
    simp only []
    have hm : (fs.mapM fun f => do pure (f.offset,← sizeOf f.type) : Sem (Array (Nat × Nat))).run P w = .ok (placesOf P fs).toArray w:=by
      rw [Array.mapM_eq_mapM_toList,Sem.run_map,places_run _ hfs]; rfl
    rw [run_bind,hm,Result.andThen_ok]
    have e1 : (Array.map (fun x => match x with | (i,x) => (i,a.eval x)) parts).toList = parts.toList.map fun p => (p.1,a.eval p.2):=by
      rw [Array.toList_map]
    have e2 : (fun (x:Nat) => (placesOf P fs).toArray[x]?) = fun (x:Nat) => (placesOf P fs)[x]?:=by funext x; simp
    rw [e1,e2,h1]
    rfl
theorem zeroTile_fl {fz:Nat → Prop} {H:Array Obj} {zs:List AV} {z:Array Value} (h:VRs fz H zs z.toList) (n m : Nat) (hnm : n ≤ m) :
  Fl fz H (List.replicate n zs) zs.length 0 (cf ((Array.range (m * zs.length)).map (z[· % z.size]!))):=by
 intro i k e v hi hk
 have hl:=h.1
 simp only [Array.length_toList] at hl
 have hlt : i < n:=by have:=(List.getElem?_eq_some_iff.1 hi).1; simpa using this
 have hel : e = zs:=by
  rw [List.getElem?_replicate,if_pos hlt] at hi; exact (Option.some.inj hi).symm
 subst hel
 have hk' : k < e.length:=(List.getElem?_eq_some_iff.1 hk).1
 have hkv : e[k] = v:=(List.getElem?_eq_some_iff.1 hk).2
 have hle:=mul_le_of (s:=e.length) (Nat.lt_of_lt_of_le hlt hnm)
 have hmod : (i * e.length + k) % z.size = k:=by
  rw [← hl,Nat.mul_comm,Nat.mul_add_mod]; exact Nat.mod_eq_of_lt hk'
 refine ⟨z[k],?_,?_⟩
 ·simp only [cf,Nat.zero_add,Array.getElem?_map]
  rw [Array.getElem?_eq_getElem (by simp; omega)]
  simp only [Array.getElem_range,Option.map_some,hmod]
  rw [getElem!_pos z k (by omega)]
 ·have:=h.2 k hk' (by simp; omega)
  rw [hkv] at this
  simpa using this
def setL (s:Nat) : List (List AV) → List (Nat × AV) → Option (List (List AV))
 | es,[] => some es
 | es,(i,v) :: rest => if v.cells.length = s∧i < es.length∧(v.cells.all AV.isAtom) = true then setL s (es.set i v.cells) rest else none
theorem Fl.set {fz:Nat → Prop} {H:Array Obj} {es:List (List AV)} {s i : Nat} {c:Array Value} {e:List AV} {us:List Value} (h:Fl fz H es s 0 (cf c)) (hs:Sized s es) (he : e.length = s) (hu:VRs fz H e us) (hi : i < es.length) (hc : es.length * s ≤ c.size) :
  Fl fz H (es.set i e) s 0 (cf (writeA c (i * s) us)):=by
 intro j k e' v hj hk
 have hul:=hu.1
 have hle:=mul_le_of (s:=s) hi
 rw [List.getElem?_set] at hj
 split at hj
 ·rename_i hij
  subst hij
  cases hj
  have hk' : k < e.length:=(List.getElem?_eq_some_iff.1 hk).1
  have hkv : e[k] = v:=(List.getElem?_eq_some_iff.1 hk).2
  refine ⟨us[k],?_,by rw [← hkv]; exact hu.2 k hk' (by omega)⟩
  rw [Nat.zero_add,cf]
  exact writeA_in us c (i * s) k (by omega) (by omega)
 ·rename_i hij
  obtain ⟨cv,h1,h2⟩:=h j k e' v hj hk
  have hk' : k < e'.length:=(List.getElem?_eq_some_iff.1 hk).1
  rw [hs e' (List.mem_of_getElem? hj)] at hk'
  refine ⟨cv,?_,h2⟩
  rw [cf,writeA_out]
  ·exact h1
  ·rcases Nat.lt_or_gt_of_ne hij with hlt | hlt
   ·have:=mul_le_of (s:=s) hlt; omega
   ·have:=mul_le_of (s:=s) hlt; omega
theorem fillL_run {fz:Nat → Prop} {H:Array Obj} {s:Nat} : ∀ (ps:List (Nat × Value)) (qs:List (Nat × AV)) (es:List (List AV)) (c:Array Value) (out:List (List AV)),
  ps.length = qs.length → (∀ j (h1 : j < ps.length) (h2 : j < qs.length),ps[j].1 = qs[j].1∧VR fz H qs[j].2 ps[j].2) → Sized s es → Fl fz H es s 0 (cf c) → c.size = es.length * s → setL s es qs = some out →
  ∃ c',Instr.fill (fun i => some (i * s,s)) c ps = some c'∧Fl fz H out s 0 (cf c')∧Sized s out∧out.length = es.length∧c'.size = c.size
 | [],[],es,c,out,_,_,h1,h,_,hf => by cases hf; exact ⟨c,rfl,h,h1,rfl,rfl⟩
 | [],q :: qs,_,_,_,hl,_,_,_,_,_ => by simp at hl
 | p :: ps,[],_,_,_,hl,_,_,_,_,_ => by simp at hl
 | (i,v) :: ps,(i',av) :: qs,es,c,out,hl,hp,hs,h,hc,hf => by
  unfold setL at hf
  split at hf <;> first | (cases hf; done) | skip
  rename_i hcc
  obtain ⟨h1,h2,h3⟩:=hcc
  obtain ⟨g1,g2⟩:=hp 0 (by simp) (by simp)
  simp only [List.getElem_cons_zero] at g1 g2
  subst g1
  have hcl:=g2.cells (by simpa using h3)
  have hln:=hcl.1
  simp only [Array.length_toList] at hln
  have hle:=mul_le_of (s:=s) h2
  unfold Instr.fill
  simp only
  have hcond : (decide (v.cells.size ≠ s) || decide (i * s + v.cells.size > c.size)) = false:=by
   simp only [Bool.or_eq_false_iff,decide_eq_false_iff_not]; omega
  simp only [hcond,Bool.false_eq_true,if_false]
  have hfold : v.cells.zipIdx.foldl (fun cs (x:Value × Nat) => cs.setIfInBounds (i * s + x.2) x.1) c = writeA c (i * s) v.cells.toList:=by
   rw [← Array.foldl_toList,Array.toList_zipIdx,foldl_write]; rfl
  have hfl:=h.set hs h1 hcl h2 (by omega)
  have hsz : Sized s (es.set i av.cells):=fun e he => (List.mem_or_eq_of_mem_set he).elim (hs e) (fun hh => hh ▸ h1)
  obtain ⟨c',h5,h6,h7,h8,h9⟩:=fillL_run ps qs _ (writeA c (i * s) v.cells.toList) out (by simpa using hl) (fun j a b => by have:=hp (j + 1) (by simpa using a) (by simpa using b); simpa using this) hsz hfl
   (by rw [writeA_size,List.length_set]; exact hc) hf
  refine ⟨c',?_,h6,h7,by simpa using h8,by rw [h9,writeA_size]⟩
  rw [← h5,← hfold]
def AE.ofIdx : List (Nat × Operand) → Option (List (Nat × AE))
 | [] => some []
 | (i,x) :: ps => match AE.of x,AE.ofIdx ps with
  | some y,some qs => some ((i,y) :: qs)
  | _,_ => none
theorem AE.ofIdx_ok {fz:Nat → Prop} {H:Array Obj} {e:Env} {a:Act} (he:EnvR fz H e a.tmps) : ∀ {ps:List (Nat × Operand)} {qs:List (Nat × AE)},AE.ofIdx ps = some qs →
  ps.length = qs.length∧∀ j (h1 : j < ps.length) (h2 : j < qs.length),ps[j].1 = qs[j].1∧VR fz H (qs[j].2.ev e) (a.eval ps[j].2)
 | [],qs,h => by cases h; exact ⟨rfl,fun j h => by simp at h⟩
 | (i,x) :: ps,qs,h => by
  unfold AE.ofIdx at h
  split at h <;> first | (cases h; done) | skip
  rename_i y qs' h2 h3
  cases h
  obtain ⟨g1,g2⟩:=AE.ofIdx_ok he h3
  refine ⟨by simp [g1],fun j a b => ?_⟩
  cases j with
  | zero => exact ⟨rfl,AE.of_ok h2 he⟩
  | succ j => exact g2 j (by simpa using a) (by simpa using b)
def evIdx (e:Env) (qs:List (Nat × AE)) : List (Nat × AV):=qs.map fun q => (q.1,q.2.ev e)
theorem sim_bsl {t el : TypeId} {i:TypeInfo} {z:Value} {zs:List AV} {n:Nat} {parts:Array (Nat × Operand)} {qs:List (Nat × AE)} (ho : o.op = .buildSlice t n parts) (hd:P.underlying t = some (.slice el)) (hi:P.info? el = some i)
    (hz : i.zero = some z) (hzs : zeroA z = some zs) (hsz : zs.length = i.size) (hbig : n * i.size ≤ 16777216) (hq:AE.ofIdx parts.toList = some qs) :
    OpOK P o (.mk fun e => (setL zs.length (List.replicate n zs) (evIdx e qs)).map fun es => .inr (.row zs.length es n,fun b => .arr b zs.length 0 n n)):=by
  intro fz e h a w K he hr hh
  obtain ⟨r,h1,h2⟩:=hh
  obtain ⟨g1,g2⟩:=AE.ofIdx_ok he hq
  dsimp only at h1
  cases hf : setL zs.length (List.replicate n zs) (evIdx e qs) with
  | none => rw [hf] at h1; cases h1
  | some out =>
    rw [hf] at h1
    cases h1
    simp only at h2
    have hzr:=zeroA_ok hzs fz w.heap
    have hzl:=hzr.1
    simp only [Array.length_toList] at hzl
    have hfl0:=zeroTile_fl (zs:=zs) (z:=z.cells) hzr n n (Nat.le_refl _)
    obtain ⟨c',h5,h6,h7,h8,h9⟩:=fillL_run (s:=zs.length) (parts.toList.map fun p => (p.1,a.eval p.2)) (evIdx e qs) (List.replicate n zs) _ out (by simp [evIdx,g1])
      (fun j a b => by
        have:=g2 j (by simpa using a) (by simpa [evIdx] using b)
        simpa [evIdx] using this) (fun e he => by rw [List.eq_of_mem_replicate he]) hfl0 (by simp) hf
    have hlen : out.length = n:=by simpa using h8
    have hor : OR fz w.heap (.row zs.length out n) (.cells c' el (0,0)):=OR.of_fl (by omega) h7 (by rw [h9]; simp) Soft.zero h6
    obtain ⟨m1,m2,m3⟩:=hr.make hor
    refine OutOK.of_run (w':=pushed w (.cells c' el (0,0))) (cv:=.slice (some ⟨w.heap.size,0,none⟩) n n) ?_ ⟨_,_,fz,h2 w.heap.size m1,?_,m2,m3⟩
    · simp only [execOp,ho]
      refine run_value _ ?_
      unfold Instr.buildSlice
      rw [run_bind,run_underlying hd,Result.andThen_ok]
      simp only []
      have e1 : (Array.map (fun x => match x with | (i,x) => (i,a.eval x)) parts).toList = parts.toList.map fun p => (p.1,a.eval p.2):=by
        rw [Array.toList_map]
      rw [run_bind,run_sizeOf hi,Result.andThen_ok,if_neg (by omega)]
      by_cases h0 : n * i.size = 0
      · rw [if_pos h0,run_bind,run_pure,Result.andThen_ok]
        have e3 : Array.map (fun x => (#[] : Array Value)[x % (#[] : Array Value).size]!) (Array.range (n * i.size)) = (Array.range (n * zs.length)).map (z.cells[· % z.cells.size]!):=by
          rw [hsz,h0]; simp
        rw [e1,e3,← hsz,h5]
        rfl
      · rw [if_neg h0,run_bind,run_zero hi hz,Result.andThen_ok,run_bind,run_pure,Result.andThen_ok]
        rw [e1,← hsz,h5]
        rfl
    · have:=VR.arr (fz:=fz) (H:=(pushed w (.cells c' el (0,0))).heap) w.heap.size zs.length 0 n n
      simpa using this
end
end Go.Hz
/- make, copy, clear, strings and bytes, function values. -/
namespace Go.Hz
section
variable {P:Program} {o:Oper}
def mslA (s bytes : Nat) (zs:List AV) (l c : AV) : Option (AV ⊕ (AObj × (Nat → AV))) :=
 match l,c with
 | .int _ l,.int _ c => if 0 ≤ l∧l ≤ c∧c ≤ 140737488355328∧c * bytes ≤ 140737488355328 then some (.inr (.row s (List.replicate l.toNat zs) c.toNat,fun n => .arr n s 0 l.toNat c.toNat)) else none
 | _,_ => none
theorem wrap_i64_in {n:Int} (h0 : -9223372036854775808 ≤ n) (h1 : n < 9223372036854775808) : IntKind.i64.wrap n = n:=by
 rw [IntKind.wrap_i64]; omega
theorem sim_msl {t el : TypeId} {i:TypeInfo} {z:Value} {zs:List AV} {l c : Operand} {l' c' : AE} (ho : o.op = .makeSlice t l c) (hd:P.underlying t = some (.slice el)) (hi:P.info? el = some i)
  (hz : i.zero = some z) (hzs : zeroA z = some zs) (hsz : zs.length = i.size) (hl:AE.of l = some l') (hc:AE.of c = some c') :
  OpOK P o (.mk fun e => mslA zs.length i.bytes zs (l'.ev e) (c'.ev e)):=by
 intro fz e h a w K he hr hh
 obtain ⟨r,h1,h2⟩:=hh
 have hl1:=AE.of_ok hl he
 have hc1:=AE.of_ok hc he
 dsimp only at h1
 generalize l'.ev e = al at *
 generalize c'.ev e = ac at *
 unfold mslA at h1
 split at h1 <;> first | (cases h1; done) | skip
 rename_i kl l0 kc c0
 split at h1 <;> first | (cases h1; done) | skip
 rename_i hcond
 obtain ⟨q0,q1,q2,q3⟩:=hcond
 cases h1
 simp only at h2
 have hel:=hl1.int_inv
 have hec:=hc1.int_inv
 have hzr:=zeroA_ok hzs fz w.heap
 obtain ⟨ln,rfl⟩:=Int.eq_ofNat_of_zero_le q0
 obtain ⟨cn,rfl⟩:=Int.eq_ofNat_of_zero_le (Int.le_trans q0 q1)
 simp only [Int.toNat_natCast] at h2
 have hle : ln ≤ cn:=by omega
 have hfl:=zeroTile_fl (zs:=zs) (z:=z.cells) hzr ln cn hle
 have hor : OR fz w.heap (.row zs.length (List.replicate ln zs) cn) (.cells ((Array.range (cn * zs.length)).map (z.cells[· % z.cells.size]!)) el (0,0)) :=
  OR.of_fl (by simpa using hle) (fun e he => by rw [List.eq_of_mem_replicate he]) (by simp) Soft.zero hfl
 obtain ⟨m1,m2,m3⟩:=hr.make hor
 refine OutOK.of_run (cv:=.slice (some ⟨w.heap.size,0,none⟩) ln cn) (w':=pushed w (.cells ((Array.range (cn * zs.length)).map (z.cells[· % z.cells.size]!)) el (0,0))) ?_ ⟨_,_,fz,h2 w.heap.size m1,?_,m2,m3⟩
 ·simp only [execOp,ho,hel,hec]
  refine run_value _ ?_
  unfold Instr.makeSlice
  rw [run_bind,run_underlying hd,Result.andThen_ok]
  simp only [asInt,asIntOf]
  rw [run_bind,run_bind,run_pure,Result.andThen_ok,run_pure,Result.andThen_ok,run_bind,run_bind,run_pure,Result.andThen_ok,run_pure,Result.andThen_ok,run_bind,run_typeInfo hi,Result.andThen_ok]
  have w1 : IntKind.i64.wrap (ln:Int) = ln:=wrap_i64_in (by omega) (by omega)
  have w2 : IntKind.i64.wrap (cn:Int) = cn:=wrap_i64_in (by omega) (by omega)
  have q3' : ¬ ((i.bytes : Int) * (cn:Int) > 2 ^ 48):=by rw [Int.mul_comm]; omega
  simp only [w1,w2,Int.toNat_natCast]
  have g : (((decide ((cn:Int) < 0) || decide ((i.bytes : Int) * (cn:Int) > 2 ^ 48)) || decide ((ln:Int) < 0)) || decide ((ln:Int) > cn)) = false:=by
   simp only [Bool.or_eq_false_iff,decide_eq_false_iff_not]; omega
  rw [g]
  simp only [Bool.false_eq_true,if_false]
  rw [run_bind,run_askRoom,Result.andThen_ok,run_bind,run_sizeOf hi,Result.andThen_ok]
  by_cases h0 : cn * i.size = 0
  ·rw [if_pos h0,run_bind,run_pure,Result.andThen_ok]
   have e3 : Array.map (fun x => (#[] : Array Value)[x % (#[] : Array Value).size]!) (Array.range (cn * i.size)) = (Array.range (cn * zs.length)).map (z.cells[· % z.cells.size]!):=by
    rw [hsz,h0]; simp
   rw [e3]; rfl
  ·rw [if_neg h0,run_bind,run_zero hi hz,Result.andThen_ok,run_bind,run_pure,Result.andThen_ok,← hsz]
   rfl
 ·have:=VR.arr (fz:=fz) (H:=(pushed w (.cells ((Array.range (cn * zs.length)).map (z.cells[· % z.cells.size]!)) el (0,0))).heap) w.heap.size zs.length 0 ln cn
  simpa using this
def cpE (s:Nat) (dst src : AV) (h:Hp) (K:AV → Hp → Prop) : Prop :=
 ∃ n d ys,lenN src = some n∧lenN dst = some d∧srcN s h src (min n d) = some ys∧AtomsL ys ∧
 match dst with
 | .nils => K (.int .i64 0) h
 | .arr b s' off len cap => match h b with
  | some (.row s'' es rc) => s' = s∧s'' = s∧off ≤ es.length∧off + len ≤ rc∧len ≤ cap ∧
    K (.int .i64 ((min n d : Nat) : Int)) (h.set b (.row s (es.take off ++ ys ++ es.drop (off + min n d)) rc))
  | _ => False
 | _ => False
theorem copy_run {ats:Array TypeId} {xt el ty : TypeId} {i:TypeInfo} (hx : ats[0]? = some xt) (hd:P.underlying xt = some (.slice el)) (hi:P.info? el = some i)
    {fz:Nat → Prop} {h:Hp} {w:World} (hr:Rel fz h w) {ax ay : AV} {cx cy : Value} (hvx:VR fz w.heap ax cx) (hvy:VR fz w.heap ay cy)
    {K:AV → Hp → Prop} (hk : cpE i.size ax ay h K) : ∃ cv w',(Builtin.copy_ ats ty #[cx,cy]).run P w = .ok cv w'∧After fz h w K cv w':=by
  obtain ⟨ln,ld,ys,hln,hld,hys,hats,hk⟩:=hk
  obtain ⟨s1,sl,new,n1,n2,n3⟩:=srcN_run (P:=P) hr hvy hys
  have s2:=lenN_run (P:=P) hvy hln
  have hxa : (#[cx,cy] : Array Value)[0]? = some cx:=rfl
  have hya : (#[cx,cy] : Array Value)[1]? = some cy:=rfl
  have run : ∀ (base:Option Addr) (cap:Nat) (w' : World),cx = .slice base ld cap →
      (match base with
        | some a => (storeCells a new.toList).run P w
        | none => .ok () w) = .ok () w' → (Builtin.copy_ ats ty #[cx,cy]).run P w = .ok (.int .i64 ((min ln ld : Nat) : Int)) w':=fun base cap w' hc hst => by
    subst hc
    unfold Builtin.copy_
    simp only [hx,hxa,hya]
    rw [run_bind,run_underlying hd,Result.andThen_ok]
    simp only []
    rw [run_bind,s2,Result.andThen_ok,run_bind,run_sizeOf hi,Result.andThen_ok]
    have hn' : (Builtin.firstCells i.size (Nat.min ln ld) cy).run P w = .ok new w:=n1
    rw [run_bind,hn',Result.andThen_ok]
    cases base with
    | none => simp only at hst; cases hst; rfl
    | some a =>
      simp only at hst ⊢
      rw [run_bind,hst,Result.andThen_ok]; rfl
  split at hk
  · cases hvx.nils_inv
    cases hld
    refine ⟨_,w,run none 0 w rfl rfl,?_⟩
    rw [Nat.min_zero]
    exact ⟨_,h,fz,hk,.int _ _,hr,Ext.refl _ _ _⟩
  · rename_i b s' off len cap
    cases hld
    split at hk <;> first | exact hk.elim | skip
    rename_i s'' es rc hb
    obtain ⟨rfl,rfl,hoff,hrc,hlc,k⟩:=hk
    generalize hm : min ln ld = m at *
    have n4:=n3.atoms s1 (by rw [sl]; exact n2) hats
    obtain ⟨c,T,fr,q1,q2,q3,q4,q5,q6⟩:=hr.row_fl hb
    obtain ⟨ad,rfl⟩:=hvx.arr_some
    by_cases hm0 : m = 0
    · subst hm0
      have hnew : new = #[]:=Array.eq_empty_of_size_eq_zero (by simpa using n2)
      have hst : (storeCells ad new.toList).run P w = .ok () w:=by rw [hnew]; rfl
      refine ⟨_,w,run (some ad) cap w rfl hst,?_⟩
      refine ⟨_,_,fz,k,.int _ _,?_,?_⟩
      · have hy0 : ys = []:=List.eq_nil_of_length_eq_zero sl
        have e : es.take off ++ ys ++ es.drop (off + 0) = es:=by rw [hy0]; simp
        rw [e]
        refine ⟨hr.lt,fun x ox hx => ?_⟩
        by_cases hxb : x = b
        · subst hxb; rw [Hp.set_same] at hx; cases hx; exact hr.own x _ hb
        · rw [Hp.set_ne _ _ hxb] at hx; exact hr.own x ox hx
      · refine ⟨rfl,rfl,rfl,Nat.le_refl _,fun _ h => h,fun x hx hn => ⟨rfl,?_⟩,fun _ h => .inl h⟩
        have hxb : x ≠ b:=fun hh => by rw [hh,hb] at hn; cases hn
        rw [Hp.set_ne _ _ hxb]; exact hn
    · have had : ad = ⟨b,off * i.size,none⟩:=by
        cases hvx with
        | arr => rfl
        | arr0 => omega
      subst had
      have hmul:=Nat.mul_le_mul_right i.size (show off + m ≤ rc by omega)
      rw [Nat.add_mul] at hmul
      have hst:=storeCells_run (P:=P) new.toList w c (off * i.size) 0 q1 q5 (by rw [Array.length_toList,n2,q4]; omega) n4
      have hor : OR fz w.heap (.row i.size (es.take off ++ ys ++ es.drop (off + m)) rc) (.cells (writeA c (off * i.size + 0) new.toList) T fr):=by
        have hto : (es.take off).length = off:=by simp; omega
        refine OR.of_fl (by simp only [List.length_append,hto,sl,List.length_drop]; omega) (fun e he => ?_) (by rw [writeA_size]; exact q4) (q5.sized (writeA_size _ _ _)) (Fl.append (Fl.append ?_ ?_) ?_)
        · rcases List.mem_append.1 he with he | he
          · rcases List.mem_append.1 he with he | he
            · exact q3 e (List.mem_of_mem_take he)
            · exact s1 e he
          · exact q3 e (List.mem_of_mem_drop he)
        · exact q6.take.beside (fun e he => q3 e (List.mem_of_mem_take he)) (.inl (by rw [hto]; omega))
        · rw [hto,Nat.zero_add,Nat.add_zero]
          exact n3.written s1 (by rw [sl]; exact n2) (by omega)
        · rw [List.length_append,hto,sl]
          refine (q6.drop (n:=off + m)).beside (fun e he => q3 e (List.mem_of_mem_drop he)) (.inr ?_)
          rw [Array.length_toList,n2,Nat.add_mul]; omega
      obtain ⟨r1,r2⟩:=hr.turn hb hor
      refine ⟨_,_,run (some ⟨b,off * i.size,none⟩) cap _ rfl hst,?_⟩
      exact ⟨_,_,fz,k,.int _ _,r1,r2⟩
  · exact hk.elim
theorem sim_copy {ats:Array TypeId} {xt el : TypeId} {i:TypeInfo} {x y : Operand} {x' y' : AE} (ho : o.op = .call { callee:=.builtin .copy,args := #[x,y],argTypes:=ats })
  (hx : ats[0]? = some xt) (hd:P.underlying xt = some (.slice el)) (hi:P.info? el = some i) (hxx:AE.of x = some x') (hyy:AE.of y = some y') : OpOK P o (.eff fun e h K => cpE i.size (x'.ev e) (y'.ev e) h K):=by
 intro fz e h a w K he hr hh
 have h1:=AE.of_ok hxx he
 have h2:=AE.of_ok hyy he
 obtain ⟨cv,w',h3,h4⟩:=copy_run (ty:=o.type) hx hd hi hr h1 h2 hh
 refine OutOK.of_run (w':=w') (cv:=cv) ?_ h4
 simp only [execOp,ho,resolve,List.map_toArray,List.map_cons,List.map_nil]
 rw [run_bind,run_pure,Result.andThen_ok]
 exact run_value _ h3
def eb (b:UInt8) : List AV:=[.int .u8 b.toNat]
def byteOfE : List AV → Option UInt8
 | [.int .u8 n] => some (UInt8.ofNat n.toNat)
 | _ => none
def bytesOf : List (List AV) → Option (List UInt8)
 | [] => some []
 | e :: es => match byteOfE e,bytesOf es with
  | some b,some bs => some (b :: bs)
  | _,_ => none
theorem bytesOf_map (l:List UInt8) : bytesOf (l.map eb) = some l:=by
 induction l with
 | nil => rfl
 | cons b l ih => simp [bytesOf,eb,byteOfE,ih,UInt8.ofNat_toNat]
def bstrA (h:Hp) (v:AV) : Option AV :=
 match srcA 1 h v,v with
 | _,.str _ => none
 | some es,_ => (bytesOf es).map .str
 | none,_ => none
theorem bytes_loop {fz:Nat → Prop} {w:World} : ∀ (es:List (List AV)) (vs:List Value) (l:List UInt8) (acc:ByteArray),es.length = vs.length → (∀ j (h1 : j < es.length) (h2 : j < vs.length),∃ v,es[j] = [v]∧VR fz w.heap v vs[j]) → bytesOf es = some l →
    (forIn vs acc fun c s => (match c with
      | .int .u8 n => pure (.yield (s.push (UInt8.ofNat n.toNat)))
      | _ => do
        stuck "bytesToString: byte expected"
        pure (.yield s) : Sem (ForInStep ByteArray))).run P w = .ok (acc ++ ByteArray.mk l.toArray) w
  | [],[],l,acc,_,_,hb => by
    cases hb
    have : acc ++ ByteArray.mk #[] = acc:=by apply ByteArray.ext; simp
    rw [this]; rfl
  | [],_ :: _,_,_,hl,_,_ => by simp at hl
  | _ :: _,[],_,_,hl,_,_ => by simp at hl
  | e :: es,v :: vs,l,acc,hl,hv,hb => by
    unfold bytesOf at hb
    split at hb <;> first | (cases hb; done) | skip
    rename_i b bs h1 h2
    cases hb
    obtain ⟨u,hu1,hu2⟩:=hv 0 (by simp) (by simp)
    simp only [List.getElem_cons_zero] at hu1 hu2
    subst hu1
    unfold byteOfE at h1
    split at h1 <;> first | (cases h1; done) | skip
    rename_i n heq
    cases heq
    cases h1
    cases hu2.int_inv
    have ih:=bytes_loop es vs bs (acc.push (UInt8.ofNat n.toNat)) (by simpa using hl) (fun j a b => by have:=hv (j + 1) (by simpa using a) (by simpa using b); simpa using this) h2
    rw [List.forIn_cons,run_bind,run_pure,Result.andThen_ok]
    simp only []
    rw [ih]
    congr 1
    apply ByteArray.ext
    simp
theorem bstr_run {fz:Nat → Prop} {h:Hp} {w:World} (r:Rel fz h w) {v u : AV} {cv:Value} (hv:VR fz w.heap v cv) (hb : bstrA h v = some u) :
  ∃ l,u = .str l∧(Conv.bytesToString cv).run P w = .ok (.string ⟨l.toArray⟩) w:=by
 unfold bstrA at hb
 split at hb <;> first | (cases hb; done) | skip
 rename_i es hns hes
 cases hl : bytesOf es with
 | none => rw [hl] at hb; cases hb
 | some l =>
  rw [hl] at hb
  cases hb
  refine ⟨l,rfl,?_⟩
  obtain ⟨s1,s2,s3⟩:=srcA_run (P:=P) r hv hes
  obtain ⟨vs,n1,n2,n3⟩:=s3 es.length (Nat.le_refl _)
  rw [List.take_length] at n3
  rw [Nat.mul_one] at n2
  have fin : ∀ (ad:Addr) (cap:Nat),cv = .slice (some ad) es.length cap → (Conv.bytesToString cv).run P w = .ok (.string ⟨l.toArray⟩) w:=fun ad cap hc => by
   subst hc
   have hload : (loadCells ad es.length).run P w = .ok vs w:=by
    have : (Builtin.firstCells 1 es.length (.slice (some ad) es.length cap)).run P w = (loadCells ad (es.length * 1)).run P w:=rfl
    rw [this,Nat.mul_one] at n1; exact n1
   have hlp:=bytes_loop (P:=P) (fz:=fz) (w:=w) es vs.toList l ByteArray.empty (by simpa using n2.symm) (fun j h1 h2 => by
    have hel:=s1 _ (List.getElem_mem h1)
    obtain ⟨x,hx⟩:=List.length_eq_one_iff.1 hel
    refine ⟨x,hx,?_⟩
    obtain ⟨c,g1,g2⟩:=n3 j 0 es[j] x (List.getElem?_eq_getElem h1) (by rw [hx]; rfl)
    have hj : j < vs.size:=by simpa using h2
    rw [cf,show 0 + j * 1 + 0 = j from by omega,Array.getElem?_eq_getElem hj] at g1
    rw [Array.getElem_toList,Option.some.inj g1]; exact g2) hl
   unfold Conv.bytesToString
   simp only []
   rw [run_bind,hload,Result.andThen_ok]
   have e0 : ByteArray.empty ++ ByteArray.mk l.toArray = ByteArray.mk l.toArray:=by apply ByteArray.ext; simp
   rw [e0] at hlp
   rw [← Array.forIn_toList]
   rw [run_bind]
   exact congrArg (fun r : Result ByteArray => r.andThen fun a w' => (pure (Value.string a) : Sem Value).run P w') hlp
  unfold srcA at hes
  split at hes <;> first | (cases hes; done) | skip
  ·cases hes; cases hl; cases hv.nils_inv; rfl
  ·cases hes
   obtain ⟨ad,cap,rfl⟩:=hv.emp_inv
   exact fin ad cap rfl
  ·split at hes <;> first | (cases hes; done) | skip
   cases hes
   obtain ⟨ad,cap,rfl⟩:=hv.lst_inv
   cases ad with
   | none =>
    cases hv with
    | lst0 => cases hl; rfl
   | some ad => exact fin ad cap rfl
  ·rename_i b s' off len cap
   split at hes <;> first | (cases hes; done) | skip
   split at hes <;> first | (cases hes; done) | skip
   rename_i hcc
   have hlen : es.length = len:=by cases hes; simp; omega
   obtain ⟨ad,rfl⟩:=hv.arr_some
   exact fin ad cap (by rw [hlen])
  ·exact absurd rfl (hns _)
theorem sim_bstr {s d el : TypeId} {x:Operand} {x' : AE} (ho : o.op = .convert s d x) (hs:P.underlying s = some (.slice el)) (hd:P.underlying d = some .string) (he' : P.underlying el = some (.int .u8)) (hx:AE.of x = some x') :
  OpOK P o (.load fun e h => bstrA h (x'.ev e)):=by
 refine OpOK.of_load fun fz e h a w he hr v hv => ?_
 have h1:=AE.of_ok hx he
 obtain ⟨l,rfl,h2⟩:=bstr_run (P:=P) hr h1 hv
 refine ⟨_,?_,.str l⟩
 simp only [execOp,ho]
 refine run_value _ ?_
 unfold convert
 rw [run_bind,run_underlying hs,Result.andThen_ok,run_bind,run_underlying hd,Result.andThen_ok]
 generalize a.eval x = cx at *
 cases cx <;> simp only [] <;> first | (rw [run_bind,run_underlying he',Result.andThen_ok]; exact h2) | (exfalso; revert h2; unfold Conv.bytesToString; simp; done)
end
end Go.Hz
/- Views: what is not written again. -/
namespace Go.Hz
def GV (v:AV) (h:Hp) (v' : AV) (h' : Hp) : Prop :=
 ∀ (fz:Nat → Prop) (w:World) (cv:Value),VR fz w.heap v cv → Rel fz h w → ∃ fz',VR fz' w.heap v' cv∧Rel fz' h' w∧Ext fz h w fz' h' w
theorem GV.refl (v:AV) (h:Hp) : GV v h v h:=fun fz w cv a b => ⟨fz,a,b,Ext.refl _ _ _⟩
theorem GV.trans {v v' v'' : AV} {h h' h'' : Hp} (a:GV v h v' h') (b:GV v' h' v'' h'') : GV v h v'' h'':=fun fz w cv x y => by
 obtain ⟨f1,a1,a2,a3⟩:=a fz w cv x y
 obtain ⟨f2,b1,b2,b3⟩:=b f1 w cv a1 a2
 exact ⟨f2,b1,b2,a3.trans b3⟩
theorem GV.arr {h:Hp} {b s len cap rc : Nat} {es:List (List AV)} (hb : h b = some (.row s es rc)) (hl : es.length = len) (hc : len ≤ cap) : GV (.arr b s 0 len cap) h (.lst es) (h.del b):=by
 intro fz w cv hv hr
 obtain ⟨hnf,c,hw,ho⟩:=hr.own b _ hb
 have hlt : b < w.heap.size:=(Array.getElem?_eq_some_iff.1 hw).1
 refine ⟨fun x => fz x ∨ x = b,?_,?_,?_⟩
 ·have hm : ∀ x,fz x → (fun x => fz x ∨ x = b) x:=fun x hx => .inl hx
  cases ho with
  | row _ _ _ c T fr hcap hs hcs hsoft hel =>
   have h0 : ∃ o,cv = .slice (some ⟨b,o,none⟩) len cap∧(o = 0 ∨ len = 0):=by
    cases hv with
    | arr => exact ⟨0 * s,rfl,.inl (by simp)⟩
    | arr0 _ _ _ o => exact ⟨o,rfl,.inr rfl⟩
   obtain ⟨o,rfl,ho⟩:=h0
   rcases ho with rfl | rfl
   ·subst hl
    refine .lst es b 0 s cap c T fr (.inr rfl) hw hc (fun i h => hs i h) (by rw [hcs]; have:=Nat.mul_le_mul_right s hcap; omega) fun i h1 k h2 h3 => ?_
    have:=hel i h1 k h2 (by omega)
    simp only [Nat.zero_add] at h3 ⊢
    exact this.mono hm fun _ _ => rfl
   ·have : es = []:=List.length_eq_zero_iff.1 hl
    subst this
    exact .lst0 _ _ (by simp)
 ·refine ⟨fun x hx => hx.elim (hr.lt x) (fun e => e ▸ hlt),fun x o hx => ?_⟩
  have hxb : x ≠ b:=fun e => by subst e; simp at hx
  rw [Hp.del_ne _ hxb] at hx
  obtain ⟨g1,c',g2,g3⟩:=hr.own x o hx
  exact ⟨fun e => e.elim g1 hxb,c',g2,g3.mono (fun _ e => .inl e) fun _ _ => rfl⟩
 ·refine ⟨rfl,rfl,rfl,Nat.le_refl _,fun _ h => .inl h,fun x hx hn => ⟨rfl,?_⟩,fun x hx => hx.elim .inl fun e => .inr (.inl ⟨_,e ▸ hb⟩)⟩
  by_cases hxb : x = b
  ·subst hxb; simp
  ·rwa [Hp.del_ne _ hxb]
theorem GV.trim (v:AV) {h:Hp} {b s cap : Nat} {es:List (List AV)} (k:Nat) (hb : h b = some (.row s es cap)) : GV v h v (h.set b (.row s (es.take k) cap)):=by
 intro fz w cv hv hr
 obtain ⟨hnf,c,hw,ho⟩:=hr.own b _ hb
 refine ⟨fz,hv,⟨hr.lt,fun x o hx => ?_⟩,⟨rfl,rfl,rfl,Nat.le_refl _,fun _ h => h,fun x hx hn => ⟨rfl,?_⟩,fun _ h => .inl h⟩⟩
 ·by_cases hxb : x = b
  ·subst hxb
   rw [Hp.set_same] at hx
   cases hx
   cases ho with
   | row _ _ _ c T fr hcap hs hcs hsoft hel =>
    refine ⟨hnf,_,hw,.row _ _ _ _ _ _ (by rw [List.length_take]; omega) (fun i hi => ?_) hcs hsoft fun i h1 k' h2 h3 => ?_⟩
    ·rw [List.getElem_take]; exact hs _ _
    ·simp only [List.getElem_take] at h2 ⊢
     exact hel i (by rw [List.length_take] at h1; omega) k' h2 h3
  ·rw [Hp.set_ne _ _ hxb] at hx
   exact hr.own x o hx
 ·have hxb : x ≠ b:=fun e => by subst e; rw [hb] at hn; cases hn
  rw [Hp.set_ne _ _ hxb]; exact hn
theorem getElem_mid {α:Type} {pre suf : List α} {v v' : α} {i:Nat} (h1 : i < (pre ++ v' :: suf).length) (h2 : i < (pre ++ v :: suf).length) (hi : i ≠ pre.length) : (pre ++ v' :: suf)[i] = (pre ++ v :: suf)[i]:=by
 by_cases hl : i < pre.length
 ·simp [List.getElem_append_left hl]
 ·have : 0 < i - pre.length:=by omega
  obtain ⟨j,hj⟩ : ∃ j,i - pre.length = j + 1:=⟨i - pre.length - 1,by omega⟩
  simp [List.getElem_append_right (Nat.le_of_not_lt hl),hj]
theorem GV.tup {v v' : AV} {h h' : Hp} (pre suf : List AV) (g:GV v h v' h') : GV (.tup (pre ++ v :: suf)) h (.tup (pre ++ v' :: suf)) h':=by
 intro fz w cv hv hr
 cases hv with
 | tup cs vs hl hvs =>
  have hp : pre.length < vs.size:=by rw [← hl]; simp
  have h0:=hvs pre.length (by simp) hp
  simp only [List.getElem_append_right (Nat.le_refl _),Nat.sub_self,List.getElem_cons_zero] at h0
  obtain ⟨fz',g1,g2,g3⟩:=g fz w _ h0 hr
  refine ⟨fz',.tup _ _ (by rw [← hl]; simp) fun i h1 h2 => ?_,g2,g3⟩
  by_cases hi : i = pre.length
  ·subst hi
   simpa only [List.getElem_append_right (Nat.le_refl _),Nat.sub_self,List.getElem_cons_zero] using g1
  ·have h3:=hvs i (by simp at h1 ⊢; omega) h2
   rw [getElem_mid h1 (v:=v) (by simp at h1 ⊢; omega) hi]
   exact h3.ext hr g3
theorem GV.agg {v v' : AV} {h h' : Hp} (pre suf : List AV) (g:GV v h v' h') : GV (.agg (pre ++ v :: suf)) h (.agg (pre ++ v' :: suf)) h':=by
 intro fz w cv hv hr
 cases hv with
 | agg cs vs hl hvs =>
  have hp : pre.length < vs.size:=by rw [← hl]; simp
  have h0:=hvs pre.length (by simp) hp
  simp only [List.getElem_append_right (Nat.le_refl _),Nat.sub_self,List.getElem_cons_zero] at h0
  obtain ⟨fz',g1,g2,g3⟩:=g fz w _ h0 hr
  refine ⟨fz',.agg _ _ (by rw [← hl]; simp) fun i h1 h2 => ?_,g2,g3⟩
  by_cases hi : i = pre.length
  ·subst hi
   simpa only [List.getElem_append_right (Nat.le_refl _),Nat.sub_self,List.getElem_cons_zero] using g1
  ·have h3:=hvs i (by simp at h1 ⊢; omega) h2
   rw [getElem_mid h1 (v:=v) (by simp at h1 ⊢; omega) hi]
   exact h3.ext hr g3
theorem GV.nils {h:Hp} : GV .nils h (.lst []) h:=fun fz w cv hv hr => ⟨fz,by cases hv; exact .lst0 none 0 (fun _ => rfl),hr,Ext.refl _ _ _⟩
end Go.Hz
/- Strings to bytes, function values that are called, cleared elements. -/
namespace Go.Hz
section
variable {P:Program} {o:Oper}
def strbO (x:AV) (h:Hp) (K:AV → Hp → Prop) : Prop :=
 match x with
 | .str l => ∀ n c,h n = none → l.length ≤ c → K (.arr n 1 0 l.length c) (h.set n (.row 1 (l.map eb) c))
 | _ => False
theorem OutOK.imp {s:Sem Next} {w:World} {R R' : Value → World → Prop} (h:OutOK P s w R) (hi:∀ v w',R v w' → R' v w') : OutOK P s w R':=by
 unfold OutOK at *
 generalize Sem.run P s w = r at *
 split at h
 ·exact hi _ _ h
 ·exact hi _ _ h
 ·exact h.mono fun e w'' ⟨cv,e1,e2⟩ => ⟨cv,e1,hi _ _ e2⟩
 ·exact RoundIn.mono h fun e w'' ⟨cv,e1,e2⟩ => ⟨cv,e1,hi _ _ e2⟩
 ·exact h.elim
def strbE (x:AV) (h:Hp) (K:AV → Hp → Prop) : Prop:=strbO x h K ∨ ∃ l,x = .str l∧K (.lst (l.map eb)) h
theorem freeze_push {w:World} {c:Array Value} {T:TypeId} :
  (pushed w (.cells c T (0,0))).freeze ⟨w.heap.size,c.size,none⟩ 1 = pushed w (.cells c T (c.size,c.size + 1)):=by
 unfold World.freeze pushed
 simp only [Nat.one_ne_zero,if_false]
 congr 1
 apply Array.ext_getElem?
 intro i
 rw [Array.getElem?_modify,Array.getElem?_push,Array.getElem?_push]
 by_cases hi : w.heap.size = i
 ·subst hi; simp
 ·simp [hi,Ne.symm hi]
theorem sim_strbO {s d el : TypeId} {x:Operand} {x' : AE} (ho : o.op = .convert s d x) (hs:P.underlying s = some .string) (hd:P.underlying d = some (.slice el)) (he' : P.underlying el = some (.int .u8)) (hx:AE.of x = some x') :
  OpOK P o (.eff fun e h K => strbO (x'.ev e) h K):=by
 intro fz e h a w K he hr hh
 have h1:=AE.of_ok hx he
 change strbO (x'.ev e) h K at hh
 unfold strbO at hh
 split at hh <;> first | exact hh.elim | skip
 rename_i l heq
 rw [heq] at h1
 have h2:=h1.str_inv
 let cap:=Question.cut (.appendCap l.length 0 el) (w.tape w.drawn (.appendCap l.length 0 el))
 have hcap : l.length ≤ cap:=by simp only [cap,Question.cut]; omega
 let elems : Array Value:=(l.map fun b => Value.int .u8 b.toNat).toArray
 let cells : Array Value:=elems ++ Array.replicate (cap - l.length) (.int .u8 0)
 have hsz : cells.size = cap:=by simp [cells,elems]; omega
 have hfl : Fl fz w.heap (l.map eb) 1 0 (cf cells):=by
  intro i k e' v hi hk
  rw [List.getElem?_map] at hi
  cases hb : l[i]? with
  | none => rw [hb] at hi; cases hi
  | some b =>
   rw [hb] at hi
   cases hi
   cases k with
   | succ k => simp [eb] at hk
   | zero =>
    simp [eb] at hk
    subst hk
    have hlt : i < l.length:=(List.getElem?_eq_some_iff.1 hb).1
    refine ⟨.int .u8 b.toNat,?_,.int _ _⟩
    simp only [cf,Nat.zero_add,Nat.mul_one,Nat.add_zero,cells]
    rw [Array.getElem?_append_left (by simp [elems]; exact hlt)]
    simp [elems,hb]
 have hor : OR fz w.heap (.row 1 (l.map eb) cap) (.cells cells el (cells.size,cells.size + 1)):=by
  refine OR.of_fl (by simpa using hcap) (fun e he => by obtain ⟨b,_,rfl⟩:=List.mem_map.1 he; rfl) (by rw [hsz,Nat.mul_one]) (.inr (Nat.le_refl _)) hfl
 have hr1 : Rel fz h { w with drawn:=w.drawn + 1 }:=hr.drew
 obtain ⟨m1,m2,m3⟩:=Rel.make (w := { w with drawn:=w.drawn + 1 }) hr1 hor
 refine OutOK.of_run (cv:=.slice (some ⟨w.heap.size,0,none⟩) l.length cap) (w':=pushed { w with drawn:=w.drawn + 1 } (.cells cells el (cells.size,cells.size + 1))) ?_
  ⟨_,_,fz,hh w.heap.size cap m1 hcap,?_,m2,Ext.drew.trans m3⟩
 ·simp only [execOp,ho]
  refine run_value _ ?_
  unfold convert
  rw [run_bind,run_underlying hs,Result.andThen_ok,run_bind,run_underlying hd,Result.andThen_ok,h2]
  simp only []
  rw [run_bind,run_underlying he',Result.andThen_ok]
  simp only []
  unfold Conv.stringToBytes
  have e1 : (ByteArray.mk l.toArray).size = l.length:=by simp [ByteArray.size]
  have e2 : Array.map (fun b : UInt8 => Value.int .u8 b.toNat) (ByteArray.mk l.toArray).data = elems:=by simp [elems]
  rw [run_bind,run_choose,e1]
  have hfo : (Question.appendCap l.length 0 el).forced = false:=rfl
  rw [hfo]
  simp only [Bool.false_eq_true,if_false,Result.andThen_ok,e2]
  rw [run_bind]
  have hnr : (newRow el cells).run P { w with drawn:=w.drawn + 1 } = .ok ⟨w.heap.size,0,none⟩ (pushed { w with drawn:=w.drawn + 1 } (.cells cells el (0,0))):=rfl
  have hnr' : (newRow el (elems ++ Array.replicate ((Question.appendCap l.length 0 el).cut (w.tape w.drawn (Question.appendCap l.length 0 el)) - l.length) (.int .u8 0))).run P { w with drawn:=w.drawn + 1 } = .ok ⟨w.heap.size,0,none⟩ (pushed { w with drawn:=w.drawn + 1 } (.cells cells el (0,0))):=hnr
  rw [hnr',Result.andThen_ok,run_bind]
  have hsh : (pushed { w with drawn:=w.drawn + 1 } (.cells cells el (0,0))).shape? w.heap.size = some (el,cells.size):=by
   unfold World.shape?
   have:=pushed_new (w := { w with drawn:=w.drawn + 1 }) (ob:=.cells cells el (0,0))
   simp only at this
   rw [this]
  have hms : (markStringish ⟨w.heap.size,0,none⟩).run P (pushed { w with drawn:=w.drawn + 1 } (.cells cells el (0,0))) = .ok () (pushed { w with drawn:=w.drawn + 1 } (.cells cells el (cells.size,cells.size + 1))):=by
   unfold markStringish
   rw [run_bind,run_shape,Result.andThen_ok,hsh]
   simp only []
   rw [run_freeze]
   congr 1
   exact freeze_push (w := { w with drawn:=w.drawn + 1 })
  rw [hms,Result.andThen_ok]
  rfl
 ·have:=VR.arr (fz:=fz) (H:=(pushed { w with drawn:=w.drawn + 1 } (.cells cells el (cells.size,cells.size + 1))).heap) w.heap.size 1 0 l.length cap
  simpa using this
theorem sim_strb {s d el : TypeId} {x:Operand} {x' : AE} (ho : o.op = .convert s d x) (hs:P.underlying s = some .string) (hd:P.underlying d = some (.slice el)) (he' : P.underlying el = some (.int .u8)) (hx:AE.of x = some x') :
  OpOK P o (.eff fun e h K => strbE (x'.ev e) h K):=by
 intro fz e h a w K he hr hh
 rcases hh with hh | ⟨l,hl,hk⟩
 ·exact sim_strbO ho hs hd he' hx fz e h a w K he hr hh
 ·refine OutOK.imp (sim_strbO ho hs hd he' hx fz e h a w (fun v h' => ∃ n c,h n = none∧l.length ≤ c∧v = .arr n 1 0 l.length c∧h' = h.set n (.row 1 (l.map eb) c)) he hr ?_) ?_
  ·show strbO (x'.ev e) h (fun v h' => ∃ n c,h n = none∧l.length ≤ c∧v = .arr n 1 0 l.length c∧h' = h.set n (.row 1 (l.map eb) c))
   rw [hl]
   exact fun n c hn hc => ⟨n,c,hn,hc,rfl,rfl⟩
  ·rintro cv w' ⟨v,h',fz',⟨n,c,hn,hc,rfl,rfl⟩,q2,q3,q4⟩
   obtain ⟨f2,g1,g2,g3⟩:=GV.arr (h:=h.set n (.row 1 (l.map eb) c)) (b:=n) (rc:=c) (es:=l.map eb) (by simp) (by simp) hc fz' w' cv q2 q3
   have e : (h.set n (.row 1 (l.map eb) c)).del n = h:=by
    funext x
    by_cases hx : x = n
    ·subst hx; simp [hn]
    ·rw [Hp.del_ne _ hx,Hp.set_ne _ _ hx]
   rw [e] at g2 g3
   exact ⟨_,_,f2,hk,g1,g2,q4.trans g3⟩
theorem good_strbO {x:AE} : (Sm.eff fun e h K => strbO (x.ev e) h K).good x.looks:=by
 refine ⟨fun e e' h K hh hf => ?_,fun e h K K' hk hf => ?_,fun e h K n ob hn hf => ?_⟩
 ·dsimp only at hf ⊢
  rwa [← AE.ev_congr (y:=x) fun t ht => hh t (by simp [ht])]
 ·dsimp only at hf ⊢
  unfold strbO at *
  split at hf <;> first | exact hf.elim | skip
  exact fun n c hn hc => hk _ _ (hf n c hn hc)
 ·dsimp only at hf ⊢
  unfold strbO at *
  split at hf <;> first | exact hf.elim | skip
  intro m c hm hc
  have hmn : m ≠ n:=fun hh => by rw [hh,Hp.set_same] at hm; cases hm
  rw [Hp.set_ne _ _ hmn] at hm
  exact ⟨_,by rw [Hp.set_ne _ _ (Ne.symm hmn)]; exact hn,Hp.set_comm _ _ _ (Ne.symm hmn),hf m c hm hc⟩
theorem good_strb {x:AE} : (Sm.eff fun e h K => strbE (x.ev e) h K).good x.looks:=by
 obtain ⟨a,b,c⟩:=good_strbO (x:=x)
 refine ⟨fun e e' h K hl hh => ?_,fun e h K K' hk hh => ?_,fun e h K n ob hn hh => ?_⟩
 ·rcases hh with hh | ⟨l,hl',hk⟩
  ·exact .inl (a e e' h K hl hh)
  ·exact .inr ⟨l,by rw [← AE.ev_congr hl]; exact hl',hk⟩
 ·rcases hh with hh | ⟨l,hl',hk'⟩
  ·exact .inl (b e h K K' hk hh)
  ·exact .inr ⟨l,hl',hk _ _ hk'⟩
 ·rcases hh with hh | ⟨l,hl',hk'⟩
  ·exact .inl (c e h K n ob hn hh)
  ·exact .inr ⟨l,hl',h,hn,rfl,hk'⟩
def FnOK (P:Program) (f:FuncId) : Prop := ∃ fn,P.funcs[f]? = some fn∧fn.name ≠ "runtime.NumGoroutine" ∧ fn.body.isSome = true
theorem Ext.frm {fz fz' : Nat → Prop} {h h' : Hp} {w w' : World} (x:Ext fz h w fz' h' w') {n:Nat} (ob ob' : AObj) (hn : h n = none) (hlt : n < w.heap.size) : Ext fz (h.set n ob) w fz' (h'.set n ob') w':=by
 obtain ⟨k1,k2⟩:=x.keep n hlt hn
 refine ⟨x.os,x.tape,x.output,x.size,x.grow,fun b hb hbn => ?_,fun b hb => ?_⟩
 ·have hne : b ≠ n:=fun hh => by rw [hh,Hp.set_same] at hbn; cases hbn
  rw [Hp.set_ne _ _ hne] at hbn ⊢
  exact x.keep b hb hbn
 ·rcases x.new b hb with h | ⟨o,h⟩ | h
  ·exact .inl h
  ·refine .inr (.inl ?_)
   by_cases hbn : b = n
   ·subst hbn; exact ⟨_,Hp.set_same _ _ _⟩
   ·exact ⟨o,by rw [Hp.set_ne _ _ hbn]; exact h⟩
  ·exact .inr (.inr h)
theorem Rel.frm {fz fz' : Nat → Prop} {h h' : Hp} {w w' : World} {n:Nat} {ob:AObj} (r:Rel fz (h.set n ob) w) (r' : Rel fz' h' w') (x:Ext fz h w fz' h' w') (hn : h n = none) : Rel fz' (h'.set n ob) w':=by
 have r0 : Rel fz h w:=r.sub fun b o hb => by
  have : b ≠ n:=fun hh => by rw [hh,hn] at hb; cases hb
  rw [Hp.set_ne _ _ this]; exact hb
 obtain ⟨hnf,c,hc1,hc2⟩:=r.own n ob (Hp.set_same _ _ _)
 have hlt : n < w.heap.size:=(Array.getElem?_eq_some_iff.1 hc1).1
 obtain ⟨k1,k2⟩:=x.keep n hlt hn
 refine ⟨r'.lt,fun b o hb => ?_⟩
 by_cases hbn : b = n
 ·subst hbn
  rw [Hp.set_same] at hb
  cases hb
  refine ⟨fun hf => ?_,c,k1.trans hc1,hc2.mono x.grow (r0.frozen x)⟩
  rcases x.new _ hf with h | ⟨o,h⟩ | h
  ·exact hnf h
  ·rw [hn] at h; cases h
  ·omega
 ·rw [Hp.set_ne _ _ hbn] at hb
  exact r'.own b o hb
def CodeT (P:Program) (n:Nat) (c:Code) (e:Env) (h:Hp) (post:Env → Hp → Prop) : Prop :=
 ∀ (fz:Nat → Prop) (l:Nat) (a:Act) (w:World),Mks 0 fz h w a.defers → St n fz e h a w → c.wpIn (FR (some l)) 0 P (fun ex a' w' => ex = .normal∧∃ fz' e' h',Mks 0 fz' h' w' a'.defers∧St n fz' e' h' a' w'∧Ext fz h w fz' h' w'∧post e' h') a w
theorem CodeT.mono {n:Nat} {c:Code} {e:Env} {h:Hp} {post post' : Env → Hp → Prop} (t:CodeT P n c e h post) (hp:∀ e h,post e h → post' e h) : CodeT P n c e h post' :=
 fun fz l a w hd hst => wpIn_mono (t fz l a w hd hst) fun _ _ _ ⟨h1,fz',e',h',h2,h3,h4,h5⟩ => ⟨h1,fz',e',h',h2,h3,h4,hp _ _ h5⟩
theorem CodeT.frame {n:Nat} {c:Code} {e:Env} {h:Hp} {post:Env → Hp → Prop} (t:CodeT P n c e h post) {m:Nat} {ob:AObj} (hn : h m = none) :
  CodeT P n c e (h.set m ob) fun e' h'' => ∃ h',h' m = none∧h'' = h'.set m ob∧post e' h':=by
 intro fz l a w hd hst
 have r0 : Rel fz h w:=hst.rel.sub fun b o hb => by
  have : b ≠ m:=fun hh => by rw [hh,hn] at hb; cases hb
  rw [Hp.set_ne _ _ this]; exact hb
 obtain ⟨hnf,c,hc1,hc2⟩:=hst.rel.own m ob (Hp.set_same _ _ _)
 have hlt : m < w.heap.size:=(Array.getElem?_eq_some_iff.1 hc1).1
 have hd0 : Mks 0 fz h w a.defers:=hd.sub fun r hr => by
  have : r ≠ m:=fun hh => by rw [hh,Hp.set_same] at hr; cases hr
  rwa [Hp.set_ne _ _ this] at hr
 refine wpIn_mono (t fz l a w hd0 ⟨hst.size,hst.env,r0⟩) fun ex a' w' ⟨h1,fz',e',h',h2,h3,h4,h5⟩ => ?_
 have rr:=hst.rel.frm h3.rel h4 hn
 obtain ⟨_,c',hc1',hc2'⟩:=rr.own m ob (Hp.set_same _ _ _)
 exact ⟨h1,fz',e',h'.set m ob,h2.frm hc1' hc2',⟨h3.size,h3.env,rr⟩,h4.frm ob ob hn hlt,h',(h4.keep m hlt hn).2,rfl,h5⟩
def putPs (e:Env) : List Nat → List AV → Env
 | t :: ts,v :: vs => putPs (e.upd t v) ts vs
 | _,_ => e
theorem putPs_ok {fz:Nat → Prop} {H:Array Obj} {n:Nat} : ∀ {ps:List Nat} {args:List AV} {cargs:List Value} {e:Env} {tmps:Array Value},(∀ t ∈ ps,t < n) → tmps.size = n → EnvR fz H e tmps → VRs fz H args cargs →
  EnvR fz H (putPs e ps args) ((ps.zip cargs).foldl (fun tmps (x:Nat × Value) => tmps.setIfInBounds x.1 x.2) tmps)∧((ps.zip cargs).foldl (fun tmps (x:Nat × Value) => tmps.setIfInBounds x.1 x.2) tmps).size = n
 | [],args,cargs,e,tmps,_,hs,he,_ => by
  cases args <;> exact ⟨he,hs⟩
 | t :: ps,[],cargs,e,tmps,_,hs,he,hv => by
  have : cargs = []:=List.eq_nil_of_length_eq_zero hv.1.symm
  subst this
  exact ⟨he,hs⟩
 | t :: ps,v :: vs,[],e,tmps,_,hs,he,hv => absurd hv.1 (by simp)
 | t :: ps,v :: vs,c :: cs,e,tmps,hp,hs,he,hv => by
  have h1 : VRs fz H vs cs:=⟨by have:=hv.1; simpa using this,fun i a b => by have:=hv.2 (i + 1) (by simpa using a) (by simpa using b); simpa using this⟩
  have h0 : VR fz H v c:=hv.2 0 (by simp) (by simp)
  have h2 : EnvR fz H (e.upd t v) (tmps.setIfInBounds t c):=EnvR.put (a:=⟨tmps,[]⟩) (d:=some t) he h0 (fun t' ht' => by cases ht'; simpa [hs] using hp t (by simp))
  have:=putPs_ok (ps:=ps) (args:=vs) (cargs:=cs) (e:=e.upd t v) (tmps:=tmps.setIfInBounds t c) (fun t ht => hp t (List.mem_cons_of_mem _ ht)) (by simpa using hs) h2 h1
  simpa [putPs] using this
def callvE (P:Program) (x:AV) (args:List AV) (h:Hp) (K:AV → Hp → Prop) : Prop :=
 match x with
 | .fn f caps => FnOK P f∧Triple P f (args ++ caps) h K
 | .yl l => match h l with
  | some (.lp n e ps asg bd) => args.length = ps.length∧(∀ t ∈ ps,t < n) ∧
    CodeT P n asg (putPs e ps args) (h.del l) fun e1 h1 => CodeT P n bd e1 h1 fun _ h2 => h2 l = none → K (.bool true) (h2.set l (.lp n e ps asg bd))
  | _ => False
 | _ => False
theorem Ext.putObj {fz:Nat → Prop} {h:Hp} {w:World} {l:Nat} {o:Obj} {ob:AObj} (hl : h l = some ob) : Ext fz h w fz h (w.putObj l o):=by
 refine ⟨rfl,rfl,rfl,by simp [World.putObj],fun _ h => h,fun b hb hn => ?_,fun _ h => .inl h⟩
 exact ⟨World.putObj_heap_other (fun e => by rw [e,hl] at hn; cases hn),hn⟩
theorem Rel.putObj {fz:Nat → Prop} {h:Hp} {w:World} {l:Nat} {o:Obj} (r:Rel fz h w) (hl : h l = none) (hf:¬ fz l) : Rel fz h (w.putObj l o):=by
 have hk : ∀ b,fz b → (w.putObj l o).heap[b]? = w.heap[b]?:=fun b hb => World.putObj_heap_other (fun e => hf (e ▸ hb))
 refine ⟨fun b hb => by simpa [World.putObj] using r.lt b hb,fun b ob hb => ?_⟩
 obtain ⟨h1,c,h2,h3⟩:=r.own b ob hb
 exact ⟨h1,c,(World.putObj_heap_other (fun e => by rw [e,hl] at hb; cases hb)).trans h2,h3.mono (fun _ h => h) hk⟩
theorem EnvR.putObj {fz:Nat → Prop} {w:World} {e:Env} {tmps:Array Value} {l:Nat} {o:Obj} (he:EnvR fz w.heap e tmps) (hf:¬ fz l) : EnvR fz (w.putObj l o).heap e tmps :=
 fun t => (he t).mono (fun _ h => h) fun _ hb => World.putObj_heap_other (fun e => hf (e ▸ hb))
theorem round_yl {l n : Nat} {e:Env} {ps:List Nat} {asg bd : Code} {args:List AV} {h:Hp} {K:AV → Hp → Prop} {fz:Nat → Prop} {w:World} {cargs:Array Value} (hl : h l = some (.lp n e ps asg bd))
  (hlen : args.length = ps.length) (hps:∀ t ∈ ps,t < n) (hr:Rel fz h w) (ha:VRs fz w.heap args cargs.toList)
  (ht:CodeT P n asg (putPs e ps args) (h.del l) fun e1 h1 => CodeT P n bd e1 h1 fun _ h2 => h2 l = none → K (.bool true) (h2.set l (.lp n e ps asg bd))) :
  ∃ f tmps,(Instr.yield l cargs).run P w = .ok (.round l f tmps asg bd) w∧RoundIn (FR none) 0 P l f tmps asg bd w fun ed w'' => ∃ cv,ed = .returned cv∧After fz h w K cv w'':=by
 obtain ⟨hnf,c,hc,ho⟩:=hr.own l _ hl
 cases ho with
 | lp _ _ _ _ _ f tmps ds hs henv =>
 have hlt : l < w.heap.size:=(Array.getElem?_eq_some_iff.1 hc).1
 have hsz : cargs.size = ps.length:=by have:=ha.1; simp at this; omega
 have hy:=run_yield (P:=P) (args:=cargs) hc (by simpa using hsz)
 obtain ⟨p1,p2⟩:=putPs_ok hps hs henv ha
 have hfold : (ps.toArray.zip cargs).foldl (fun tmps (x:Nat × Value) => tmps.setIfInBounds x.1 x.2) tmps = (ps.zip cargs.toList).foldl (fun tmps (x:Nat × Value) => tmps.setIfInBounds x.1 x.2) tmps:=by
  rw [← Array.foldl_toList]; simp
 have hy2 : (Instr.yield l cargs).run P w = .ok (.round l f ((ps.toArray.zip cargs).foldl (fun tmps (x:Nat × Value) => tmps.setIfInBounds x.1 x.2) tmps) asg bd) w:=hy
 rw [hfold] at hy2
 refine ⟨f,_,hy2,roundIn_of_wpIn trivial ?_⟩
 have hd : (h.del l) l = none:=Hp.del_same _ _
 have hdl : ∀ ob : AObj,h l = some ob → (h.del l).set l ob = h:=fun ob hob => by
  funext b
  by_cases hb : b = l
  ·subst hb; rw [Hp.set_same,hob]
  ·rw [Hp.set_ne _ _ hb,Hp.del_ne _ hb]
 have r0 : Rel fz (h.del l) w:=hr.sub fun b o hb => by
  by_cases h' : b = l
  ·subst h'; rw [hd] at hb; cases hb
  ·rw [Hp.del_ne _ h'] at hb; exact hb
 have nof : ∀ {fz1 h1 w1},Ext fz (h.del l) w fz1 h1 w1 → ¬ fz1 l:=fun x hf => by
  rcases x.new l hf with h | ⟨o,h⟩ | h
  ·exact hnf h
  ·rw [hd] at h; cases h
  ·omega
 refine wpIn_mono (ht fz l _ w Mks.nil ⟨p2,p1,r0⟩) ?_
 rintro ex a1 w1 ⟨rfl,fz1,e1,h1,hd1,st1,x1,t1⟩
 obtain ⟨k1,n1⟩:=x1.keep l hlt hd
 have hc1:=k1.trans hc
 have hb:=run_beginRound (P:=P) hc1 rfl
 refine ⟨_,hb,?_⟩
 obtain ⟨w2,hw2⟩ : ∃ w2,w1.putObj l (.loop { ({ state:=.ready,pending:=none,fn:=f,tmps,params:=ps.toArray,assign:=asg,body:=bd,defers:=ds } : Loop) with state:=.busy }) = w2:=⟨_,rfl⟩
 rw [hw2]
 have hlt1 : l < w1.heap.size:=(Array.getElem?_eq_some_iff.1 hc1).1
 have nf1:=nof x1
 have st2 : St n fz1 e1 h1 a1 w2:=by rw [← hw2]; exact ⟨st1.size,st1.env.putObj nf1,st1.rel.putObj n1 nf1⟩
 have hc2 : w2.heap[l]? = some (.loop { ({ state:=.ready,pending:=none,fn:=f,tmps,params:=ps.toArray,assign:=asg,body:=bd,defers:=ds } : Loop) with state:=.busy }):=by
  rw [← hw2]; exact World.putObj_heap_same hlt1
 have hlt2 : l < w2.heap.size:=(Array.getElem?_eq_some_iff.1 hc2).1
 refine wpIn_mono (t1 fz1 l a1 w2 (by rw [← hw2]; exact hd1.putObj hc1) st2) ?_
 rintro ex a3 w3 ⟨rfl,fz3,e3,h3,hd3,st3,x3,hk⟩
 obtain ⟨k3,n3⟩:=x3.keep l hlt2 n1
 have hc3:=k3.trans hc2
 have hlt3 : l < w3.heap.size:=(Array.getElem?_eq_some_iff.1 hc3).1
 have he:=run_endRound (P:=P) none hc3
 refine ⟨_,_,he,_,rfl,.bool true,h3.set l (.lp n e ps asg bd),fz3,hk n3,.bool true,?_,?_⟩
 ·have X1:=x1.frm (.lp n e ps asg bd) (.lp n e ps asg bd) hd hlt
  have nf3 : ¬ fz3 l:=fun hf => by
   rcases x3.new l hf with h | ⟨o,h⟩ | h
   ·exact nf1 h
   ·rw [n1] at h; cases h
   ·omega
  have rr:=st3.rel.putObj (o:=.loop { ({ state:=.ready,pending:=none,fn:=f,tmps,params:=ps.toArray,assign:=asg,body:=bd,defers:=ds } : Loop) with state:=if (none:Option Code).isNone then .ready else .done,pending:=none }) n3 nf3
  refine ⟨rr.lt,fun b o hb => ?_⟩
  by_cases hbl : b = l
  ·subst hbl
   rw [Hp.set_same] at hb
   cases hb
   refine ⟨nf3,_,World.putObj_heap_same hlt3,?_⟩
   refine .lp n e ps asg bd f tmps ds hs fun t => ?_
   have g1:=(henv t).ext r0 x1
   have g2 : VR fz1 w2.heap (e t) (tmps.getD t undef):=by
    rw [← hw2]; exact g1.mono (fun _ h => h) fun b hb => World.putObj_heap_other (fun e => nf1 (e ▸ hb))
   have g3:=g2.ext st2.rel x3
   exact g3.mono (fun _ h => h) fun b' hb' => World.putObj_heap_other (fun e => nf3 (e ▸ hb'))
  ·rw [Hp.set_ne _ _ hbl] at hb
   exact rr.own b o hb
 ·have X1:=x1.frm (.lp n e ps asg bd) (.lp n e ps asg bd) hd hlt
  rw [hdl _ hl] at X1
  have X2 : Ext fz1 (h1.set l (.lp n e ps asg bd)) w1 fz1 (h1.set l (.lp n e ps asg bd)) w2:=by rw [← hw2]; exact Ext.putObj (Hp.set_same _ _ _)
  have X3:=x3.frm (.lp n e ps asg bd) (.lp n e ps asg bd) n1 hlt2
  exact ((X1.trans X2).trans X3).trans (Ext.putObj (Hp.set_same _ _ _))
theorem sim_callv {x:Operand} {x' : AE} {args:Array Operand} {ats:Array TypeId} {args' : List AE} (ho : o.op = .call { callee:=.value x,args,argTypes:=ats }) (hx:AE.of x = some x') (ha:AE.ofL args.toList = some args') :
  OpOK P o (.eff fun e h K => callvE P (x'.ev e) (args'.map (·.ev e)) h K):=by
 intro fz e h a w K he hr hh
 have h0:=AE.of_ok hx he
 have h1:=AE.ofL_ok he ha
 change callvE P (x'.ev e) (args'.map (·.ev e)) h K at hh
 unfold callvE at hh
 split at hh <;> first | exact hh.elim | skip
 rotate_left
 ·rename_i l heq
  rw [heq] at h0
  have h2:=h0.yl_inv
  split at hh <;> first | exact hh.elim | skip
  rename_i n' e' ps asg bd hl
  obtain ⟨q1,q2,q3⟩:=hh
  obtain ⟨f,tmps,g1,g2⟩:=round_yl (cargs:=Array.map a.eval args) hl q1 q2 hr (by simpa using h1) q3
  have hrun : (execOp a.eval o).run P w = .ok (.round l f tmps asg bd) w:=by
   simp only [execOp,ho,resolve,Deferred.ofValue,h2]
   rw [run_bind,run_pure,Result.andThen_ok]
   unfold invoke
   simp only [Array.empty_append]
   simpa using g1
  unfold OutOK
  rw [hrun]
  exact g2
 rename_i f caps heq
 obtain ⟨⟨fn,hf,hn,hb⟩,ht⟩:=hh
 rw [heq] at h0
 obtain ⟨vs,h2,h3⟩:=h0.fn_inv
 have hrun : (execOp a.eval o).run P w = .ok (.enter f (Array.map a.eval args ++ vs)) w:=by
  simp only [execOp,ho,resolve,Deferred.ofValue,h2]
  rw [run_bind,run_pure,Result.andThen_ok]
  unfold invoke
  simp only [Array.empty_append]
  exact callFunc_run hf hn hb _ _
 refine OutOK.of_enter hrun ?_
 refine (ht fz w (Array.map a.eval args ++ vs) hr (by
  have:=VRs.append (by simpa using h1) h3
  simpa using this)).mono ?_
 rintro ed w' ⟨cv,rv,h',fz',rfl,h2,h3,h4,h5⟩
 exact ⟨cv,rfl,rv,h',fz',h5,h2,h3,h4⟩
theorem good_callv {x:AE} {args:List AE} : (Sm.eff fun e h K => callvE P (x.ev e) (args.map (·.ev e)) h K).good (x.looks ++ args.flatMap AE.looks):=by
 refine ⟨fun e e' h K hh hf => ?_,fun e h K K' hk hf => ?_,fun e h K n ob hn hf => ?_⟩
 ·dsimp only at hf ⊢
  rwa [← AE.ev_congr (y:=x) fun t ht => hh t (by simp [ht]),← evs_congr fun t ht => hh t (by simp only [List.mem_append]; exact .inr ht)]
 ·dsimp only at hf ⊢
  unfold callvE at *
  split at hf <;> first | exact hf.elim | skip
  ·exact ⟨hf.1,hf.2.mono hk⟩
  ·split at hf <;> first | exact hf.elim | skip
   exact ⟨hf.1,hf.2.1,hf.2.2.mono fun _ _ t => t.mono fun _ _ q n => hk _ _ (q n)⟩
 ·dsimp only at hf ⊢
  unfold callvE at *
  split at hf <;> first | exact hf.elim | skip
  ·exact ⟨hf.1,hf.2.frame hn⟩
  ·rename_i l heq
   split at hf <;> first | exact hf.elim | skip
   rename_i n' e' ps asg bd hl
   have hnl : n ≠ l:=fun hh => by rw [hh,hl] at hn; cases hn
   rw [Hp.set_ne _ _ (Ne.symm hnl),hl]
   have hds : (h.set n ob).del l = (h.del l).set n ob:=by
    funext b
    simp only [Hp.del,Hp.set]
    split <;> split <;> simp_all
   refine ⟨hf.1,hf.2.1,?_⟩
   rw [hds]
   refine (hf.2.2.frame (by rw [Hp.del_ne _ hnl]; exact hn)).mono ?_
   rintro e1 _ ⟨h1,q1,rfl,q2⟩
   refine (q2.frame q1).mono ?_
   rintro e2 _ ⟨h2,q3,rfl,q4⟩ hnn
   rw [Hp.set_ne _ _ (Ne.symm hnl)] at hnn
   exact ⟨h2.set l (.lp n' e' ps asg bd),by rw [Hp.set_ne _ _ hnl]; exact q3,Hp.set_comm _ _ _ hnl,q4 hnn⟩
theorem srcN_set {s:Nat} {h:Hp} {y:AV} {ys:List (List AV)} {m n : Nat} {ob:AObj} (hs : srcN s h y m = some ys) (hn : h n = none) : srcN s (h.set n ob) y m = some ys:=by
 have key : ∀ z : Option (List (List AV)),(match srcA s h y with
  | some es => if m ≤ es.length then some (es.take m) else none
  | none => none) = some ys → (match srcA s (h.set n ob) y with
  | some es => if m ≤ es.length then some (es.take m) else none
  | none => none) = some ys:=fun _ hs => by
  split at hs <;> first | (cases hs; done) | skip
  rename_i es he
  rw [srcA_set he hn]; exact hs
 cases y with
 | arr b s' off len cap =>
  simp only [srcN] at hs ⊢
  have hbn : b ≠ n:=fun hh => by rw [hh,hn] at hs; cases hs
  rwa [Hp.set_ne _ _ hbn]
 | _ => exact key none hs
theorem good_cp {s:Nat} {x y : AE} : (Sm.eff fun e h K => cpE s (x.ev e) (y.ev e) h K).good (x.looks ++ y.looks):=by
 refine ⟨fun e e' h K hh hf => ?_,fun e h K K' hk hf => ?_,fun e h K n ob hn hf => ?_⟩
 ·dsimp only at hf ⊢
  rwa [← AE.ev_congr (y:=x) fun t ht => hh t (by simp [ht]),← AE.ev_congr (y:=y) fun t ht => hh t (by simp [ht])]
 ·obtain ⟨ln,ld,ys,h1,h2,h4,h5,h3⟩:=hf
  refine ⟨ln,ld,ys,h1,h2,h4,h5,?_⟩
  split at h3
  ·exact hk _ _ h3
  ·split at h3 <;> first | exact h3.elim | skip
   obtain ⟨a1,a2,a3,a4,a5,a6⟩:=h3
   exact ⟨a1,a2,a3,a4,a5,hk _ _ a6⟩
  ·exact h3.elim
 ·obtain ⟨ln,ld,ys,h1,h2,h4,h5,h3⟩:=hf
  refine ⟨ln,ld,ys,h1,h2,srcN_set h4 hn,h5,?_⟩
  split at h3
  ·exact ⟨h,hn,rfl,h3⟩
  ·rename_i b s' off len cap _
   have hbn : b ≠ n:=fun hh => by rw [hh,hn] at h3; exact h3.elim
   rw [Hp.set_ne _ _ hbn]
   split at h3 <;> first | exact h3.elim | skip
   obtain ⟨a1,a2,a3,a4,a5,a6⟩:=h3
   exact ⟨a1,a2,a3,a4,a5,_,by rw [Hp.set_ne _ _ (Ne.symm hbn)]; exact hn,Hp.set_comm _ _ _ (Ne.symm hbn),a6⟩
  ·exact h3.elim
theorem stA_set {sz:Nat} {h h' : Hp} {p v : AV} {n:Nat} {ob:AObj} (hs : stA sz h p v = some h') (hn : h n = none) : h' n = none∧stA sz (h.set n ob) p v = some (h'.set n ob):=by
 unfold stA at hs ⊢
 split at hs <;> first | (cases hs; done) | skip
 rename_i b s i k
 have hbn : b ≠ n:=fun hh => by rw [hh,hn] at hs; cases hs
 rw [Hp.set_ne _ _ hbn]
 split at hs <;> first | (cases hs; done) | skip
 split at hs <;> first | (cases hs; done) | skip
 rename_i hcs
 split at hs <;> first | (cases hs; done) | skip
 rename_i hc
 cases hs
 refine ⟨by rw [Hp.set_ne _ _ (Ne.symm hbn)]; exact hn,?_⟩
 rw [if_pos hc,Hp.set_comm _ _ _ (Ne.symm hbn)]
theorem good_st {sz:Nat} {x y : AE} : (Sm.eff fun e h K => ∃ h',stA sz h (x.ev e) (y.ev e) = some h'∧K (.tup []) h').good (x.looks ++ y.looks):=by
 refine ⟨fun e e' h K hh hf => ?_,fun e h K K' hk hf => ?_,fun e h K n ob hn hf => ?_⟩
 ·dsimp only at hf ⊢
  rwa [← AE.ev_congr (y:=x) fun t ht => hh t (by simp [ht]),← AE.ev_congr (y:=y) fun t ht => hh t (by simp [ht])]
 ·obtain ⟨h',h1,h2⟩:=hf
  exact ⟨h',h1,hk _ _ h2⟩
 ·obtain ⟨h',h1,h2⟩:=hf
  obtain ⟨h3,h4⟩:=stA_set (ob:=ob) h1 hn
  exact ⟨_,h4,h',h3,rfl,h2⟩
theorem cellsAt_set {h:Hp} {v:AV} {cs:List AV} {n:Nat} {ob:AObj} (hs : cellsAt h v = some cs) (hn : h n = none) : cellsAt (h.set n ob) v = some cs:=by
 unfold cellsAt at hs ⊢
 split at hs <;> first | exact hs | skip
 rename_i b s' off len
 have hbn : b ≠ n:=fun hh => by rw [hh,hn] at hs; cases hs
 rw [Hp.set_ne _ _ hbn]; exact hs
def readsOf : AV → List Nat
 | .ptr b _ _ _ => [b]
 | .arr b _ _ _ _ => [b]
 | .map b => [b]
 | _ => []
theorem cellsAt_loc {h h' : Hp} {v:AV} (hh:∀ b ∈ readsOf v,h b = h' b) : cellsAt h v = cellsAt h' v:=by
 unfold cellsAt
 split
 ·rw [hh _ (by simp [readsOf])]
 ·rfl
 ·rfl
theorem srcA_loc {s:Nat} {h h' : Hp} {v:AV} (hh:∀ b ∈ readsOf v,h b = h' b) : srcA s h v = srcA s h' v:=by
 unfold srcA
 split <;> first | rfl | skip
 rw [hh _ (by simp [readsOf])]
theorem good_ld {sz:Nat} {ag:Bool} {x:AE} : (Sm.load fun e h => ldA sz ag h (x.ev e)).good x.looks:=by
 refine ⟨fun e e' h hh => ?_,fun e h v n ob hf hn => ?_,fun e => ⟨readsOf (x.ev e),fun h h' hh => ?_⟩⟩
 ·dsimp only
  rw [AE.ev_congr (y:=x) fun t ht => hh t ht]
 ·dsimp only at hf ⊢
  unfold ldA at hf ⊢
  split at hf <;> first | (cases hf; done) | skip
  rename_i cs hcs
  rw [cellsAt_set hcs hn]; exact hf
 ·dsimp only
  unfold ldA
  rw [cellsAt_loc hh]
theorem good_bstr {x:AE} : (Sm.load fun e h => bstrA h (x.ev e)).good x.looks:=by
 refine ⟨fun e e' h hh => ?_,fun e h v n ob hf hn => ?_,fun e => ⟨readsOf (x.ev e),fun h h' hh => ?_⟩⟩
 ·dsimp only
  rw [AE.ev_congr (y:=x) fun t ht => hh t ht]
 ·dsimp only at hf ⊢
  unfold bstrA at hf ⊢
  cases hes : srcA 1 h (x.ev e) with
  | none => rw [hes] at hf; split at hf <;> simp_all
  | some es => rw [srcA_set hes hn]; rw [hes] at hf; exact hf
 ·dsimp only
  unfold bstrA
  rw [srcA_loc hh]
end
end Go.Hz
/- Arrays; bytes converted to bytes. -/
namespace Go.Hz
section
variable {P:Program} {o:Oper}
theorem sim_bldA {t el : TypeId} {len:Nat} {i ie : TypeInfo} {z:Value} {zs:List AV} {parts:Array (Nat × Operand)} {qs:List (Nat × Nat × AE)} (ho : o.op = .build t parts) (hd:P.underlying t = some (.array len el)) (hi:P.info? t = some i)
    (hie:P.info? el = some ie) (hz : i.zero = some z) (hzs : zeroA z = some zs) (hq:AE.ofParts (fun i => some (i * ie.size,ie.size)) parts.toList = some qs) :
    OpOK P o (.pure fun e => (fillA zs (evParts e qs)).map .agg):=by
  refine OpOK.of_pure fun fz e a w he v hv => ?_
  obtain ⟨g1,g2⟩:=AE.ofParts_ok he hq
  cases hf : fillA zs (evParts e qs) with
  | none => rw [hf] at hv; cases hv
  | some out =>
    rw [hf] at hv
    cases hv
    obtain ⟨c',h1,h2⟩:=fill_run (place:=fun i => some (i * ie.size,ie.size)) (parts.toList.map fun p => (p.1,a.eval p.2)) (evParts e qs) zs z.cells out (by simp [evParts,g1])
      (fun j a b => by
        have:=g2 j (by simpa using a) (by simpa [evParts] using b)
        simpa [evParts] using this) (zeroA_ok hzs fz w.heap) hf
    have hl:=h2.1
    simp only [Array.length_toList] at hl
    refine ⟨.agg c',?_,.agg _ _ hl fun j a b => h2.2 j a (by simpa using b)⟩
    simp only [execOp,ho]
    refine run_value _ ?_
    unfold Instr.build
    rw [run_bind,run_zero hi hz,Result.andThen_ok,run_bind,run_underlying hd,Result.andThen_ok]
    simp only []
    rw [run_bind,run_sizeOf hie,Result.andThen_ok]
    have e1 : (Array.map (fun x => match x with | (i,x) => (i,a.eval x)) parts).toList = parts.toList.map fun p => (p.1,a.eval p.2):=by
      rw [Array.toList_map]
    rw [e1,h1]
    rfl
def iapA (n s : Nat) (p i : AV) : Option AV :=
 match i with
 | .int _ k => if 0 ≤ k∧k < n then faA (k.toNat * s) p else none
 | _ => none
theorem sim_iap {t el : TypeId} {n:Nat} {i:TypeInfo} {x y : Operand} {x' y' : AE} (ho : o.op = .indexAddr t x y) (ht:P.underlying t = some (.array n el)) (hi:P.info? el = some i) (hx:AE.of x = some x') (hy:AE.of y = some y') :
  OpOK P o (.pure fun e => iapA n i.size (x'.ev e) (y'.ev e)):=by
 refine OpOK.of_pure fun fz e a w he v hv => ?_
 have h1:=AE.of_ok hx he
 have h2:=AE.of_ok hy he
 simp only [execOp,ho]
 generalize a.eval x = cx at *
 generalize a.eval y = cy at *
 generalize x'.ev e = ax at *
 generalize y'.ev e = ay at *
 have key : ∀ (ad:Addr) (k:IntKind) (m:Int),cx = .pointer (some ad) → cy = .int k m → 0 ≤ m → m < n →
   (Instr.indexAt t cx cy).run P w = .ok (.pointer (some (ad.add (m.toNat * i.size)))) w:=fun ad k m hc hc' h0 hn => by
  subst hc hc'
  unfold Instr.indexAt
  simp [run_underlying ht,asIntOf,h0,hn,run_sizeOf hi,Instr.sureAddr]
 unfold iapA at hv
 split at hv <;> first | (cases hv; done) | skip
 rename_i k m
 cases h2.int_inv
 split at hv <;> first | (cases hv; done) | skip
 rename_i hc
 unfold faA at hv
 split at hv
 ·cases hv; cases h1.ptr_inv
  refine ⟨_,run_value _ (key _ _ _ rfl rfl hc.1 hc.2),?_⟩
  rw [Addr.add_none,Nat.add_assoc]; exact .ptr _ _ _ _
 ·split at hv
  ·rename_i hl
   cases hv
   obtain ⟨b,o',rfl,h2⟩:=h1.ro_drop hl
   refine ⟨_,run_value _ (key _ _ _ rfl rfl hc.1 hc.2),?_⟩
   rw [Addr.add_none]; exact h2
  ·cases hv
 ·cases hv
def ixaA (n s : Nat) (ag:Bool) (x i : AV) : Option AV :=
 match x,i with
 | .agg cs,.int _ k => if 0 ≤ k∧k < n then partA cs (k.toNat * s) s ag else none
 | _,_ => none
theorem sim_ixa {t el : TypeId} {n:Nat} {i:TypeInfo} {d:TypeDesc} {x y : Operand} {x' y' : AE} (ho : o.op = .index t x y) (ht:P.underlying t = some (.array n el)) (hi:P.info? el = some i) (hd:P.underlying el = some d)
  (hx:AE.of x = some x') (hy:AE.of y = some y') : OpOK P o (.pure fun e => ixaA n i.size d.isAg (x'.ev e) (y'.ev e)):=by
 refine OpOK.of_pure fun fz e a w he v hv => ?_
 have h1:=AE.of_ok hx he
 have h2:=AE.of_ok hy he
 simp only [execOp,ho]
 generalize a.eval x = cx at *
 generalize a.eval y = cy at *
 generalize x'.ev e = ax at *
 generalize y'.ev e = ay at *
 unfold ixaA at hv
 split at hv <;> first | (cases hv; done) | skip
 split at hv <;> first | (cases hv; done) | skip
 rename_i k m hc
 cases h2.int_inv
 obtain ⟨vs,rfl,h3⟩:=h1.agg_inv
 obtain ⟨cv,h4,h5⟩:=part_run hd hi h3 hv
 refine ⟨cv,run_value _ ?_,h5⟩
 unfold Instr.index
 simp [run_underlying ht,asIntOf,hc.1,hc.2,run_sizeOf hi,h4]
def cvbE (x:AV) (h:Hp) (K:AV → Hp → Prop) : Prop :=
 match x with
 | .arr b s off len cap => (match h b with | some (.row _ _ _) => True | _ => False)∧0 < cap∧K (.arr b s off len cap) h
 | _ => False
theorem sim_cvb {s el : TypeId} {x:Operand} {x' : AE} (ho : o.op = .convert s s x) (hs:P.underlying s = some (.slice el)) (he' : P.underlying el = some (.int .u8)) (hx:AE.of x = some x') :
  OpOK P o (.eff fun e h K => cvbE (x'.ev e) h K):=by
 intro fz e h a w K he hr hh
 have h1:=AE.of_ok hx he
 change cvbE (x'.ev e) h K at hh
 unfold cvbE at hh
 split at hh <;> first | exact hh.elim | skip
 rename_i b sz off len cap heq
 obtain ⟨hrow,hcap,k⟩:=hh
 rw [heq] at h1
 split at hrow <;> first | exact hrow.elim | skip
 rename_i s'' es rc hb
 obtain ⟨hnf,c,T,fr,g1,g2,g3,g4,g5,g6⟩:=hr.row hb
 have hv : a.eval x = .slice (some ⟨b,off * sz,none⟩) len cap:=by
  generalize a.eval x = cx at *
  cases h1 with
  | arr => rfl
  | arr0 => omega
 let fr' : Nat × Nat:=if fr.1 == fr.2 then (c.size,c.size + 1) else (min fr.1 c.size,max fr.2 (c.size + 1))
 have hsoft : Soft c fr':=by
  right
  simp only [fr']
  split
  ·exact Nat.le_refl _
  ·rename_i hne
   rcases g5 with ⟨q1,q2⟩ | q
   ·exfalso; apply hne; simp [q1,q2]
   ·show c.size ≤ min fr.1 c.size; omega
 have hlt : b < w.heap.size:=(Array.getElem?_eq_some_iff.1 g1).1
 have hval : w.heap[b] = .cells c T fr:=(Array.getElem?_eq_some_iff.1 g1).2
 have hfz : w.freeze ⟨b,c.size,none⟩ 1 = withBlock w b (.cells c T fr'):=by
  unfold World.freeze withBlock
  simp only [Nat.one_ne_zero,if_false]
  congr 1
  apply Array.ext_getElem?
  intro j
  rw [Array.getElem?_modify,Array.getElem?_setIfInBounds]
  by_cases hj : b = j
  ·subst hj; simp [hlt,hval,fr']
  ·simp [hj]
 have hor : OR fz w.heap (.row s'' es rc) (.cells c T fr'):=.row _ _ _ _ _ _ g2 g3 g4 hsoft g6
 obtain ⟨r1,r2⟩:=hr.turn hb hor
 have hset : h.set b (.row s'' es rc) = h:=by
  funext y
  simp only [Hp.set]
  split
  ·rename_i hy; rw [hy,hb]
  ·rfl
 rw [hset] at r1 r2
 refine OutOK.of_run (cv:=.slice (some ⟨b,off * sz,none⟩) len cap) (w':=withBlock w b (.cells c T fr')) ?_ ⟨_,h,fz,k,.arr _ _ _ _ _,r1,r2⟩
 simp only [execOp,ho]
 refine run_value _ ?_
 unfold convert
 rw [run_bind,run_underlying hs,Result.andThen_ok,run_bind,run_underlying hs,Result.andThen_ok,hv]
 simp only []
 rw [run_bind,run_underlying he',Result.andThen_ok]
 simp only [beq_self_eq_true]
 have hsh : w.shape? b = some (T,c.size):=by
  unfold World.shape?; rw [g1]
 have hms : (markStringish ⟨b,off * sz,none⟩).run P w = .ok () (withBlock w b (.cells c T fr')):=by
  unfold markStringish
  rw [run_bind,run_shape,Result.andThen_ok,hsh]
  simp only []
  rw [run_freeze,hfz]
 rw [run_bind,hms,Result.andThen_ok]
 rfl
theorem good_cvb {x:AE} : (Sm.eff fun e h K => cvbE (x.ev e) h K).good x.looks:=by
 refine ⟨fun e e' h K hh hf => ?_,fun e h K K' hk hf => ?_,fun e h K n ob hn hf => ?_⟩
 ·dsimp only at hf ⊢
  rwa [← AE.ev_congr (y:=x) fun t ht => hh t (by simp [ht])]
 ·dsimp only at hf ⊢
  unfold cvbE at *
  split at hf <;> first | exact hf.elim | skip
  exact ⟨hf.1,hf.2.1,hk _ _ hf.2.2⟩
 ·dsimp only at hf ⊢
  unfold cvbE at *
  split at hf <;> first | exact hf.elim | skip
  rename_i b s off len cap _
  have hbn : b ≠ n:=fun hh => by
   have:=hf.1
   rw [hh,hn] at this; exact this
  refine ⟨by rw [Hp.set_ne _ _ hbn]; exact hf.1,hf.2.1,h,hn,rfl,hf.2.2⟩
end
end Go.Hz
/- Full slices, clear, append of so many zeros, whether two slices overlap. -/
namespace Go.Hz
section
variable {P:Program} {o:Oper}
def slcM (s:Nat) (x:AV) (lo:Option AV) (hi mx : AV) : Option AV :=
 match boundA lo 0,boundA (some hi) 0,boundA (some mx) 0 with
 | some a,some b,some m => match x with
  | .arr b' s' off len cap => if a ≤ b∧b ≤ m∧m ≤ cap∧s' = s then some (.arr b' s' (off + a) (b - a) (m - a)) else none
  | .nils => if a = 0∧b = 0∧m = 0 then some .nils else none
  | _ => none
 | _,_,_ => none
theorem bounds3_run {lo:Option AV} {hi mx : AV} {clo:Option Value} {chi cmx : Value} {fz:Nat → Prop} {w:World} {isS:Bool} {len cap a b m : Nat} (h1 : optR fz w lo clo) (h2:VR fz w.heap hi chi) (h3:VR fz w.heap mx cmx)
  (ha : boundA lo 0 = some a) (hb : boundA (some hi) 0 = some b) (hm : boundA (some mx) 0 = some m) (hab : a ≤ b) (hbm : b ≤ m) (hmc : m ≤ cap) :
  (Instr.sliceBounds isS len cap clo (some chi) (some cmx)).run P w = .ok (a,b,m) w:=by
 have e1:=bound_run (P:=P) (v:=some mx) (cv:=some cmx) (y:=cap) (code:=if isS then .slice3Acap else .slice3Alen) h3 hm hmc
 have e2:=bound_run (P:=P) (v:=some hi) (cv:=some chi) (y:=m) (code:=.slice3B) h2 hb hbm
 have e3:=bound_run (P:=P) (y:=b) (code:=.slice3C) h1 ha hab
 unfold Instr.sliceBounds
 simp at e1 e2
 cases clo with
 | none => simp at e3 ⊢; simp [e1,e2,e3]
 | some c => simp at e3 ⊢; simp [e1,e2,e3]
theorem sim_slcM {t el : TypeId} {i:TypeInfo} {x hi mx : Operand} {lo:Option Operand} {x' hi' mx' : AE} {lo' : Option AE} (ho : o.op = .slice t x lo (some hi) (some mx)) (hd:P.underlying t = some (.slice el)) (hi0:P.info? el = some i)
  (hx:AE.of x = some x') (hlo:AE.ofO lo = some lo') (hhi:AE.of hi = some hi') (hmx:AE.of mx = some mx') :
  OpOK P o (.pure fun e => slcM i.size (x'.ev e) (lo'.map (·.ev e)) (hi'.ev e) (mx'.ev e)):=by
 refine OpOK.of_pure fun fz e a w he v hv => ?_
 have h1:=AE.of_ok hx he
 have h2:=AE.ofO_ok hlo he
 have h3:=AE.of_ok hhi he
 have h4:=AE.of_ok hmx he
 simp only [execOp,ho,Option.map_some]
 generalize a.eval x = cx at *
 generalize lo.map a.eval = clo at *
 generalize a.eval hi = chi at *
 generalize a.eval mx = cmx at *
 generalize x'.ev e = ax at *
 generalize lo'.map (·.ev e) = alo at *
 generalize hi'.ev e = ahi at *
 generalize mx'.ev e = amx at *
 unfold slcM at hv
 split at hv <;> first | (cases hv; done) | skip
 rename_i p q m hp hq hm
 have key : ∀ ad len cap,cx = .slice ad len cap → p ≤ q → q ≤ m → m ≤ cap →
   (Instr.sliceAt t cx clo (some chi) (some cmx)).run P w = .ok (.slice (if m = p then ad else ad.map (·.add (p * i.size))) (q - p) (m - p)) w:=fun ad len cap hc hpq hqm hmc => by
  subst hc
  have:=bounds3_run (P:=P) (isS:=true) (len:=len) h2 h3 h4 hp hq hm hpq hqm hmc
  unfold Instr.sliceAt Instr.slice
  simp [run_underlying hd,this,run_sizeOf hi0]
 split at hv <;> first | (cases hv; done) | skip
 ·rename_i bl s' off len cap
  split at hv <;> first | (cases hv; done) | skip
  rename_i hc
  obtain ⟨hpq,hqm,hmc,rfl⟩:=hc
  cases hv
  obtain ⟨ad,rfl⟩:=h1.arr_some
  refine ⟨_,run_value _ (key _ _ _ rfl hpq hqm hmc),?_⟩
  by_cases hcp : m = p
  ·have hq' : q = p:=by omega
   subst hq' hcp
   simp only [if_true,Nat.sub_self]
   cases h1 with
   | arr => exact .arr0 _ _ _ _
   | arr0 => exact .arr0 _ _ _ _
  ·rw [if_neg hcp]
   cases h1 with
   | arr =>
    simp only [Option.map_some,Addr.add_none]
    rw [← Nat.add_mul]
    exact .arr _ _ _ _ _
   | arr0 => omega
 ·cases h1.nils_inv
  split at hv <;> first | (cases hv; done) | skip
  rename_i hc
  obtain ⟨rfl,rfl,rfl⟩:=hc
  cases hv
  exact ⟨_,run_value _ (key _ _ _ rfl (Nat.le_refl _) (Nat.le_refl _) (Nat.le_refl _)),.nils⟩
def clrE (s:Nat) (zs:List AV) (x:AV) (h:Hp) (K:AV → Hp → Prop) : Prop :=
 match x with
 | .nils => K (.tup []) h
 | .arr b s' off len cap => if len = 0 then K (.tup []) h else match h b with
  | some (.row s'' es rc) => s' = s∧s'' = s∧off ≤ es.length∧off + len ≤ rc∧K (.tup []) (h.set b (.row s (es.take off ++ List.replicate len zs ++ es.drop (off + len)) rc))
  | _ => False
 | _ => False
theorem zeroCells_eq (z:Array Value) (n:Nat) : Builtin.zeroCells z n = (Array.range (n * z.size)).map (z[· % z.size]!):=rfl
theorem clear_run {ats:Array TypeId} {xt el ty : TypeId} {i:TypeInfo} {z:Value} {zs:List AV} (hx : ats[0]? = some xt) (hd:P.underlying xt = some (.slice el)) (hi:P.info? el = some i)
  (hz : i.zero = some z) (hzs : zeroA z = some zs) (hsz : zs.length = i.size) (hat : zs.all AV.isAtom = true)
  {fz:Nat → Prop} {h:Hp} {w:World} (hr:Rel fz h w) {ax:AV} {cx:Value} (hvx:VR fz w.heap ax cx)
  {K:AV → Hp → Prop} (hk : clrE i.size zs ax h K) : ∃ cv w',(Builtin.clear_ ats ty #[cx]).run P w = .ok cv w'∧After fz h w K cv w':=by
 have hxa : (#[cx] : Array Value)[0]? = some cx:=rfl
 have tup : ∀ {fz:Nat → Prop} {H:Array Obj},VR fz H (.tup []) (.tuple #[]):=.tup _ _ rfl fun i a b => absurd a (by simp)
 unfold clrE at hk
 split at hk
 ·cases hvx.nils_inv
  refine ⟨.tuple #[],w,?_,_,h,fz,hk,tup,hr,Ext.refl _ _ _⟩
  unfold Builtin.clear_
  simp only [hx,hxa]
  rw [run_bind,run_underlying hd,Result.andThen_ok]
  rfl
 ·rename_i b s' off len cap
  obtain ⟨ad,rfl⟩:=hvx.arr_some
  split at hk
  ·rename_i h0
   subst h0
   refine ⟨.tuple #[],w,?_,_,h,fz,hk,tup,hr,Ext.refl _ _ _⟩
   unfold Builtin.clear_
   simp only [hx,hxa]
   rw [run_bind,run_underlying hd,Result.andThen_ok]
   rfl
  ·rename_i h0
   split at hk <;> first | exact hk.elim | skip
   rename_i s'' es rc hb
   obtain ⟨rfl,rfl,hoe,hle,k⟩:=hk
   have had : ad = ⟨b,off * i.size,none⟩:=by
    cases hvx with
    | arr => rfl
    | arr0 => omega
   subst had
   obtain ⟨c,T,fr,q1,q2,q3,q4,q5,q6⟩:=hr.row_fl hb
   have hzr:=zeroA_ok hzs fz w.heap
   have hzl:=hzr.1
   simp only [Array.length_toList] at hzl
   have hzc : z.cells.size = i.size:=by omega
   have s1 : Sized i.size (List.replicate len zs):=fun e he => by rw [List.eq_of_mem_replicate he]; exact hsz
   have n3 : Fl fz w.heap (List.replicate len zs) i.size 0 (cf (Builtin.zeroCells z.cells len)):=by
    have:=zeroTile_fl (zs:=zs) (z:=z.cells) hzr len len (Nat.le_refl _)
    rw [hsz] at this
    rw [zeroCells_eq,hzc]
    rw [hzc] at this
    exact this
   have n2 : (Builtin.zeroCells z.cells len).size = len * i.size:=by rw [zeroCells_size,hzc]
   have n4:=n3.atoms s1 (by rw [List.length_replicate]; exact n2) (fun e he v hv => by
    rw [List.eq_of_mem_replicate he] at hv
    exact List.all_eq_true.1 hat v hv)
   have hmul:=Nat.mul_le_mul_right i.size (show off + len ≤ rc by omega)
   rw [Nat.add_mul] at hmul
   have hst:=storeCells_run (P:=P) (Builtin.zeroCells z.cells len).toList w c (off * i.size) 0 q1 q5 (by rw [Array.length_toList,n2,q4]; omega) n4
   have hor : OR fz w.heap (.row i.size (es.take off ++ List.replicate len zs ++ es.drop (off + len)) rc) (.cells (writeA c (off * i.size + 0) (Builtin.zeroCells z.cells len).toList) T fr):=by
    have hto : (es.take off).length = off:=by simp; omega
    refine OR.of_fl (by simp only [List.length_append,hto,List.length_replicate,List.length_drop]; omega) (fun e he => ?_) (by rw [writeA_size]; exact q4) (q5.sized (writeA_size _ _ _)) (Fl.append (Fl.append ?_ ?_) ?_)
    ·rcases List.mem_append.1 he with he | he
     ·rcases List.mem_append.1 he with he | he
      ·exact q3 e (List.mem_of_mem_take he)
      ·exact s1 e he
     ·exact q3 e (List.mem_of_mem_drop he)
    ·exact q6.take.beside (fun e he => q3 e (List.mem_of_mem_take he)) (.inl (by rw [hto]; omega))
    ·rw [hto,Nat.zero_add,Nat.add_zero]
     exact n3.written s1 (by rw [List.length_replicate]; exact n2) (by omega)
    ·rw [List.length_append,hto,List.length_replicate]
     refine (q6.drop (n:=off + len)).beside (fun e he => q3 e (List.mem_of_mem_drop he)) (.inr ?_)
     rw [Array.length_toList,n2,Nat.add_mul]; omega
   obtain ⟨r1,r2⟩:=hr.turn hb hor
   refine ⟨.tuple #[],_,?_,_,_,fz,k,tup,r1,r2⟩
   unfold Builtin.clear_
   simp only [hx,hxa]
   rw [run_bind,run_underlying hd,Result.andThen_ok]
   cases len with
   | zero => exact absurd rfl h0
   | succ len =>
    simp only []
    rw [run_bind,run_zero hi hz,Result.andThen_ok,run_bind,hst]
    rfl
 ·exact hk.elim
theorem sim_clear {ats:Array TypeId} {xt el : TypeId} {i:TypeInfo} {z:Value} {zs:List AV} {x:Operand} {x' : AE} (ho : o.op = .call { callee:=.builtin .clear,args := #[x],argTypes:=ats })
  (hx : ats[0]? = some xt) (hd:P.underlying xt = some (.slice el)) (hi:P.info? el = some i) (hz : i.zero = some z) (hzs : zeroA z = some zs) (hsz : zs.length = i.size) (hat : zs.all AV.isAtom = true)
  (hxx:AE.of x = some x') : OpOK P o (.eff fun e h K => clrE i.size zs (x'.ev e) h K):=by
 intro fz e h a w K he hr hh
 have h1:=AE.of_ok hxx he
 obtain ⟨cv,w',h3,h4⟩:=clear_run (ty:=o.type) hx hd hi hz hzs hsz hat hr h1 hh
 refine OutOK.of_run (w':=w') (cv:=cv) ?_ h4
 simp only [execOp,ho,resolve,List.map_toArray,List.map_cons,List.map_nil]
 rw [run_bind,run_pure,Result.andThen_ok]
 exact run_value _ h3
theorem good_clr {s:Nat} {zs:List AV} {x:AE} : (Sm.eff fun e h K => clrE s zs (x.ev e) h K).good x.looks:=by
 refine ⟨fun e e' h K hh hf => ?_,fun e h K K' hk hf => ?_,fun e h K n ob hn hf => ?_⟩
 ·dsimp only at hf ⊢
  rwa [← AE.ev_congr (y:=x) hh]
 ·dsimp only at hf ⊢
  unfold clrE at *
  split at hf
  ·exact hk _ _ hf
  ·split at hf
   ·rename_i h0; simp only [h0,if_true]; exact hk _ _ hf
   ·rename_i h0
    simp only [h0,if_false]
    split at hf <;> first | exact hf.elim | skip
    exact ⟨hf.1,hf.2.1,hf.2.2.1,hf.2.2.2.1,hk _ _ hf.2.2.2.2⟩
  ·exact hf.elim
 ·dsimp only at hf ⊢
  unfold clrE at *
  split at hf
  ·exact ⟨h,hn,rfl,hf⟩
  ·split at hf
   ·rename_i h0; simp only [h0,if_true]; exact ⟨h,hn,rfl,hf⟩
   ·rename_i h0
    simp only [h0,if_false]
    rename_i b s' off len cap _
    have hbn : b ≠ n:=fun hh => by rw [hh,hn] at hf; exact hf.elim
    rw [Hp.set_ne _ _ hbn]
    split at hf <;> first | exact hf.elim | skip
    exact ⟨hf.1,hf.2.1,hf.2.2.1,hf.2.2.2.1,_,by rw [Hp.set_ne _ _ (Ne.symm hbn)]; exact hn,Hp.set_comm _ _ _ (Ne.symm hbn),hf.2.2.2.2⟩
  ·exact hf.elim
def appzE (s bytes : Nat) (zs:List AV) (x y : AV) (h:Hp) (K:AV → Hp → Prop) : Prop :=
 match y with
 | .int _ n => 0 ≤ n∧match x with
  | .nils => 0 < n∧n.toNat * bytes ≤ 70368744177664∧∀ m c,h m = none → n.toNat ≤ c → K (.arr m s 0 n.toNat c) (h.set m (.row s (List.replicate n.toNat zs) c))
  | .arr b s' off len cap => match h b with
   | some (.row s'' es _) => s' = s∧s'' = s∧off = 0∧len ≤ es.length∧cap < len + n.toNat∧(len + n.toNat) * bytes ≤ 70368744177664 ∧
    ∀ m c,h m = none → len + n.toNat ≤ c → K (.arr m s 0 (len + n.toNat) c) (h.set m (.row s (es.take len ++ List.replicate n.toNat zs) c))
   | _ => False
  | _ => False
 | _ => False
theorem appendz_run {ats:Array TypeId} {xt yt el ty : TypeId} {i:TypeInfo} {ki:IntKind} {z:Value} {zs:List AV} (hx : ats[0]? = some xt) (hy : ats[1]? = some yt) (hd:P.underlying xt = some (.slice el)) (hdy:P.underlying yt = some (.int ki))
  (hi:P.info? el = some i) (hz : i.zero = some z) (hzs : zeroA z = some zs) (hsz : zs.length = i.size) (hb0 : i.bytes ≠ 0) {fz:Nat → Prop} {h:Hp} {w:World} (hr:Rel fz h w) {ax ay : AV} {cx cy : Value} (hvx:VR fz w.heap ax cx) (hvy:VR fz w.heap ay cy)
  {K:AV → Hp → Prop} (hk : appzE i.size i.bytes zs ax ay h K) : ∃ cv w',(Builtin.append_ ats ty #[cx,cy]).run P w = .ok cv w'∧After fz h w K cv w':=by
 unfold appzE at hk
 split at hk <;> first | exact hk.elim | skip
 rename_i kk n0
 obtain ⟨h0,hk⟩:=hk
 obtain ⟨n,rfl⟩:=Int.eq_ofNat_of_zero_le h0
 simp only [Int.toNat_natCast] at hk
 cases hvy.int_inv
 have hxa : (#[cx,Value.int kk (n:Int)] : Array Value)[0]? = some cx:=rfl
 have hya : (#[cx,Value.int kk (n:Int)] : Array Value)[1]? = some (.int kk (n:Int)):=rfl
 have hzr:=zeroA_ok hzs fz w.heap
 have hzl:=hzr.1
 simp only [Array.length_toList] at hzl
 have hzc : z.cells.size = i.size:=by omega
 have s1 : Sized i.size (List.replicate n zs):=fun e he => by rw [List.eq_of_mem_replicate he]; exact hsz
 have n2 : (Builtin.zeroCells z.cells n).size = (List.replicate n zs).length * i.size:=by rw [zeroCells_size,hzc,List.length_replicate]
 have n3 : Fl fz w.heap (List.replicate n zs) i.size 0 (cf (Builtin.zeroCells z.cells n)):=by
  have:=zeroTile_fl (zs:=zs) (z:=z.cells) hzr n n (Nat.le_refl _)
  rw [hsz] at this
  rw [zeroCells_eq,hzc]
  rw [hzc] at this
  exact this
 have hb1 : 1 ≤ i.bytes:=by omega
 have grows : ∀ (base:Option Addr) (sLen sCap : Nat) (old:Array Value),cx = .slice base sLen sCap → ¬ sLen + n ≤ sCap → (sLen + n) * i.bytes ≤ 70368744177664 →
   (Builtin.firstCells i.size sLen cx).run P { w with drawn:=w.drawn + 1 } = .ok old { w with drawn:=w.drawn + 1 } → ∃ m,sLen + n ≤ m ∧
   (Builtin.append_ ats ty #[cx,.int kk (n:Int)]).run P w = .ok (.slice (some ⟨w.heap.size,0,none⟩) (sLen + n) m)
    (pushed { w with drawn:=w.drawn + 1 } (.cells (old ++ Builtin.zeroCells z.cells n ++ Builtin.zeroCells z.cells (m - (sLen + n))) el (0,0))):=fun base sLen sCap old hc hle hb hold => by
  subst hc
  have hnc:=nextcap_le (n:=sLen + n) (c:=sCap) (by omega)
  have hnb : ¬ (Builtin.nextslicecap (sLen + n) sCap * i.bytes > 2 ^ 48):=by
   have:=Nat.mul_le_mul_right i.bytes hnc
   rw [Nat.mul_assoc] at this
   omega
  have hnn : n * i.bytes ≤ 70368744177664:=Nat.le_trans (Nat.mul_le_mul_right _ (by omega)) hb
  have hln : sLen + n ≤ 70368744177664:=Nat.le_trans (Nat.le_mul_of_pos_right _ hb1) hb
  have hw : IntKind.i64.wrap (n:Int) = n:=wrap_i64_in (by omega) (by omega)
  refine ⟨Question.cut (.appendCap (sLen + n) sCap el) (w.tape w.drawn (.appendCap (sLen + n) sCap el)),by simp only [Question.cut]; omega,?_⟩
  unfold Builtin.append_
  simp only [hx,hxa,hya,hy]
  rw [run_bind,run_underlying hd,Result.andThen_ok]
  simp only []
  rw [run_bind,run_sizeOf hi,Result.andThen_ok,run_bind,run_underlying hdy,Result.andThen_ok,run_bind,run_pure,Result.andThen_ok]
  simp only [if_true]
  rw [run_bind]
  have hai : (asInt (.int kk (n:Int))).run P w = .ok (n:Int) w:=by
   simp [asInt,asIntOf]
  rw [hai,Result.andThen_ok,hw]
  have c1 : ¬ ((n:Int) < 0):=by omega
  have c2 : ¬ ((n:Int) * (i.bytes : Int) > 2 ^ 48):=by
   have : ((n * i.bytes : Nat) : Int) = (n:Int) * (i.bytes : Int):=by push_cast; rfl
   omega
  simp only [c1,if_false]
  rw [run_bind,run_typeInfo hi,Result.andThen_ok]
  simp only [c2,if_false]
  rw [run_bind,run_pure,Result.andThen_ok,Int.toNat_natCast,if_neg hle,run_bind,run_typeInfo hi,Result.andThen_ok]
  have c3 : ¬ (((sLen + n : Nat) : Int) > IntKind.i64.max):=by
   show ¬ (((sLen + n : Nat) : Int) > 9223372036854775807)
   omega
  simp only [c3,false_and,if_false]
  rw [run_bind,run_typeInfo hi,Result.andThen_ok,if_neg hnb,run_bind,run_choose]
  have hfo : (Question.appendCap (sLen + n) sCap el).forced = false:=rfl
  rw [hfo]
  simp only [Bool.false_eq_true,if_false,Result.andThen_ok]
  rw [run_bind,run_typeInfo hi,Result.andThen_ok,run_bind,run_askRoom,Result.andThen_ok,run_bind,hold,Result.andThen_ok]
  simp only [Bool.not_true,Bool.false_eq_true,if_false]
  have hap : (if n * i.size = 0 then pure #[] else (do pure (Builtin.zeroCells (← zeroValue el).cells n) : Sem (Array Value))).run P { w with drawn:=w.drawn + 1 } = .ok (Builtin.zeroCells z.cells n) { w with drawn:=w.drawn + 1 }:=by
   split
   ·rename_i hz0
    have : Builtin.zeroCells z.cells n = #[]:=Array.eq_empty_of_size_eq_zero (by rw [zeroCells_size,hzc]; exact hz0)
    rw [this]; rfl
   ·rw [run_bind,run_zero hi hz,Result.andThen_ok]; rfl
  rw [run_bind,hap,Result.andThen_ok,run_bind,run_zero hi hz,Result.andThen_ok]
  rfl
 have hr1 : Rel fz h { w with drawn:=w.drawn + 1 }:=hr.drew
 have emb : ∀ {h0:Hp} {cv:Value} {w' : World},Ext fz h w fz h0 { w with drawn:=w.drawn + 1 } → After fz h0 { w with drawn:=w.drawn + 1 } K cv w' → After fz h w K cv w' :=
  fun hx ⟨v,h',fz',a1,a2,a3,a4⟩ => ⟨v,h',fz',a1,a2,a3,hx.trans a4⟩
 split at hk
 ·obtain ⟨k1,k2,k3⟩:=hk
  cases hvx.nils_inv
  have a1 : ¬ 0 + n ≤ 0:=by omega
  have a2 : (0 + n) * i.bytes ≤ 70368744177664:=by rw [Nat.zero_add]; exact k2
  have a3 : (Builtin.firstCells i.size 0 (.slice none 0 0)).run P { w with drawn:=w.drawn + 1 } = .ok #[] { w with drawn:=w.drawn + 1 }:=rfl
  obtain ⟨m,g1,g2⟩:=grows none 0 0 #[] rfl a1 a2 a3
  have hlr : (List.replicate n zs).length = n:=List.length_replicate
  refine ⟨_,_,g2,emb Ext.drew ?_⟩
  have:=grow_after (K:=K) hr1 (es:=[]) (ys:=List.replicate n zs) (len:=0) (n:=m) (el:=el) (z:=z.cells) (old := #[]) rfl (fun e he => by simp at he) s1 (by simp) n2 (fun i k e v hi => by simp at hi) n3 hzc (by rw [hlr]; exact g1) (by
   rw [hlr]
   intro m c hm hc
   simp only [Nat.zero_add] at hc
   simpa using k3 m c hm hc)
  rw [hlr] at this
  exact this
 ·rename_i b s' off len cap
  split at hk <;> first | exact hk.elim | skip
  rename_i s'' es rc hb
  obtain ⟨rfl,rfl,rfl,hle,hcap,hbb,k⟩:=hk
  obtain ⟨ad,rfl⟩:=hvx.arr_some
  have htl : (es.take len).length = len:=by simp; omega
  have htk : Sized i.size (es.take len):=by
   obtain ⟨c,T,fr,q1,q2,q3,q4,q5,q6⟩:=hr.row_fl hb
   exact fun e he => q3 e (List.mem_of_mem_take he)
  have hsrc : srcA i.size h (.arr b i.size 0 len cap) = some ((es.drop 0).take len):=by
   simp only [srcA,hb,true_and]
   rw [if_pos (by omega)]
  obtain ⟨_,_,u3⟩:=srcA_run (P:=P) hr1 hvx hsrc
  obtain ⟨old,o1,o2,o3⟩:=u3 len (by simp; omega)
  have o3' : Fl fz w.heap (es.take len) i.size 0 (cf old):=by simpa [List.take_take] using o3
  obtain ⟨m,g1,g2⟩:=grows (some ad) len cap old rfl (by omega) hbb o1
  have hlr : (List.replicate n zs).length = n:=List.length_replicate
  refine ⟨_,_,g2,emb Ext.drew ?_⟩
  have:=grow_after (K:=K) hr1 (es:=es.take len) (ys:=List.replicate n zs) (n:=m) (el:=el) (z:=z.cells) htl.symm htk s1 (by rw [o2,htl]) n2 o3' n3 hzc (by rw [hlr]; exact g1) (by rw [hlr]; exact k)
  rw [hlr] at this
  exact this
 ·exact hk.elim
theorem sim_appz {ats:Array TypeId} {xt yt el : TypeId} {i:TypeInfo} {ki:IntKind} {z:Value} {zs:List AV} {x y : Operand} {x' y' : AE} (ho : o.op = .call { callee:=.builtin .append,args := #[x,y],argTypes:=ats })
  (hx : ats[0]? = some xt) (hy : ats[1]? = some yt) (hd:P.underlying xt = some (.slice el)) (hdy:P.underlying yt = some (.int ki)) (hi:P.info? el = some i) (hz : i.zero = some z) (hzs : zeroA z = some zs) (hsz : zs.length = i.size) (hb0 : i.bytes ≠ 0)
  (hxx:AE.of x = some x') (hyy:AE.of y = some y') : OpOK P o (.eff fun e h K => appzE i.size i.bytes zs (x'.ev e) (y'.ev e) h K):=by
 intro fz e h a w K he hr hh
 have h1:=AE.of_ok hxx he
 have h2:=AE.of_ok hyy he
 obtain ⟨cv,w',h3,h4⟩:=appendz_run (ty:=o.type) hx hy hd hdy hi hz hzs hsz hb0 hr h1 h2 hh
 refine OutOK.of_run (w':=w') (cv:=cv) ?_ h4
 simp only [execOp,ho,resolve,List.map_toArray,List.map_cons,List.map_nil]
 rw [run_bind,run_pure,Result.andThen_ok]
 exact run_value _ h3
theorem good_appz {s bytes : Nat} {zs:List AV} {x y : AE} : (Sm.eff fun e h K => appzE s bytes zs (x.ev e) (y.ev e) h K).good (x.looks ++ y.looks):=by
 refine ⟨fun e e' h K hh hf => ?_,fun e h K K' hk hf => ?_,fun e h K n ob hn hf => ?_⟩
 ·dsimp only at hf ⊢
  rwa [← AE.ev_congr (y:=x) fun t ht => hh t (by simp [ht]),← AE.ev_congr (y:=y) fun t ht => hh t (by simp [ht])]
 ·dsimp only at hf ⊢
  unfold appzE at *
  split at hf <;> first | exact hf.elim | skip
  refine ⟨hf.1,?_⟩
  replace hf:=hf.2
  split at hf
  ·exact ⟨hf.1,hf.2.1,fun m c hm hc => hk _ _ (hf.2.2 m c hm hc)⟩
  ·split at hf <;> first | exact hf.elim | skip
   obtain ⟨a1,a2,a3,a4,a5,a6,a7⟩:=hf
   exact ⟨a1,a2,a3,a4,a5,a6,fun m c hm hc => hk _ _ (a7 m c hm hc)⟩
  ·exact hf.elim
 ·dsimp only at hf ⊢
  unfold appzE at *
  split at hf <;> first | exact hf.elim | skip
  refine ⟨hf.1,?_⟩
  replace hf:=hf.2
  have push : ∀ (m _c : Nat) (o' : AObj) (v:AV),(h.set n ob) m = none → (h m = none → K v (h.set m o')) → ∃ h',h' n = none∧(h.set n ob).set m o' = h'.set n ob∧K v h':=fun m c o' v hm hkk => by
   have hmn : m ≠ n:=fun hh => by rw [hh,Hp.set_same] at hm; cases hm
   rw [Hp.set_ne _ _ hmn] at hm
   exact ⟨_,by rw [Hp.set_ne _ _ (Ne.symm hmn)]; exact hn,Hp.set_comm _ _ _ (Ne.symm hmn),hkk hm⟩
  split at hf
  ·exact ⟨hf.1,hf.2.1,fun m c hm hc => push m c _ _ hm fun hm => hf.2.2 m c hm hc⟩
  ·rename_i b s' off len cap _
   have hbn : b ≠ n:=fun hh => by rw [hh,hn] at hf; exact hf.elim
   rw [Hp.set_ne _ _ hbn]
   split at hf <;> first | exact hf.elim | skip
   obtain ⟨a1,a2,a3,a4,a5,a6,a7⟩:=hf
   exact ⟨a1,a2,a3,a4,a5,a6,fun m c hm hc => push m c _ _ hm fun hm => a7 m c hm hc⟩
  ·exact hf.elim
theorem overlaps_run {ps rs : Array TypeId} {tS el : TypeId} {i:TypeInfo} (hp : ps[0]? = some tS) (hd:P.underlying tS = some (.slice el)) (hi:P.info? el = some i) {a b : Addr} {la ca lb cb : Nat} {w:World}
  {c1 c2 : Array Value} {T1 T2 : TypeId} {fr1 fr2 : Nat × Nat} (hne : a.block ≠ b.block) (h1 : w.heap[a.block]? = some (.cells c1 T1 fr1)) (h2 : w.heap[b.block]? = some (.cells c2 T2 fr2))
  (hfa : la ≠ 0 → i.size ≠ 0 → w.frozen? a = false) :
  ∃ r w',(Extern.SlicesOverlaps.overlaps ps rs #[.slice (some a) la ca,.slice (some b) lb cb]).run P w = .ok (.bool r) w'∧(w' = w ∨ w' = { w with drawn:=w.drawn + 1 }):=by
 have hnb : (a.block != b.block) = true:=by simpa using hne
 have hnb' : (a.block == b.block) = false:=by simpa using hne
 have s1 : w.shape? a.block = some (T1,c1.size):=by simp [World.shape?,h1]
 have s2 : w.shape? b.block = some (T2,c2.size):=by simp [World.shape?,h2]
 have e : Extern.SlicesOverlaps.overlaps ps rs #[.slice (some a) la ca,.slice (some b) lb cb] = (do
  let some t:=ps[0]? | stuck "slices.overlaps: no parameter types"
  let .slice elem ← underlying t | stuck "slices.overlaps: slice type expected"
  let size ← sizeOf elem
  match (some a : Option Addr),(some b : Option Addr) with
  | some a,some b =>
   if la = 0 ∨ lb = 0 ∨ size = 0 then pure (Value.bool false)
   else if a.block != b.block && (← frozen a) && (← frozen b) then unsupported .addressObserved
   else do
    if a.block != b.block then do
     noView a; noView b
     if ← mayBeOne a b then return Value.bool ((← choose (.extern "sameAddr.stringBytes" 2)) == 1)
    pure (Value.bool (a.block == b.block && a.off < b.off + lb * size && b.off < a.off + la * size))
  | _,_ => pure (Value.bool false)):=rfl
 rw [e]
 by_cases h0 : la = 0 ∨ lb = 0 ∨ i.size = 0
 ·refine ⟨false,w,?_,.inl rfl⟩
  simp [hp,run_underlying hd,run_sizeOf hi,h0]
 ·have hf:=hfa (fun h => h0 (.inl h)) (fun h => h0 (.inr (.inr h)))
  have hm : ∃ r,(mayBeOne a b).run P w = .ok r w:=by
   unfold mayBeOne stringish shape frozen
   simp only [run_bind,run_pure,Sem.run,s1,s2,hf,Result.andThen_ok]
   simp only [Bool.false_eq_true,if_false,run_bind,run_pure,Sem.run,s1,s2,Result.andThen_ok]
   split <;> simp only [run_bind,run_pure,Sem.run,s1,s2,Result.andThen_ok] <;> split <;> simp [Sem.run,s1,s2] <;> split <;> simp [Sem.run]
  obtain ⟨r,hr⟩:=hm
  have hv1 : (noView a).run P w = .ok () w:=by simp [noView,viewAt,shape,Sem.run,s1]
  have hv2 : (noView b).run P w = .ok () w:=by simp [noView,viewAt,shape,Sem.run,s2]
  have hfz : (frozen a).run P w = .ok false w:=by simp [frozen,Sem.run,hf]
  have hfz2 : (frozen b).run P w = .ok (w.frozen? b) w:=by simp [frozen,Sem.run]
  cases r with
  | false =>
   refine ⟨false,w,?_,.inl rfl⟩
   simp [hp,run_underlying hd,run_sizeOf hi,h0,hnb,hnb',hv1,hv2,hf,hfz,hfz2,hr]
  | true =>
   refine ⟨(Question.cut (.extern "sameAddr.stringBytes" 2) (w.tape w.drawn (.extern "sameAddr.stringBytes" 2)) == 1),{ w with drawn:=w.drawn + 1 },?_,.inr rfl⟩
   simp [hp,run_underlying hd,run_sizeOf hi,h0,hnb,hnb',hv1,hv2,hf,hfz,hfz2,hr,Question.forced]
def ovlE (s:Nat) (x y : AV) (h:Hp) (K:AV → Hp → Prop) : Prop :=
 match x,y with
 | .arr b s1 off len _,.arr b2 s2 off2 len2 _ => b ≠ b2∧(match h b with | some (.row s' _ rc) => s1 = s∧s' = s∧off + len ≤ rc | _ => False)∧(match h b2 with | some (.row _ _ _) => True | _ => False)∧0 < len∧0 < len2∧K (.bool false) h∧K (.bool true) h
 | _,_ => False
def ovlOf (P:Program) (f:FuncId) : Option Nat :=
 match P.funcs[f]? with
 | some fn => match fn.params[0]? with
  | some t => match P.underlying t with
   | some (.slice el) => match P.info? el with
    | some i => if (fn.name != "runtime.NumGoroutine" && (fn.body.isNone && ((Extern.findNext fn).isNone && (fn.origin == "slices.overlaps" && ((Extern.allGenericRows.lookup fn.name).isNone && ((Extern.allTypedRows.lookup fn.name).isNone && (Extern.allRows.lookup fn.name).isNone)))))) = true then some i.size else none
    | none => none
   | _ => none
  | none => none
 | none => none
theorem find_overlaps {fn:Func} (h1:(Extern.allGenericRows.lookup fn.name).isNone = true) (h2:(Extern.allTypedRows.lookup fn.name).isNone = true) (h3:(Extern.allRows.lookup fn.name).isNone = true) (ho : fn.origin = "slices.overlaps") :
  Extern.find fn = some (Extern.SlicesOverlaps.overlaps fn.params fn.resultTypes):=by
 have g1 : Extern.allGenericRows.lookup "slices.overlaps" = none:=by kernel_rfl
 have g2 : Extern.allTypedRows.lookup "slices.overlaps" = some Extern.SlicesOverlaps.overlaps:=by kernel_rfl
 unfold Extern.find
 dsimp only
 rw [Option.isNone_iff_eq_none.1 h1,Option.isNone_iff_eq_none.1 h2,Option.isNone_iff_eq_none.1 h3,ho,g1,g2]
 rfl
theorem sim_ovl {f:FuncId} {x y : Operand} {ats:Array TypeId} {s:Nat} {x' y' : AE} (ho : o.op = .call { callee:=.value (.func f),args := #[x,y],argTypes:=ats }) (hf : ovlOf P f = some s)
    (hxx:AE.of x = some x') (hyy:AE.of y = some y') : OpOK P o (.eff fun e h K => ovlE s (x'.ev e) (y'.ev e) h K):=by
  intro fz e h a w K he hr hh
  have h1:=AE.of_ok hxx he
  have h2:=AE.of_ok hyy he
  unfold ovlOf at hf
  split at hf <;> first | (cases hf; done) | skip
  rename_i fn hfn
  split at hf <;> first | (cases hf; done) | skip
  rename_i t ht
  split at hf <;> first | (cases hf; done) | skip
  rename_i el hd
  split at hf <;> first | (cases hf; done) | skip
  rename_i i hi
  split at hf <;> first | (cases hf; done) | skip
  rename_i hc
  cases hf
  simp only [Bool.and_eq_true,bne_iff_ne,ne_eq,beq_iff_eq] at hc
  obtain ⟨q1,q2,q3,q4,q5,q6,q7⟩:=hc
  change ovlE i.size (x'.ev e) (y'.ev e) h K at hh
  generalize x'.ev e = ax at *
  generalize y'.ev e = ay at *
  unfold ovlE at hh
  split at hh <;> first | exact hh.elim | skip
  rename_i b s1 off len cap b2 s2 off2 len2 cap2
  obtain ⟨hne,k1,k2,hl1,hl2,kf,kt⟩:=hh
  split at k1 <;> first | exact k1.elim | skip
  rename_i s' es rc hb
  obtain ⟨rfl,rfl,hle⟩:=k1
  split at k2 <;> first | exact k2.elim | skip
  rename_i s'' es2 rc2 hb2
  obtain ⟨c1,T1,fr1,a1,a2,a3,a4,a5,a6⟩:=hr.row_fl hb
  obtain ⟨c2,T2,fr2,d1,d2,d3,d4,d5,d6⟩:=hr.row_fl hb2
  have hrun : ∃ r w',(execOp a.eval o).run P w = .ok (.value (.bool r)) w'∧(w' = w ∨ w' = { w with drawn:=w.drawn + 1 }):=by
    have e1 : a.eval x = .slice (some ⟨b,off * i.size,none⟩) len cap:=by
      generalize a.eval x = cx at h1
      cases h1 with
      | arr => rfl
      | arr0 => omega
    have e2 : a.eval y = .slice (some ⟨b2,off2 * s2,none⟩) len2 cap2:=by
      generalize a.eval y = cy at h2
      cases h2 with
      | arr => rfl
      | arr0 => omega
    obtain ⟨r,w',r1,r2⟩:=overlaps_run (P:=P) (ps:=fn.params) (rs:=fn.resultTypes) ht hd hi (a:=⟨b,off * i.size,none⟩) (b:=⟨b2,off2 * s2,none⟩) (la:=len) (ca:=cap) (lb:=len2) (cb:=cap2) (w:=w) hne a1 d1
      (fun _ hs0 => by
        have hmul:=Nat.mul_le_mul_right i.size (show off + 1 ≤ rc by omega)
        rw [Nat.add_mul,Nat.one_mul] at hmul
        have:=a5.at (off * i.size) (by omega)
        simp only [World.frozen?,a1]
        simp only [Bool.and_eq_false_iff,decide_eq_false_iff_not]
        omega)
    refine ⟨r,w',?_,r2⟩
    simp only [execOp,ho,resolve,Act.eval,Deferred.ofValue]
    rw [run_bind,run_pure,Result.andThen_ok]
    unfold invoke
    simp only [Array.append_empty,Array.empty_append]
    have ea : Array.map a.eval #[x,y] = #[.slice (some ⟨b,off * i.size,none⟩) len cap,.slice (some ⟨b2,off2 * s2,none⟩) len2 cap2]:=by simp [e1,e2]
    rw [ea,run_callFunc_extern hfn (by simpa using q1) q2 (Option.isNone_iff_eq_none.1 q3) (find_overlaps q5 q6 q7 q4),r1]
    rfl
  obtain ⟨r,w',r1,r2⟩:=hrun
  refine OutOK.of_run r1 ?_
  have hK : K (.bool r) h:=by cases r <;> assumption
  rcases r2 with rfl | rfl
  · exact ⟨_,_,fz,hK,.bool _,hr,Ext.refl _ _ _⟩
  · exact ⟨_,_,fz,hK,.bool _,hr.drew,Ext.drew⟩
theorem good_ovl {s:Nat} {x y : AE} : (Sm.eff fun e h K => ovlE s (x.ev e) (y.ev e) h K).good (x.looks ++ y.looks):=by
 refine ⟨fun e e' h K hh hf => ?_,fun e h K K' hk hf => ?_,fun e h K n ob hn hf => ?_⟩
 ·dsimp only at hf ⊢
  rwa [← AE.ev_congr (y:=x) fun t ht => hh t (by simp [ht]),← AE.ev_congr (y:=y) fun t ht => hh t (by simp [ht])]
 ·dsimp only at hf ⊢
  unfold ovlE at *
  split at hf <;> first | exact hf.elim | skip
  obtain ⟨a1,a2,a3,a4,a5,a6,a7⟩:=hf
  exact ⟨a1,a2,a3,a4,a5,hk _ _ a6,hk _ _ a7⟩
 ·dsimp only at hf ⊢
  unfold ovlE at *
  split at hf <;> first | exact hf.elim | skip
  rename_i b s1 off len cap b2 s2 off2 len2 cap2 _ _
  obtain ⟨a1,a2,a3,a4,a5,a6,a7⟩:=hf
  have hbn : b ≠ n:=fun hh => by rw [hh,hn] at a2; exact a2.elim
  have hbn2 : b2 ≠ n:=fun hh => by rw [hh,hn] at a3; exact a3.elim
  rw [Hp.set_ne _ _ hbn,Hp.set_ne _ _ hbn2]
  exact ⟨a1,a2,a3,a4,a5,⟨h,hn,rfl,a6⟩,⟨h,hn,rfl,a7⟩⟩
end
end Go.Hz
