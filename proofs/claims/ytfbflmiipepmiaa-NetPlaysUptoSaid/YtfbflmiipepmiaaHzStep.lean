/- The walk as a machine on data: what is still to run stands as lists, so that a simplifier takes one step after the other. -/
import Derived.Test.YtfbflmiipepmiaaHzOwn
namespace Go.Hz

/-- What is still to be done behind a piece of code. -/
inductive Fr where
  | code (b : ACode)
  | blk (id : Nat)
  | lp (J : Env → Hp → Prop)

structure Kt where
  kn : Env → Hp → Prop
  kr : Env → Hp → Prop
  kx : Nat → Env → Hp → Prop

def kk (P : Program) (k : Kt) : List Fr → (Env → Hp → Prop) × (Nat → Env → Hp → Prop)
  | [] => (k.kn, k.kx)
  | .code b :: st => (fun e h => wpA P b e h (kk P k st).1 k.kr (kk P k st).2, (kk P k st).2)
  | .blk id :: st => ((kk P k st).1, fun i e h => if i = id then (kk P k st).1 e h else (kk P k st).2 i e h)
  | .lp J :: st => (J, (kk P k st).2)

/-- Run a piece of code, then the rest. -/
def run (P : Program) (c : ACode) (st : List Fr) (e : Env) (h : Hp) (k : Kt) : Prop := wpA P c e h (kk P k st).1 k.kr (kk P k st).2
/-- Go on with the rest. -/
def fall (P : Program) (st : List Fr) (e : Env) (h : Hp) (k : Kt) : Prop := (kk P k st).1 e h
/-- Leave a block. -/
def outR (P : Program) (i : Nat) (st : List Fr) (e : Env) (h : Hp) (k : Kt) : Prop := (kk P k st).2 i e h
def runS (P : Program) (l : List (AItem × List AItem)) (st : List Fr) (e : Env) (h : Hp) (k : Kt) : Prop := wpS P l e h (kk P k st).1
def cndR (P : Program) (v : AV) (t f : ACode) (st : List Fr) (e : Env) (h : Hp) (k : Kt) : Prop :=
  ∃ b, v = .bool b ∧ (b = true → run P t st e h k) ∧ (b = false → run P f st e h k)
def obls (P : Program) (obl : List AItem) (e : Env) (h : Hp) : Prop := ∀ l ∈ obl, stab P l e h
/-- A value, and on. -/
def nx (P : Program) (a : Option AV) (d : Option Nat) (l : List (AItem × List AItem)) (st : List Fr) (e : Env) (h : Hp) (k : Kt) : Prop :=
  ∃ v, a = some v ∧ runS P l st (e.put d v) h k
/-- A heap, and on. -/
def nxh (P : Program) (a : Option Hp) (obl : List AItem) (d : Option Nat) (l : List (AItem × List AItem)) (st : List Fr) (e : Env) (k : Kt) : Prop :=
  ∃ h', a = some h' ∧ obls P obl (e.put d (.tup [])) h' ∧ runS P l st (e.put d (.tup [])) h' k
/-- A new block, and on. -/
def newR (P : Program) (o : AObj) (g : Nat → AV) (d : Option Nat) (l : List (AItem × List AItem)) (st : List Fr) (e : Env) (h : Hp) (k : Kt) : Prop :=
  ∀ n, h n = none → runS P l st (e.put d (g n)) (h.set n o) k
/-- A made slice, and on. -/
def mslR (P : Program) (a : Option (AV ⊕ (AObj × (Nat → AV)))) (d : Option Nat) (l : List (AItem × List AItem)) (st : List Fr) (e : Env) (h : Hp) (k : Kt) : Prop :=
  ∃ r, a = some r ∧ match r with
    | .inl v => runS P l st (e.put d v) h k
    | .inr (o, g) => newR P o g d l st e h k
/-- New rows, and on. -/
def bslR (P : Program) (s n : Nat) (a : Option (List (List AV))) (d : Option Nat) (l : List (AItem × List AItem)) (st : List Fr) (e : Env) (h : Hp) (k : Kt) : Prop :=
  ∃ v, a = some v ∧ newR P (.row s v n) (fun b => .arr b s 0 n n) d l st e h k
/-- A boxed value, and on. -/
def boxR (P : Program) (c : List AV) (d : Option Nat) (l : List (AItem × List AItem)) (st : List Fr) (e : Env) (h : Hp) (k : Kt) : Prop :=
  c.all AV.isAtom = true ∧ newR P (.row c.length [c] 1) (fun n => .ptr n c.length 0 0) d l st e h k
/-- A piece of work that turns the heap, and on. -/
def effR (P : Program) (E : (AV → Hp → Prop) → Prop) (obl : List AItem) (d : Option Nat) (l : List (AItem × List AItem)) (st : List Fr) (e : Env) (k : Kt) : Prop :=
  E fun v h' => obls P obl (e.put d v) h' ∧ runS P l st (e.put d v) h' k
/-- A call, and on. -/
def callR (P : Program) (f : Nat) (args : List AV) (obl : List AItem) (d : Option Nat) (l : List (AItem × List AItem)) (st : List Fr) (e : Env) (h : Hp) (k : Kt) : Prop :=
  Triple P f args h fun v h' => obls P obl (e.put d v) h' ∧ runS P l st (e.put d v) h' k

/-- A guarded load. -/
def gd (v : AV) (w : Bool) (a : Option AV) : Option AV := match v with
  | .bool b => if b = w then a else some (.tup [])
  | .tup [] => some (.tup [])
  | _ => none
theorem gd_bool {b w : Bool} {a : Option AV} : gd (.bool b) w a = if b = w then a else some (.tup []) := rfl
theorem gd_tup {w : Bool} {a : Option AV} : gd (.tup []) w a = some (.tup []) := rfl

section
variable {P : Program} {st : List Fr} {e : Env} {h : Hp} {k : Kt} {d : Option Nat} {obl : List AItem} {l : List (AItem × List AItem)}
theorem run_skip : run P .skip st e h k ↔ fall P st e h k := Iff.rfl
theorem run_reg {l : List (AItem × List AItem)} : run P (.reg l) st e h k ↔ runS P l st e h k := Iff.rfl
theorem run_seq {a b : ACode} : run P (.seq a b) st e h k ↔ run P a (.code b :: st) e h k := Iff.rfl
theorem run_cond {c : AE} {t f : ACode} : run P (.cond c t f) st e h k ↔ cndR P (c.ev e) t f st e h k := Iff.rfl
theorem run_block {id : Nat} {b : ACode} : run P (.block id b) st e h k ↔ run P b (.blk id :: st) e h k := Iff.rfl
theorem run_exit {id : Nat} : run P (.exit id) st e h k ↔ outR P id st e h k := Iff.rfl
theorem run_ret : run P .ret st e h k ↔ k.kr e h := Iff.rfl
theorem fall_nil : fall P [] e h k ↔ k.kn e h := Iff.rfl
theorem fall_code {b : ACode} : fall P (.code b :: st) e h k ↔ run P b st e h k := Iff.rfl
theorem fall_blk {id : Nat} : fall P (.blk id :: st) e h k ↔ fall P st e h k := Iff.rfl
theorem fall_lp {J : Env → Hp → Prop} : fall P (.lp J :: st) e h k ↔ J e h := Iff.rfl
theorem out_nil {i : Nat} : outR P i [] e h k ↔ k.kx i e h := Iff.rfl
theorem out_code {i : Nat} {b : ACode} : outR P i (.code b :: st) e h k ↔ outR P i st e h k := Iff.rfl
theorem out_blk {i id : Nat} : outR P i (.blk id :: st) e h k ↔ if i = id then fall P st e h k else outR P i st e h k := Iff.rfl
theorem out_lp {i : Nat} {J : Env → Hp → Prop} : outR P i (.lp J :: st) e h k ↔ outR P i st e h k := Iff.rfl
theorem runS_nil : runS P [] st e h k ↔ fall P st e h k := Iff.rfl
theorem cnd_true {t f : ACode} : cndR P (.bool true) t f st e h k ↔ run P t st e h k := by simp [cndR]
theorem cnd_false {t f : ACode} : cndR P (.bool false) t f st e h k ↔ run P f st e h k := by simp [cndR]
theorem cnd_bool {t f : ACode} {b : Bool} (ht : b = true → run P t st e h k) (hf : b = false → run P f st e h k) : cndR P (.bool b) t f st e h k := ⟨b, rfl, ht, hf⟩
theorem cnd_dec {t f : ACode} {p : Prop} [Decidable p] (ht : p → run P t st e h k) (hf : ¬ p → run P f st e h k) : cndR P (.bool (decide p)) t f st e h k :=
  ⟨_, rfl, fun hh => ht (by simpa using hh), fun hh => hf (by simpa using hh)⟩
theorem nx_some {v : AV} : nx P (some v) d l st e h k ↔ runS P l st (e.put d v) h k := ex_some
theorem nx_if {c : Prop} [Decidable c] {v : AV} : nx P (if c then some v else none) d l st e h k ↔ c ∧ runS P l st (e.put d v) h k := ite_some
theorem nx_none : ¬ nx P none d l st e h k := fun ⟨_, h, _⟩ => by cases h
theorem nxh_some {h' : Hp} : nxh P (some h') [] d l st e k ↔ runS P l st (e.put d (.tup [])) h' k := by simp [nxh, obls]
theorem nxh_obl {h' : Hp} {o : AItem} {os : List AItem} : nxh P (some h') (o :: os) d l st e k ↔ obls P (o :: os) (e.put d (.tup [])) h' ∧ runS P l st (e.put d (.tup [])) h' k := ex_some
theorem obls_nil : obls P [] e h ↔ True := by simp [obls]
theorem obls_cons {x : AItem} {xs : List AItem} : obls P (x :: xs) e h ↔ stab P x e h ∧ obls P xs e h := by simp [obls]
theorem stab_ld {d sz : Nat} {ag : Bool} {x : AE} : stab P ⟨some d, .ld sz ag x, none⟩ e h ↔ ldA sz ag h (x.ev e) = some (e d) := Iff.rfl
theorem stab_ldg {d sz g : Nat} {ag w : Bool} {x : AE} : stab P ⟨some d, .ld sz ag x, some (g, w)⟩ e h ↔ gd (e g) w (ldA sz ag h (x.ev e)) = some (e d) := Iff.rfl
theorem stab_bs {d : Nat} {x : AE} : stab P ⟨some d, .bstr x, none⟩ e h ↔ bstrA h (x.ev e) = some (e d) := Iff.rfl
theorem stab_bsg {d g : Nat} {w : Bool} {x : AE} : stab P ⟨some d, .bstr x, some (g, w)⟩ e h ↔ gd (e g) w (bstrA h (x.ev e)) = some (e d) := Iff.rfl
theorem msl_inl {v : AV} : mslR P (some (.inl v)) d l st e h k ↔ runS P l st (e.put d v) h k := ex_some
theorem msl_inr {o : AObj} {g : Nat → AV} : mslR P (some (.inr (o, g))) d l st e h k ↔ newR P o g d l st e h k := ex_some
theorem bsl_some {s n : Nat} {v : List (List AV)} : bslR P s n (some v) d l st e h k ↔ newR P (.row s v n) (fun b => .arr b s 0 n n) d l st e h k := ex_some

/-- How an operation goes on. -/
def opR (P : Program) : AOp → Option Nat → List AItem → List (AItem × List AItem) → List Fr → Env → Hp → Kt → Prop
  | .mv x, d, _, l, st, e, h, k => nx P (some (x.ev e)) d l st e h k
  | .pick c a b, d, _, l, st, e, h, k => nx P (pickA (c.ev e) (a.ev e) (b.ev e)) d l st e h k
  | .bin op x y, d, _, l, st, e, h, k => nx P (binA op (x.ev e) (y.ev e)) d l st e h k
  | .eqn kd neg x y, d, _, l, st, e, h, k => nx P ((eqN kd (x.ev e) (y.ev e)).map fun b => AV.bool (if neg then !b else b)) d l st e h k
  | .un op x, d, _, l, st, e, h, k => nx P (unA op (x.ev e)) d l st e h k
  | .cvi kd x, d, _, l, st, e, h, k => nx P (cviA kd (x.ev e)) d l st e h k
  | .cvs x, d, _, l, st, e, h, k => nx P (strA (x.ev e)) d l st e h k
  | .nilck x, d, _, l, st, e, h, k => nx P (ckA (x.ev e)) d l st e h k
  | .fa off x, d, _, l, st, e, h, k => nx P (faA off (x.ev e)) d l st e h k
  | .fld off sz ag x, d, _, l, st, e, h, k => nx P (fldA off sz ag (x.ev e)) d l st e h k
  | .ixs x i, d, _, l, st, e, h, k => nx P (ixsA (x.ev e) (i.ev e)) d l st e h k
  | .ia s x i, d, _, l, st, e, h, k => nx P (iaA s (x.ev e) (i.ev e)) d l st e h k
  | .slcS x lo hi, d, _, l, st, e, h, k => nx P (slcS (x.ev e) (oev e lo) (oev e hi)) d l st e h k
  | .slcL s x lo hi, d, _, l, st, e, h, k => nx P (slcL s (x.ev e) (oev e lo) (oev e hi)) d l st e h k
  | .slcM s x lo hi mx, d, _, l, st, e, h, k => nx P (slcM s (x.ev e) (oev e lo) (hi.ev e) (mx.ev e)) d l st e h k
  | .clr s z x, d, obl, l, st, e, h, k => effR P (clrE s z (x.ev e) h) obl d l st e k
  | .appz s b z x y, d, obl, l, st, e, h, k => effR P (appzE s b z (x.ev e) (y.ev e) h) obl d l st e k
  | .ovl s x y, d, obl, l, st, e, h, k => effR P (ovlE s (x.ev e) (y.ev e) h) obl d l st e k
  | .lenS x, d, _, l, st, e, h, k => nx P (lenS (x.ev e)) d l st e h k
  | .lenL x, d, _, l, st, e, h, k => nx P (lenL (x.ev e)) d l st e h k
  | .capL x, d, _, l, st, e, h, k => nx P (capL (x.ev e)) d l st e h k
  | .ext n x, d, _, l, st, e, h, k => nx P (extA n (x.ev e)) d l st e h k
  | .mkif t x, d, _, l, st, e, h, k => nx P (some (AV.iface t (x.ev e))) d l st e h k
  | .ta t ok z x, d, _, l, st, e, h, k => nx P (taA t ok z (x.ev e)) d l st e h k
  | .mkfn f caps, d, _, l, st, e, h, k => nx P (some (AV.fn f (evs e caps))) d l st e h k
  | .mm mx x y, d, _, l, st, e, h, k => nx P (mmA mx (x.ev e) (y.ev e)) d l st e h k
  | .bld z ps, d, _, l, st, e, h, k => nx P ((fillA z (evParts e ps)).map AV.agg) d l st e h k
  | .ld sz ag x, d, _, l, st, e, h, k => nx P (ldA sz ag h (x.ev e)) d l st e h k
  | .bstr x, d, _, l, st, e, h, k => nx P (bstrA h (x.ev e)) d l st e h k
  | .iap n s x i, d, _, l, st, e, h, k => nx P (iapA n s (x.ev e) (i.ev e)) d l st e h k
  | .ixa n s ag x i, d, _, l, st, e, h, k => nx P (ixaA n s ag (x.ev e) (i.ev e)) d l st e h k
  | .box x, d, _, l, st, e, h, k => boxR P (x.ev e).cells d l st e h k
  | .alloc z, d, _, l, st, e, h, k => newR P (.row z.length [z] 1) (fun n => .ptr n z.length 0 0) d l st e h k
  | .bsl z n ps, d, _, l, st, e, h, k => bslR P z.length n (setL z.length (List.replicate n z) (evIdx e ps)) d l st e h k
  | .msl bytes z n c, d, _, l, st, e, h, k => mslR P (mslA z.length bytes z (n.ev e) (c.ev e)) d l st e h k
  | .st sz x y, d, obl, l, st, e, h, k => nxh P (stA sz h (x.ev e) (y.ev e)) obl d l st e k
  | .app s bytes x y, d, obl, l, st, e, h, k => effR P (appE s bytes (x.ev e) (y.ev e) h) obl d l st e k
  | .cp s x y, d, obl, l, st, e, h, k => effR P (cpE s (x.ev e) (y.ev e) h) obl d l st e k
  | .strb x, d, obl, l, st, e, h, k => effR P (strbE (x.ev e) h) obl d l st e k
  | .cvb x, d, obl, l, st, e, h, k => effR P (cvbE (x.ev e) h) obl d l st e k
  | .call f args, d, obl, l, st, e, h, k => callR P f (evs e args) obl d l st e h k
  | .callv x args, d, obl, l, st, e, h, k => effR P (callvE P (x.ev e) (evs e args) h) obl d l st e k
  | .nop, d, obl, l, st, e, h, k => nxh P (some h) obl d l st e k

theorem runS_op {op : AOp} : runS P ((⟨d, op, none⟩, obl) :: l) st e h k ↔ opR P op d obl l st e h k := by
  unfold runS
  rw [wpS_op]
  cases op with
  | mv x => exact (ex_some (x := x.ev e) (K := fun v => wpS P l (e.put d v) h (kk P k st).1)).symm
  | mkif t x => exact (ex_some (x := AV.iface t (x.ev e)) (K := fun v => wpS P l (e.put d v) h (kk P k st).1)).symm
  | mkfn f caps => exact (ex_some (x := AV.fn f (evs e caps)) (K := fun v => wpS P l (e.put d v) h (kk P k st).1)).symm
  | bld z ps => exact (map_some (x := fillA z (evParts e ps)) (f := AV.agg) (K := fun v => wpS P l (e.put d v) h (kk P k st).1)).symm
  | nop => exact (ex_some (x := h) (K := fun h' => obls P obl (e.put d (.tup [])) h' ∧ wpS P l (e.put d (.tup [])) h' (kk P k st).1)).symm
  | msl bytes z n c =>
    constructor
    · rintro ⟨r, h1, h2⟩; refine ⟨r, h1, ?_⟩; cases r with
      | inl v => exact h2
      | inr o => exact h2
    · rintro ⟨r, h1, h2⟩; refine ⟨r, h1, ?_⟩; cases r with
      | inl v => exact h2
      | inr o => exact h2
  | _ => exact Iff.rfl

theorem run_loop {b : ACode} (I : Env → Hp → Prop) (μ : Env → Hp → Nat) (h0 : I e h)
    (hr : ∀ e h, I e h → run P b (.lp (fun e' h' => I e' h' ∧ μ e' h' < μ e h) :: st) e h k) : run P (.loop b) st e h k := ⟨I, μ, h0, hr⟩

theorem call_use {f : Nat} {args : List AV} {Q : AV → Hp → Prop} (c : Triple P f args h Q) (hk : ∀ v h', Q v h' → runS P l st (e.put d v) h' k) : callR P f args [] d l st e h k :=
  c.mono fun v h' q => ⟨fun _ hm => by simp at hm, hk v h' q⟩
theorem call_use' {f : Nat} {args : List AV} {Q : AV → Hp → Prop} (c : Triple P f args h Q) (hk : ∀ v h', Q v h' → obls P obl (e.put d v) h' ∧ runS P l st (e.put d v) h' k) : callR P f args obl d l st e h k :=
  c.mono fun v h' q => hk v h' q
theorem app_use {s bytes : Nat} {v y : AV} {es ys : List (List AV)} {S : List Nat} (o : OwnV h s v es S) (hy : srcA s h y = some ys) (ha : AtomsL ys)
    (hb : (es.length + ys.length) * bytes ≤ 70368744177664) (hk : ∀ v' h' S', OwnV h' s v' (es ++ ys) S' → Mod S S' h h' → runS P l st (e.put d v') h' k) :
    effR P (appE s bytes v y h) [] d l st e k :=
  own_app o hy ha hb fun v' h' S' a b => ⟨fun _ hm => by simp at hm, hk v' h' S' a b⟩
theorem new_use {o : AObj} {g : Nat → AV} (hk : ∀ n, h n = none → runS P l st (e.put d (g n)) (h.set n o) k) : newR P o g d l st e h k := hk
end

section
variable {e : Env}
theorem ev_tm {n : Nat} : AE.ev e (.tm n) = e n := rfl
theorem ev_cs {v : AV} : AE.ev e (.cs v) = v := rfl
theorem evs_nil : evs e [] = [] := rfl
theorem evs_cons {x : AE} {xs : List AE} : evs e (x :: xs) = x.ev e :: evs e xs := rfl
theorem evIdx_nil : evIdx e [] = [] := rfl
theorem evIdx_cons {n : Nat} {x : AE} {xs : List (Nat × AE)} : evIdx e ((n, x) :: xs) = (n, x.ev e) :: evIdx e xs := rfl
theorem evParts_nil : evParts e [] = [] := rfl
theorem evParts_cons {n m : Nat} {x : AE} {xs : List (Nat × Nat × AE)} : evParts e ((n, m, x) :: xs) = (n, m, x.ev e) :: evParts e xs := rfl
theorem oev_none : oev e none = none := rfl
theorem oev_some {x : AE} : oev e (some x) = some (x.ev e) := rfl
end

theorem cells_bool (b : Bool) : (AV.bool b).cells = [(AV.bool b)] := rfl
theorem atom_bool (b : Bool) : (AV.bool b).isAtom = true := rfl
theorem cells_int (k : IntKind) (n : Int) : (AV.int k n).cells = [(AV.int k n)] := rfl
theorem atom_int (k : IntKind) (n : Int) : (AV.int k n).isAtom = true := rfl
theorem cells_str (l : List UInt8) : (AV.str l).cells = [(AV.str l)] := rfl
theorem atom_str (l : List UInt8) : (AV.str l).isAtom = true := rfl
theorem cells_nilp  : AV.nilp.cells = [AV.nilp] := rfl
theorem atom_nilp  : AV.nilp.isAtom = true := rfl
theorem cells_ptr (b s i k : Nat) : (AV.ptr b s i k).cells = [(AV.ptr b s i k)] := rfl
theorem atom_ptr (b s i k : Nat) : (AV.ptr b s i k).isAtom = true := rfl
theorem cells_ro (c : List AV) : (AV.ro c).cells = [(AV.ro c)] := rfl
theorem atom_ro (c : List AV) : (AV.ro c).isAtom = true := rfl
theorem cells_nils  : AV.nils.cells = [AV.nils] := rfl
theorem atom_nils  : AV.nils.isAtom = true := rfl
theorem cells_lst (es : List (List AV)) : (AV.lst es).cells = [(AV.lst es)] := rfl
theorem atom_lst (es : List (List AV)) : (AV.lst es).isAtom = true := rfl
theorem cells_arr (b s o l c : Nat) : (AV.arr b s o l c).cells = [(AV.arr b s o l c)] := rfl
theorem atom_arr (b s o l c : Nat) : (AV.arr b s o l c).isAtom = true := rfl
theorem cells_nilm  : AV.nilm.cells = [AV.nilm] := rfl
theorem atom_nilm  : AV.nilm.isAtom = true := rfl
theorem cells_map (b : Nat) : (AV.map b).cells = [(AV.map b)] := rfl
theorem atom_map (b : Nat) : (AV.map b).isAtom = true := rfl
theorem cells_fn (f : FuncId) (c : List AV) : (AV.fn f c).cells = [(AV.fn f c)] := rfl
theorem atom_fn (f : FuncId) (c : List AV) : (AV.fn f c).isAtom = true := rfl
theorem cells_nilf  : AV.nilf.cells = [AV.nilf] := rfl
theorem atom_nilf  : AV.nilf.isAtom = true := rfl
theorem cells_nili  : AV.nili.cells = [AV.nili] := rfl
theorem atom_nili  : AV.nili.isAtom = true := rfl
theorem cells_iface (t : TypeId) (v : AV) : (AV.iface t v).cells = [(AV.iface t v)] := rfl
theorem atom_iface (t : TypeId) (v : AV) : (AV.iface t v).isAtom = true := rfl
theorem cells_agg (c : List AV) : (AV.agg c).cells = c := rfl

theorem eqN_b (a b : Bool) : eqN .bool (.bool a) (.bool b) = some (a == b) := rfl
theorem eqN_pnn  : eqN .ptr (.nilp) (.nilp) = some (true) := rfl
theorem eqN_ppn (b s i k : Nat) : eqN .ptr (.ptr b s i k) (.nilp) = some (false) := rfl
theorem eqN_pnp (b s i k : Nat) : eqN .ptr (.nilp) (.ptr b s i k) = some (false) := rfl
theorem eqN_prn (c : List AV) : eqN .ptr (.ro c) (.nilp) = some (false) := rfl
theorem eqN_snn  : eqN .sl (.nils) (.nils) = some (true) := rfl
theorem eqN_san (b s o l c : Nat) : eqN .sl (.arr b s o l c) (.nils) = some (false) := rfl
theorem eqN_sen  : eqN .sl (.emp) (.nils) = some (false) := rfl
theorem eqN_sln (x : List AV) (y : List (List AV)) : eqN .sl (.lst (x :: y)) (.nils) = some (false) := rfl
theorem eqN_mnn  : eqN .mp (.nilm) (.nilm) = some (true) := rfl
theorem eqN_mmn (b : Nat) : eqN .mp (.map b) (.nilm) = some (false) := rfl
theorem eqN_fnn  : eqN .fn (.nilf) (.nilf) = some (true) := rfl
theorem eqN_ffn (f : FuncId) (c : List AV) : eqN .fn (.fn f c) (.nilf) = some (false) := rfl
theorem eqN_iin (t : TypeId) (v : AV) : eqN .ifc (.iface t v) (.nili) = some (false) := rfl
theorem eqN_inn  : eqN .ifc (.nili) (.nili) = some (true) := rfl

theorem lenL_lst (es : List (List AV)) : lenL (.lst es) = some (.int .i64 es.length) := rfl
theorem lenL_arr (b s o l c : Nat) : lenL (.arr b s o l c) = some (.int .i64 l) := rfl
theorem lenL_nils : lenL .nils = some (.int .i64 0) := rfl
theorem lenL_emp : lenL .emp = some (.int .i64 0) := rfl
theorem iaA_arr (s b s' off len c : Nat) (k : IntKind) (n : Int) : iaA s (.arr b s' off len c) (.int k n) = if s' = s ∧ 0 ≤ n ∧ n < len then some (.ptr b s (off + n.toNat) 0) else none := rfl
theorem cellsAt_ptr (h : Hp) (b s i k : Nat) : cellsAt h (.ptr b s i k) = match h b with
    | some (.row s' es _) => if s' = s then (es[i]?).map (·.drop k) else none
    | _ => none := rfl
theorem cellsAt_ro (h : Hp) (c : List AV) : cellsAt h (.ro c) = some c := rfl

section
variable {e : Env} {h : Hp} {K : AV → Hp → Prop}
theorem resK_nil : resK [] e h K ↔ K (.tup []) h := ex_some (x := ([] : List AV)) (K := fun vs => K (.tup vs) h)
theorem resK_tmp {t : Nat} : resK [.tmp t] e h K ↔ K (e t) h := ex_some (x := e t) (K := fun v => K v h)
theorem resK_cell {a sz : Nat} {ag : Bool} : resK [.cell a sz ag] e h K ↔ ∃ v, ldA sz ag h (e a) = some v ∧ K v h := Iff.rfl
theorem resK_more {a b : ARes} {l : List ARes} : resK (a :: b :: l) e h K ↔ ∃ vs, resL e h (a :: b :: l) = some vs ∧ K (.tup vs) h := Iff.rfl
theorem resL_nil : resL e h [] = some [] := rfl
theorem resL_tmp {t : Nat} {l : List ARes} : resL e h (.tmp t :: l) = (resL e h l).map (e t :: ·) := rfl
theorem resL_cell {a sz : Nat} {ag : Bool} {l : List ARes} : resL e h (.cell a sz ag :: l) = (ldA sz ag h (e a)).bind fun v => (resL e h l).map (v :: ·) := rfl
end

end Go.Hz
