/- The operations as data; what each means; from the model's operations to them. -/
import Derived.Test.YtnojalihnajkbaaR9IndexLooksLawPA
import Derived.ChangeArms
import Derived.DataReads
import Derived.WideShapes
import Derived.Below
import Derived.ProofKit
import Derived.WalkKit
import Derived.OpenShut
import Derived.ShutString
import Derived.ChangeOld
import Derived.Carry
import Derived.RowKit
import Derived.Handed
namespace Go.Hz

inductive AOp where
  | mv (x : AE)
  | pick (c a b : AE)
  | bin (op : BinOp) (x y : AE)
  | eqn (k : NK) (neg : Bool) (x y : AE)
  | un (op : UnOp) (x : AE)
  | cvi (k : IntKind) (x : AE)
  | cvs (x : AE)
  | nilck (x : AE)
  | fa (off : Nat) (x : AE)
  | fld (off sz : Nat) (ag : Bool) (x : AE)
  | ixs (x i : AE)
  | ia (s : Nat) (x i : AE)
  | slcS (x : AE) (lo hi : Option AE)
  | slcL (s : Nat) (x : AE) (lo hi : Option AE)
  | lenS (x : AE)
  | lenL (x : AE)
  | capL (x : AE)
  | ext (n : Nat) (x : AE)
  | mkif (t : TypeId) (x : AE)
  | ta (t : TypeId) (ok : Bool) (zero : AV) (x : AE)
  | mkfn (f : FuncId) (caps : List AE)
  | mm (mx : Bool) (x y : AE)
  | bld (zero : List AV) (parts : List (Nat × Nat × AE))
  | ld (sz : Nat) (ag : Bool) (x : AE)
  | bstr (x : AE)
  | box (x : AE)
  | alloc (zero : List AV)
  | bsl (zero : List AV) (n : Nat) (parts : List (Nat × AE))
  | msl (bytes : Nat) (zero : List AV) (len cap : AE)
  | st (sz : Nat) (x y : AE)
  | app (s bytes : Nat) (x y : AE)
  | cp (s : Nat) (x y : AE)
  | strb (x : AE)
  | call (f : FuncId) (args : List AE)
  | callv (x : AE) (args : List AE)
  | iap (n s : Nat) (x i : AE)
  | ixa (n s : Nat) (ag : Bool) (x i : AE)
  | cvb (x : AE)
  | nop
  | slcM (s : Nat) (x : AE) (lo : Option AE) (hi mx : AE)
  | clr (s : Nat) (zero : List AV) (x : AE)
  | appz (s bytes : Nat) (zero : List AV) (x y : AE)
  | ovl (s : Nat) (x y : AE)

instance : Inhabited AOp := ⟨.mv (.tm 0)⟩

def oev (e : Env) (x : Option AE) : Option AV := x.map (·.ev e)
def olooks : Option AE → List Nat
  | none => []
  | some x => x.looks
def evs (e : Env) (xs : List AE) : List AV := xs.map (·.ev e)

def AOp.sm (P : Program) : AOp → Sm
  | .mv x => .pure fun e => some (x.ev e)
  | .pick c a b => .pure fun e => pickA (c.ev e) (a.ev e) (b.ev e)
  | .bin op x y => .pure fun e => binA op (x.ev e) (y.ev e)
  | .eqn k neg x y => .pure fun e => (eqN k (x.ev e) (y.ev e)).map fun b => .bool (if neg then !b else b)
  | .un op x => .pure fun e => unA op (x.ev e)
  | .cvi k x => .pure fun e => cviA k (x.ev e)
  | .cvs x => .pure fun e => strA (x.ev e)
  | .nilck x => .pure fun e => ckA (x.ev e)
  | .fa off x => .pure fun e => faA off (x.ev e)
  | .fld off sz ag x => .pure fun e => fldA off sz ag (x.ev e)
  | .ixs x i => .pure fun e => ixsA (x.ev e) (i.ev e)
  | .ia s x i => .pure fun e => iaA s (x.ev e) (i.ev e)
  | .slcS x lo hi => .pure fun e => Hz.slcS (x.ev e) (oev e lo) (oev e hi)
  | .slcL s x lo hi => .pure fun e => Hz.slcL s (x.ev e) (oev e lo) (oev e hi)
  | .lenS x => .pure fun e => Hz.lenS (x.ev e)
  | .lenL x => .pure fun e => Hz.lenL (x.ev e)
  | .capL x => .pure fun e => Hz.capL (x.ev e)
  | .ext n x => .pure fun e => extA n (x.ev e)
  | .mkif t x => .pure fun e => some (.iface t (x.ev e))
  | .ta t ok z x => .pure fun e => taA t ok z (x.ev e)
  | .mkfn f caps => .pure fun e => some (.fn f (evs e caps))
  | .mm mx x y => .pure fun e => mmA mx (x.ev e) (y.ev e)
  | .bld z ps => .pure fun e => (fillA z (evParts e ps)).map .agg
  | .ld sz ag x => .load fun e h => ldA sz ag h (x.ev e)
  | .bstr x => .load fun e h => bstrA h (x.ev e)
  | .box x => .mk fun e => if ((x.ev e).cells.all AV.isAtom) = true then some (.inr (.row (x.ev e).cells.length [(x.ev e).cells] 1, fun n => .ptr n (x.ev e).cells.length 0 0)) else none
  | .alloc z => .mk fun _ => some (.inr (.row z.length [z] 1, fun n => .ptr n z.length 0 0))
  | .bsl z n ps => .mk fun e => (setL z.length (List.replicate n z) (evIdx e ps)).map fun es => .inr (.row z.length es n, fun b => .arr b z.length 0 n n)
  | .msl bytes z l c => .mk fun e => mslA z.length bytes z (l.ev e) (c.ev e)
  | .st sz x y => .eff fun e h K => ∃ h', stA sz h (x.ev e) (y.ev e) = some h' ∧ K (.tup []) h'
  | .app s bytes x y => .eff fun e h K => appE s bytes (x.ev e) (y.ev e) h K
  | .cp s x y => .eff fun e h K => cpE s (x.ev e) (y.ev e) h K
  | .strb x => .eff fun e h K => strbE (x.ev e) h K
  | .call f args => .eff fun e h K => Triple P f (evs e args) h K
  | .callv x args => .eff fun e h K => callvE P (x.ev e) (evs e args) h K
  | .iap n s x i => .pure fun e => iapA n s (x.ev e) (i.ev e)
  | .ixa n s ag x i => .pure fun e => ixaA n s ag (x.ev e) (i.ev e)
  | .cvb x => .eff fun e h K => cvbE (x.ev e) h K
  | .nop => .eff fun _ h K => K (.tup []) h
  | .slcM s x lo hi mx => .pure fun e => Hz.slcM s (x.ev e) (oev e lo) (hi.ev e) (mx.ev e)
  | .clr s z x => .eff fun e h K => clrE s z (x.ev e) h K
  | .appz s bytes z x y => .eff fun e h K => appzE s bytes z (x.ev e) (y.ev e) h K
  | .ovl s x y => .eff fun e h K => ovlE s (x.ev e) (y.ev e) h K

def AOp.looks : AOp → List Nat
  | .mv x | .un _ x | .cvi _ x | .cvs x | .nilck x | .fa _ x | .fld _ _ _ x | .lenS x | .lenL x | .capL x | .ext _ x | .mkif _ x | .ta _ _ _ x | .ld _ _ x | .bstr x | .box x | .strb x | .cvb x | .clr _ _ x => x.looks
  | .pick c a b => c.looks ++ (a.looks ++ b.looks)
  | .bin _ x y | .eqn _ _ x y | .ixs x y | .ia _ x y | .mm _ x y | .st _ x y | .app _ _ x y | .cp _ x y | .msl _ _ x y | .iap _ _ x y | .ixa _ _ _ x y | .appz _ _ _ x y | .ovl _ x y => x.looks ++ y.looks
  | .slcS x lo hi | .slcL _ x lo hi => x.looks ++ (olooks lo ++ olooks hi)
  | .slcM _ x lo hi mx => x.looks ++ (olooks lo ++ (hi.looks ++ mx.looks))
  | .mkfn _ caps => caps.flatMap AE.looks
  | .bld _ ps => ps.flatMap fun p => p.2.2.looks
  | .alloc _ => []
  | .nop => []
  | .bsl _ _ ps => ps.flatMap fun p => p.2.looks
  | .call _ args => args.flatMap AE.looks
  | .callv x args => x.looks ++ args.flatMap AE.looks

inductive Kind where
  | pure | load | mk | eff
  deriving DecidableEq

def AOp.kind : AOp → Kind
  | .ld .. | .bstr .. => .load
  | .box .. | .alloc .. | .bsl .. | .msl .. => .mk
  | .st .. | .app .. | .cp .. | .strb .. | .call .. | .callv .. | .cvb .. | .nop | .clr .. | .appz .. | .ovl .. => .eff
  | _ => .pure

theorem oev_congr {x : Option AE} {e e' : Env} (h : ∀ t ∈ olooks x, e t = e' t) : oev e x = oev e' x := by
  cases x with
  | none => rfl
  | some x => simp only [oev, Option.map_some]; rw [AE.ev_congr h]

theorem evParts_congr {ps : List (Nat × Nat × AE)} {e e' : Env} (h : ∀ t ∈ ps.flatMap (fun p => p.2.2.looks), e t = e' t) : evParts e ps = evParts e' ps :=
  List.map_congr_left fun x hx => by rw [AE.ev_congr fun t ht => h t (List.mem_flatMap.2 ⟨x, hx, ht⟩)]

theorem evIdx_congr {ps : List (Nat × AE)} {e e' : Env} (h : ∀ t ∈ ps.flatMap (fun p => p.2.looks), e t = e' t) : evIdx e ps = evIdx e' ps :=
  List.map_congr_left fun x hx => by rw [AE.ev_congr fun t ht => h t (List.mem_flatMap.2 ⟨x, hx, ht⟩)]

theorem AOp.good (P : Program) (o : AOp) : (o.sm P).good o.looks := by
  cases o with
  | ld sz ag x => exact good_ld
  | bstr x => exact good_bstr
  | st sz x y => exact good_st
  | app s b x y => exact good_app
  | cp s x y => exact good_cp
  | strb x => exact good_strb
  | call f args => exact good_call
  | callv x args => exact good_callv
  | cvb x => exact good_cvb
  | clr s z x => exact good_clr
  | appz s b z x y => exact good_appz
  | ovl s x y => exact good_ovl
  | slcM s x lo hi mx =>
    intro e e' h
    simp only [AOp.looks, List.mem_append] at h
    dsimp only
    rw [AE.ev_congr (y := x) fun t ht => h t (.inl ht), oev_congr (x := lo) fun t ht => h t (.inr (.inl ht)), AE.ev_congr (y := hi) fun t ht => h t (.inr (.inr (.inl ht))), AE.ev_congr (y := mx) fun t ht => h t (.inr (.inr (.inr ht)))]
  | nop => exact ⟨fun _ _ _ _ _ hf => hf, fun _ _ _ _ hk hf => hk _ _ hf, fun e h K n ob hn hf => ⟨h, hn, rfl, hf⟩⟩
  | iap n s x y => intro e e' h; simp only [AOp.looks, List.mem_append] at h; dsimp only; rw [AE.ev_congr (y := x) fun t ht => h t (.inl ht), AE.ev_congr (y := y) fun t ht => h t (.inr ht)]
  | ixa n s ag x y => intro e e' h; simp only [AOp.looks, List.mem_append] at h; dsimp only; rw [AE.ev_congr (y := x) fun t ht => h t (.inl ht), AE.ev_congr (y := y) fun t ht => h t (.inr ht)]
  | slcS x lo hi =>
    intro e e' h
    simp only [AOp.looks, List.mem_append] at h
    dsimp only
    rw [AE.ev_congr (y := x) fun t ht => h t (.inl ht), oev_congr (x := lo) fun t ht => h t (.inr (.inl ht)), oev_congr (x := hi) fun t ht => h t (.inr (.inr ht))]
  | slcL s x lo hi =>
    intro e e' h
    simp only [AOp.looks, List.mem_append] at h
    dsimp only
    rw [AE.ev_congr (y := x) fun t ht => h t (.inl ht), oev_congr (x := lo) fun t ht => h t (.inr (.inl ht)), oev_congr (x := hi) fun t ht => h t (.inr (.inr ht))]
  | pick c a b =>
    intro e e' h
    simp only [AOp.looks, List.mem_append] at h
    dsimp only
    rw [AE.ev_congr (y := c) fun t ht => h t (.inl ht), AE.ev_congr (y := a) fun t ht => h t (.inr (.inl ht)), AE.ev_congr (y := b) fun t ht => h t (.inr (.inr ht))]
  | mkfn f caps => intro e e' h; dsimp only; rw [show evs e caps = evs e' caps from evs_congr h]
  | bld z ps => intro e e' h; dsimp only; rw [evParts_congr h]
  | bsl z n ps => intro e e' h; dsimp only; rw [evIdx_congr h]
  | alloc z => intro e e' h; rfl
  | bin op x y => intro e e' h; simp only [AOp.looks, List.mem_append] at h; dsimp only; rw [AE.ev_congr (y := x) fun t ht => h t (.inl ht), AE.ev_congr (y := y) fun t ht => h t (.inr ht)]
  | eqn k neg x y => intro e e' h; simp only [AOp.looks, List.mem_append] at h; dsimp only; rw [AE.ev_congr (y := x) fun t ht => h t (.inl ht), AE.ev_congr (y := y) fun t ht => h t (.inr ht)]
  | ixs x y => intro e e' h; simp only [AOp.looks, List.mem_append] at h; dsimp only; rw [AE.ev_congr (y := x) fun t ht => h t (.inl ht), AE.ev_congr (y := y) fun t ht => h t (.inr ht)]
  | ia s x y => intro e e' h; simp only [AOp.looks, List.mem_append] at h; dsimp only; rw [AE.ev_congr (y := x) fun t ht => h t (.inl ht), AE.ev_congr (y := y) fun t ht => h t (.inr ht)]
  | mm mx x y => intro e e' h; simp only [AOp.looks, List.mem_append] at h; dsimp only; rw [AE.ev_congr (y := x) fun t ht => h t (.inl ht), AE.ev_congr (y := y) fun t ht => h t (.inr ht)]
  | msl b z x y => intro e e' h; simp only [AOp.looks, List.mem_append] at h; dsimp only; rw [AE.ev_congr (y := x) fun t ht => h t (.inl ht), AE.ev_congr (y := y) fun t ht => h t (.inr ht)]
  | mv x => intro e e' h; dsimp only; rw [AE.ev_congr (y := x) h]
  | un op x => intro e e' h; dsimp only; rw [AE.ev_congr (y := x) h]
  | cvi k x => intro e e' h; dsimp only; rw [AE.ev_congr (y := x) h]
  | cvs x => intro e e' h; dsimp only; rw [AE.ev_congr (y := x) h]
  | nilck x => intro e e' h; dsimp only; rw [AE.ev_congr (y := x) h]
  | fa off x => intro e e' h; dsimp only; rw [AE.ev_congr (y := x) h]
  | fld off sz ag x => intro e e' h; dsimp only; rw [AE.ev_congr (y := x) h]
  | lenS x => intro e e' h; dsimp only; rw [AE.ev_congr (y := x) h]
  | lenL x => intro e e' h; dsimp only; rw [AE.ev_congr (y := x) h]
  | capL x => intro e e' h; dsimp only; rw [AE.ev_congr (y := x) h]
  | ext n x => intro e e' h; dsimp only; rw [AE.ev_congr (y := x) h]
  | mkif t x => intro e e' h; dsimp only; rw [AE.ev_congr (y := x) h]
  | ta t ok z x => intro e e' h; dsimp only; rw [AE.ev_congr (y := x) h]
  | box x => intro e e' h; dsimp only; rw [AE.ev_congr (y := x) h]

theorem AOp.kind_pure {P : Program} {o : AOp} (h : o.kind = .pure) : (o.sm P).isPure = true := by cases o <;> first | rfl | cases h
theorem AOp.kind_load {P : Program} {o : AOp} (h : o.kind = .load) : (o.sm P).isLoad = true := by cases o <;> first | rfl | cases h
theorem AOp.kind_mk {P : Program} {o : AOp} (h : o.kind = .mk) : (o.sm P).isMk = true := by cases o <;> first | rfl | cases h
theorem AOp.kind_eff {P : Program} {o : AOp} (h : o.kind = .eff) : (o.sm P).isEff = true := by cases o <;> first | rfl | cases h

/-! ### from the model's operations -/

def okFn (P : Program) (f : FuncId) : Bool :=
  match P.funcs[f]? with
  | some fn => fn.name != "runtime.NumGoroutine" && fn.body.isSome
  | none => false

def nkOf : TypeDesc → Option NK
  | .bool => some .bool
  | .pointer _ => some .ptr
  | .slice _ => some .sl
  | .map _ _ => some .mp
  | .func _ _ _ => some .fn
  | .interface _ => some .ifc
  | _ => none

def constO : Operand → Bool
  | .const _ => true
  | _ => false

def notInt : TypeDesc → Bool
  | .int _ => false
  | _ => true
def notIfc : NK → Bool
  | .ifc => false
  | _ => true

def o2 {α β γ : Type} (x : Option α) (y : Option β) (f : α → β → γ) : Option γ := match x, y with | some a, some b => some (f a b) | _, _ => none

def compBuiltin (P : Program) (b : Builtin) (args : List Operand) (ats : Array TypeId) : Option AOp :=
  match b, args with
  | .len, [x] => match AE.of x, ats[0]? with
    | some x', some t => match P.underlying t with
      | some .string => some (.lenS x')
      | some (.slice _) => some (.lenL x')
      | _ => none
    | _, _ => none
  | .cap, [x] => match AE.of x, ats[0]? with
    | some x', some t => match P.underlying t with
      | some (.slice _) => some (.capL x')
      | _ => none
    | _, _ => none
  | .max, [x, y] => match AE.of x, AE.of y with
    | some x', some y' => some (.mm true x' y')
    | _, _ => none
  | .min, [x, y] => match AE.of x, AE.of y with
    | some x', some y' => some (.mm false x' y')
    | _, _ => none
  | .append, [x, y] => match AE.of x, AE.of y, ats[0]?, ats[1]? with
    | some x', some y', some xt, some yt => match P.underlying xt, P.underlying yt with
      | some (.slice el), some dy => match P.info? el with
        | some i => match i.zero with
          | some z => if z.cells.size = i.size ∧ i.bytes ≠ 0 then (match dy with
            | .int _ => match zeroA z with
              | some zs => if zs.length = i.size then some (.appz i.size i.bytes zs x' y') else none
              | none => none
            | _ => some (.app i.size i.bytes x' y')) else none
          | none => none
        | none => none
      | _, _ => none
    | _, _, _, _ => none
  | .copy, [x, y] => match AE.of x, AE.of y, ats[0]? with
    | some x', some y', some xt => match P.underlying xt with
      | some (.slice el) => match P.info? el with
        | some i => some (.cp i.size x' y')
        | none => none
      | _ => none
    | _, _, _ => none
  | .clear, [x] => match AE.of x, ats[0]? with
    | some x', some xt => match P.underlying xt with
      | some (.slice el) => match P.info? el with
        | some i => match i.zero with
          | some z => match zeroA z with
            | some zs => if zs.length = i.size ∧ zs.all AV.isAtom = true then some (.clr i.size zs x') else none
            | none => none
          | none => none
        | none => none
      | _ => none
    | _, _ => none
  | _, _ => none

def compOp (P : Program) (o : Oper) : Option AOp :=
  match o.op with
  | .move x => (AE.of x).map .mv
  | .assign x => (AE.of x).map .mv
  | .pick c a b => match AE.of c, AE.of a, AE.of b with
    | some c', some a', some b' => some (.pick c' a' b')
    | _, _, _ => none
  | .binOp op t x y _ => match AE.of x, AE.of y, P.underlying t with
    | some x', some y', some d => match d with
      | .int _ => some (.bin op x' y')
      | .string => some (.bin op x' y')
      | d => match op, nkOf d with
        | .eql, some k => if constO y = true ∨ notIfc k = true then some (.eqn k false x' y') else none
        | .neq, some k => if constO y = true ∨ notIfc k = true then some (.eqn k true x' y') else none
        | _, _ => none
    | _, _, _ => none
  | .unOp op _ x => (AE.of x).map (.un op)
  | .convert s d x => match AE.of x, P.underlying s, P.underlying d with
    | some x', some ds, some dd => match ds, dd with
      | .string, .string => some (.cvs x')
      | .string, .slice el => match P.underlying el with
        | some (.int .u8) => some (.strb x')
        | _ => none
      | .slice el, .string => match P.underlying el with
        | some (.int .u8) => some (.bstr x')
        | _ => none
      | .int _, .int k => some (.cvi k x')
      | .slice el, .slice _ => if s = d then (match P.underlying el with
        | some (.int .u8) => some (.cvb x')
        | _ => none) else none
      | _, _ => none
    | _, _, _ => none
  | .nilCheck x => (AE.of x).map .nilck
  | .fieldAddr s x n => match AE.of x, P.underlying s with
    | some x', some (.struct fs) => match fs[n]? with
      | some fl => match P.info? fl.type with
        | some i => if i.size ≠ 0 then some (.fa fl.offset x') else none
        | none => none
      | none => none
    | _, _ => none
  | .field s x n => match AE.of x, P.underlying s with
    | some x', some (.struct fs) => match fs[n]? with
      | some fl => match P.info? fl.type, P.underlying fl.type with
        | some i, some d => some (.fld fl.offset i.size d.isAg x')
        | _, _ => none
      | none => none
    | _, _ => none
  | .index t x i => match AE.of x, AE.of i, P.underlying t with
    | some x', some i', some .string => some (.ixs x' i')
    | some x', some i', some (.array n el) => match P.info? el, P.underlying el with
      | some inf, some d => some (.ixa n inf.size d.isAg x' i')
      | _, _ => none
    | _, _, _ => none
  | .indexAddr t x i => match AE.of x, AE.of i, P.underlying t with
    | some x', some i', some (.slice el) => match P.info? el with
      | some inf => some (.ia inf.size x' i')
      | none => none
    | some x', some i', some (.array n el) => match P.info? el with
      | some inf => some (.iap n inf.size x' i')
      | none => none
    | _, _, _ => none
  | .slice t x lo hi none => match AE.of x, AE.ofO lo, AE.ofO hi, P.underlying t with
    | some x', some lo', some hi', some d => match d with
      | .string => some (.slcS x' lo' hi')
      | .slice el => match P.info? el with
        | some inf => some (.slcL inf.size x' lo' hi')
        | none => none
      | _ => none
    | _, _, _, _ => none
  | .slice t x lo (some hi) (some mx) => match AE.of x, AE.ofO lo, AE.of hi, AE.of mx, P.underlying t with
    | some x', some lo', some hi', some mx', some (.slice el) => match P.info? el with
      | some inf => some (.slcM inf.size x' lo' hi' mx')
      | none => none
    | _, _, _, _, _ => none
  | .extract x n => (AE.of x).map (.ext n)
  | .makeInterface t x => match AE.of x, P.underlying t with
    | some x', some d => match d with
      | .interface _ => none
      | _ => some (.mkif t x')
    | _, _ => none
  | .typeAssert x _ t ok => match AE.of x, P.underlying t, P.info? t with
    | some x', some d, some i => match d with
      | .interface _ => none
      | _ => match i.zero with
        | some z => match avOf z with
          | some za => some (.ta t ok za x')
          | none => none
        | none => none
    | _, _, _ => none
  | .makeFunc (.func f) first caps => if first = #[] then (AE.ofL caps.toList).map (.mkfn f) else none
  | .build t parts => match P.underlying t, P.info? t with
    | some (.struct fs), some i => match i.zero with
      | some z => match zeroA z with
        | some zs => if (fs.toList.all fun f => (P.info? f.type).isSome) = true then (AE.ofParts ((placesOf P fs)[·]?) parts.toList).map (.bld zs) else none
        | none => none
      | none => none
    | some (.array _ el), some i => match i.zero, P.info? el with
      | some z, some ie => match zeroA z with
        | some zs => (AE.ofParts (fun i => some (i * ie.size, ie.size)) parts.toList).map (.bld zs)
        | none => none
      | _, _ => none
    | _, _ => none
  | .load t x => match AE.of x, P.underlying t, P.info? t with
    | some x', some d, some i => some (.ld i.size d.isAg x')
    | _, _, _ => none
  | .box _ x => (AE.of x).map .box
  | .alloc t => match P.info? t with
    | some i => match i.zero with
      | some z => (zeroA z).map .alloc
      | none => none
    | none => none
  | .buildSlice t n parts => match P.underlying t with
    | some (.slice el) => match P.info? el with
      | some i => match i.zero with
        | some z => match zeroA z with
          | some zs => if zs.length = i.size ∧ n * i.size ≤ 16777216 then (AE.ofIdx parts.toList).map (.bsl zs n) else none
          | none => none
        | none => none
      | none => none
    | _ => none
  | .makeSlice t l c => match AE.of l, AE.of c, P.underlying t with
    | some l', some c', some (.slice el) => match P.info? el with
      | some i => match i.zero with
        | some z => match zeroA z with
          | some zs => if zs.length = i.size then some (.msl i.bytes zs l' c') else none
          | none => none
        | none => none
      | none => none
    | _, _, _ => none
  | .store t x y => match AE.of x, AE.of y, P.info? t with
    | some x', some y', some i => some (.st i.size x' y')
    | _, _, _ => none
  | .call c => match c.callee with
    | .value (.func f) => if okFn P f = true then (AE.ofL c.args.toList).map (.call f) else match c.args.toList with
      | [x, y] => match ovlOf P f, AE.of x, AE.of y with
        | some s, some x', some y' => some (.ovl s x' y')
        | _, _, _ => none
      | _ => none
    | .value x => match AE.of x, AE.ofL c.args.toList with
      | some x', some as => some (.callv x' as)
      | _, _ => none
    | .builtin b => compBuiltin P b c.args.toList c.argTypes
    | .invoke _ _ => none
  | _ => none

end Go.Hz
/- What the model's operations are turned into does what they do. -/
namespace Go.Hz
section
variable {P : Program} {o : Oper} {ao : AOp}

theorem okFn_ok {f : FuncId} (h : okFn P f = true) : FnOK P f := by
  unfold okFn at h
  split at h
  · rename_i fn hf
    simp only [Bool.and_eq_true, bne_iff_ne, ne_eq] at h
    exact ⟨fn, hf, h.1, h.2⟩
  · cases h

theorem nkOf_fits {d : TypeDesc} {k : NK} (h : nkOf d = some k) : k.fits d = true := by
  cases d <;> simp [nkOf] at h <;> subst h <;> rfl

theorem compBuiltin_ok {b : Builtin} {args ats : Array _} (ho : o.op = .call { callee := .builtin b, args, argTypes := ats }) (h : compBuiltin P b args.toList ats = some ao) : OpOK P o (ao.sm P) := by
  have harr : ∀ l : List Operand, args.toList = l → args = l.toArray := fun l hl => by rw [← hl]
  unfold compBuiltin at h
  split at h
  · rename_i x heq
    have ha := harr _ heq
    subst ha
    split at h <;> first | (cases h; done) | skip
    rename_i x' t hx ht
    split at h <;> first | (cases h; done) | skip
    · rename_i hd; cases h; exact sim_lenS ho ht hd hx
    · rename_i hd; cases h; exact sim_lenL ho ht hd hx
  · rename_i x heq
    have ha := harr _ heq
    subst ha
    split at h <;> first | (cases h; done) | skip
    rename_i x' t hx ht
    split at h <;> first | (cases h; done) | skip
    rename_i hd; cases h; exact sim_capL ho ht hd hx
  · rename_i x y heq
    have ha := harr _ heq
    subst ha
    split at h <;> first | (cases h; done) | skip
    rename_i x' y' hx hy
    cases h
    exact sim_mm (mx := true) ho hx hy
  · rename_i x y heq
    have ha := harr _ heq
    subst ha
    split at h <;> first | (cases h; done) | skip
    rename_i x' y' hx hy
    cases h
    exact sim_mm (mx := false) ho hx hy
  · rename_i x y heq
    have ha := harr _ heq
    subst ha
    split at h <;> first | (cases h; done) | skip
    rename_i x' y' xt yt hx hy hxt hyt
    split at h <;> first | (cases h; done) | skip
    rename_i el dy hd hdy
    split at h <;> first | (cases h; done) | skip
    rename_i i hi
    split at h <;> first | (cases h; done) | skip
    rename_i z hz
    split at h <;> first | (cases h; done) | skip
    rename_i hc
    split at h
    · split at h <;> first | (cases h; done) | skip
      rename_i zs hzs
      split at h <;> first | (cases h; done) | skip
      rename_i hsz
      cases h
      exact sim_appz ho hxt hyt hd hdy hi hz hzs hsz hc.2 hx hy
    · rename_i hni
      cases h
      exact sim_app ho hxt hyt hd hdy (fun k hk => hni k hk) hi hz hc.1 hc.2 hx hy
  · rename_i x y heq
    have ha := harr _ heq
    subst ha
    split at h <;> first | (cases h; done) | skip
    rename_i x' y' xt hx hy hxt
    split at h <;> first | (cases h; done) | skip
    rename_i el hd
    split at h <;> first | (cases h; done) | skip
    rename_i i hi
    cases h
    exact sim_copy ho hxt hd hi hx hy
  · rename_i x heq
    have ha := harr _ heq
    subst ha
    split at h <;> first | (cases h; done) | skip
    rename_i x' xt hx hxt
    split at h <;> first | (cases h; done) | skip
    rename_i el hd
    split at h <;> first | (cases h; done) | skip
    rename_i i hi
    split at h <;> first | (cases h; done) | skip
    rename_i z hz
    split at h <;> first | (cases h; done) | skip
    rename_i zs hzs
    split at h <;> first | (cases h; done) | skip
    rename_i hc
    cases h
    exact sim_clear ho hxt hd hi hz hzs hc.1 hc.2 hx
  · cases h

theorem omap {α : Type} {x : Option α} {f : α → AOp} (h : x.map f = some ao) : ∃ a, x = some a ∧ f a = ao := by
  cases x with
  | none => cases h
  | some a => exact ⟨a, rfl, Option.some.inj h⟩

theorem compOp_ok (h : compOp P o = some ao) : OpOK P o (ao.sm P) := by
  unfold compOp at h
  split at h
  · rename_i x ho; obtain ⟨x', hx, rfl⟩ := omap h; exact sim_mv (.inl ho) hx
  · rename_i x ho; obtain ⟨x', hx, rfl⟩ := omap h; exact sim_mv (.inr ho) hx
  · rename_i c a b ho
    split at h <;> first | (cases h; done) | skip
    rename_i c' a' b' hc ha hb
    cases h; exact sim_pick ho hc ha hb
  · rename_i op t x y t' ho
    split at h <;> first | (cases h; done) | skip
    rename_i x' y' d hx hy hd
    split at h
    · cases h; exact sim_bin ho hx hy
    · cases h; exact sim_bin ho hx hy
    · split at h
      · rename_i k hk
        split at h <;> first | (cases h; done) | skip
        rename_i hc
        cases h
        exact sim_eqn (neg := false) ho hd (nkOf_fits hk) hx hy (by
          rcases hc with hc | hc
          · left; cases y <;> first | rfl | cases hc
          · right; cases k <;> first | rfl | cases hc)
      · rename_i k hk
        split at h <;> first | (cases h; done) | skip
        rename_i hc
        cases h
        exact sim_eqn (neg := true) ho hd (nkOf_fits hk) hx hy (by
          rcases hc with hc | hc
          · left; cases y <;> first | rfl | cases hc
          · right; cases k <;> first | rfl | cases hc)
      · cases h
  · rename_i op t x ho; obtain ⟨x', hx, rfl⟩ := omap h; exact sim_un ho hx
  · rename_i s d x ho
    split at h <;> first | (cases h; done) | skip
    rename_i x' ds dd hx hs hd
    split at h
    · cases h; exact sim_cvs ho hs hd hx
    · split at h <;> first | (cases h; done) | skip
      rename_i he
      cases h; exact sim_strb ho hs hd he hx
    · split at h <;> first | (cases h; done) | skip
      rename_i he
      cases h; exact sim_bstr ho hs hd he hx
    · cases h; exact sim_cvi ho hs hd hx
    · split at h <;> first | (cases h; done) | skip
      rename_i hsd
      subst hsd
      split at h <;> first | (cases h; done) | skip
      rename_i he
      cases h; exact sim_cvb ho hs he hx
    · cases h
  · rename_i x ho; obtain ⟨x', hx, rfl⟩ := omap h; exact sim_nilck ho hx
  · rename_i s x n ho
    split at h <;> first | (cases h; done) | skip
    rename_i x' fs hx hs
    split at h <;> first | (cases h; done) | skip
    rename_i fl hf
    split at h <;> first | (cases h; done) | skip
    rename_i i hi
    split at h <;> first | (cases h; done) | skip
    rename_i h0
    cases h; exact sim_fa ho hs hf hi h0 hx
  · rename_i s x n ho
    split at h <;> first | (cases h; done) | skip
    rename_i x' fs hx hs
    split at h <;> first | (cases h; done) | skip
    rename_i fl hf
    split at h <;> first | (cases h; done) | skip
    rename_i i d hi hd
    cases h; exact sim_fld ho hs hf hd hi hx
  · rename_i t x i ho
    split at h <;> first | (cases h; done) | skip
    · rename_i x' i' hx hi ht
      cases h; exact sim_ixs ho ht hx hi
    · rename_i x' i' n el hx hi ht
      split at h <;> first | (cases h; done) | skip
      rename_i inf d hinf hd
      cases h; exact sim_ixa ho ht hinf hd hx hi
  · rename_i t x i ho
    split at h <;> first | (cases h; done) | skip
    · rename_i x' i' el hx hi ht
      split at h <;> first | (cases h; done) | skip
      rename_i inf hinf
      cases h; exact sim_ia ho ht hinf hx hi
    · rename_i x' i' n el hx hi ht
      split at h <;> first | (cases h; done) | skip
      rename_i inf hinf
      cases h; exact sim_iap ho ht hinf hx hi
  · rename_i t x lo hi ho
    split at h <;> first | (cases h; done) | skip
    rename_i x' lo' hi' d hx hlo hhi hd
    split at h
    · cases h; exact sim_slcS ho hd hx hlo hhi
    · split at h <;> first | (cases h; done) | skip
      rename_i inf hinf
      cases h; exact sim_slcL ho hd hinf hx hlo hhi
    · cases h
  · rename_i t x lo hi mx ho
    split at h <;> first | (cases h; done) | skip
    rename_i x' lo' hi' mx' el hx hlo hhi hmx hd
    split at h <;> first | (cases h; done) | skip
    rename_i inf hinf
    cases h; exact sim_slcM ho hd hinf hx hlo hhi hmx
  · rename_i x n ho; obtain ⟨x', hx, rfl⟩ := omap h; exact sim_ext ho hx
  · rename_i t x ho
    split at h <;> first | (cases h; done) | skip
    rename_i x' d hx hd
    split at h <;> first | (cases h; done) | skip
    rename_i hn
    cases h; exact sim_mkif ho hd (fun ms hm => hn ms hm) hx
  · rename_i x xt t ok ho
    split at h <;> first | (cases h; done) | skip
    rename_i x' d i hx hd hi
    split at h <;> first | (cases h; done) | skip
    rename_i hn
    split at h <;> first | (cases h; done) | skip
    rename_i z hz
    split at h <;> first | (cases h; done) | skip
    rename_i za hza
    cases h; exact sim_ta ho hd (fun ms hm => hn ms hm) hi hz hza hx
  · rename_i f first caps ho
    split at h <;> first | (cases h; done) | skip
    rename_i hfi
    subst hfi
    obtain ⟨cs, hc, rfl⟩ := omap h
    exact sim_mkfn ho hc
  · rename_i t parts ho
    split at h <;> first | (cases h; done) | skip
    · rename_i fs i hd hi
      split at h <;> first | (cases h; done) | skip
      rename_i z hz
      split at h <;> first | (cases h; done) | skip
      rename_i zs hzs
      split at h <;> first | (cases h; done) | skip
      rename_i hall
      obtain ⟨qs, hq, rfl⟩ := omap h
      refine sim_bld ho hd hi hz hzs (fun f hf => ?_) hq
      have := List.all_eq_true.1 hall f hf
      exact Option.isSome_iff_exists.1 this
    · rename_i n el i hd hi
      split at h <;> first | (cases h; done) | skip
      rename_i z ie hz hie
      split at h <;> first | (cases h; done) | skip
      rename_i zs hzs
      obtain ⟨qs, hq, rfl⟩ := omap h
      exact sim_bldA ho hd hi hie hz hzs hq
  · rename_i t x ho
    split at h <;> first | (cases h; done) | skip
    rename_i x' d i hx hd hi
    cases h; exact sim_ld ho hd hi hx
  · rename_i t x ho; obtain ⟨x', hx, rfl⟩ := omap h; exact sim_box ho hx
  · rename_i t ho
    split at h <;> first | (cases h; done) | skip
    rename_i i hi
    split at h <;> first | (cases h; done) | skip
    rename_i z hz
    obtain ⟨cs, hc, rfl⟩ := omap h
    exact sim_alloc ho hi hz hc
  · rename_i t n parts ho
    split at h <;> first | (cases h; done) | skip
    rename_i el hd
    split at h <;> first | (cases h; done) | skip
    rename_i i hi
    split at h <;> first | (cases h; done) | skip
    rename_i z hz
    split at h <;> first | (cases h; done) | skip
    rename_i zs hzs
    split at h <;> first | (cases h; done) | skip
    rename_i hc
    obtain ⟨qs, hq, rfl⟩ := omap h
    exact sim_bsl ho hd hi hz hzs hc.1 hc.2 hq
  · rename_i t l c ho
    split at h <;> first | (cases h; done) | skip
    rename_i l' c' el hl hc hd
    split at h <;> first | (cases h; done) | skip
    rename_i i hi
    split at h <;> first | (cases h; done) | skip
    rename_i z hz
    split at h <;> first | (cases h; done) | skip
    rename_i zs hzs
    split at h <;> first | (cases h; done) | skip
    rename_i hsz
    cases h; exact sim_msl ho hd hi hz hzs hsz hl hc
  · rename_i t x y ho
    split at h <;> first | (cases h; done) | skip
    rename_i x' y' i hx hy hi
    cases h; exact sim_st ho hi hx hy
  · rename_i c ho
    obtain ⟨callee, args, ats⟩ := c
    simp only at h
    split at h
    · rename_i f
      split at h
      · rename_i hok
        obtain ⟨as, ha, rfl⟩ := omap h
        obtain ⟨fn, hf, hn, hb⟩ := okFn_ok hok
        exact sim_call ho hf hn hb ha
      · split at h <;> first | (cases h; done) | skip
        rename_i x y heq
        have hargs : args = #[x, y] := by rw [← Array.toArray_toList (xs := args), heq]
        subst hargs
        split at h <;> first | (cases h; done) | skip
        rename_i s x' y' hs hx hy
        cases h
        exact sim_ovl ho hs hx hy
    · rename_i x _
      split at h <;> first | (cases h; done) | skip
      rename_i x' as hx ha
      cases h; exact sim_callv ho hx ha
    · rename_i b
      exact compBuiltin_ok ho h
    · cases h
  · cases h

end
end Go.Hz
/- Code over the proofs' values; functions; from a walk over it to what a call does. -/
namespace Go.Hz

structure AItem where
  d : Option Nat
  op : AOp
  g : Option (Nat × Bool) := none

instance : Inhabited AItem := ⟨⟨none, default, none⟩⟩

def AItem.item (P : Program) (x : AItem) : Item :=
  match x.g with
  | none => ⟨x.d, x.op.sm P, x.op.looks⟩
  | some (g, w) => ⟨x.d, (x.op.sm P).guard g w, g :: x.op.looks⟩

theorem AItem.good (P : Program) (x : AItem) : (x.item P).s.good (x.item P).looks := by
  obtain ⟨d, op, g⟩ := x
  cases g with
  | none => exact op.good P
  | some gw => obtain ⟨g, w⟩ := gw; exact good_guard (op.good P)

theorem AItem.item_d (P : Program) (x : AItem) : (x.item P).d = x.d := by
  obtain ⟨d, op, g⟩ := x
  cases g with
  | none => rfl
  | some gw => rfl

/-- A load that was done reads what it read. -/
def stab (P : Program) (l : AItem) (e : Env) (h : Hp) : Prop :=
  match (l.item P).s, l.d with
  | .load f, some d => f e h = some (e d)
  | _, _ => False

/-- One step: an operation, and the loads that must stand. -/
def stepA (P : Program) (x : AItem) (obl : List AItem) (e : Env) (h : Hp) (K : Env → Hp → Prop) : Prop :=
  match (x.item P).s with
  | .pure f => ∃ v, f e = some v ∧ K (e.put x.d v) h
  | .load f => ∃ v, f e h = some v ∧ K (e.put x.d v) h
  | .mk f => ∃ r, f e = some r ∧ match r with
    | .inl v => K (e.put x.d v) h
    | .inr (o, g) => ∀ n, h n = none → K (e.put x.d (g n)) (h.set n o)
  | .eff f => f e h fun v h' => (∀ l ∈ obl, stab P l (e.put x.d v) h') ∧ K (e.put x.d v) h'

def wpS (P : Program) : List (AItem × List AItem) → Env → Hp → (Env → Hp → Prop) → Prop
  | [], e, h, K => K e h
  | (x, obl) :: l, e, h, K => stepA P x obl e h fun e' h' => wpS P l e' h' K

theorem wpS_I {P : Program} {items : Nat → AItem} {obl : Nat → List Nat} {K : Env → Hp → Prop} : ∀ (l : List Nat) (e : Env) (h : Hp),
    wpS P (l.map fun i => (items i, (obl i).map items)) e h K → wpI (fun i => (items i).item P) obl l e h K
  | [], _, _, hh => hh
  | i :: l, e, h, hh => by
    simp only [List.map_cons, wpS] at hh
    simp only [wpI]
    unfold stepA at hh
    unfold stepI
    have hg := (items i).good P
    have hst : ∀ (j : Nat) (e : Env) (h : Hp), stab P (items j) e h → stable (fun i => (items i).item P) j e h := fun j e h hs => by
      unfold stab at hs
      unfold stable
      rw [AItem.item_d]; exact hs
    rw [AItem.item_d]
    split <;> rename_i heq <;> simp only [heq] at hh hg
    · obtain ⟨v, h1, h2⟩ := hh; exact ⟨v, h1, wpS_I l _ _ h2⟩
    · obtain ⟨v, h1, h2⟩ := hh; exact ⟨v, h1, wpS_I l _ _ h2⟩
    · obtain ⟨r, h1, h2⟩ := hh
      refine ⟨r, h1, ?_⟩
      cases r with
      | inl v => exact wpS_I l _ _ h2
      | inr og => exact fun n hn => wpS_I l _ _ (h2 n hn)
    · refine hg.2.1 _ _ _ _ (fun v h' ⟨a, b⟩ => ⟨fun j hj => hst j _ _ (a _ (List.mem_map_of_mem hj)), wpS_I l _ _ b⟩) hh

inductive ACode where
  | skip
  | reg (l : List (AItem × List AItem))
  | seq (a b : ACode)
  | cond (c : AE) (t f : ACode)
  | block (id : Nat) (b : ACode)
  | loop (b : ACode)
  | exit (id : Nat)
  | ret

def wpA (P : Program) : ACode → Env → Hp → (Env → Hp → Prop) → (Env → Hp → Prop) → (Nat → Env → Hp → Prop) → Prop
  | .skip, e, h, kn, _, _ => kn e h
  | .reg l, e, h, kn, _, _ => wpS P l e h kn
  | .seq a b, e, h, kn, kr, kx => wpA P a e h (fun e h => wpA P b e h kn kr kx) kr kx
  | .cond c t f, e, h, kn, kr, kx => ∃ b, c.ev e = .bool b ∧ (b = true → wpA P t e h kn kr kx) ∧ (b = false → wpA P f e h kn kr kx)
  | .block id b, e, h, kn, kr, kx => wpA P b e h kn kr fun i e h => if i = id then kn e h else kx i e h
  | .loop b, e, h, _, kr, kx => ∃ (I : Env → Hp → Prop) (μ : Env → Hp → Nat), I e h ∧ ∀ e h, I e h → wpA P b e h (fun e' h' => I e' h' ∧ μ e' h' < μ e h) kr kx
  | .exit id, e, h, _, _, kx => kx id e h
  | .ret, e, h, _, kr, _ => kr e h

theorem stepA_mono {P : Program} {x : AItem} {obl : List AItem} {e : Env} {h : Hp} {K K' : Env → Hp → Prop} (hk : ∀ e h, K e h → K' e h) (hh : stepA P x obl e h K) : stepA P x obl e h K' := by
  have hg := x.good P
  unfold stepA at *
  split <;> rename_i heq <;> simp only [heq] at hh hg
  · obtain ⟨v, h1, h2⟩ := hh; exact ⟨v, h1, hk _ _ h2⟩
  · obtain ⟨v, h1, h2⟩ := hh; exact ⟨v, h1, hk _ _ h2⟩
  · obtain ⟨r, h1, h2⟩ := hh
    refine ⟨r, h1, ?_⟩
    cases r with
    | inl v => exact hk _ _ h2
    | inr og => exact fun n hn => hk _ _ (h2 n hn)
  · exact hg.2.1 _ _ _ _ (fun v h' ⟨a, b⟩ => ⟨a, hk _ _ b⟩) hh

theorem wpS_mono {P : Program} {K K' : Env → Hp → Prop} (hk : ∀ e h, K e h → K' e h) : ∀ (l : List (AItem × List AItem)) (e : Env) (h : Hp), wpS P l e h K → wpS P l e h K'
  | [], _, _, hh => hk _ _ hh
  | (_, _) :: l, _, _, hh => stepA_mono (fun e h => wpS_mono hk l e h) hh

/-! ### from the model's code -/

def dstOK (n : Nat) : Option Nat → Bool
  | some d => decide (d < n)
  | none => true

def compItem (P : Program) (n : Nat) (ops : Array Oper) (o : Oper) : Option AItem :=
  match compOp P o with
  | some op => if dstOK n o.dst = true then
      match o.guard with
      | none => some ⟨o.dst, op, none⟩
      | some (j, w) => match (ops[j]?).bind (·.dst) with
        | some g => some ⟨o.dst, op, some (g, w)⟩
        | none => none
    else none
  | none => none

def compItems (P : Program) (n : Nat) (ops : Array Oper) : List Oper → Option (List AItem)
  | [] => some []
  | o :: l => match compItem P n ops o, compItems P n ops l with
    | some x, some xs => some (x :: xs)
    | _, _ => none

theorem compItem_sim {P : Program} {n : Nat} {ops : Array Oper} {o : Oper} {x : AItem} {i : Nat} {S : Nat → Item} (h : compItem P n ops o = some x) (ho : ops[i]? = some o) (hS : S i = x.item P) : Sim P ops n S i := by
  unfold compItem at h
  split at h <;> first | (cases h; done) | skip
  rename_i op hop
  split at h <;> first | (cases h; done) | skip
  rename_i hd
  have hok := compOp_ok hop
  have hd' : ∀ t, o.dst = some t → t < n := fun t ht => by rw [ht] at hd; simpa [dstOK] using hd
  split at h
  · rename_i hg
    cases h
    refine hok.sim ho hd' (by rw [hS]; rfl) (by rw [hS]; exact AItem.good P _) ?_
    rw [hg, hS]; rfl
  · rename_i j w hg
    split at h <;> first | (cases h; done) | skip
    rename_i g hgd
    cases h
    refine hok.sim ho hd' (by rw [hS]; rfl) (by rw [hS]; exact AItem.good P _) ?_
    rw [hg, hS]
    exact ⟨g, hgd, rfl⟩

theorem compItems_get {P : Program} {n : Nat} {ops : Array Oper} : ∀ {l : List Oper} {xs : List AItem}, compItems P n ops l = some xs → xs.length = l.length ∧ ∀ i (h : i < l.length) (h' : i < xs.length), compItem P n ops l[i] = some xs[i]
  | [], xs, h => by cases h; exact ⟨rfl, fun i h => by simp at h⟩
  | o :: l, xs, h => by
    unfold compItems at h
    split at h <;> first | (cases h; done) | skip
    rename_i x xs' h1 h2
    cases h
    obtain ⟨g1, g2⟩ := compItems_get h2
    refine ⟨by simp [g1], fun i a b => ?_⟩
    cases i with
    | zero => exact h1
    | succ i => exact g2 i (by simpa using a) (by simpa using b)

/-- A number outside the region: an operation that does nothing. -/
def nopItem : AItem := ⟨none, .mv (.cs (.tup [])), none⟩

def getI (xs : List AItem) (i : Nat) : AItem := xs.getD i nopItem

theorem sim_out {P : Program} {ops : Array Oper} {n : Nat} {S : Nat → Item} {i : Nat} (hi : ops[i]? = none) (hS : S i = nopItem.item P) : Sim P ops n S i := by
  intro Q fz e h a w K hst hh next hk
  unfold wpOp
  rw [hi]
  unfold stepI at hh
  rw [hS] at hh
  obtain ⟨v, _, h2⟩ := hh
  exact hk fz _ h a w h2 hst (Ext.refl _ _ _) rfl

theorem items_sim {P : Program} {n : Nat} {ops : Array Oper} {xs : List AItem} (h : compItems P n ops ops.toList = some xs) (i : Nat) : Sim P ops n (fun i => (getI xs i).item P) i := by
  obtain ⟨g1, g2⟩ := compItems_get h
  by_cases hi : i < ops.size
  · have h1 : i < ops.toList.length := by simpa using hi
    have h2 : i < xs.length := by rw [g1]; exact h1
    refine compItem_sim (o := ops[i]) (x := xs[i]) (by simpa using g2 i h1 h2) (Array.getElem?_eq_getElem hi) ?_
    simp only [getI, List.getD_eq_getElem?_getD, List.getElem?_eq_getElem h2, Option.getD_some]
  · refine sim_out (Array.getElem?_eq_none (by omega)) ?_
    have h2 : ¬ i < xs.length := by rw [g1]; simpa using hi
    simp only [getI, List.getD_eq_getElem?_getD, List.getElem?_eq_none (by omega : xs.length ≤ i), Option.getD_none]

/-- What the end of a piece of code must give. -/
def Fin (n : Nat) (fz0 : Nat → Prop) (h0 : Hp) (w0 : World) (K : Env → Hp → Prop) (a : Act) (w : World) : Prop :=
  ∃ fz e h, St n fz e h a w ∧ K e h ∧ Ext fz0 h0 w0 fz h w ∧ a.defers = []

theorem ops_text {P : Program} {ops : Array Oper} {n : Nat} {S : Nat → Item} (hsim : ∀ i, Sim P ops n S i) (hgood : ∀ i, (S i).s.good (S i).looks) {Q : Exit → Act → World → Prop} {K : Env → Hp → Prop} : ∀ (l : List Nat) (fz : Nat → Prop) (e : Env) (h : Hp) (a : Act) (w : World),
    St n fz e h a w → wpI S (fun _ => []) l e h K → (∀ fz' e' h' a' w', K e' h' → St n fz' e' h' a' w' → Ext fz h w fz' h' w' → a'.defers = a.defers → Q .normal a' w') → wpOps P ops Q l a w
  | [], fz, e, h, a, w, hst, hh, hq => hq fz e h a w hh hst (Ext.refl _ _ _) rfl
  | i :: l, fz, e, h, a, w, hst, hh, hq => by
    rw [wpOps_cons]
    refine hsim i Q fz e h a w _ hst hh _ fun fz' e' h' a' w' hk hst' hx hd => ?_
    exact ops_text hsim hgood l fz' e' h' a' w' hst' hk fun fz2 e2 h2 a2 w2 hk2 hst2 hx2 hd2 => hq fz2 e2 h2 a2 w2 hk2 hst2 (hx.trans hx2) (hd2.trans hd)

theorem region_text {P : Program} {id n : Nat} {ops : Array Oper} {xs : List AItem} (hx : compItems P n ops ops.toList = some xs) {Q : Exit → Act → World → Prop} {K : Env → Hp → Prop} {fz : Nat → Prop} {e : Env} {h : Hp} {a : Act} {w : World} (hst : St n fz e h a w)
    (hh : wpS P (xs.map fun x => (x, [])) e h K) (hq : ∀ fz' e' h' a' w', K e' h' → St n fz' e' h' a' w' → Ext fz h w fz' h' w' → a'.defers = a.defers → Q .normal a' w') : (Code.region id ops false).wp P Q a w := by
  refine wp_region (ops_text (items_sim hx) (fun i => AItem.good P _) (List.range ops.size) fz e h a w hst ?_ hq)
  have hl := (compItems_get hx).1
  have : xs.map (fun x => (x, ([] : List AItem))) = (List.range ops.size).map fun i => (getI xs i, (([] : List Nat)).map (getI xs)) := by
    apply List.ext_getElem
    · simp [hl]
    · intro i h1 h2
      simp at h1
      simp [getI, h1]
  rw [this] at hh
  exact wpS_I _ _ _ hh

end Go.Hz
/- The order in which a region that may be done in any order is walked, and the look that this order serves. -/
namespace Go.Hz

def itLooks (x : AItem) : List Nat :=
  match x.g with
  | none => x.op.looks
  | some (g, _) => g :: x.op.looks

theorem itLooks_item (P : Program) (x : AItem) : (x.item P).looks = itLooks x := by
  obtain ⟨d, op, g⟩ := x
  cases g <;> rfl

def noIn (d : Option Nat) (l : List Nat) : Bool := match d with | some t => !l.contains t | none => true
def neD (d d' : Option Nat) : Bool := match d with | some t => d' != some t | none => true

theorem noIn_ok {d : Option Nat} {l : List Nat} (h : noIn d l = true) : ∀ t, d = some t → t ∉ l := fun t ht => by
  rw [ht] at h; simpa [noIn] using h
theorem neD_ok {d d' : Option Nat} (h : neD d d' = true) : ∀ t, d = some t → d' ≠ some t := fun t ht => by
  rw [ht] at h; simpa [neD] using h

def kindsB (kx ky : Kind) (ob : Bool) : Bool :=
  match kx, ky with
  | .pure, _ => true
  | _, .pure => true
  | .load, .load => true
  | .load, .mk => true
  | .mk, .mk => true
  | .load, .eff => ob
  | .eff, .mk => true
  | _, _ => false

def compatB (it : Nat → AItem) (obl : Nat → List Nat) (ix iy : Nat) : Bool :=
  let x := it ix
  let y := it iy
  noIn x.d (itLooks y) && (noIn y.d (itLooks x) && (neD x.d y.d && (noIn x.d (itLooks x) &&
  ((obl ix).all (fun l => noIn y.d (itLooks (it l)) && neD y.d (it l).d) &&
  kindsB x.op.kind y.op.kind ((obl iy).contains ix)))))

theorem kind_pure {P : Program} {x : AItem} (h : x.op.kind = .pure) : (x.item P).s.isPure = true := by
  obtain ⟨d, op, g⟩ := x
  have := AOp.kind_pure (P := P) h
  cases g with
  | none => exact this
  | some gw =>
    obtain ⟨g, w⟩ := gw
    simp only [AItem.item]
    revert this
    cases op.sm P <;> simp [Sm.guard, Sm.isPure]
theorem kind_load {P : Program} {x : AItem} (h : x.op.kind = .load) : (x.item P).s.isLoad = true := by
  obtain ⟨d, op, g⟩ := x
  have := AOp.kind_load (P := P) h
  cases g with
  | none => exact this
  | some gw =>
    obtain ⟨g, w⟩ := gw
    simp only [AItem.item]
    revert this
    cases op.sm P <;> simp [Sm.guard, Sm.isLoad]
theorem kind_mk {P : Program} {x : AItem} (h : x.op.kind = .mk) : (x.item P).s.isMk = true := by
  obtain ⟨d, op, g⟩ := x
  have := AOp.kind_mk (P := P) h
  cases g with
  | none => exact this
  | some gw =>
    obtain ⟨g, w⟩ := gw
    simp only [AItem.item]
    revert this
    cases op.sm P <;> simp [Sm.guard, Sm.isMk]
theorem kind_eff {P : Program} {x : AItem} (h : x.op.kind = .eff) : (x.item P).s.isEff = true := by
  obtain ⟨d, op, g⟩ := x
  have := AOp.kind_eff (P := P) h
  cases g with
  | none => exact this
  | some gw =>
    obtain ⟨g, w⟩ := gw
    simp only [AItem.item]
    revert this
    cases op.sm P <;> simp [Sm.guard, Sm.isEff]

theorem compatB_ok {P : Program} {it : Nat → AItem} {obl : Nat → List Nat} {ix iy : Nat} (h : compatB it obl ix iy = true) : Compat (fun i => (it i).item P) obl ix iy := by
  simp only [compatB, Bool.and_eq_true, List.all_eq_true] at h
  obtain ⟨h1, h2, h3, h4, h5, h7⟩ := h
  refine ⟨⟨?_, ?_, ?_⟩, ?_, ?_, ?_⟩
  · simp only [AItem.item_d, itLooks_item]; exact noIn_ok h1
  · simp only [AItem.item_d, itLooks_item]; exact noIn_ok h2
  · simp only [AItem.item_d]; exact neD_ok h3
  · simp only [AItem.item_d, itLooks_item]; exact noIn_ok h4
  · intro l hl t ht
    simp only [AItem.item_d, itLooks_item] at ht ⊢
    exact ⟨noIn_ok (h5 l hl).1 t ht, neD_ok (h5 l hl).2 t ht⟩
  · cases hx : (it ix).op.kind with
    | pure => exact .inl (kind_pure hx)
    | load =>
      cases hy : (it iy).op.kind with
      | pure => exact .inr (.inl (kind_pure hy))
      | load => exact .inr (.inr (.inl ⟨kind_load hx, .inl (kind_load hy)⟩))
      | mk => exact .inr (.inr (.inl ⟨kind_load hx, .inr (kind_mk hy)⟩))
      | eff =>
        rw [hx, hy] at h7
        exact .inr (.inr (.inr (.inr (.inl ⟨kind_load hx, kind_eff hy, by simpa [kindsB] using h7⟩))))
    | mk =>
      cases hy : (it iy).op.kind with
      | pure => exact .inr (.inl (kind_pure hy))
      | mk => exact .inr (.inr (.inr (.inl ⟨kind_mk hx, kind_mk hy⟩)))
      | load => rw [hx, hy] at h7; simp [kindsB] at h7
      | eff => rw [hx, hy] at h7; simp [kindsB] at h7
    | eff =>
      cases hy : (it iy).op.kind with
      | pure => exact .inr (.inl (kind_pure hy))
      | mk => exact .inr (.inr (.inr (.inr (.inr ⟨kind_eff hx, kind_mk hy⟩))))
      | load => rw [hx, hy] at h7; simp [kindsB] at h7
      | eff => rw [hx, hy] at h7; simp [kindsB] at h7

def pairsB (f : Nat → Nat → Bool) : List Nat → Bool
  | [] => true
  | x :: l => l.all (f x) && pairsB f l

theorem pairsB_ok {f : Nat → Nat → Bool} {R : Nat → Nat → Prop} (hf : ∀ x y, f x y = true → R x y) : ∀ {l : List Nat}, pairsB f l = true → l.Pairwise R
  | [], _ => List.Pairwise.nil
  | x :: l, h => by
    simp only [pairsB, Bool.and_eq_true, List.all_eq_true] at h
    exact List.pairwise_cons.2 ⟨fun y hy => hf x y (h.1 y hy), pairsB_ok hf h.2⟩

/-! ### what waits for what, as numbers -/

def force {α : Type} (n : Nat) (k : Nat → α) : α := match n with | 0 => k 0 | m + 1 => k (m + 1)
theorem force_eq {α : Type} (n : Nat) (k : Nat → α) : force n k = k n := by cases n <;> rfl

def edgeM (look : Nat → Nat) (es : List Edge) (s : Nat) : Nat := es.foldl (fun s e => if Region.binds .any e then s ||| (2 ^ e.on ||| look e.on) else s) s
def lookL (acc : List Nat) (j i : Nat) : Nat := if i < j then acc.getD (j - 1 - i) 0 else 0

/-- The numbers, one behind the other; 'acc': the last first. -/
def befK {α : Type} : List Oper → Nat → List Nat → (List Nat → α) → α
  | [], _, acc, k => k acc
  | o :: rest, j, acc, k => force (edgeM (lookL acc j) o.after.toList 0) fun v => befK rest (j + 1) (v :: acc) k

theorem edgeM_bit {look : Nat → Nat} {x : Nat} : ∀ (es : List Edge) (s : Nat), (edgeM look es s).testBit x = true ↔ s.testBit x = true ∨ ∃ e ∈ es, Region.binds .any e = true ∧ (e.on = x ∨ (look e.on).testBit x = true)
  | [], s => by simp [edgeM]
  | e :: es, s => by
    have ih := edgeM_bit (look := look) (x := x) es
    unfold edgeM at ih ⊢
    rw [List.foldl_cons, ih]
    by_cases hb : Region.binds .any e = true
    · rw [if_pos hb]
      simp only [Nat.testBit_or, Bool.or_eq_true, Nat.testBit_two_pow, decide_eq_true_eq, List.mem_cons, exists_eq_or_imp, hb, true_and]
      constructor
      · rintro ((h | h | h) | h)
        · exact .inl h
        · exact .inr (.inl (.inl h))
        · exact .inr (.inl (.inr h))
        · exact .inr (.inr h)
      · rintro (h | (h | h) | h)
        · exact .inl (.inl h)
        · exact .inl (.inr (.inl h))
        · exact .inl (.inr (.inr h))
        · exact .inr h
    · rw [if_neg hb]
      simp only [List.mem_cons, exists_eq_or_imp, hb]
      simp

/-- That the numbers are what they are said to be. -/
def BefOK (ops : List Oper) (acc : List Nat) (j : Nat) : Prop :=
  acc.length = j ∧ ∀ y (hy : y < j) (hy' : y < ops.length), acc.getD (j - 1 - y) 0 = edgeM (fun i => if i < y then acc.getD (j - 1 - i) 0 else 0) ops[y].after.toList 0

theorem befK_eq {α : Type} {k : List Nat → α} {ops : List Oper} : ∀ (rest pre : List Oper) (acc : List Nat), ops = pre ++ rest → BefOK ops acc pre.length → ∃ acc', befK rest pre.length acc k = k acc' ∧ BefOK ops acc' ops.length
  | [], pre, acc, he, hb => ⟨acc, rfl, by rw [he]; simpa [he] using hb⟩
  | o :: rest, pre, acc, he, hb => by
    have hpl : (pre ++ [o]).length = pre.length + 1 := by simp
    have hstep : BefOK ops (edgeM (lookL acc pre.length) o.after.toList 0 :: acc) (pre ++ [o]).length := by
      obtain ⟨h1, h2⟩ := hb
      refine ⟨by simp [h1], fun y hy hy' => ?_⟩
      rw [hpl] at hy ⊢
      have shift : ∀ i, i < pre.length → (edgeM (lookL acc pre.length) o.after.toList 0 :: acc).getD (pre.length + 1 - 1 - i) 0 = acc.getD (pre.length - 1 - i) 0 := fun i hi => by
        rw [show pre.length + 1 - 1 - i = (pre.length - 1 - i) + 1 from by omega]; rfl
      by_cases hyl : y = pre.length
      · subst hyl
        have ho : ops[pre.length]'hy' = o := by
          simp only [he]
          rw [List.getElem_append_right (by omega)]; simp
        rw [ho, show pre.length + 1 - 1 - pre.length = 0 from by omega]
        simp only [List.getD_cons_zero]
        congr 1
        funext i
        unfold lookL
        split
        · rename_i hi; exact (shift i hi).symm
        · rfl
      · have hy2 : y < pre.length := by omega
        rw [shift y hy2, h2 y hy2 hy']
        congr 1
        funext i
        split
        · rename_i hi; exact (shift i (by omega)).symm
        · rfl
    have := befK_eq (k := k) (ops := ops) rest (pre ++ [o]) _ (by rw [he]; simp) hstep
    rw [hpl] at this
    obtain ⟨acc', h3, h4⟩ := this
    exact ⟨acc', by rw [befK, force_eq]; exact h3, h4⟩

def reachL (acc : List Nat) (n x y : Nat) : Bool := (acc.getD (n - 1 - y) 0).testBit x && decide (y < n)

theorem reachL_ok {ops : Array Oper} {acc : List Nat} (h : BefOK ops.toList acc ops.size) : Reaches ops (reachL acc ops.size) := by
  intro listed x y
  induction y using Nat.strongRecOn with
  | _ y ih =>
    intro oy hc hy hall hr
    simp only [reachL, Bool.and_eq_true, decide_eq_true_eq] at hr
    have hyl : y < ops.toList.length := by simpa using hr.2
    rw [h.2 y hr.2 hyl, edgeM_bit] at hr
    have hoy : ops.toList[y] = oy := by
      rw [Array.getElem?_eq_getElem hr.2] at hy
      have := Option.some.inj hy
      simpa using this
    rw [hoy] at hr
    rcases hr.1 with h0 | ⟨e, he, hb, h0⟩
    · simp at h0
    · have hl := hall e (by simpa using he) hb
      rcases h0 with h0 | h0
      · rw [← h0]; exact hl
      · split at h0
        · rename_i hlt
          have hel : e.on < ops.size := by omega
          have hoe : ops[e.on]? = some ops[e.on] := Array.getElem?_eq_getElem hel
          exact ih e.on hlt ops[e.on] hc hoe (fun e' he' hb' => hc e.on _ hoe hl e' he' hb') (by simp only [reachL, h0, hel, decide_true, Bool.and_self])
        · simp at h0

theorem reachL_dep {ops : Array Oper} {acc : List Nat} (h : BefOK ops.toList acc ops.size) {x y : Nat} (hd : dep ops y x = true) : reachL acc ops.size x y = true := by
  unfold dep at hd
  split at hd <;> first | (cases hd; done) | skip
  rename_i oj hj
  obtain ⟨e, he, hb⟩ := Array.any_eq_true'.1 hd
  simp only [Bool.and_eq_true, beq_iff_eq] at hb
  have hlt : y < ops.size := (Array.getElem?_eq_some_iff.1 hj).1
  have hyl : y < ops.toList.length := by simpa using hlt
  have hoy : ops.toList[y] = oj := by
    rw [Array.getElem?_eq_getElem hlt] at hj
    have := Option.some.inj hj
    simpa using this
  simp only [reachL, Bool.and_eq_true, decide_eq_true_eq]
  refine ⟨?_, hlt⟩
  rw [h.2 y hlt hyl, edgeM_bit, hoy]
  exact .inr ⟨e, by simpa using he, hb.1, .inl hb.2⟩

/-! ### the look -/

def clearB (rb : Nat → Nat → Bool) (it : Nat → AItem) (obl : Nat → List Nat) (x y : Nat) : Bool :=
  (obl y).all fun l => l == x || ((noIn (it x).d (itLooks (it l)) && neD (it x).d (it l).d) || rb x l)

def orderB (n : Nat) (acc : List Nat) (it : Nat → AItem) (obl : Nat → List Nat) (c : List Nat) : Bool :=
  pairsB (fun x y => x != y && ((reachL acc n x y || compatB it obl x y) && (!reachL acc n y x && (!(obl x).contains y && clearB (reachL acc n) it obl x y)))) c &&
    (c.all fun x => !reachL acc n x x && (decide (acc.getD (n - 1 - x) 0 < 2 ^ n) && (decide (x < n) && (obl x).all fun l => decide (l < n) && l != x))) && ((List.range n).all (fun i => c.contains i) && c.length == n)

theorem orderB_ok {P : Program} {ops : Array Oper} {acc : List Nat} (hb : BefOK ops.toList acc ops.size) {it : Nat → AItem} {obl : Nat → List Nat} {c : List Nat} (h : orderB ops.size acc it obl c = true) :
    OrderOK ops (reachL acc ops.size) (fun i => (it i).item P) obl c ∧ (∀ i ∈ c, i < ops.size) ∧ (∀ i, i < ops.size → i ∈ c) ∧ c.length = ops.size := by
  simp only [orderB, Bool.and_eq_true, List.all_eq_true] at h
  obtain ⟨⟨h1, h2⟩, h3, h4⟩ := h
  have nod : ∀ x y, reachL acc ops.size y x = false → dep ops x y = false := fun x y hr => by
    cases hd : dep ops x y with
    | false => rfl
    | true => rw [reachL_dep hb hd] at hr; cases hr
  refine ⟨⟨pairsB_ok (fun x y hxy => ?_) h1, pairsB_ok (fun x y hxy => ?_) h1, pairsB_ok (fun x y hxy => ?_) h1, pairsB_ok (fun x y hxy => ?_) h1, pairsB_ok (fun x y hxy => ?_) h1, fun y hy l hl => ?_, fun x hx => ?_, fun x hx oy hoy e he hbe => ?_⟩, fun i hi => ?_, fun i hi => ?_, by simpa using h4⟩
  · simp only [Bool.and_eq_true, bne_iff_ne] at hxy; exact hxy.1
  · simp only [Bool.and_eq_true, Bool.or_eq_true] at hxy
    exact hxy.2.1.symm.imp compatB_ok id
  · simp only [Bool.and_eq_true, Bool.not_eq_true'] at hxy; exact nod _ _ hxy.2.2.1
  · simp only [Bool.and_eq_true, Bool.not_eq_true'] at hxy; exact ⟨hxy.2.2.1, by simpa using hxy.2.2.2.1⟩
  · simp only [Bool.and_eq_true] at hxy
    have := hxy.2.2.2.2
    simp only [clearB, List.all_eq_true, Bool.or_eq_true, beq_iff_eq, Bool.and_eq_true] at this
    intro l hl
    rcases this l hl with h | h | h
    · exact .inl h
    · refine .inr (.inl fun t ht => ?_)
      simp only [AItem.item_d, itLooks_item] at ht ⊢
      exact ⟨noIn_ok h.1 t ht, neD_ok h.2 t ht⟩
    · exact .inr (.inr h)
  · have := (h2 y hy).2.2.2
    have := this l hl
    simpa using this
  · exact nod _ _ (by simpa using (h2 x hx).1)
  · have hx' := (h2 x hx).2.1
    have hr : reachL acc ops.size e.on x = true := reachL_dep hb (by
      unfold dep
      rw [hoy]
      exact Array.any_eq_true'.2 ⟨e, he, by simp [hbe]⟩)
    simp only [reachL, Bool.and_eq_true] at hr
    simp only [decide_eq_true_eq] at hx'
    rcases Nat.lt_or_ge e.on ops.size with hlt | hge
    · exact hlt
    · have := Nat.testBit_lt_two_pow (Nat.lt_of_lt_of_le hx' (Nat.pow_le_pow_right (by omega) hge))
      rw [this] at hr; cases hr.1
  · simpa using (h2 i hi).2.2.1
  · simpa using h3 i (List.mem_range.2 hi)

/-- The order: what computes and what reads as early as may be, then what does something, what makes a block last. -/
def rank : Kind → Nat
  | .pure => 0
  | .load => 0
  | .eff => 1
  | .mk => 2

def pickB (it : Nat → AItem) (l : List Nat) : Option Nat :=
  match l.find? (fun i => rank (it i).op.kind == 0), l.find? (fun i => rank (it i).op.kind == 1), l with
  | some i, _, _ => some i
  | none, some i, _ => some i
  | none, none, i :: _ => some i
  | none, none, [] => none

/-- Which are ready: not done, and all that they wait for is done. -/
def readyL (n : Nat) (acc : List Nat) (done : Nat) : List Nat := (List.range n).filter fun i => !done.testBit i && Nat.beq (Nat.land (acc.getD (n - 1 - i) 0) done) (acc.getD (n - 1 - i) 0)

def canonB (n : Nat) (acc : List Nat) (it : Nat → AItem) : Nat → Nat → List Nat → List Nat
  | 0, _, out => out.reverse
  | m + 1, done, out => match pickB it (readyL n acc done) with
    | some i => force (done ||| 2 ^ i) fun done' => canonB n acc it m done' (i :: out)
    | none => out.reverse

def oblB (n : Nat) (acc : List Nat) (it : Nat → AItem) (c : List Nat) (y : Nat) : List Nat :=
  match (it y).op.kind with
  | .eff => (c.takeWhile (fun x => !Nat.beq x y)).filter fun x => (match (it x).op.kind with | .load => true | _ => false) && !reachL acc n x y
  | _ => []

def assocL : List (Nat × List Nat) → Nat → List Nat
  | [], _ => []
  | (k, v) :: l, y => if Nat.beq k y = true then v else assocL l y

def compReg (P : Program) (n : Nat) (ops : Array Oper) (draw : Bool) : Option (List (AItem × List AItem)) :=
  match compItems P n ops ops.toList with
  | some xs =>
    if draw = true then befK ops.toList 0 [] fun acc =>
      let c := canonB ops.size acc (getI xs) ops.size 0 []
      let ob := assocL (c.map fun y => (y, oblB ops.size acc (getI xs) c y))
      if orderB ops.size acc (getI xs) ob c = true then some (c.map fun i => (getI xs i, (ob i).map (getI xs))) else none
    else some (xs.map fun x => (x, []))
  | none => none

theorem compReg_ok {P : Program} {id n : Nat} {ops : Array Oper} {draw : Bool} {l : List (AItem × List AItem)} (hm : P.follows .mixedOrders = true) (hl : compReg P n ops draw = some l) {Q : Exit → Act → World → Prop} {K : Env → Hp → Prop} {fz : Nat → Prop} {e : Env} {h : Hp} {a : Act} {w : World}
    (hst : St n fz e h a w) (hh : wpS P l e h K) (hq : ∀ fz' e' h' a' w', K e' h' → St n fz' e' h' a' w' → Ext fz h w fz' h' w' → a'.defers = a.defers → Q .normal a' w') : (Code.region id ops draw).wp P Q a w := by
  unfold compReg at hl
  split at hl <;> first | (cases hl; done) | skip
  rename_i xs hx
  cases draw with
  | false =>
    simp only [Bool.false_eq_true, if_false] at hl
    cases hl
    exact region_text hx hst hh hq
  | true =>
    simp only [if_true] at hl
    obtain ⟨acc, h0, hbo⟩ := befK_eq (k := fun acc =>
      let c := canonB ops.size acc (getI xs) ops.size 0 []
      let ob := assocL (c.map fun y => (y, oblB ops.size acc (getI xs) c y))
      if orderB ops.size acc (getI xs) ob c = true then some (c.map fun i => (getI xs i, (ob i).map (getI xs))) else none) ops.toList [] [] rfl ⟨rfl, fun y hy => by simp at hy⟩
    have hl2 := h0.symm.trans hl
    clear h0 hl
    have hbo' : BefOK ops.toList acc ops.size := by simpa using hbo
    simp only at hl2
    split at hl2 <;> first | (cases hl2; done) | skip
    rename_i hok
    cases hl2
    obtain ⟨h1, h2, h3, hlen⟩ := orderB_ok (P := P) hbo' hok
    have hI := wpS_I _ _ _ hh
    refine wp_region_any hm ?_
    generalize canonB ops.size acc (getI xs) ops.size 0 [] = c at *
    have hst1 : St n fz e h a { w with drawn := w.drawn + 1 } := ⟨hst.size, hst.env, hst.rel.drew⟩
    have := region_any (reachL_ok hbo') (fun i => AItem.good P _) (items_sim hx) (Q := Q) ops.size c (Array.replicate ops.size false) hlen h1 (by simp) (fun j oj hj hl => by
      rcases Nat.lt_or_ge j ops.size with hh | hh
      · simp [hh] at hl
      · simp [hh] at hl) h2 (fun i hi => by simp [hi, h3 i hi]) fz e h a _ hst1 hI (fun fz' e' h' a' w' k s x d => hq fz' e' h' a' w' k s ((Ext.drew).trans x) d)
    exact this

end Go.Hz
/- Guarded operations as branches. -/
namespace Go.Hz

abbrev It := AItem × List AItem

def unG (g : Nat) (w : Bool) (l : List It) : List It := l.map fun x => if x.1.g = some (g, w) then ({ x.1 with g := none }, x.2) else x

def inSk (sk : List Nat) (gd : Option (Nat × Bool)) : Bool := match gd with | some (g2, _) => sk.contains g2 | none => false
def addSk (d : Option Nat) (sk : List Nat) : List Nat := match d with | some d => d :: sk | none => sk

def skG (g : Nat) (w : Bool) : List Nat → List It → List It
  | _, [] => []
  | sk, x :: l => if x.1.g = some (g, w) ∨ inSk sk x.1.g = true then (⟨x.1.d, (if x.2.isEmpty = true then .mv (.cs (.tup [])) else .nop), none⟩, x.2) :: skG g w (addSk x.1.d sk) l else x :: skG g w sk l

/-- No operation of the list writes these slots. -/
def noW (g : Nat) (l : List It) : Bool := l.all fun x => x.1.d != some g
def nodupD : List It → Bool
  | [] => true
  | x :: l => (match x.1.d with | some d => noW d l | none => true) && nodupD l

section
variable {P : Program}

theorem stepA_put {x : AItem} {obl : List AItem} {e : Env} {h : Hp} {K : Env → Hp → Prop} (hh : stepA P x obl e h K) : stepA P x obl e h fun e' h' => K e' h' ∧ ∃ v, e' = e.put x.d v := by
  have hg := x.good P
  unfold stepA at *
  split <;> rename_i heq <;> simp only [heq] at hh hg
  · obtain ⟨v, h1, h2⟩ := hh; exact ⟨v, h1, h2, v, rfl⟩
  · obtain ⟨v, h1, h2⟩ := hh; exact ⟨v, h1, h2, v, rfl⟩
  · obtain ⟨r, h1, h2⟩ := hh
    refine ⟨r, h1, ?_⟩
    cases r with
    | inl v => exact ⟨h2, v, rfl⟩
    | inr og => exact fun n hn => ⟨h2 n hn, _, rfl⟩
  · exact hg.2.1 _ _ _ _ (fun v h' ⟨a, b⟩ => ⟨a, b, v, rfl⟩) hh

theorem stepA_un {d : Option Nat} {op : AOp} {g : Nat} {w : Bool} {obl : List AItem} {e : Env} {h : Hp} {K : Env → Hp → Prop} (hb : e g = .bool w) (hh : stepA P ⟨d, op, none⟩ obl e h K) :
    stepA P ⟨d, op, some (g, w)⟩ obl e h K := by
  unfold stepA at *
  simp only [AItem.item] at hh ⊢
  cases hs : op.sm P with
  | pure f => rw [hs] at hh; simpa only [Sm.guard, hb, if_true] using hh
  | load f => rw [hs] at hh; simpa only [Sm.guard, hb, if_true] using hh
  | mk f => rw [hs] at hh; simpa only [Sm.guard, hb, if_true] using hh
  | eff f => rw [hs] at hh; simpa only [Sm.guard, hb, if_true] using hh

theorem stepA_sk {d : Option Nat} {op : AOp} {g : Nat} {w : Bool} {obl : List AItem} {e : Env} {h : Hp} {K : Env → Hp → Prop} (hb : e g = .bool (!w) ∨ e g = .tup []) (ho : ∀ l ∈ obl, stab P l (e.put d (.tup [])) h) (hh : K (e.put d (.tup [])) h) :
    stepA P ⟨d, op, some (g, w)⟩ obl e h K := by
  have hne : (!w) ≠ w := by cases w <;> simp
  unfold stepA
  simp only [AItem.item]
  cases hs : op.sm P with
  | pure f => rcases hb with hb | hb <;> simp only [Sm.guard, hb, hne, if_false] <;> exact ⟨_, rfl, hh⟩
  | load f => rcases hb with hb | hb <;> simp only [Sm.guard, hb, hne, if_false] <;> exact ⟨_, rfl, hh⟩
  | mk f => rcases hb with hb | hb <;> simp only [Sm.guard, hb, hne, if_false] <;> exact ⟨_, rfl, hh⟩
  | eff f => rcases hb with hb | hb <;> simp only [Sm.guard, hb, hne, if_false] <;> exact ⟨ho, hh⟩

theorem wpS_append : ∀ (l l' : List It) (e : Env) (h : Hp) (K : Env → Hp → Prop), wpS P l e h (fun e h => wpS P l' e h K) → wpS P (l ++ l') e h K
  | [], _, _, _, _, hh => hh
  | (_, _) :: l, l', _, _, K, hh => stepA_mono (fun e h => wpS_append l l' e h K) hh

theorem wpS_un {g : Nat} {w : Bool} {K : Env → Hp → Prop} : ∀ (l : List It) (e : Env) (h : Hp), noW g l = true → e g = .bool w → wpS P (unG g w l) e h K → wpS P l e h K
  | [], _, _, _, _, hh => hh
  | (⟨d, op, gd⟩, obl) :: l, e, h, hn, hb, hh => by
    simp only [noW, List.all_cons, Bool.and_eq_true, bne_iff_ne, ne_eq] at hn
    have ih := fun e' h' => wpS_un (w := w) (K := K) l e' h' hn.2
    have keep : ∀ v, (e.put d v) g = .bool w := fun v => by rw [Env.put_apply _ _ hn.1]; exact hb
    simp only [unG, List.map_cons, wpS] at hh
    simp only [wpS]
    split at hh
    · rename_i hg
      subst hg
      refine stepA_un hb (stepA_mono ?_ (stepA_put hh))
      rintro e' h' ⟨h1, v, rfl⟩
      exact ih _ _ (keep v) h1
    · refine stepA_mono ?_ (stepA_put hh)
      rintro e' h' ⟨h1, v, rfl⟩
      exact ih _ _ (keep v) h1

theorem wpS_sk {g : Nat} {w : Bool} {K : Env → Hp → Prop} : ∀ (l : List It) (sk : List Nat) (e : Env) (h : Hp), noW g l = true → nodupD l = true → (∀ s ∈ sk, noW s l = true) → e g = .bool (!w) → (∀ s ∈ sk, e s = .tup []) →
    wpS P (skG g w sk l) e h K → wpS P l e h K
  | [], _, _, _, _, _, _, _, _, hh => hh
  | (⟨d, op, gd⟩, obl) :: l, sk, e, h, hn, hnd, hns, hb, hsk, hh => by
    simp only [noW, List.all_cons, Bool.and_eq_true, bne_iff_ne, ne_eq] at hn
    have hdl : ∀ t, d = some t → noW t l = true := fun t ht => by
      subst ht
      simp only [nodupD, Bool.and_eq_true] at hnd; exact hnd.1
    have hnd2 : nodupD l = true := by simp only [nodupD, Bool.and_eq_true] at hnd; exact hnd.2
    have hns1 : ∀ s ∈ sk, d ≠ some s := fun s hs => by
      have := hns s hs
      simp only [noW, List.all_cons, Bool.and_eq_true, bne_iff_ne, ne_eq] at this
      exact this.1
    have hns2 : ∀ s ∈ sk, noW s l = true := fun s hs => by
      have := hns s hs
      simp only [noW, List.all_cons, Bool.and_eq_true] at this
      exact this.2
    have keep : ∀ v, (e.put d v) g = .bool (!w) := fun v => by rw [Env.put_apply _ _ hn.1]; exact hb
    have keeps : ∀ v, ∀ s ∈ sk, (e.put d v) s = .tup [] := fun v s hs => by rw [Env.put_apply _ _ (hns1 s hs)]; exact hsk s hs
    simp only [skG] at hh
    simp only [wpS]
    split at hh
    · rename_i hc
      have hgd : ∃ g2 w2, gd = some (g2, w2) ∧ (e g2 = .bool (!w2) ∨ e g2 = .tup []) := by
        rcases hc with hc | hc
        · exact ⟨g, w, hc, .inl hb⟩
        · cases gd with
          | none => simp [inSk] at hc
          | some gw => exact ⟨gw.1, gw.2, rfl, .inr (hsk _ (by simpa [inSk] using hc))⟩
      obtain ⟨g2, w2, rfl, hb2⟩ := hgd
      simp only [wpS] at hh
      have hh' : (∀ l ∈ obl, stab P l (e.put d (.tup [])) h) ∧ wpS P (skG g w (addSk d sk) l) (e.put d (.tup [])) h K := by
        cases obl with
        | nil =>
          obtain ⟨v, h1, h2⟩ := hh
          have : v = .tup [] := (Option.some.inj h1).symm
          subst this; exact ⟨fun l hl => by simp at hl, h2⟩
        | cons y ys => exact hh
      obtain ⟨hob, hh'⟩ := hh'
      refine stepA_sk hb2 hob ?_
      refine wpS_sk l (addSk d sk) _ h hn.2 hnd2 (fun s hs => ?_) (keep _) (fun s hs => ?_) hh'
      · cases d with
        | none => exact hns2 s hs
        | some t =>
          rcases List.mem_cons.1 hs with rfl | hs
          · exact hdl _ rfl
          · exact hns2 s hs
      · cases d with
        | none => exact keeps _ s hs
        | some t =>
          rcases List.mem_cons.1 hs with rfl | hs
          · simp [Env.put, Env.upd]
          · exact keeps _ s hs
    · simp only [wpS] at hh
      refine stepA_mono ?_ (stepA_put hh)
      rintro e' h' ⟨h1, v, rfl⟩
      exact wpS_sk l sk _ h' hn.2 hnd2 hns2 (keep v) (keeps v) h1

end

def lastG (g : Nat) (w : Bool) : List It → Nat
  | [] => 0
  | x :: l => let k := lastG g w l
    if k = 0 then (if x.1.g = some (g, w) then 1 else 0) else k + 1

def sq (a b : ACode) : ACode := match a, b with
  | .skip, b => b
  | a, .skip => a
  | a, b => .seq a b

def rg (l : List It) : ACode := match l with | [] => .skip | l => .reg l

def treeR : Nat → List It → Option ACode
  | 0, _ => none
  | n + 1, l =>
    let pre := l.takeWhile fun x => x.1.g.isNone
    let rest := l.dropWhile fun x => x.1.g.isNone
    match rest with
    | [] => some (rg pre)
    | x :: _ => match x.1.g with
      | none => none
      | some (g, w) =>
        let k := lastG g w rest
        let blk := rest.take k
        if (noW g blk && nodupD blk) = true then
          match treeR n (unG g w blk), treeR n (skG g w [] blk), treeR n (rest.drop k) with
          | some a, some b, some r => some (sq (rg pre) (sq (.cond (.tm g) (if w then a else b) (if w then b else a)) r))
          | _, _, _ => none
        else none

section
variable {P : Program} {kn kr : Env → Hp → Prop} {kx : Nat → Env → Hp → Prop}

theorem wpA_sq {a b : ACode} {e : Env} {h : Hp} (hh : wpA P (sq a b) e h kn kr kx) (ha : ∀ (e h) (kn kn' : Env → Hp → Prop), (∀ e h, kn e h → kn' e h) → wpA P a e h kn kr kx → wpA P a e h kn' kr kx) : wpA P a e h (fun e h => wpA P b e h kn kr kx) kr kx := by
  unfold sq at hh
  split at hh
  · exact hh
  · exact ha _ _ _ _ (fun e h hk => hk) hh
  · exact hh

theorem rg_wp {l : List It} {e : Env} {h : Hp} (hh : wpA P (rg l) e h kn kr kx) : wpS P l e h kn := by
  unfold rg at hh
  split at hh
  · exact hh
  · exact hh

theorem treeR_ok : ∀ (n : Nat) (l : List It) (ac : ACode) (e : Env) (h : Hp) (kn : Env → Hp → Prop), treeR n l = some ac → wpA P ac e h kn kr kx → wpS P l e h kn
  | 0, _, _, _, _, _, ht, _ => by cases ht
  | n + 1, l, ac, e, h, kn, ht, hh => by
    have hsplit : l.takeWhile (fun x => x.1.g.isNone) ++ l.dropWhile (fun x => x.1.g.isNone) = l := List.takeWhile_append_dropWhile
    unfold treeR at ht
    simp only at ht
    generalize l.takeWhile (fun x => x.1.g.isNone) = pre at *
    generalize l.dropWhile (fun x => x.1.g.isNone) = rest at *
    subst hsplit
    refine wpS_append pre rest e h kn ?_
    split at ht
    · cases ht
      exact rg_wp hh
    · rename_i x tl
      split at ht <;> first | (cases ht; done) | skip
      rename_i g w hg
      split at ht <;> first | (cases ht; done) | skip
      rename_i hc
      split at ht <;> first | (cases ht; done) | skip
      rename_i a b r h1 h2 h3
      cases ht
      simp only [Bool.and_eq_true] at hc
      obtain ⟨c1, c2⟩ := hc
      have hm : ∀ (ll : List It) (e h) (kn kn' : Env → Hp → Prop), (∀ e h, kn e h → kn' e h) → wpA P (rg ll) e h kn kr kx → wpA P (rg ll) e h kn' kr kx := by
        intro ll e h kn kn' hk hw
        cases ll with
        | nil => exact hk _ _ hw
        | cons y ys => exact wpS_mono hk _ _ _ hw
      have hh1 := rg_wp (wpA_sq hh (hm pre))
      refine wpS_mono ?_ _ _ _ hh1
      intro e h hh
      -- a branch, and what lies behind it
      have hcond : ∃ bv, e g = .bool bv ∧ (bv = true → wpA P (if w then a else b) e h (fun e h => wpA P r e h kn kr kx) kr kx) ∧ (bv = false → wpA P (if w then b else a) e h (fun e h => wpA P r e h kn kr kx) kr kx) := by
        have key : wpA P (.cond (.tm g) (if w then a else b) (if w then b else a)) e h (fun e h => wpA P r e h kn kr kx) kr kx := by
          cases r <;> exact hh
        obtain ⟨bv, hb, ht, hf⟩ := key
        exact ⟨bv, hb, ht, hf⟩
      obtain ⟨bv, hb, ht, hf⟩ := hcond
      rw [← List.take_append_drop (lastG g w (x :: tl)) (x :: tl)]
      refine wpS_append _ _ e h kn ?_
      have hr : ∀ e h, wpA P r e h kn kr kx → wpS P ((x :: tl).drop (lastG g w (x :: tl))) e h kn := fun e h hw => treeR_ok n _ r e h kn h3 hw
      have goA : e g = .bool w → wpA P a e h (fun e h => wpA P r e h kn kr kx) kr kx → wpS P ((x :: tl).take (lastG g w (x :: tl))) e h fun e h => wpS P ((x :: tl).drop (lastG g w (x :: tl))) e h kn :=
        fun hb hw => wpS_un _ e h c1 hb (wpS_mono hr _ _ _ (treeR_ok n _ a e h _ h1 hw))
      have goB : e g = .bool (!w) → wpA P b e h (fun e h => wpA P r e h kn kr kx) kr kx → wpS P ((x :: tl).take (lastG g w (x :: tl))) e h fun e h => wpS P ((x :: tl).drop (lastG g w (x :: tl))) e h kn :=
        fun hb hw => wpS_sk _ [] e h c1 c2 (fun s hs => by simp at hs) hb (fun s hs => by simp at hs) (wpS_mono hr _ _ _ (treeR_ok n _ b e h _ h2 hw))
      cases bv <;> cases w
      · exact goA hb (hf rfl)
      · exact goB hb (hf rfl)
      · exact goB hb (ht rfl)
      · exact goA hb (ht rfl)

end
end Go.Hz
/- Code and functions. -/
namespace Go.Hz

def compC (P : Program) (n : Nat) : Code → Option ACode
  | .skip => some .skip
  | .label _ => some .skip
  | .region _ ops draw => (compReg P n ops draw).bind fun l => treeR (l.length + 1) l
  | .seq a b => match compC P n a, compC P n b with
    | some x, some y => some (.seq x y)
    | _, _ => none
  | .cond c t f => match AE.of c, compC P n t, compC P n f with
    | some c', some x, some y => some (.cond c' x y)
    | _, _, _ => none
  | .block id b => (compC P n b).map (.block id)
  | .loop b => (compC P n b).map .loop
  | .exit id => some (.exit id)
  | .ret => some .ret
  | _ => none

section
variable {P : Program} {n : Nat} {Q : Exit → Act → World → Prop} {fz0 : Nat → Prop} {h0 : Hp} {w0 : World}

theorem compC_ok (hm : P.follows .mixedOrders = true) : ∀ (c : Code) (ac : ACode) (_ : compC P n c = some ac) (Q : Exit → Act → World → Prop) (kn kr : Env → Hp → Prop) (kx : Nat → Env → Hp → Prop)
    (_ : ∀ a w, Fin n fz0 h0 w0 kn a w → Q .normal a w) (_ : ∀ a w, Fin n fz0 h0 w0 kr a w → Q .ret a w) (_ : ∀ i a w, Fin n fz0 h0 w0 (kx i) a w → Q (.exit i) a w)
    (fz : Nat → Prop) (e : Env) (h : Hp) (a : Act) (w : World), St n fz e h a w → Ext fz0 h0 w0 fz h w → a.defers = [] → wpA P ac e h kn kr kx → c.wp P Q a w
  | .skip, ac, hc, Q, kn, kr, kx, qn, _, _, fz, e, h, a, w, hst, hx, hd, hh => by
    cases hc; exact wp_skip (qn _ _ ⟨fz, e, h, hst, hh, hx, hd⟩)
  | .label l, ac, hc, Q, kn, kr, kx, qn, _, _, fz, e, h, a, w, hst, hx, hd, hh => by
    cases hc; exact wp_label (qn _ _ ⟨fz, e, h, hst, hh, hx, hd⟩)
  | .exit id, ac, hc, Q, kn, kr, kx, _, _, qx, fz, e, h, a, w, hst, hx, hd, hh => by
    cases hc; exact wp_exit (qx _ _ _ ⟨fz, e, h, hst, hh, hx, hd⟩)
  | .ret, ac, hc, Q, kn, kr, kx, _, qr, _, fz, e, h, a, w, hst, hx, hd, hh => by
    cases hc; exact wp_ret (qr _ _ ⟨fz, e, h, hst, hh, hx, hd⟩)
  | .region id ops draw, ac, hc, Q, kn, kr, kx, qn, _, _, fz, e, h, a, w, hst, hx, hd, hh => by
    simp only [compC] at hc
    cases hl : compReg P n ops draw with
    | none => rw [hl] at hc; cases hc
    | some l =>
      rw [hl, Option.bind_some] at hc
      exact compReg_ok hm hl hst (treeR_ok _ _ _ _ _ _ hc hh) fun fz' e' h' a' w' k s x d => qn _ _ ⟨fz', e', h', s, k, hx.trans x, d.trans hd⟩
  | .seq x y, ac, hc, Q, kn, kr, kx, qn, qr, qx, fz, e, h, a, w, hst, hx, hd, hh => by
    simp only [compC] at hc
    split at hc <;> first | (cases hc; done) | skip
    rename_i ax ay h1 h2
    cases hc
    refine wp_seq (compC_ok hm x ax h1 (Exit.then (y.wp P Q) Q) (fun e h => wpA P ay e h kn kr kx) kr kx ?_ (fun a w hf => qr a w hf) (fun i a w hf => qx i a w hf) fz e h a w hst hx hd hh)
    rintro a w ⟨fz, e, h, hst, hk, hx, hd⟩
    exact compC_ok hm y ay h2 Q kn kr kx qn qr qx fz e h a w hst hx hd hk
  | .cond c x y, ac, hc, Q, kn, kr, kx, qn, qr, qx, fz, e, h, a, w, hst, hx, hd, hh => by
    simp only [compC] at hc
    split at hc <;> first | (cases hc; done) | skip
    rename_i c' ax ay hc' h1 h2
    cases hc
    obtain ⟨b, hb, ht, hf⟩ := hh
    have hv := AE.of_ok hc' hst.env
    rw [hb] at hv
    refine wp_cond_split hv.bool_inv (fun hbt => ?_) (fun hbf => ?_)
    · exact compC_ok hm x ax h1 Q kn kr kx qn qr qx fz e h a w hst hx hd (ht hbt)
    · exact compC_ok hm y ay h2 Q kn kr kx qn qr qx fz e h a w hst hx hd (hf hbf)
  | .block id b, ac, hc, Q, kn, kr, kx, qn, qr, qx, fz, e, h, a, w, hst, hx, hd, hh => by
    simp only [compC] at hc
    cases hl : compC P n b with
    | none => rw [hl] at hc; cases hc
    | some ab =>
      rw [hl] at hc
      cases hc
      refine wp_block (compC_ok hm b ab hl (Exit.inBlock id Q) kn kr (fun i e h => if i = id then kn e h else kx i e h) (fun a w hf => qn a w hf) (fun a w hf => qr a w hf) ?_ fz e h a w hst hx hd hh)
      intro i a w hf
      simp only [Exit.inBlock]
      split
      · rename_i hi
        subst hi
        refine qn a w ?_
        simpa using hf
      · rename_i hi
        refine qx i a w ?_
        simpa [hi] using hf
  | .loop b, ac, hc, Q, kn, kr, kx, qn, qr, qx, fz, e, h, a, w, hst, hx, hd, hh => by
    simp only [compC] at hc
    cases hl : compC P n b with
    | none => rw [hl] at hc; cases hc
    | some ab =>
      rw [hl] at hc
      cases hc
      obtain ⟨I, μ, hI, hround⟩ := hh
      have key : ∀ m (b0 : Frame) (k : List Go.Item) (cs : List Frame) fz e h a w, μ e h = m → I e h → St n fz e h a w → Ext fz0 h0 w0 fz h w → a.defers = [] →
          ∃ e a' w', Q e a' w' ∧ Arrives P (lone (b0.at a (.code b :: .inLoop b :: k)) cs w) b0 k cs e a' w' := by
        intro m
        induction m using Nat.strongRecOn with
        | _ m ih =>
          intro b0 k cs fz e h a w hm' hI hst hx hd
          obtain ⟨ex, a₁, w₁, hq, harr⟩ := compC_ok hm b ab hl (Exit.then (fun a' w' => Fin n fz0 h0 w0 (fun e' h' => I e' h' ∧ μ e' h' < μ e h) a' w') Q) (fun e' h' => I e' h' ∧ μ e' h' < μ e h) kr kx
            (fun a w hf => hf) (fun a w hf => qr a w hf) (fun i a w hf => qx i a w hf) fz e h a w hst hx hd (hround e h hI) b0 (.inLoop b :: k) cs
          cases ex with
          | normal =>
            obtain ⟨fz1, e1, h1, hst1, ⟨hI1, hlt⟩, hx1, hd1⟩ := hq
            obtain ⟨e₂, a₂, w₂, hq₂, harr₂⟩ := ih (μ e1 h1) (hm' ▸ hlt) b0 k cs fz1 e1 h1 a₁ w₁ rfl hI1 hst1 hx1 hd1
            exact ⟨e₂, a₂, w₂, hq₂, .of_steps (Steps.trans harr (.one step_inLoop)) harr₂⟩
          | exit id => exact ⟨_, a₁, w₁, hq, .pass (x := .inLoop b) rfl (fun _ _ => .inl (by simp)) harr⟩
          | goto l => exact ⟨_, a₁, w₁, hq, .pass (x := .inLoop b) rfl (fun _ _ => .inl (by simp)) harr⟩
          | ret => exact ⟨_, a₁, w₁, hq, .pass (x := .inLoop b) rfl (fun _ _ => .inl (by simp)) harr⟩
          | panic ch => exact ⟨_, a₁, w₁, hq, .pass (x := .inLoop b) rfl (fun _ _ => .inl (by simp)) harr⟩
          | outgrown => exact ⟨_, a₁, w₁, hq, .pass (x := .inLoop b) rfl (fun _ _ => .inl (by simp)) harr⟩
      intro b0 k cs
      obtain ⟨e', a', w', hq, harr⟩ := key _ b0 k cs fz e h a w rfl hI hst hx hd
      exact ⟨e', a', w', hq, .of_steps (.one step_loop) harr⟩
  | .rangeFunc _ _ _ _, _, hc, _, _, _, _, _, _, _, _, _, _, _, _, _, _, _, _ => by cases hc
  | .scope _, _, hc, _, _, _, _, _, _, _, _, _, _, _, _, _, _, _, _ => by cases hc
  | .goto _, _, hc, _, _, _, _, _, _, _, _, _, _, _, _, _, _, _, _ => by cases hc
  | .refuse _, _, hc, _, _, _, _, _, _, _, _, _, _, _, _, _, _, _, _ => by cases hc

end

/-- Where a result stands: in a slot, or in memory. -/
inductive ARes where
  | tmp (t : Nat)
  | cell (a sz : Nat) (ag : Bool)

/-- A function: how many slots, its code, where its results stand. -/
structure AFun where
  n : Nat
  code : ACode
  res : List ARes

def resOf (P : Program) : List ResultVar → Option (List ARes)
  | [] => some []
  | .tmp t :: l => (resOf P l).map (.tmp t :: ·)
  | .cell a t :: l => match P.underlying t, P.info? t, resOf P l with
    | some d, some i, some rs => some (.cell a i.size d.isAg :: rs)
    | _, _, _ => none

def compF (P : Program) (fn : Func) : Option AFun :=
  match fn.body with
  | some c => match compC P fn.ntmps c, resOf P fn.results.toList with
    | some ac, some rs => some ⟨fn.ntmps, ac, rs⟩
    | _, _ => none
  | none => none

def resA (e : Env) (h : Hp) : ARes → Option AV
  | .tmp t => some (e t)
  | .cell a sz ag => ldA sz ag h (e a)
def resL (e : Env) (h : Hp) : List ARes → Option (List AV)
  | [] => some []
  | r :: l => (resA e h r).bind fun v => (resL e h l).map (v :: ·)
/-- What is then answered. -/
def resK (rs : List ARes) (e : Env) (h : Hp) (K : AV → Hp → Prop) : Prop :=
  match rs with
  | [r] => ∃ v, resA e h r = some v ∧ K v h
  | rs => ∃ vs, resL e h rs = some vs ∧ K (.tup vs) h

def initE (args : List AV) : Env := fun t => args.getD t (.tup [])

theorem resL_run {P : Program} {fz : Nat → Prop} {w : World} {e : Env} {h : Hp} {tmps : Array Value} (he : EnvR fz w.heap e tmps) (hr : Rel fz h w) : ∀ {l : List ResultVar} {rs : List ARes} {vs : List AV}, resOf P l = some rs → resL e h rs = some vs →
    ∃ cvs, (l.mapM fun (r : ResultVar) => (match r with
      | .tmp t => pure (tmps.getD t undef)
      | .cell a t => do loadVar t (← asAddr (tmps.getD a undef)) : Sem Value)).run P w = .ok cvs w ∧ VRs fz w.heap vs cvs
  | [], _, _, h1, h2 => by
    cases h1
    cases h2
    exact ⟨[], rfl, VRs.nil⟩
  | .tmp t :: l, rs, vs, h1, h2 => by
    simp only [resOf] at h1
    cases hl : resOf P l with
    | none => rw [hl] at h1; cases h1
    | some rs' =>
      rw [hl] at h1
      cases h1
      simp only [resL, resA, Option.bind_some] at h2
      cases hv : resL e h rs' with
      | none => rw [hv] at h2; cases h2
      | some vs' =>
        rw [hv] at h2
        cases h2
        obtain ⟨cvs, g1, g2⟩ := resL_run he hr hl hv
        refine ⟨tmps.getD t undef :: cvs, ?_, VRs.cons (he t) g2⟩
        rw [List.mapM_cons, run_bind, run_pure, Result.andThen_ok, run_bind, g1]
        rfl
  | .cell a t :: l, rs, vs, h1, h2 => by
    simp only [resOf] at h1
    split at h1 <;> first | (cases h1; done) | skip
    rename_i d i rs' hd hi hl
    cases h1
    simp only [resL, resA] at h2
    cases hv0 : ldA i.size d.isAg h (e a) with
    | none => rw [hv0] at h2; cases h2
    | some v =>
      rw [hv0, Option.bind_some] at h2
      cases hv : resL e h rs' with
      | none => rw [hv] at h2; cases h2
      | some vs' =>
        rw [hv] at h2
        cases h2
        obtain ⟨cvs, g1, g2⟩ := resL_run he hr hl hv
        unfold ldA at hv0
        split at hv0 <;> first | (cases hv0; done) | skip
        rename_i cs hcs
        obtain ⟨b, o', q2, q3⟩ := cellsAt_ok hr (he a) hcs
        obtain ⟨cv, q4, q5⟩ := loadVar_run (P := P) q3 hd hi hv0
        refine ⟨cv :: cvs, ?_, VRs.cons q5 g2⟩
        rw [List.mapM_cons, run_bind]
        simp only [q2]
        have q6 : (do loadVar t (← asAddr (.pointer (some ⟨b, o', none⟩))) : Sem Value).run P w = .ok cv w := by
          simpa [asAddr] using q4
        rw [q6, Result.andThen_ok, run_bind, g1]
        rfl

theorem results_run {fn : Func} {P : Program} {rs : List ARes} (h : resOf P fn.results.toList = some rs) {fz : Nat → Prop} {w : World} {e : Env} {hp : Hp} {tmps : Array Value} (he : EnvR fz w.heap e tmps) (hr : Rel fz hp w) {K : AV → Hp → Prop} (hk : resK rs e hp K) :
    ∃ v cv, (results fn tmps).run P w = .ok cv w ∧ VR fz w.heap v cv ∧ K v hp := by
  have fin : ∀ vs, resL e hp rs = some vs → ∃ cvs, (results fn tmps).run P w = (pure (if h : cvs.toArray.size = 1 then cvs.toArray[0] else .tuple cvs.toArray) : Sem Value).run P w ∧ VRs fz w.heap vs cvs := by
    intro vs hvs
    obtain ⟨cvs, g1, g2⟩ := resL_run he hr h hvs
    refine ⟨cvs, ?_, g2⟩
    unfold results
    have h2 : fn.results = fn.results.toList.toArray := by simp
    rw [h2, run_bind, List.mapM_toArray, Sem.run_map]
    exact congrArg (fun r : Result (List Value) => (r.andThen fun a w' => (.ok a.toArray w' : Result (Array Value))).andThen fun vs w' => (pure (if h : vs.size = 1 then vs[0] else .tuple vs) : Sem Value).run P w') g1
  match rs, hk, fin with
  | [r], ⟨v, h1, h2⟩, fin =>
    obtain ⟨cvs, g1, g2⟩ := fin [v] (by simp [resL, h1])
    match cvs, g1, g2 with
    | [cv], g1, g2 => exact ⟨v, cv, by rw [g1]; rfl, g2.2 0 (by simp) (by simp), h2⟩
    | [], _, g2 => exact absurd g2.1 (by simp)
    | _ :: _ :: _, _, g2 => exact absurd g2.1 (by simp)
  | [], ⟨vs, h1, h2⟩, fin =>
    cases h1
    obtain ⟨cvs, g1, g2⟩ := fin [] rfl
    match cvs, g1, g2 with
    | [], g1, g2 => exact ⟨.tup [], .tuple #[], by rw [g1]; rfl, .tup [] #[] rfl fun i h => by simp at h, h2⟩
    | _ :: _, _, g2 => exact absurd g2.1 (by simp)
  | r :: r' :: rs, ⟨vs, h1, h2⟩, fin =>
    obtain ⟨cvs, g1, g2⟩ := fin vs h1
    have hlen : 2 ≤ vs.length := by
      simp only [resL] at h1
      cases ha : resA e hp r with
      | none => rw [ha] at h1; cases h1
      | some a =>
        cases hb : resA e hp r' with
        | none => rw [ha, hb] at h1; simp at h1
        | some b =>
          cases hl : resL e hp rs with
          | none => rw [ha, hb, hl] at h1; simp at h1
          | some l => rw [ha, hb, hl] at h1; cases h1; simp
    have hl2 := g2.1
    refine ⟨.tup vs, .tuple cvs.toArray, ?_, .tup _ _ (by simpa using hl2) fun i h3 h4 => by simpa using g2.2 i h3 (by simpa using h4), h2⟩
    rw [g1, dif_neg (by simp; omega)]
    rfl

theorem triple_of {P : Program} {f : FuncId} {fn : Func} {F : AFun} {args : List AV} {h : Hp} {post : AV → Hp → Prop} (hm : P.follows .mixedOrders = true) (hf : P.funcs[f]? = some fn) (hF : compF P fn = some F) (hn : args.length ≤ F.n)
    (hh : wpA P F.code (initE args) h (fun e h' => resK F.res e h' post) (fun e h' => resK F.res e h' post) (fun _ _ _ => False)) : Triple P f args h post := by
  intro fz w cargs hr ha
  unfold compF at hF
  split at hF <;> first | (cases hF; done) | skip
  rename_i c hb
  split at hF <;> first | (cases hF; done) | skip
  rename_i ac rs hac hrs
  cases hF
  have hlen := ha.1
  simp only [Array.length_toList] at hlen
  simp only at hn
  refine calls_of_wp hf hb ?_
  have fin : ∀ a w', Fin fn.ntmps fz h w (fun e h' => resK rs e h' post) a w' → a.defers = [] ∧ ∃ v, (results fn a.tmps).run P w' = .ok v w' ∧
      ∃ cv r h' fz', Ending.returned v = .returned cv ∧ VR fz' w'.heap r cv ∧ Rel fz' h' w' ∧ Ext fz h w fz' h' w' ∧ post r h' := by
    rintro a w' ⟨fz', e, h', hst, hk, hx, hd⟩
    obtain ⟨v, cv, h1, h2, h3⟩ := results_run hrs (P := P) hst.env hst.rel hk
    exact ⟨hd, cv, h1, cv, v, h', fz', rfl, h2, hst.rel, hx, h3⟩
  refine compC_ok hm c ac hac _ _ _ _ (fun a w' hf => fin a w' hf) (fun a w' hf => fin a w' hf) (fun i a w' hf => ?_) fz (initE args) h _ w ⟨?_, ?_, hr⟩ (Ext.refl _ _ _) rfl hh
  · obtain ⟨_, _, _, _, hk, _⟩ := hf; exact hk.elim
  · simp; omega
  · intro t
    simp only [initE, List.getD_eq_getElem?_getD]
    by_cases ht : t < args.length
    · have h1 : t < (cargs ++ Array.replicate (fn.ntmps - cargs.size) undef).size := by simp; omega
      rw [List.getElem?_eq_getElem ht, Option.getD_some, Array.getD_eq_getD_getElem?, Array.getElem?_eq_getElem h1, Option.getD_some, Array.getElem_append_left (by omega)]
      have := ha.2 t ht (by simp; omega)
      simpa using this
    · rw [List.getElem?_eq_none (by omega), Option.getD_none]
      have : (cargs ++ Array.replicate (fn.ntmps - cargs.size) undef).getD t undef = undef := by
        rw [Array.getD_eq_getD_getElem?, Array.getElem?_append_right (by omega), Array.getElem?_replicate]
        split <;> rfl
      rw [this]
      exact .tup [] #[] rfl fun i h => by simp at h

end Go.Hz
/- How a walk goes: each operation as what it leaves to be shown. -/
namespace Go.Hz

def opK (P : Program) : AOp → Option Nat → List AItem → Env → Hp → (Env → Hp → Prop) → Prop
  | .mv x, d, _, e, h, K => K (e.put d (x.ev e)) h
  | .pick c a b, d, _, e, h, K => ∃ v, pickA (c.ev e) (a.ev e) (b.ev e) = some v ∧ K (e.put d v) h
  | .bin op x y, d, _, e, h, K => ∃ v, binA op (x.ev e) (y.ev e) = some v ∧ K (e.put d v) h
  | .eqn k neg x y, d, _, e, h, K => ∃ v, ((eqN k (x.ev e) (y.ev e)).map fun b => AV.bool (if neg then !b else b)) = some v ∧ K (e.put d v) h
  | .un op x, d, _, e, h, K => ∃ v, unA op (x.ev e) = some v ∧ K (e.put d v) h
  | .cvi k x, d, _, e, h, K => ∃ v, cviA k (x.ev e) = some v ∧ K (e.put d v) h
  | .cvs x, d, _, e, h, K => ∃ v, strA (x.ev e) = some v ∧ K (e.put d v) h
  | .nilck x, d, _, e, h, K => ∃ v, ckA (x.ev e) = some v ∧ K (e.put d v) h
  | .fa off x, d, _, e, h, K => ∃ v, faA off (x.ev e) = some v ∧ K (e.put d v) h
  | .fld off sz ag x, d, _, e, h, K => ∃ v, fldA off sz ag (x.ev e) = some v ∧ K (e.put d v) h
  | .ixs x i, d, _, e, h, K => ∃ v, ixsA (x.ev e) (i.ev e) = some v ∧ K (e.put d v) h
  | .ia s x i, d, _, e, h, K => ∃ v, iaA s (x.ev e) (i.ev e) = some v ∧ K (e.put d v) h
  | .slcS x lo hi, d, _, e, h, K => ∃ v, slcS (x.ev e) (oev e lo) (oev e hi) = some v ∧ K (e.put d v) h
  | .slcL s x lo hi, d, _, e, h, K => ∃ v, slcL s (x.ev e) (oev e lo) (oev e hi) = some v ∧ K (e.put d v) h
  | .slcM s x lo hi mx, d, _, e, h, K => ∃ v, slcM s (x.ev e) (oev e lo) (hi.ev e) (mx.ev e) = some v ∧ K (e.put d v) h
  | .clr s z x, d, obl, e, h, K => clrE s z (x.ev e) h fun v h' => (∀ l ∈ obl, stab P l (e.put d v) h') ∧ K (e.put d v) h'
  | .appz s b z x y, d, obl, e, h, K => appzE s b z (x.ev e) (y.ev e) h fun v h' => (∀ l ∈ obl, stab P l (e.put d v) h') ∧ K (e.put d v) h'
  | .ovl s x y, d, obl, e, h, K => ovlE s (x.ev e) (y.ev e) h fun v h' => (∀ l ∈ obl, stab P l (e.put d v) h') ∧ K (e.put d v) h'
  | .lenS x, d, _, e, h, K => ∃ v, lenS (x.ev e) = some v ∧ K (e.put d v) h
  | .lenL x, d, _, e, h, K => ∃ v, lenL (x.ev e) = some v ∧ K (e.put d v) h
  | .capL x, d, _, e, h, K => ∃ v, capL (x.ev e) = some v ∧ K (e.put d v) h
  | .ext n x, d, _, e, h, K => ∃ v, extA n (x.ev e) = some v ∧ K (e.put d v) h
  | .mkif t x, d, _, e, h, K => K (e.put d (.iface t (x.ev e))) h
  | .ta t ok z x, d, _, e, h, K => ∃ v, taA t ok z (x.ev e) = some v ∧ K (e.put d v) h
  | .mkfn f caps, d, _, e, h, K => K (e.put d (.fn f (evs e caps))) h
  | .mm mx x y, d, _, e, h, K => ∃ v, mmA mx (x.ev e) (y.ev e) = some v ∧ K (e.put d v) h
  | .bld z ps, d, _, e, h, K => ∃ v, fillA z (evParts e ps) = some v ∧ K (e.put d (.agg v)) h
  | .ld sz ag x, d, _, e, h, K => ∃ v, ldA sz ag h (x.ev e) = some v ∧ K (e.put d v) h
  | .bstr x, d, _, e, h, K => ∃ v, bstrA h (x.ev e) = some v ∧ K (e.put d v) h
  | .box x, d, _, e, h, K => ((x.ev e).cells.all AV.isAtom) = true ∧ ∀ n, h n = none → K (e.put d (.ptr n (x.ev e).cells.length 0 0)) (h.set n (.row (x.ev e).cells.length [(x.ev e).cells] 1))
  | .alloc z, d, _, e, h, K => ∀ n, h n = none → K (e.put d (.ptr n z.length 0 0)) (h.set n (.row z.length [z] 1))
  | .bsl z n ps, d, _, e, h, K => ∃ v, setL z.length (List.replicate n z) (evIdx e ps) = some v ∧ ∀ b, h b = none → K (e.put d (.arr b z.length 0 n n)) (h.set b (.row z.length v n))
  | .msl bytes z l c, d, _, e, h, K => ∃ r, mslA z.length bytes z (l.ev e) (c.ev e) = some r ∧ match r with
    | .inl v => K (e.put d v) h
    | .inr (o, g) => ∀ n, h n = none → K (e.put d (g n)) (h.set n o)
  | .st sz x y, d, obl, e, h, K => ∃ h', stA sz h (x.ev e) (y.ev e) = some h' ∧ (∀ l ∈ obl, stab P l (e.put d (.tup [])) h') ∧ K (e.put d (.tup [])) h'
  | .app s bytes x y, d, obl, e, h, K => appE s bytes (x.ev e) (y.ev e) h fun v h' => (∀ l ∈ obl, stab P l (e.put d v) h') ∧ K (e.put d v) h'
  | .cp s x y, d, obl, e, h, K => cpE s (x.ev e) (y.ev e) h fun v h' => (∀ l ∈ obl, stab P l (e.put d v) h') ∧ K (e.put d v) h'
  | .strb x, d, obl, e, h, K => strbE (x.ev e) h fun v h' => (∀ l ∈ obl, stab P l (e.put d v) h') ∧ K (e.put d v) h'
  | .call f args, d, obl, e, h, K => Triple P f (evs e args) h fun v h' => (∀ l ∈ obl, stab P l (e.put d v) h') ∧ K (e.put d v) h'
  | .iap n s x i, d, _, e, h, K => ∃ v, iapA n s (x.ev e) (i.ev e) = some v ∧ K (e.put d v) h
  | .ixa n s ag x i, d, _, e, h, K => ∃ v, ixaA n s ag (x.ev e) (i.ev e) = some v ∧ K (e.put d v) h
  | .cvb x, d, obl, e, h, K => cvbE (x.ev e) h fun v h' => (∀ l ∈ obl, stab P l (e.put d v) h') ∧ K (e.put d v) h'
  | .nop, d, obl, e, h, K => (∀ l ∈ obl, stab P l (e.put d (.tup [])) h) ∧ K (e.put d (.tup [])) h
  | .callv x args, d, obl, e, h, K => callvE P (x.ev e) (evs e args) h fun v h' => (∀ l ∈ obl, stab P l (e.put d v) h') ∧ K (e.put d v) h'

theorem ite_some {α : Type} {c : Prop} [Decidable c] {x : α} {K : α → Prop} : (∃ v, (if c then some x else none) = some v ∧ K v) ↔ c ∧ K x := by
  constructor
  · rintro ⟨v, h1, h2⟩
    split at h1
    · cases h1; exact ⟨‹_›, h2⟩
    · cases h1
  · rintro ⟨h1, h2⟩; exact ⟨x, if_pos h1, h2⟩

theorem ex_some {α : Type} {x : α} {K : α → Prop} : (∃ v, some x = some v ∧ K v) ↔ K x := by
  constructor
  · rintro ⟨v, h1, h2⟩; cases h1; exact h2
  · exact fun h => ⟨x, rfl, h⟩

theorem map_some {α β : Type} {x : Option α} {f : α → β} {K : β → Prop} : (∃ v, x.map f = some v ∧ K v) ↔ ∃ v, x = some v ∧ K (f v) := by
  constructor
  · rintro ⟨v, h1, h2⟩
    cases x with
    | none => cases h1
    | some a => cases h1; exact ⟨a, rfl, h2⟩
  · rintro ⟨v, h1, h2⟩; subst h1; exact ⟨f v, rfl, h2⟩

theorem stepA_eq {P : Program} {d : Option Nat} {op : AOp} {obl : List AItem} {e : Env} {h : Hp} {K : Env → Hp → Prop} : stepA P ⟨d, op, none⟩ obl e h K ↔ opK P op d obl e h K := by
  unfold stepA AItem.item
  cases op with
  | mv x => exact ex_some
  | mkif t x => exact ex_some
  | mkfn f caps => exact ex_some
  | bld z ps => exact map_some
  | box x => exact ite_some
  | alloc z => exact ex_some
  | bsl z n ps => exact map_some
  | st sz x y => exact Iff.rfl
  | _ => exact Iff.rfl

theorem wpS_nil {P : Program} {e : Env} {h : Hp} {K : Env → Hp → Prop} : wpS P [] e h K ↔ K e h := Iff.rfl
theorem wpS_op {P : Program} {d : Option Nat} {op : AOp} {obl : List AItem} {l : List (AItem × List AItem)} {e : Env} {h : Hp} {K : Env → Hp → Prop} :
    wpS P ((⟨d, op, none⟩, obl) :: l) e h K ↔ opK P op d obl e h fun e' h' => wpS P l e' h' K := stepA_eq

section
variable {P : Program} {kn kr : Env → Hp → Prop} {kx : Nat → Env → Hp → Prop} {e : Env} {h : Hp}
theorem wpA_skip : wpA P .skip e h kn kr kx ↔ kn e h := Iff.rfl
theorem wpA_reg {l : List (AItem × List AItem)} : wpA P (.reg l) e h kn kr kx ↔ wpS P l e h kn := Iff.rfl
theorem wpA_seq {a b : ACode} : wpA P (.seq a b) e h kn kr kx ↔ wpA P a e h (fun e h => wpA P b e h kn kr kx) kr kx := Iff.rfl
theorem wpA_cond {c : AE} {t f : ACode} : wpA P (.cond c t f) e h kn kr kx ↔ ∃ b, c.ev e = .bool b ∧ (b = true → wpA P t e h kn kr kx) ∧ (b = false → wpA P f e h kn kr kx) := Iff.rfl
theorem wpA_block {id : Nat} {b : ACode} : wpA P (.block id b) e h kn kr kx ↔ wpA P b e h kn kr fun i e h => if i = id then kn e h else kx i e h := Iff.rfl
theorem wpA_exit {id : Nat} : wpA P (.exit id) e h kn kr kx ↔ kx id e h := Iff.rfl
theorem wpA_ret : wpA P .ret e h kn kr kx ↔ kr e h := Iff.rfl
theorem wpA_loop {b : ACode} (I : Env → Hp → Prop) (μ : Env → Hp → Nat) (h0 : I e h) (hr : ∀ e h, I e h → wpA P b e h (fun e' h' => I e' h' ∧ μ e' h' < μ e h) kr kx) : wpA P (.loop b) e h kn kr kx := ⟨I, μ, h0, hr⟩

theorem bool_ex {b : Bool} {K : Bool → Prop} : (∃ v, AV.bool b = AV.bool v ∧ K v) ↔ K b := by
  constructor
  · rintro ⟨v, h1, h2⟩; cases h1; exact h2
  · exact fun h => ⟨b, rfl, h⟩
end

/-! ### values: one rule each -/

theorem init_lt {args : List AV} {t : Nat} {v : AV} (h : args[t]? = some v) : initE args t = v := by
  simp [initE, h]

/-- What a piece of work leaves: these blocks may have turned, all others are as they were. -/
structure Mod (S S' : List Nat) (h h' : Hp) : Prop where
  keep : ∀ x, h x ≠ none → x ∉ S → h' x = h x
  new : ∀ x ∈ S', x ∈ S ∨ h x = none
  dom : ∀ x ∈ S', h' x ≠ none

theorem Mod.refl {S : List Nat} {h : Hp} (hd : ∀ x ∈ S, h x ≠ none) : Mod S S h h := ⟨fun _ _ _ => rfl, fun _ h => .inl h, hd⟩

theorem Mod.trans {S S' S'' : List Nat} {h h' h'' : Hp} (a : Mod S S' h h') (b : Mod S' S'' h' h'') : Mod S S'' h h'' := by
  refine ⟨fun x hx hn => ?_, fun x hx => ?_, b.dom⟩
  · have e1 := a.keep x hx hn
    have hn' : x ∉ S' := fun hm => by
      rcases a.new x hm with h | h
      · exact hn h
      · exact hx h
    rw [b.keep x (by rw [e1]; exact hx) hn', e1]
  · rcases b.new x hx with h1 | h1
    · exact a.new x h1
    · by_cases hs : x ∈ S
      · exact .inl hs
      · right
        cases hh : h x with
        | none => rfl
        | some o => have := a.keep x (by rw [hh]; simp) hs; rw [this, hh] at h1; cases h1

end Go.Hz
/- Slices that are owned: appended to, read. -/
set_option linter.unusedVariables false
set_option linter.unusedSimpArgs false
namespace Go.Hz

/-- A slice of one's own: nil and empty, or all that its block holds. -/
def OwnV (h : Hp) (s : Nat) (v : AV) (es : List (List AV)) (S : List Nat) : Prop :=
  (v = .nils ∧ es = [] ∧ S = []) ∨ ∃ b cap, v = .arr b s 0 es.length cap ∧ h b = some (.row s es cap) ∧ es.length ≤ cap ∧ S = [b]

theorem OwnV.cells {h : Hp} {s : Nat} {v : AV} {es : List (List AV)} {S : List Nat} (o : OwnV h s v es S) : v.cells = [v] := by
  rcases o with ⟨rfl, _, _⟩ | ⟨b, cap, rfl, _, _, _⟩ <;> rfl
theorem OwnV.atom {h : Hp} {s : Nat} {v : AV} {es : List (List AV)} {S : List Nat} (o : OwnV h s v es S) : v.isAtom = true := by
  rcases o with ⟨rfl, _, _⟩ | ⟨b, cap, rfl, _, _, _⟩ <;> rfl
theorem OwnV.dom {h : Hp} {s : Nat} {v : AV} {es : List (List AV)} {S : List Nat} (o : OwnV h s v es S) : ∀ x ∈ S, h x ≠ none := by
  rcases o with ⟨_, _, rfl⟩ | ⟨b, cap, _, hb, _, rfl⟩
  · intro x hx; simp at hx
  · intro x hx; simp at hx; subst hx; rw [hb]; simp
theorem OwnV.same {h h' : Hp} {s : Nat} {v : AV} {es : List (List AV)} {S : List Nat} (o : OwnV h s v es S) (hh : ∀ x ∈ S, h' x = h x) : OwnV h' s v es S := by
  rcases o with ⟨h1, h2, h3⟩ | ⟨b, cap, h1, hb, hle, h3⟩
  · exact .inl ⟨h1, h2, h3⟩
  · exact .inr ⟨b, cap, h1, by rw [hh b (by rw [h3]; simp)]; exact hb, hle, h3⟩
theorem OwnV.src {h : Hp} {s : Nat} {v : AV} {es : List (List AV)} {S : List Nat} (o : OwnV h s v es S) : srcA s h v = some es := by
  rcases o with ⟨rfl, rfl, _⟩ | ⟨b, cap, rfl, hb, _, _⟩
  · rfl
  · simp [srcA, hb]
theorem OwnV.len {h : Hp} {s : Nat} {v : AV} {es : List (List AV)} {S : List Nat} (o : OwnV h s v es S) : lenL v = some (.int .i64 es.length) := by
  rcases o with ⟨rfl, rfl, _⟩ | ⟨b, cap, rfl, hb, _, _⟩ <;> rfl

theorem own_app {s bytes : Nat} {h : Hp} {v y : AV} {es ys : List (List AV)} {S : List Nat} {K : AV → Hp → Prop} (o : OwnV h s v es S) (hy : srcA s h y = some ys) (ha : AtomsL ys)
    (hb : (es.length + ys.length) * bytes ≤ 70368744177664) (hk : ∀ v' h' S', OwnV h' s v' (es ++ ys) S' → Mod S S' h h' → K v' h') : appE s bytes v y h K := by
  refine ⟨ys, hy, ha, ?_⟩
  rcases o with ⟨rfl, rfl, rfl⟩ | ⟨b, cap, rfl, hbb, hle, rfl⟩
  · refine ⟨fun h0 => hk _ _ [] (.inl ⟨rfl, by simp [h0], rfl⟩) (Mod.refl (fun x hx => by simp at hx)), fun h0 => ⟨by simpa using hb, fun n c hn hc => ?_⟩⟩
    refine hk _ _ [n] (.inr ⟨n, c, rfl, by simp, by simpa using hc, rfl⟩) ⟨fun x hx hxn => ?_, fun x hx => ?_, fun x hx => ?_⟩
    · exact Hp.set_ne _ _ (fun hh => hx (by rw [hh]; exact hn))
    · simp at hx; subst hx; exact .inr hn
    · simp at hx; subst hx; simp
  · simp only [hbb]
    refine ⟨trivial, trivial, trivial, Nat.le_refl _, trivial, hb, fun n c hn hc _ => ?_⟩
    rw [List.take_length]
    refine hk _ _ [n] (.inr ⟨n, c, by simp, by simp, by simpa using hc, rfl⟩) ⟨fun x hx hxn => ?_, fun x hx => ?_, fun x hx => ?_⟩
    · have hxb : x ≠ b := by simpa using hxn
      have hxn' : x ≠ n := fun hh => by subst hh; rw [Hp.del_ne _ hxb] at hn; exact hx hn
      rw [Hp.set_ne _ _ hxn', Hp.del_ne _ hxb]
    · simp at hx; subst hx
      by_cases hxb : x = b
      · exact .inl (by simp [hxb])
      · right; rwa [Hp.del_ne _ hxb] at hn
    · simp at hx; subst hx; simp

theorem OwnV.fresh {h : Hp} {s b : Nat} {v : AV} {es : List (List AV)} {S : List Nat} (o : OwnV h s v es S) (hb : h b = none) (x : AObj) : OwnV (h.set b x) s v es S :=
  o.same fun y hy => Hp.set_ne _ _ fun hh => o.dom y hy (hh ▸ hb)
theorem OwnV.other {h : Hp} {s b : Nat} {v : AV} {es : List (List AV)} {S : List Nat} (o : OwnV h s v es S) (hb : b ∉ S) (x : AObj) : OwnV (h.set b x) s v es S :=
  o.same fun y hy => Hp.set_ne _ _ fun hh => hb (hh ▸ hy)
theorem OwnV.kept {h h' : Hp} {s : Nat} {v : AV} {es : List (List AV)} {S A B : List Nat} (o : OwnV h s v es S) (m : Mod A B h h') (hA : ∀ x ∈ S, x ∉ A) : OwnV h' s v es S :=
  o.same fun y hy => m.keep y (o.dom y hy) (hA y hy)
theorem Mod.fresh {S S' : List Nat} {h h' : Hp} (m : Mod S S' h h') {b : Nat} (hb : h' b = none) (x : AObj) : Mod S S' h (h'.set b x) :=
  ⟨fun y hy hn => by
    have e1 := m.keep y hy hn
    rw [Hp.set_ne _ _ (fun hh => hy (by rw [← e1, hh, hb])), e1], m.new, fun y hy => by
    rw [Hp.set_ne _ _ (fun hh => m.dom y hy (by rw [hh]; exact hb))]; exact m.dom y hy⟩
theorem Mod.store {S S' : List Nat} {h h' : Hp} (m : Mod S S' h h') {b : Nat} (hb : b ∈ S') (x : AObj) : Mod S S' h (h'.set b x) :=
  ⟨fun y hy hn => by
    have hyb : y ≠ b := fun hh => by
      rcases m.new b hb with h1 | h1
      · exact hn (hh ▸ h1)
      · exact hy (hh ▸ h1)
    rw [Hp.set_ne _ _ hyb, m.keep y hy hn], m.new, fun y hy => by
    by_cases hyb : y = b
    · subst hyb; simp
    · rw [Hp.set_ne _ _ hyb]; exact m.dom y hy⟩
theorem Mod.more {S S' : List Nat} {h h' : Hp} (m : Mod S S' h h') {b : Nat} (hb : h' b = none) (x : AObj) : Mod S (b :: S') h (h'.set b x) :=
  ⟨(m.fresh hb x).keep, fun y hy => by
    rcases List.mem_cons.1 hy with rfl | hy
    · by_cases hs : y ∈ S
      · exact .inl hs
      · right
        cases hh : h y with
        | none => rfl
        | some o => have := m.keep y (by rw [hh]; simp) hs; rw [hb, hh] at this; cases this
    · exact m.new y hy, fun y hy => by
    rcases List.mem_cons.1 hy with rfl | hy
    · simp
    · exact (m.fresh hb x).dom y hy⟩
theorem Mod.cons {S S' : List Nat} {h h' : Hp} (m : Mod S S' h h') {p : Nat} (hp : h p ≠ none) (hn : p ∉ S) : Mod (p :: S) (p :: S') h h' :=
  ⟨fun y hy hm => m.keep y hy fun hh => hm (List.mem_cons_of_mem _ hh), fun y hy => by
    rcases List.mem_cons.1 hy with rfl | hy
    · exact .inl (by simp)
    · rcases m.new y hy with h1 | h1
      · exact .inl (List.mem_cons_of_mem _ h1)
      · exact .inr h1, fun y hy => by
    rcases List.mem_cons.1 hy with rfl | hy
    · rw [m.keep _ hp hn]; exact hp
    · exact m.dom y hy⟩
theorem Mod.notin {S S' : List Nat} {h h' : Hp} (m : Mod S S' h h') {p : Nat} (hp : h p ≠ none) (hn : p ∉ S) : p ∉ S' := fun hh => by
  rcases m.new p hh with h1 | h1
  · exact hn h1
  · exact hp h1

theorem Mod.shrink {S S' S'' : List Nat} {h h' : Hp} (m : Mod S S' h h') (hs : ∀ x ∈ S'', x ∈ S') : Mod S S'' h h' :=
  ⟨m.keep, fun x hx => m.new x (hs x hx), fun x hx => m.dom x (hs x hx)⟩
theorem Mod.frame {S S' X : List Nat} {h h' : Hp} (m : Mod S S' h h') (h1 : ∀ x ∈ X, h x ≠ none) (h2 : ∀ x ∈ X, x ∉ S) : Mod (X ++ S) (X ++ S') h h' :=
  ⟨fun y hy hn => m.keep y hy fun hh => hn (List.mem_append_right _ hh), fun y hy => by
    rcases List.mem_append.1 hy with hy | hy
    · exact .inl (List.mem_append_left _ hy)
    · rcases m.new y hy with g | g
      · exact .inl (List.mem_append_right _ g)
      · exact .inr g, fun y hy => by
    rcases List.mem_append.1 hy with hy | hy
    · rw [m.keep y (h1 y hy) (h2 y hy)]; exact h1 y hy
    · exact m.dom y hy⟩
theorem Mod.comp0 {A B D : List Nat} {h h' h'' : Hp} (a : Mod A B h h') (b : Mod [] D h' h'') : Mod A (B ++ D) h h'' := by
  have := b.frame (X := B) a.dom (by simp)
  rw [List.append_nil] at this
  exact a.trans this

theorem atoms_eb (bs : List UInt8) : AtomsL (bs.map eb) := by
  intro e he v hv
  obtain ⟨b, _, rfl⟩ := List.mem_map.1 he
  simp [eb] at hv
  subst hv; rfl

end Go.Hz
/- The walk as a machine on data: what is still to run stands as lists, so that a simplifier takes one step after the other. -/
namespace Go.Hz

/-- What is still to be done behind a piece of code. -/
inductive Fr where
  | code (b : ACode)
  | blk (id : Nat)
  | lp (J : Env → Hp → Prop)

structure Kt where
  kn : Env → Hp → Prop
  kr : Env → Hp → Prop
  kx : Nat → Env → Hp → Prop

def kk (P : Program) (k : Kt) : List Fr → (Env → Hp → Prop) × (Nat → Env → Hp → Prop)
  | [] => (k.kn, k.kx)
  | .code b :: st => (fun e h => wpA P b e h (kk P k st).1 k.kr (kk P k st).2, (kk P k st).2)
  | .blk id :: st => ((kk P k st).1, fun i e h => if i = id then (kk P k st).1 e h else (kk P k st).2 i e h)
  | .lp J :: st => (J, (kk P k st).2)

/-- Run a piece of code, then the rest. -/
def run (P : Program) (c : ACode) (st : List Fr) (e : Env) (h : Hp) (k : Kt) : Prop := wpA P c e h (kk P k st).1 k.kr (kk P k st).2
/-- Go on with the rest. -/
def fall (P : Program) (st : List Fr) (e : Env) (h : Hp) (k : Kt) : Prop := (kk P k st).1 e h
/-- Leave a block. -/
def outR (P : Program) (i : Nat) (st : List Fr) (e : Env) (h : Hp) (k : Kt) : Prop := (kk P k st).2 i e h
def runS (P : Program) (l : List (AItem × List AItem)) (st : List Fr) (e : Env) (h : Hp) (k : Kt) : Prop := wpS P l e h (kk P k st).1
def cndR (P : Program) (v : AV) (t f : ACode) (st : List Fr) (e : Env) (h : Hp) (k : Kt) : Prop :=
  ∃ b, v = .bool b ∧ (b = true → run P t st e h k) ∧ (b = false → run P f st e h k)
def obls (P : Program) (obl : List AItem) (e : Env) (h : Hp) : Prop := ∀ l ∈ obl, stab P l e h
/-- A value, and on. -/
def nx (P : Program) (a : Option AV) (d : Option Nat) (l : List (AItem × List AItem)) (st : List Fr) (e : Env) (h : Hp) (k : Kt) : Prop :=
  ∃ v, a = some v ∧ runS P l st (e.put d v) h k
/-- A heap, and on. -/
def nxh (P : Program) (a : Option Hp) (obl : List AItem) (d : Option Nat) (l : List (AItem × List AItem)) (st : List Fr) (e : Env) (k : Kt) : Prop :=
  ∃ h', a = some h' ∧ obls P obl (e.put d (.tup [])) h' ∧ runS P l st (e.put d (.tup [])) h' k
/-- A new block, and on. -/
def newR (P : Program) (o : AObj) (g : Nat → AV) (d : Option Nat) (l : List (AItem × List AItem)) (st : List Fr) (e : Env) (h : Hp) (k : Kt) : Prop :=
  ∀ n, h n = none → runS P l st (e.put d (g n)) (h.set n o) k
/-- A made slice, and on. -/
def mslR (P : Program) (a : Option (AV ⊕ (AObj × (Nat → AV)))) (d : Option Nat) (l : List (AItem × List AItem)) (st : List Fr) (e : Env) (h : Hp) (k : Kt) : Prop :=
  ∃ r, a = some r ∧ match r with
    | .inl v => runS P l st (e.put d v) h k
    | .inr (o, g) => newR P o g d l st e h k
/-- New rows, and on. -/
def bslR (P : Program) (s n : Nat) (a : Option (List (List AV))) (d : Option Nat) (l : List (AItem × List AItem)) (st : List Fr) (e : Env) (h : Hp) (k : Kt) : Prop :=
  ∃ v, a = some v ∧ newR P (.row s v n) (fun b => .arr b s 0 n n) d l st e h k
/-- A boxed value, and on. -/
def boxR (P : Program) (c : List AV) (d : Option Nat) (l : List (AItem × List AItem)) (st : List Fr) (e : Env) (h : Hp) (k : Kt) : Prop :=
  c.all AV.isAtom = true ∧ newR P (.row c.length [c] 1) (fun n => .ptr n c.length 0 0) d l st e h k
/-- A piece of work that turns the heap, and on. -/
def effR (P : Program) (E : (AV → Hp → Prop) → Prop) (obl : List AItem) (d : Option Nat) (l : List (AItem × List AItem)) (st : List Fr) (e : Env) (k : Kt) : Prop :=
  E fun v h' => obls P obl (e.put d v) h' ∧ runS P l st (e.put d v) h' k
/-- A call, and on. -/
def callR (P : Program) (f : Nat) (args : List AV) (obl : List AItem) (d : Option Nat) (l : List (AItem × List AItem)) (st : List Fr) (e : Env) (h : Hp) (k : Kt) : Prop :=
  Triple P f args h fun v h' => obls P obl (e.put d v) h' ∧ runS P l st (e.put d v) h' k

/-- A guarded load. -/
def gd (v : AV) (w : Bool) (a : Option AV) : Option AV := match v with
  | .bool b => if b = w then a else some (.tup [])
  | .tup [] => some (.tup [])
  | _ => none
theorem gd_bool {b w : Bool} {a : Option AV} : gd (.bool b) w a = if b = w then a else some (.tup []) := rfl
theorem gd_tup {w : Bool} {a : Option AV} : gd (.tup []) w a = some (.tup []) := rfl

section
variable {P : Program} {st : List Fr} {e : Env} {h : Hp} {k : Kt} {d : Option Nat} {obl : List AItem} {l : List (AItem × List AItem)}
theorem run_skip : run P .skip st e h k ↔ fall P st e h k := Iff.rfl
theorem run_reg {l : List (AItem × List AItem)} : run P (.reg l) st e h k ↔ runS P l st e h k := Iff.rfl
theorem run_seq {a b : ACode} : run P (.seq a b) st e h k ↔ run P a (.code b :: st) e h k := Iff.rfl
theorem run_cond {c : AE} {t f : ACode} : run P (.cond c t f) st e h k ↔ cndR P (c.ev e) t f st e h k := Iff.rfl
theorem run_block {id : Nat} {b : ACode} : run P (.block id b) st e h k ↔ run P b (.blk id :: st) e h k := Iff.rfl
theorem run_exit {id : Nat} : run P (.exit id) st e h k ↔ outR P id st e h k := Iff.rfl
theorem run_ret : run P .ret st e h k ↔ k.kr e h := Iff.rfl
theorem fall_nil : fall P [] e h k ↔ k.kn e h := Iff.rfl
theorem fall_code {b : ACode} : fall P (.code b :: st) e h k ↔ run P b st e h k := Iff.rfl
theorem fall_blk {id : Nat} : fall P (.blk id :: st) e h k ↔ fall P st e h k := Iff.rfl
theorem fall_lp {J : Env → Hp → Prop} : fall P (.lp J :: st) e h k ↔ J e h := Iff.rfl
theorem out_nil {i : Nat} : outR P i [] e h k ↔ k.kx i e h := Iff.rfl
theorem out_code {i : Nat} {b : ACode} : outR P i (.code b :: st) e h k ↔ outR P i st e h k := Iff.rfl
theorem out_blk {i id : Nat} : outR P i (.blk id :: st) e h k ↔ if i = id then fall P st e h k else outR P i st e h k := Iff.rfl
theorem out_lp {i : Nat} {J : Env → Hp → Prop} : outR P i (.lp J :: st) e h k ↔ outR P i st e h k := Iff.rfl
theorem runS_nil : runS P [] st e h k ↔ fall P st e h k := Iff.rfl
theorem cnd_true {t f : ACode} : cndR P (.bool true) t f st e h k ↔ run P t st e h k := by simp [cndR]
theorem cnd_false {t f : ACode} : cndR P (.bool false) t f st e h k ↔ run P f st e h k := by simp [cndR]
theorem cnd_bool {t f : ACode} {b : Bool} (ht : b = true → run P t st e h k) (hf : b = false → run P f st e h k) : cndR P (.bool b) t f st e h k := ⟨b, rfl, ht, hf⟩
theorem cnd_dec {t f : ACode} {p : Prop} [Decidable p] (ht : p → run P t st e h k) (hf : ¬ p → run P f st e h k) : cndR P (.bool (decide p)) t f st e h k :=
  ⟨_, rfl, fun hh => ht (by simpa using hh), fun hh => hf (by simpa using hh)⟩
theorem nx_some {v : AV} : nx P (some v) d l st e h k ↔ runS P l st (e.put d v) h k := ex_some
theorem nx_if {c : Prop} [Decidable c] {v : AV} : nx P (if c then some v else none) d l st e h k ↔ c ∧ runS P l st (e.put d v) h k := ite_some
theorem nx_none : ¬ nx P none d l st e h k := fun ⟨_, h, _⟩ => by cases h
theorem nxh_some {h' : Hp} : nxh P (some h') [] d l st e k ↔ runS P l st (e.put d (.tup [])) h' k := by simp [nxh, obls]
theorem nxh_obl {h' : Hp} {o : AItem} {os : List AItem} : nxh P (some h') (o :: os) d l st e k ↔ obls P (o :: os) (e.put d (.tup [])) h' ∧ runS P l st (e.put d (.tup [])) h' k := ex_some
theorem obls_nil : obls P [] e h ↔ True := by simp [obls]
theorem obls_cons {x : AItem} {xs : List AItem} : obls P (x :: xs) e h ↔ stab P x e h ∧ obls P xs e h := by simp [obls]
theorem stab_ld {d sz : Nat} {ag : Bool} {x : AE} : stab P ⟨some d, .ld sz ag x, none⟩ e h ↔ ldA sz ag h (x.ev e) = some (e d) := Iff.rfl
theorem stab_ldg {d sz g : Nat} {ag w : Bool} {x : AE} : stab P ⟨some d, .ld sz ag x, some (g, w)⟩ e h ↔ gd (e g) w (ldA sz ag h (x.ev e)) = some (e d) := Iff.rfl
theorem stab_bs {d : Nat} {x : AE} : stab P ⟨some d, .bstr x, none⟩ e h ↔ bstrA h (x.ev e) = some (e d) := Iff.rfl
theorem stab_bsg {d g : Nat} {w : Bool} {x : AE} : stab P ⟨some d, .bstr x, some (g, w)⟩ e h ↔ gd (e g) w (bstrA h (x.ev e)) = some (e d) := Iff.rfl
theorem msl_inl {v : AV} : mslR P (some (.inl v)) d l st e h k ↔ runS P l st (e.put d v) h k := ex_some
theorem msl_inr {o : AObj} {g : Nat → AV} : mslR P (some (.inr (o, g))) d l st e h k ↔ newR P o g d l st e h k := ex_some
theorem bsl_some {s n : Nat} {v : List (List AV)} : bslR P s n (some v) d l st e h k ↔ newR P (.row s v n) (fun b => .arr b s 0 n n) d l st e h k := ex_some

/-- How an operation goes on. -/
def opR (P : Program) : AOp → Option Nat → List AItem → List (AItem × List AItem) → List Fr → Env → Hp → Kt → Prop
  | .mv x, d, _, l, st, e, h, k => nx P (some (x.ev e)) d l st e h k
  | .pick c a b, d, _, l, st, e, h, k => nx P (pickA (c.ev e) (a.ev e) (b.ev e)) d l st e h k
  | .bin op x y, d, _, l, st, e, h, k => nx P (binA op (x.ev e) (y.ev e)) d l st e h k
  | .eqn kd neg x y, d, _, l, st, e, h, k => nx P ((eqN kd (x.ev e) (y.ev e)).map fun b => AV.bool (if neg then !b else b)) d l st e h k
  | .un op x, d, _, l, st, e, h, k => nx P (unA op (x.ev e)) d l st e h k
  | .cvi kd x, d, _, l, st, e, h, k => nx P (cviA kd (x.ev e)) d l st e h k
  | .cvs x, d, _, l, st, e, h, k => nx P (strA (x.ev e)) d l st e h k
  | .nilck x, d, _, l, st, e, h, k => nx P (ckA (x.ev e)) d l st e h k
  | .fa off x, d, _, l, st, e, h, k => nx P (faA off (x.ev e)) d l st e h k
  | .fld off sz ag x, d, _, l, st, e, h, k => nx P (fldA off sz ag (x.ev e)) d l st e h k
  | .ixs x i, d, _, l, st, e, h, k => nx P (ixsA (x.ev e) (i.ev e)) d l st e h k
  | .ia s x i, d, _, l, st, e, h, k => nx P (iaA s (x.ev e) (i.ev e)) d l st e h k
  | .slcS x lo hi, d, _, l, st, e, h, k => nx P (slcS (x.ev e) (oev e lo) (oev e hi)) d l st e h k
  | .slcL s x lo hi, d, _, l, st, e, h, k => nx P (slcL s (x.ev e) (oev e lo) (oev e hi)) d l st e h k
  | .slcM s x lo hi mx, d, _, l, st, e, h, k => nx P (slcM s (x.ev e) (oev e lo) (hi.ev e) (mx.ev e)) d l st e h k
  | .clr s z x, d, obl, l, st, e, h, k => effR P (clrE s z (x.ev e) h) obl d l st e k
  | .appz s b z x y, d, obl, l, st, e, h, k => effR P (appzE s b z (x.ev e) (y.ev e) h) obl d l st e k
  | .ovl s x y, d, obl, l, st, e, h, k => effR P (ovlE s (x.ev e) (y.ev e) h) obl d l st e k
  | .lenS x, d, _, l, st, e, h, k => nx P (lenS (x.ev e)) d l st e h k
  | .lenL x, d, _, l, st, e, h, k => nx P (lenL (x.ev e)) d l st e h k
  | .capL x, d, _, l, st, e, h, k => nx P (capL (x.ev e)) d l st e h k
  | .ext n x, d, _, l, st, e, h, k => nx P (extA n (x.ev e)) d l st e h k
  | .mkif t x, d, _, l, st, e, h, k => nx P (some (AV.iface t (x.ev e))) d l st e h k
  | .ta t ok z x, d, _, l, st, e, h, k => nx P (taA t ok z (x.ev e)) d l st e h k
  | .mkfn f caps, d, _, l, st, e, h, k => nx P (some (AV.fn f (evs e caps))) d l st e h k
  | .mm mx x y, d, _, l, st, e, h, k => nx P (mmA mx (x.ev e) (y.ev e)) d l st e h k
  | .bld z ps, d, _, l, st, e, h, k => nx P ((fillA z (evParts e ps)).map AV.agg) d l st e h k
  | .ld sz ag x, d, _, l, st, e, h, k => nx P (ldA sz ag h (x.ev e)) d l st e h k
  | .bstr x, d, _, l, st, e, h, k => nx P (bstrA h (x.ev e)) d l st e h k
  | .iap n s x i, d, _, l, st, e, h, k => nx P (iapA n s (x.ev e) (i.ev e)) d l st e h k
  | .ixa n s ag x i, d, _, l, st, e, h, k => nx P (ixaA n s ag (x.ev e) (i.ev e)) d l st e h k
  | .box x, d, _, l, st, e, h, k => boxR P (x.ev e).cells d l st e h k
  | .alloc z, d, _, l, st, e, h, k => newR P (.row z.length [z] 1) (fun n => .ptr n z.length 0 0) d l st e h k
  | .bsl z n ps, d, _, l, st, e, h, k => bslR P z.length n (setL z.length (List.replicate n z) (evIdx e ps)) d l st e h k
  | .msl bytes z n c, d, _, l, st, e, h, k => mslR P (mslA z.length bytes z (n.ev e) (c.ev e)) d l st e h k
  | .st sz x y, d, obl, l, st, e, h, k => nxh P (stA sz h (x.ev e) (y.ev e)) obl d l st e k
  | .app s bytes x y, d, obl, l, st, e, h, k => effR P (appE s bytes (x.ev e) (y.ev e) h) obl d l st e k
  | .cp s x y, d, obl, l, st, e, h, k => effR P (cpE s (x.ev e) (y.ev e) h) obl d l st e k
  | .strb x, d, obl, l, st, e, h, k => effR P (strbE (x.ev e) h) obl d l st e k
  | .cvb x, d, obl, l, st, e, h, k => effR P (cvbE (x.ev e) h) obl d l st e k
  | .call f args, d, obl, l, st, e, h, k => callR P f (evs e args) obl d l st e h k
  | .callv x args, d, obl, l, st, e, h, k => effR P (callvE P (x.ev e) (evs e args) h) obl d l st e k
  | .nop, d, obl, l, st, e, h, k => nxh P (some h) obl d l st e k

theorem runS_op {op : AOp} : runS P ((⟨d, op, none⟩, obl) :: l) st e h k ↔ opR P op d obl l st e h k := by
  unfold runS
  rw [wpS_op]
  cases op with
  | mv x => exact (ex_some (x := x.ev e) (K := fun v => wpS P l (e.put d v) h (kk P k st).1)).symm
  | mkif t x => exact (ex_some (x := AV.iface t (x.ev e)) (K := fun v => wpS P l (e.put d v) h (kk P k st).1)).symm
  | mkfn f caps => exact (ex_some (x := AV.fn f (evs e caps)) (K := fun v => wpS P l (e.put d v) h (kk P k st).1)).symm
  | bld z ps => exact (map_some (x := fillA z (evParts e ps)) (f := AV.agg) (K := fun v => wpS P l (e.put d v) h (kk P k st).1)).symm
  | nop => exact (ex_some (x := h) (K := fun h' => obls P obl (e.put d (.tup [])) h' ∧ wpS P l (e.put d (.tup [])) h' (kk P k st).1)).symm
  | msl bytes z n c =>
    constructor
    · rintro ⟨r, h1, h2⟩; refine ⟨r, h1, ?_⟩; cases r with
      | inl v => exact h2
      | inr o => exact h2
    · rintro ⟨r, h1, h2⟩; refine ⟨r, h1, ?_⟩; cases r with
      | inl v => exact h2
      | inr o => exact h2
  | _ => exact Iff.rfl

theorem run_loop {b : ACode} (I : Env → Hp → Prop) (μ : Env → Hp → Nat) (h0 : I e h)
    (hr : ∀ e h, I e h → run P b (.lp (fun e' h' => I e' h' ∧ μ e' h' < μ e h) :: st) e h k) : run P (.loop b) st e h k := ⟨I, μ, h0, hr⟩

theorem call_use {f : Nat} {args : List AV} {Q : AV → Hp → Prop} (c : Triple P f args h Q) (hk : ∀ v h', Q v h' → runS P l st (e.put d v) h' k) : callR P f args [] d l st e h k :=
  c.mono fun v h' q => ⟨fun _ hm => by simp at hm, hk v h' q⟩
theorem call_use' {f : Nat} {args : List AV} {Q : AV → Hp → Prop} (c : Triple P f args h Q) (hk : ∀ v h', Q v h' → obls P obl (e.put d v) h' ∧ runS P l st (e.put d v) h' k) : callR P f args obl d l st e h k :=
  c.mono fun v h' q => hk v h' q
theorem app_use {s bytes : Nat} {v y : AV} {es ys : List (List AV)} {S : List Nat} (o : OwnV h s v es S) (hy : srcA s h y = some ys) (ha : AtomsL ys)
    (hb : (es.length + ys.length) * bytes ≤ 70368744177664) (hk : ∀ v' h' S', OwnV h' s v' (es ++ ys) S' → Mod S S' h h' → runS P l st (e.put d v') h' k) :
    effR P (appE s bytes v y h) [] d l st e k :=
  own_app o hy ha hb fun v' h' S' a b => ⟨fun _ hm => by simp at hm, hk v' h' S' a b⟩
theorem new_use {o : AObj} {g : Nat → AV} (hk : ∀ n, h n = none → runS P l st (e.put d (g n)) (h.set n o) k) : newR P o g d l st e h k := hk
end

section
variable {e : Env}
theorem ev_tm {n : Nat} : AE.ev e (.tm n) = e n := rfl
theorem ev_cs {v : AV} : AE.ev e (.cs v) = v := rfl
theorem evs_nil : evs e [] = [] := rfl
theorem evs_cons {x : AE} {xs : List AE} : evs e (x :: xs) = x.ev e :: evs e xs := rfl
theorem evIdx_nil : evIdx e [] = [] := rfl
theorem evIdx_cons {n : Nat} {x : AE} {xs : List (Nat × AE)} : evIdx e ((n, x) :: xs) = (n, x.ev e) :: evIdx e xs := rfl
theorem evParts_nil : evParts e [] = [] := rfl
theorem evParts_cons {n m : Nat} {x : AE} {xs : List (Nat × Nat × AE)} : evParts e ((n, m, x) :: xs) = (n, m, x.ev e) :: evParts e xs := rfl
theorem oev_none : oev e none = none := rfl
theorem oev_some {x : AE} : oev e (some x) = some (x.ev e) := rfl
end

theorem cells_bool (b : Bool) : (AV.bool b).cells = [(AV.bool b)] := rfl
theorem atom_bool (b : Bool) : (AV.bool b).isAtom = true := rfl
theorem cells_int (k : IntKind) (n : Int) : (AV.int k n).cells = [(AV.int k n)] := rfl
theorem atom_int (k : IntKind) (n : Int) : (AV.int k n).isAtom = true := rfl
theorem cells_str (l : List UInt8) : (AV.str l).cells = [(AV.str l)] := rfl
theorem atom_str (l : List UInt8) : (AV.str l).isAtom = true := rfl
theorem cells_nilp  : AV.nilp.cells = [AV.nilp] := rfl
theorem atom_nilp  : AV.nilp.isAtom = true := rfl
theorem cells_ptr (b s i k : Nat) : (AV.ptr b s i k).cells = [(AV.ptr b s i k)] := rfl
theorem atom_ptr (b s i k : Nat) : (AV.ptr b s i k).isAtom = true := rfl
theorem cells_ro (c : List AV) : (AV.ro c).cells = [(AV.ro c)] := rfl
theorem atom_ro (c : List AV) : (AV.ro c).isAtom = true := rfl
theorem cells_nils  : AV.nils.cells = [AV.nils] := rfl
theorem atom_nils  : AV.nils.isAtom = true := rfl
theorem cells_lst (es : List (List AV)) : (AV.lst es).cells = [(AV.lst es)] := rfl
theorem atom_lst (es : List (List AV)) : (AV.lst es).isAtom = true := rfl
theorem cells_arr (b s o l c : Nat) : (AV.arr b s o l c).cells = [(AV.arr b s o l c)] := rfl
theorem atom_arr (b s o l c : Nat) : (AV.arr b s o l c).isAtom = true := rfl
theorem cells_nilm  : AV.nilm.cells = [AV.nilm] := rfl
theorem atom_nilm  : AV.nilm.isAtom = true := rfl
theorem cells_map (b : Nat) : (AV.map b).cells = [(AV.map b)] := rfl
theorem atom_map (b : Nat) : (AV.map b).isAtom = true := rfl
theorem cells_fn (f : FuncId) (c : List AV) : (AV.fn f c).cells = [(AV.fn f c)] := rfl
theorem atom_fn (f : FuncId) (c : List AV) : (AV.fn f c).isAtom = true := rfl
theorem cells_nilf  : AV.nilf.cells = [AV.nilf] := rfl
theorem atom_nilf  : AV.nilf.isAtom = true := rfl
theorem cells_nili  : AV.nili.cells = [AV.nili] := rfl
theorem atom_nili  : AV.nili.isAtom = true := rfl
theorem cells_iface (t : TypeId) (v : AV) : (AV.iface t v).cells = [(AV.iface t v)] := rfl
theorem atom_iface (t : TypeId) (v : AV) : (AV.iface t v).isAtom = true := rfl
theorem cells_agg (c : List AV) : (AV.agg c).cells = c := rfl

theorem eqN_b (a b : Bool) : eqN .bool (.bool a) (.bool b) = some (a == b) := rfl
theorem eqN_pnn  : eqN .ptr (.nilp) (.nilp) = some (true) := rfl
theorem eqN_ppn (b s i k : Nat) : eqN .ptr (.ptr b s i k) (.nilp) = some (false) := rfl
theorem eqN_pnp (b s i k : Nat) : eqN .ptr (.nilp) (.ptr b s i k) = some (false) := rfl
theorem eqN_prn (c : List AV) : eqN .ptr (.ro c) (.nilp) = some (false) := rfl
theorem eqN_snn  : eqN .sl (.nils) (.nils) = some (true) := rfl
theorem eqN_san (b s o l c : Nat) : eqN .sl (.arr b s o l c) (.nils) = some (false) := rfl
theorem eqN_sen  : eqN .sl (.emp) (.nils) = some (false) := rfl
theorem eqN_sln (x : List AV) (y : List (List AV)) : eqN .sl (.lst (x :: y)) (.nils) = some (false) := rfl
theorem eqN_mnn  : eqN .mp (.nilm) (.nilm) = some (true) := rfl
theorem eqN_mmn (b : Nat) : eqN .mp (.map b) (.nilm) = some (false) := rfl
theorem eqN_fnn  : eqN .fn (.nilf) (.nilf) = some (true) := rfl
theorem eqN_ffn (f : FuncId) (c : List AV) : eqN .fn (.fn f c) (.nilf) = some (false) := rfl
theorem eqN_iin (t : TypeId) (v : AV) : eqN .ifc (.iface t v) (.nili) = some (false) := rfl
theorem eqN_inn  : eqN .ifc (.nili) (.nili) = some (true) := rfl

theorem lenL_lst (es : List (List AV)) : lenL (.lst es) = some (.int .i64 es.length) := rfl
theorem lenL_arr (b s o l c : Nat) : lenL (.arr b s o l c) = some (.int .i64 l) := rfl
theorem lenL_nils : lenL .nils = some (.int .i64 0) := rfl
theorem lenL_emp : lenL .emp = some (.int .i64 0) := rfl
theorem iaA_arr (s b s' off len c : Nat) (k : IntKind) (n : Int) : iaA s (.arr b s' off len c) (.int k n) = if s' = s ∧ 0 ≤ n ∧ n < len then some (.ptr b s (off + n.toNat) 0) else none := rfl
theorem cellsAt_ptr (h : Hp) (b s i k : Nat) : cellsAt h (.ptr b s i k) = match h b with
    | some (.row s' es _) => if s' = s then (es[i]?).map (·.drop k) else none
    | _ => none := rfl
theorem cellsAt_ro (h : Hp) (c : List AV) : cellsAt h (.ro c) = some c := rfl

section
variable {e : Env} {h : Hp} {K : AV → Hp → Prop}
theorem resK_nil : resK [] e h K ↔ K (.tup []) h := ex_some (x := ([] : List AV)) (K := fun vs => K (.tup vs) h)
theorem resK_tmp {t : Nat} : resK [.tmp t] e h K ↔ K (e t) h := ex_some (x := e t) (K := fun v => K v h)
theorem resK_cell {a sz : Nat} {ag : Bool} : resK [.cell a sz ag] e h K ↔ ∃ v, ldA sz ag h (e a) = some v ∧ K v h := Iff.rfl
theorem resK_more {a b : ARes} {l : List ARes} : resK (a :: b :: l) e h K ↔ ∃ vs, resL e h (a :: b :: l) = some vs ∧ K (.tup vs) h := Iff.rfl
theorem resL_nil : resL e h [] = some [] := rfl
theorem resL_tmp {t : Nat} {l : List ARes} : resL e h (.tmp t :: l) = (resL e h l).map (e t :: ·) := rfl
theorem resL_cell {a sz : Nat} {ag : Bool} {l : List ARes} : resL e h (.cell a sz ag :: l) = (ldA sz ag h (e a)).bind fun v => (resL e h l).map (v :: ·) := rfl
end

end Go.Hz
/- Bytes that are read: a slice of bytes, wherever it lies. -/
set_option linter.unusedSimpArgs false
set_option linter.unusedVariables false
namespace Go.Hz

/-- A slice (no string) with these elements. -/
def Els (h : Hp) (s : Nat) (v : AV) (es : List (List AV)) : Prop := srcA s h v = some es ∧ ∀ l, v ≠ .str l
def Bts (h : Hp) (v : AV) (bs : List UInt8) : Prop := Els h 1 v (bs.map eb)

theorem Els.cases {h : Hp} {s : Nat} {v : AV} {es : List (List AV)} (e : Els h s v es) :
    (v = .nils ∧ es = []) ∨ (v = .emp ∧ es = []) ∨ (v = .lst es ∧ ∀ e ∈ es, e.length = s) ∨
    ∃ b off cap es0 rc, v = .arr b s off es.length cap ∧ h b = some (.row s es0 rc) ∧ off + es.length ≤ es0.length ∧ es = (es0.drop off).take es.length := by
  obtain ⟨h1, h2⟩ := e
  unfold srcA at h1
  split at h1
  · cases h1; exact .inl ⟨rfl, rfl⟩
  · cases h1; exact .inr (.inl ⟨rfl, rfl⟩)
  · split at h1
    · cases h1; exact .inr (.inr (.inl ⟨rfl, by assumption⟩))
    · cases h1
  · split at h1
    · split at h1
      · rename_i hb hc
        rename_i b s' off len cap _ s'' es0 rc
        obtain ⟨rfl, rfl, hc⟩ := hc
        cases h1
        have hl : ((es0.drop off).take len).length = len := by simp; omega
        exact .inr (.inr (.inr ⟨b, off, cap, es0, rc, by rw [hl], hb, by rw [hl]; exact hc, by rw [hl]⟩))
      · cases h1
    · cases h1
  · exact absurd rfl (h2 _)
  · cases h1

theorem Els.len {h : Hp} {s : Nat} {v : AV} {es : List (List AV)} (e : Els h s v es) : lenL v = some (.int .i64 es.length) := by
  rcases e.cases with ⟨rfl, rfl⟩ | ⟨rfl, rfl⟩ | ⟨rfl, _⟩ | ⟨b, off, cap, es0, rc, rfl, _, _, _⟩ <;> rfl

theorem Els.atom {h : Hp} {s : Nat} {v : AV} {es : List (List AV)} (e : Els h s v es) : v.isAtom = true := by
  rcases e.cases with ⟨rfl, rfl⟩ | ⟨rfl, rfl⟩ | ⟨rfl, _⟩ | ⟨b, off, cap, es0, rc, rfl, _, _, _⟩ <;> rfl
theorem Els.cells {h : Hp} {s : Nat} {v : AV} {es : List (List AV)} (e : Els h s v es) : v.cells = [v] := by
  rcases e.cases with ⟨rfl, rfl⟩ | ⟨rfl, rfl⟩ | ⟨rfl, _⟩ | ⟨b, off, cap, es0, rc, rfl, _, _, _⟩ <;> rfl

theorem Els.at {h : Hp} {s : Nat} {v : AV} {es : List (List AV)} (e : Els h s v es) {k : IntKind} {i : Nat} (hi : i < es.length) (hs : ∀ e ∈ es, e.length = s) :
    ∃ p, iaA s v (.int k i) = some p ∧ cellsAt h p = some es[i] := by
  rcases e.cases with ⟨rfl, rfl⟩ | ⟨rfl, rfl⟩ | ⟨rfl, _⟩ | ⟨b, off, cap, es0, rc, rfl, hb, hl, he⟩
  · simp at hi
  · simp at hi
  · exact ⟨.ro es[i], by simp [iaA, hi, hs], rfl⟩
  · refine ⟨.ptr b s (off + i) 0, by simp [iaA]; omega, ?_⟩
    have : es0[off + i]? = some es[i] := by
      rw [List.getElem?_eq_some_iff]
      refine ⟨by omega, ?_⟩
      have h3 : es[i]? = ((es0.drop off).take es.length)[i]? := by rw [← he]
      rw [List.getElem?_take, if_pos hi, List.getElem?_drop] at h3
      rw [List.getElem?_eq_getElem hi] at h3
      rw [List.getElem?_eq_getElem (by omega)] at h3
      exact (Option.some.inj h3).symm
    simp [cellsAt, hb, this]

theorem Els.kept {h h' : Hp} {s : Nat} {v : AV} {es : List (List AV)} {S S' : List Nat} (e : Els h s v es) (m : Mod S S' h h') (hn : ∀ b s o l c, v = .arr b s o l c → b ∉ S) : Els h' s v es := by
  rcases e.cases with ⟨rfl, rfl⟩ | ⟨rfl, rfl⟩ | ⟨rfl, _⟩ | ⟨b, off, cap, es0, rc, rfl, hb, hl, he⟩
  · exact ⟨rfl, e.2⟩
  · exact ⟨rfl, e.2⟩
  · refine ⟨?_, e.2⟩
    have := e.1
    simpa [srcA] using this
  · refine ⟨?_, e.2⟩
    have := e.1
    simp only [srcA] at this ⊢
    rw [m.keep b (by rw [hb]; simp) (hn _ _ _ _ _ rfl)]
    exact this
theorem Els.same {h h' : Hp} {s : Nat} {v : AV} {es : List (List AV)} (e : Els h s v es) (hh : ∀ x, h x ≠ none → h' x = h x) : Els h' s v es := by
  rcases e.cases with ⟨rfl, rfl⟩ | ⟨rfl, rfl⟩ | ⟨rfl, _⟩ | ⟨b, off, cap, es0, rc, rfl, hb, hl, he⟩
  · exact ⟨rfl, e.2⟩
  · exact ⟨rfl, e.2⟩
  · refine ⟨?_, e.2⟩
    have := e.1
    simpa [srcA] using this
  · refine ⟨?_, e.2⟩
    have := e.1
    simp only [srcA] at this ⊢
    rw [hh b (by rw [hb]; simp)]
    exact this
theorem Els.fresh {h : Hp} {s n : Nat} {v : AV} {es : List (List AV)} (e : Els h s v es) (hn : h n = none) (o : AObj) : Els (h.set n o) s v es :=
  e.same fun x hx => Hp.set_ne _ _ fun hh => hx (hh ▸ hn)
theorem Els.set_ne {h : Hp} {s n : Nat} {v : AV} {es : List (List AV)} (e : Els h s v es) (hn : ∀ b t o l c, v = .arr b t o l c → b ≠ n) (o : AObj) : Els (h.set n o) s v es := by
  rcases e.cases with ⟨rfl, rfl⟩ | ⟨rfl, rfl⟩ | ⟨rfl, _⟩ | ⟨b, off, cap, es0, rc, rfl, hb, hl, he⟩
  · exact ⟨rfl, e.2⟩
  · exact ⟨rfl, e.2⟩
  · refine ⟨?_, e.2⟩
    have := e.1
    simpa [srcA] using this
  · refine ⟨?_, e.2⟩
    have := e.1
    simp only [srcA] at this ⊢
    rw [Hp.set_ne _ _ (hn _ _ _ _ _ rfl)]
    exact this
theorem Els.slc {h : Hp} {s : Nat} {v : AV} {es : List (List AV)} (o : Els h s v es) {k k' : IntKind} {lo hi : Nat} (h1 : lo ≤ hi) (h2 : hi ≤ es.length) (hcap : ∀ b t o l c, v = .arr b t o l c → l ≤ c) :
    ∃ x, slcL s v (some (.int k lo)) (some (.int k' hi)) = some x ∧ Els h s x ((es.drop lo).take (hi - lo)) ∧ x.cells = [x] ∧ ∀ b t o l c, x = .arr b t o l c → ∃ o' l' c', v = .arr b t o' l' c' := by
  rcases o.cases with ⟨rfl, rfl⟩ | ⟨rfl, rfl⟩ | ⟨rfl, hs⟩ | ⟨b, off, cap, es0, rc, rfl, hb, hl, he⟩
  · have : hi = 0 := by simpa using h2
    subst this
    have : lo = 0 := by omega
    subst this
    exact ⟨.nils, rfl, ⟨by simp [srcA], by simp⟩, rfl, by simp⟩
  · have : hi = 0 := by simpa using h2
    subst this
    have : lo = 0 := by omega
    subst this
    exact ⟨.emp, rfl, ⟨by simp [srcA], by simp⟩, rfl, by simp⟩
  · have e1 : (es.take hi).drop lo = (es.drop lo).take (hi - lo) := by rw [List.drop_take]
    refine ⟨.lst ((es.take hi).drop lo), ?_, ⟨?_, by simp⟩, rfl, by simp⟩
    · simp only [slcL, boundA]
      simp
      exact ⟨h1, h2, hs⟩
    · simp only [srcA, e1]
      rw [if_pos]
      intro e he
      exact hs e (List.mem_of_mem_drop (List.mem_of_mem_take he))
  · have hc := hcap _ _ _ _ _ rfl
    refine ⟨.arr b s (off + lo) (hi - lo) (cap - lo), ?_, ⟨?_, by simp⟩, rfl, ?_⟩
    · simp only [slcL, boundA]
      simp
      omega
    · simp only [srcA, hb]
      rw [if_pos ⟨trivial, trivial, by omega⟩, he]
      congr 1
      rw [List.drop_take, List.take_take, List.drop_drop]
      congr 1
      omega
    · intro b' t o l c hh
      cases hh
      exact ⟨_, _, _, rfl⟩
theorem OwnV.els {h : Hp} {s : Nat} {v : AV} {es : List (List AV)} {S : List Nat} (o : OwnV h s v es S) : Els h s v es := by
  refine ⟨o.src, ?_⟩
  rcases o with ⟨rfl, _, _⟩ | ⟨b, cap, rfl, _, _⟩ <;> (intro l hl; cases hl)

theorem Els.nil {h : Hp} {s : Nat} {v : AV} {es : List (List AV)} (e : Els h s v es) (hn : v ≠ .lst []) : (v = .nils ∧ es = []) ∨ (v ≠ .nils ∧ eqN .sl v .nils = some false) := by
  rcases e.cases with ⟨rfl, rfl⟩ | ⟨rfl, rfl⟩ | ⟨rfl, _⟩ | ⟨b, off, cap, es0, rc, rfl, _, _, _⟩
  · exact .inl ⟨rfl, rfl⟩
  · exact .inr ⟨by simp, rfl⟩
  · cases es with
    | nil => exact absurd rfl hn
    | cons x y => exact .inr ⟨by simp, rfl⟩
  · exact .inr ⟨by simp, rfl⟩

theorem OwnV.slc {h : Hp} {s : Nat} {v : AV} {es : List (List AV)} {S : List Nat} (o : OwnV h s v es S) {k k' : IntKind} {lo hi : Nat} (h1 : lo ≤ hi) (h2 : hi ≤ es.length) :
    ∃ x, slcL s v (some (.int k lo)) (some (.int k' hi)) = some x ∧ Els h s x ((es.drop lo).take (hi - lo)) ∧ x.cells = [x] ∧ ∀ b t o l c, x = .arr b t o l c → b ∈ S := by
  rcases o with ⟨rfl, rfl, _⟩ | ⟨b, cap, rfl, hb, hc, rfl⟩
  · have : hi = 0 := by simpa using h2
    subst this
    have : lo = 0 := by omega
    subst this
    exact ⟨.nils, rfl, ⟨by simp [srcA], by simp⟩, rfl, by simp⟩
  · refine ⟨.arr b s (0 + lo) (hi - lo) (cap - lo), ?_, ⟨?_, by simp⟩, rfl, ?_⟩
    · simp only [slcL, boundA]
      simp
      omega
    · simp only [srcA, hb]
      rw [if_pos ⟨trivial, trivial, by omega⟩]
      simp
    · intro b' t o l c hh
      cases hh
      simp

theorem eb_one (bs : List UInt8) : ∀ e ∈ bs.map eb, e.length = 1 := by
  intro e he
  obtain ⟨b, _, rfl⟩ := List.mem_map.1 he
  rfl
theorem Bts.at {h : Hp} {v : AV} {bs : List UInt8} (e : Bts h v bs) {k : IntKind} {i : Nat} (hi : i < bs.length) :
    ∃ p, iaA 1 v (.int k i) = some p ∧ cellsAt h p = some [.int .u8 bs[i].toNat] := by
  obtain ⟨p, h1, h2⟩ := Els.at e (i := i) (k := k) (by simpa using hi) (eb_one bs)
  exact ⟨p, h1, by rw [h2]; simp [eb]⟩
theorem Bts.len {h : Hp} {v : AV} {bs : List UInt8} (e : Bts h v bs) : lenL v = some (.int .i64 bs.length) := by
  have := Els.len e
  simpa using this
theorem Bts.bstr {h : Hp} {v : AV} {bs : List UInt8} (e : Bts h v bs) : bstrA h v = some (.str bs) := by
  unfold bstrA
  rw [e.1]
  split
  · exact absurd rfl (e.2 _)
  · rename_i h1 _
    cases h1
    simp [bytesOf_map]
  · rename_i h1 _; cases h1

theorem bstrA_nils (h : Hp) : bstrA h .nils = some (.str []) := rfl

theorem Triple.lst0 {P : Program} {f : Nat} {pre suf : List AV} {h : Hp} {post : AV → Hp → Prop} (t1 : Triple P f (pre ++ .nils :: suf) h post) (t2 : Triple P f (pre ++ .emp :: suf) h post) :
    Triple P f (pre ++ .lst [] :: suf) h post := by
  intro fz w cargs r a
  have hlt : pre.length < cargs.toList.length := by rw [← a.1]; simp
  have h0 := a.2 pre.length (by simp) hlt
  simp only [List.getElem_append_right (Nat.le_refl _), Nat.sub_self, List.getElem_cons_zero] at h0
  have key : ∀ x, VR fz w.heap x (cargs.toList[pre.length]) → VRs fz w.heap (pre ++ x :: suf) cargs.toList := by
    intro x hx
    refine ⟨by rw [← a.1]; simp, fun i h1 h2 => ?_⟩
    have h3 := a.2 i (by simpa using h1) h2
    by_cases hi : i < pre.length
    · rw [List.getElem_append_left hi] at h3 ⊢; exact h3
    · by_cases hi2 : i = pre.length
      · subst hi2
        simpa [List.getElem_append_right (Nat.le_refl _)] using hx
      · rw [List.getElem_append_right (by omega)] at h3 ⊢
        obtain ⟨j, hj⟩ : ∃ j, i - pre.length = j + 1 := ⟨i - pre.length - 1, by omega⟩
        simp only [hj, List.getElem_cons_succ] at h3 ⊢
        exact h3
  generalize cargs.toList[pre.length] = cv at *
  have hc : cv = .slice none 0 0 ∨ ∃ a c, cv = .slice (some a) 0 c := by
    cases h0 with
    | lst => exact .inr ⟨_, _, rfl⟩
    | lst0 a c h0 =>
      cases a with
      | none => rw [h0 rfl]; exact .inl rfl
      | some a => exact .inr ⟨_, _, rfl⟩
  rcases hc with rfl | ⟨ad, c, rfl⟩
  · exact t1 fz w cargs r (key _ .nils)
  · exact t2 fz w cargs r (key _ (.emp _ _))
end Go.Hz
/- What comes in: the arguments of a call as values of the logic, by their types. -/
set_option linter.unusedSimpArgs false
set_option linter.unusedVariables false
namespace Go.Hz
open Go.RowKit Go.ChangeShapes Go.WideShapes

/-- The types of arguments: fields stand as a chain. -/
inductive Ty where
  | bool | str
  | int (k : IntKind)
  | sl (e : Ty)
  | st (c : Ty)
  | fnil
  | fcons (a b : Ty)
  deriving DecidableEq

def Ty.size : Ty → Nat
  | .bool | .str | .int _ | .sl _ => 1
  | .st c => c.size
  | .fnil => 0
  | .fcons a b => a.size + b.size

def Ty.fits (P : Program) : Ty → TypeId ⊕ (List Field × Nat) → Bool
  | .bool, .inl t => match P.underlying t with | some .bool => true | _ => false
  | .str, .inl t => match P.underlying t with | some .string => true | _ => false
  | .int k, .inl t => match P.underlying t with | some (.int k') => decide (k' = k) | _ => false
  | .sl e, .inl t => match P.underlying t with | some (.slice el) => e.fits P (.inl el) && decide (P.cellsOf el = e.size) && decide (0 < e.size) | _ => false
  | .st c, .inl t => match P.underlying t with | some (.struct fs) => c.fits P (.inr (fs.toList, 0)) && decide (P.cellsOf t = c.size) | _ => false
  | .fnil, .inr ([], _) => true
  | .fcons a b, .inr (f :: fs, off) => a.fits P (.inl f.type) && decide (f.offset = off) && decide (P.cellsOf f.type = a.size) && b.fits P (.inr (fs, off + a.size))
  | _, _ => false

def Ty.shape : Ty → List AV → Prop
  | .bool, cs => ∃ b, cs = [.bool b]
  | .str, cs => ∃ l, cs = [.str l] ∧ l.length ≤ maxLen
  | .int k, cs => ∃ n, cs = [.int k n] ∧ (Lit.int k n).wf = true
  | .sl e, cs => ∃ es, cs = [.lst es] ∧ es.length ≤ maxLen ∧ ∀ x ∈ es, e.shape x
  | .st c, cs => c.shape cs
  | .fnil, cs => cs = []
  | .fcons a b, cs => ∃ x y, cs = x ++ y ∧ a.shape x ∧ b.shape y

/-- How much there is: each value, each letter. -/
def Ty.bulk : Ty → List AV → Nat
  | .bool, _ => 1
  | .int _, _ => 1
  | .str, cs => match cs with | [.str l] => l.length + 1 | _ => 1
  | .sl e, cs => match cs with | [.lst es] => (es.map e.bulk).sum + 1 | _ => 1
  | .st c, cs => c.bulk cs + 1
  | .fnil, _ => 0
  | .fcons a b, cs => a.bulk (cs.take a.size) + b.bulk (cs.drop a.size)

/-- A measure of what is read. -/
structure Bulk (H : Type) where
  b : DataW H → Nat
  ba : List (DataW H) → Nat
  one : ∀ d, 1 ≤ b d
  str : ∀ l, l.length + 1 ≤ b (.lit (.string l))
  slice : ∀ l r, ba l + 1 ≤ b (.slice l r)
  agg : ∀ l, ba l + 1 ≤ b (.agg l)
  cons : ∀ d l, b d + ba l ≤ ba (d :: l)

theorem Bulk.sum {H : Type} (B : Bulk H) {α : Type} (f : α → Nat) : ∀ (l : List α) (ds : List (DataW H)), l.length = ds.length → (∀ i (h1 : i < l.length) (h2 : i < ds.length), f l[i] ≤ B.b ds[i]) → (l.map f).sum ≤ B.ba ds
  | [], _, _, _ => by simp
  | x :: l, [], h, _ => by simp at h
  | x :: l, d :: ds, h, hh => by
    have h0 := hh 0 (by simp) (by simp)
    have h1 := B.sum f l ds (by simpa using h) fun i a b => hh (i + 1) (by simpa using a) (by simpa using b)
    have h2 := B.cons d ds
    simp only [List.getElem_cons_zero] at h0
    simp only [List.map_cons, List.sum_cons]
    omega

theorem list_of {α : Type} {p : Nat → α → Prop} : ∀ (n : Nat), (∀ i, i < n → ∃ x, p i x) → ∃ l : List α, l.length = n ∧ ∀ i (h : i < l.length), p i l[i]
  | 0, _ => ⟨[], rfl, fun i h => by simp at h⟩
  | n + 1, h => by
    obtain ⟨l, h1, h2⟩ := list_of n fun i hi => h i (by omega)
    obtain ⟨x, hx⟩ := h n (by omega)
    refine ⟨l ++ [x], by simp [h1], fun i hi => ?_⟩
    by_cases hin : i < l.length
    · rw [List.getElem_append_left hin]; exact h2 i hin
    · have : i = n := by simp at hi; omega
      subst this
      simpa [List.getElem_append_right (Nat.le_of_eq h1), h1] using hx

theorem VRs.one {fz : Nat → Prop} {H : Array Obj} {a : AV} {v : Value} (h : VR fz H a v) : VRs fz H [a] [v] := VRs.cons h VRs.nil

theorem add_add (a : Addr) (x k : Nat) : a.add (x + k) = (a.add x).add k := by
  unfold Addr.add
  by_cases hx : x = 0
  · subst hx; simp
  · by_cases hk : k = 0
    · subst hk; simp
    · simp [hx, hk, Nat.add_assoc]

theorem cell_some {w : World} {a : Addr} {v : Value} (h : w.cell? a = some v) : a.spot = none ∧ ∃ c T fr, w.heap[a.block]? = some (.cells c T fr) ∧ c[a.off]? = some v := by
  unfold World.cell? at h
  split at h
  · rename_i c T fr hb
    split at h
    · cases h
    · rename_i hs
      refine ⟨by simpa using hs, c, T, fr, hb, h⟩
  · cases h

section
variable {H : Type} {enc : TypeId × Value → H} {P : Program} {w : World} {base : Nat} {spare : Nat → Bool} {held : Bool}

theorem Ty.read (B : Bulk H) (τ : Ty) :
    (∀ fuel t cs x, τ.fits P (.inl t) = true → DataW.trod enc P w base spare held fuel t cs = some x → ∃ as, τ.shape as ∧ as.length = τ.size ∧ VRs (fun b => b < w.heap.size) w.heap as cs ∧ τ.bulk as ≤ B.b x.1) ∧
    (∀ fs off n (cs : List Value) (xs : List (DataW H × List MemPlace)), τ.fits P (.inr (fs, off)) = true → xs.length = fs.length → (∀ (i : Nat) f, fs[i]? = some f → DataW.trod enc P w base spare held n f.type ((cs.drop f.offset).take (P.cellsOf f.type)) = xs[i]?) → off + τ.size ≤ cs.length →
      ∃ as, τ.shape as ∧ as.length = τ.size ∧ VRs (fun b => b < w.heap.size) w.heap as ((cs.drop off).take τ.size) ∧ τ.bulk as ≤ B.ba (xs.map (·.1))) := by
  induction τ with
  | bool =>
    refine ⟨fun fuel t cs x hf h => ?_, fun fs off n cs xs hf _ _ => by simp [Ty.fits] at hf⟩
    simp only [Ty.fits] at hf
    split at hf
    · rename_i ht
      obtain ⟨b, rfl, _⟩ := DataW.trod_bool ht h
      exact ⟨[.bool b], ⟨b, rfl⟩, rfl, VRs.one (.bool b), B.one _⟩
    · cases hf
  | str =>
    refine ⟨fun fuel t cs x hf h => ?_, fun fs off n cs xs hf _ _ => by simp [Ty.fits] at hf⟩
    simp only [Ty.fits] at hf
    split at hf
    · rename_i ht
      obtain ⟨s, rfl, rfl, hs⟩ := DataW.trod_string ht h
      refine ⟨[.str s.data.toList], ⟨_, rfl, by simpa using hs⟩, rfl, VRs.one ?_, B.str _⟩
      have := VR.str (fz := fun b => b < w.heap.size) (H := w.heap) s.data.toList
      simpa using this
    · cases hf
  | int k =>
    refine ⟨fun fuel t cs x hf h => ?_, fun fs off n cs xs hf _ _ => by simp [Ty.fits] at hf⟩
    simp only [Ty.fits] at hf
    split at hf
    · rename_i k' ht
      have hk : k' = k := of_decide_eq_true hf
      subst hk
      obtain ⟨n, rfl, _, hw⟩ := DataW.trod_int ht h
      exact ⟨[.int k' n], ⟨n, rfl, hw⟩, rfl, VRs.one (.int k' n), B.one _⟩
    · cases hf
  | sl e ih =>
    refine ⟨fun fuel t cs x hf h => ?_, fun fs off n cs xs hf _ _ => by simp [Ty.fits] at hf⟩
    simp only [Ty.fits] at hf
    split at hf
    · rename_i el ht
      simp only [Bool.and_eq_true, decide_eq_true_eq] at hf
      obtain ⟨⟨hf, hs⟩, hpos⟩ := hf
      rcases DataW.trod_slice ht h with ⟨rfl, _⟩ | ⟨a, len, cap, elems, rest, n, _, rfl, rfl, hb, hl, hm, hlen, hel, _⟩
      · exact ⟨[.lst []], ⟨[], rfl, Nat.zero_le _, by simp⟩, rfl, VRs.one (.lst0 none 0 (fun _ => rfl)), B.one _⟩
      · have key : ∀ i, i < len → ∃ as, e.shape as ∧ as.length = e.size ∧ (∀ k (hk : k < as.length), ∃ v, w.cell? (a.add (i * e.size + k)) = some v ∧ VR (fun b => b < w.heap.size) w.heap as[k] v) ∧
            ∀ (h2 : i < elems.length), e.bulk as ≤ B.b elems[i].1 := by
          intro i hi
          have h1 := hel i hi
          have h2 : ∃ y, elems[i]? = some y := ⟨elems[i], List.getElem?_eq_getElem (by omega)⟩
          obtain ⟨y, hy⟩ := h2
          rw [hy, Option.bind_eq_some_iff] at h1
          obtain ⟨ci, hci, hti⟩ := h1
          obtain ⟨as, g1, g2, g3, g4⟩ := ih.1 _ _ _ _ hf hti
          obtain ⟨_, k2, k3⟩ := World.cells?_some hci
          rw [hs] at k2 k3
          refine ⟨as, g1, g2, fun k hk => ?_, fun h2 => ?_⟩
          · have hk2 : k < ci.length := by rw [← g3.1]; exact hk
            refine ⟨ci[k], ?_, g3.2 k hk hk2⟩
            have := k3 k (by omega)
            rw [List.getElem?_eq_getElem hk2] at this
            rw [← this]
            rw [add_add]
          · rw [List.getElem?_eq_getElem h2] at hy
            rw [Option.some.inj hy]
            exact g4
        obtain ⟨es, e1, e2⟩ := list_of len key
        have hshape : ∀ x ∈ es, e.shape x := by
          intro x hx
          obtain ⟨i, hi, rfl⟩ := List.mem_iff_getElem.1 hx
          exact (e2 i hi).1
        have hbulk : (es.map e.bulk).sum + 1 ≤ B.b (.slice (elems.map (·.1)) (rest.map (·.1))) := by
          refine Nat.le_trans (Nat.succ_le_succ (B.sum e.bulk es (elems.map (·.1)) (by simp; omega) fun i h1 h2 => ?_)) (B.slice _ _)
          have := (e2 i h1).2.2.2 (by simpa using h2)
          simpa using this
        refine ⟨[.lst es], ⟨es, rfl, by omega, hshape⟩, rfl, VRs.one ?_, hbulk⟩
        by_cases hl0 : len = 0
        · subst hl0
          have : es = [] := List.length_eq_zero_iff.1 e1
          subst this
          exact .lst0 _ _ (by simp)
        · obtain ⟨bl, off, spot⟩ := a
          obtain ⟨v0, hv0, _⟩ := (e2 0 (by omega)).2.2.1 0 (by rw [(e2 0 (by omega)).2.1]; exact hpos)
          obtain ⟨hspot, c, T, fr, hc, hc0⟩ := cell_some hv0
          have hspot' : spot = none := by simpa [Addr.add] using hspot
          subst hspot'
          rw [Addr.add_none] at hc hc0
          have hcell : ∀ i (hi : i < es.length) k (hk : k < es[i].length), ∃ v, c[off + i * e.size + k]? = some v ∧ VR (fun b => b < w.heap.size) w.heap es[i][k] v := by
            intro i hi k hk
            obtain ⟨v, hv, hvr⟩ := (e2 i hi).2.2.1 k hk
            obtain ⟨_, c', T', fr', hc', hcv⟩ := cell_some hv
            rw [Addr.add_none] at hc' hcv
            simp only [] at hc' hc
            rw [hc] at hc'
            cases hc'
            exact ⟨v, by rw [← hcv, Nat.add_assoc], hvr⟩
          have hlast : off + es.length * e.size ≤ c.size := by
            have hi : es.length - 1 < es.length := by omega
            obtain ⟨v, hv, _⟩ := hcell (es.length - 1) hi (e.size - 1) (by rw [(e2 _ hi).2.1]; omega)
            have := (Array.getElem?_eq_some_iff.1 hv).1
            have e3 : (es.length - 1) * e.size + e.size = es.length * e.size := by
              rw [← Nat.succ_mul]; congr 1; omega
            omega
          rw [← e1]
          refine .lst es bl off e.size cap c T fr ?_ hc (by omega) (fun i h => (e2 i h).2.1) hlast fun i h1 k h2 h3 => ?_
          · exact (Array.getElem?_eq_some_iff.1 hc).1
          · obtain ⟨v, hv, hvr⟩ := hcell i h1 k h2
            rw [Array.getElem?_eq_getElem h3] at hv
            cases hv
            exact hvr
    · cases hf
  | st c ih =>
    refine ⟨fun fuel t cs x hf h => ?_, fun fs off n cs xs hf _ _ => by simp [Ty.fits] at hf⟩
    simp only [Ty.fits] at hf
    split at hf
    · rename_i fs ht
      simp only [Bool.and_eq_true, decide_eq_true_eq] at hf
      obtain ⟨hf, hs⟩ := hf
      obtain ⟨xs, n, _, rfl, hlen, hxs, hall⟩ := DataW.trod_struct ht h
      obtain ⟨as, g1, g2, g3, g4⟩ := ih.2 fs.toList 0 n cs xs hf (by simpa using hxs) (fun i f hi => hall i f (by simpa using hi)) (by omega)
      refine ⟨as, g1, g2, ?_, ?_⟩
      · rw [List.drop_zero, List.take_of_length_le (by omega)] at g3
        exact g3
      · exact Nat.le_trans (Nat.succ_le_succ g4) (B.agg _)
    · cases hf
  | fnil =>
    refine ⟨fun fuel t cs x hf h => by simp [Ty.fits] at hf, fun fs off n cs xs hf _ _ => fun _ => ⟨[], rfl, rfl, by simpa [Ty.size] using VRs.nil, Nat.zero_le _⟩⟩
  | fcons a b iha ihb =>
    refine ⟨fun fuel t cs x hf h => by simp [Ty.fits] at hf, fun fs off n cs xs hf hxl hall hle => ?_⟩
    cases fs with
    | nil => simp [Ty.fits] at hf
    | cons f fs =>
      cases xs with
      | nil => simp at hxl
      | cons x xs =>
        simp only [Ty.fits, Bool.and_eq_true, decide_eq_true_eq] at hf
        obtain ⟨⟨⟨h1, h2⟩, h3⟩, h4⟩ := hf
        have hx : DataW.trod enc P w base spare held n f.type ((cs.drop f.offset).take (P.cellsOf f.type)) = some x := hall 0 f rfl
        rw [h2, h3] at hx
        simp only [Ty.size] at hle ⊢
        obtain ⟨as, g1, g2, g3, g4⟩ := iha.1 _ _ _ _ h1 hx
        obtain ⟨bs, k1, k2, k3, k4⟩ := ihb.2 fs (off + a.size) n cs xs h4 (by simpa using hxl) (fun i f' hf => hall (i + 1) f' (by simpa using hf)) (by omega)
        refine ⟨as ++ bs, ⟨as, bs, rfl, g1, k1⟩, by simp [g2, k2], ?_, ?_⟩
        · have e1 : (cs.drop off).take (a.size + b.size) = (cs.drop off).take a.size ++ (cs.drop (off + a.size)).take b.size := by
            rw [List.take_add, List.drop_drop]
          rw [e1]
          exact g3.append k3
        · simp only [Ty.bulk]
          rw [List.take_left' g2, List.drop_left' g2]
          have := B.cons x.1 (xs.map (·.1))
          simp only [List.map_cons]
          omega
end

/-- One argument, read. -/
theorem Ty.arg {H : Type} (B : Bulk H) {enc : TypeId × Value → H} {P : Program} {w : World} {base : Nat} {spare : Nat → Bool} {held : Bool} (τ : Ty) {t : TypeId} {v : Value} {d : DataW H} {ps : List MemPlace}
    (hf : τ.fits P (.inl t) = true) (h : DataW.Trod enc P w base spare held t v d ps) (hv : v.cells = #[v]) (h1 : τ.size = 1) :
    ∃ a, τ.shape [a] ∧ VR (fun b => b < w.heap.size) w.heap a v ∧ τ.bulk [a] ≤ B.b d := by
  obtain ⟨fuel, h⟩ := h
  obtain ⟨as, g1, g2, g3, g4⟩ := (τ.read (enc := enc) (base := base) (spare := spare) (held := held) B).1 fuel t _ _ hf h
  rw [hv] at g3
  obtain ⟨a, rfl⟩ := List.length_eq_one_iff.1 (g2.trans h1)
  exact ⟨a, g1, g3.2 0 (by simp) (by simp), g4⟩

/-- A law that answers true over nothing that is owned answers true, and leaves what was there. -/
theorem entry {P : Program} {f : Nat} {as : List AV} {args : Array Value} {w : World} (t : Triple P f as Hp.emp fun r _ => r = .bool true) (h : VRs (fun b => b < w.heap.size) w.heap as args.toList) :
    Calls P f args w fun e w' => e = .returned (.bool true) ∧ Below w.heap.size w w' := by
  refine (t (fun b => b < w.heap.size) w args ⟨fun b hb => hb, fun b o ho => by simp [Hp.emp] at ho⟩ h).mono fun e w' ⟨cv, r, h', fz', e1, e2, e3, e4, e5⟩ => ?_
  subst e5
  subst e1
  cases e2
  exact ⟨rfl, e4.os, e4.tape, e4.output, e4.size, fun k hk => (e4.keep k hk rfl).1⟩
end Go.Hz
/- Owned blocks side by side: what a heap holds, as a list of parts. -/
set_option linter.unusedSimpArgs false
set_option linter.unusedVariables false
namespace Go.Hz

abbrev Asr := Hp → Prop
/-- The blocks of a set. -/
def res (h : Hp) (S : Nat → Bool) : Hp := fun b => if S b then h b else none
/-- Each part holds of blocks of its own; what is left over does not matter. -/
def sat : Hp → List Asr → Prop
  | _, [] => True
  | h, A :: l => ∃ S : Nat → Bool, A (res h S) ∧ sat (res h fun b => !S b) l

theorem res_res (h : Hp) (S T : Nat → Bool) : res (res h S) T = res h fun b => S b && T b := by
  funext b; unfold res; cases hS : S b <;> cases hT : T b <;> simp [hS, hT]
theorem res_congr {h : Hp} {S T : Nat → Bool} (hh : ∀ b, S b = T b) : res h S = res h T := by
  have : S = T := funext hh
  rw [this]
theorem res_some {h : Hp} {S : Nat → Bool} {b : Nat} {o : AObj} (hb : res h S b = some o) : S b = true ∧ h b = some o := by
  unfold res at hb
  split at hb
  · exact ⟨‹_›, hb⟩
  · cases hb

variable {h : Hp} {l l' F : List Asr} {A B : Asr}

theorem sat.grow {T : Nat → Bool} : ∀ {l : List Asr} {h : Hp}, sat (res h T) l → sat h l
  | [], _, _ => trivial
  | A :: l, h, ⟨S, a, b⟩ => by
    refine ⟨fun b => T b && S b, by rw [res_res] at a; exact a, ?_⟩
    refine sat.grow (T := T) ?_
    rw [res_res] at b ⊢
    rwa [show (res h fun b => (!(T b && S b)) && T b) = res h fun b => T b && !S b from res_congr fun b => by cases T b <;> cases S b <;> rfl]

theorem sat.drop (hs : sat h (A :: l)) : sat h l := by
  obtain ⟨S, a, b⟩ := hs
  exact b.grow
theorem sat.imp (hs : sat h (A :: l)) (hi : ∀ h, A h → B h) : sat h (B :: l) := by
  obtain ⟨S, a, b⟩ := hs
  exact ⟨S, hi _ a, b⟩
theorem sat.tl (hs : sat h (A :: l)) (hi : ∀ h, sat h l → sat h l') : sat h (A :: l') := by
  obtain ⟨S, a, b⟩ := hs
  exact ⟨S, a, hi _ b⟩
theorem sat.add (hs : sat h l) (ha : A Hp.emp) : sat h (A :: l) :=
  ⟨fun _ => false, by
    have : res h (fun _ => false) = Hp.emp := funext fun b => rfl
    rwa [this], by
    have : (res h fun _ => !false) = h := funext fun b => rfl
    rwa [this]⟩
theorem sat_ex {α : Type} {A : α → Asr} : sat h ((fun h => ∃ x, A x h) :: l) ↔ ∃ x, sat h (A x :: l) := by
  constructor
  · rintro ⟨S, ⟨x, a⟩, b⟩; exact ⟨x, S, a, b⟩
  · rintro ⟨x, S, a, b⟩; exact ⟨S, ⟨x, a⟩, b⟩
theorem sat_and {p : Prop} : sat h ((fun h => p ∧ A h) :: l) ↔ p ∧ sat h (A :: l) := by
  constructor
  · rintro ⟨S, ⟨x, a⟩, b⟩; exact ⟨x, S, a, b⟩
  · rintro ⟨x, S, a, b⟩; exact ⟨S, ⟨x, a⟩, b⟩
theorem sat_or : sat h ((fun h => A h ∨ B h) :: l) ↔ sat h (A :: l) ∨ sat h (B :: l) := by
  constructor
  · rintro ⟨S, a | a, b⟩
    · exact .inl ⟨S, a, b⟩
    · exact .inr ⟨S, a, b⟩
  · rintro (⟨S, a, b⟩ | ⟨S, a, b⟩)
    · exact ⟨S, .inl a, b⟩
    · exact ⟨S, .inr a, b⟩
theorem sat_pure {p : Prop} : sat h ((fun _ => p) :: l) ↔ p ∧ sat h l :=
  ⟨fun hs => ⟨hs.choose_spec.1, hs.drop⟩, fun hs => hs.2.add hs.1⟩
theorem sat.swap (hs : sat h (A :: B :: l)) : sat h (B :: A :: l) := by
  obtain ⟨S, a, T, b, c⟩ := hs
  refine ⟨fun x => !S x && T x, by rw [res_res] at b; exact b, S, ?_, ?_⟩
  · rw [res_res]
    rwa [show (res h fun x => (!(!S x && T x)) && S x) = res h S from res_congr fun x => by cases S x <;> cases T x <;> rfl]
  · rw [res_res] at c ⊢
    rwa [show (res h fun x => (!(!S x && T x)) && !S x) = res h fun x => !S x && !T x from res_congr fun x => by cases S x <;> cases T x <;> rfl]
theorem sat_sl {l1 : List Asr} : sat h ((fun h => sat h l1) :: l) ↔ sat h (l1 ++ l) := by
  induction l1 generalizing h with
  | nil => exact ⟨fun hs => hs.drop, fun hs => hs.add trivial⟩
  | cons A l1 ih =>
    constructor
    · rintro ⟨S, ⟨T, a, b⟩, c⟩
      refine ⟨fun x => S x && T x, by rw [res_res] at a; exact a, ?_⟩
      refine ih.1 ⟨S, ?_, ?_⟩
      · rw [res_res] at b ⊢
        rwa [show (res h fun x => (!(S x && T x)) && S x) = res h fun x => S x && !T x from res_congr fun x => by cases S x <;> cases T x <;> rfl]
      · rw [res_res]
        rwa [show (res h fun x => (!(S x && T x)) && !S x) = res h fun x => !S x from res_congr fun x => by cases S x <;> cases T x <;> rfl]
    · rintro ⟨T, a, b⟩
      obtain ⟨S, c, d⟩ := ih.2 b
      refine ⟨fun x => T x || S x, ⟨T, ?_, ?_⟩, ?_⟩
      · rw [res_res]
        rwa [show (res h fun x => (T x || S x) && T x) = res h T from res_congr fun x => by cases S x <;> cases T x <;> rfl]
      · refine sat.grow (T := fun x => !T x && S x) ?_
        rw [res_res] at c
        rw [res_res, res_res]
        rwa [show (res h fun x => (T x || S x) && (!T x && (!T x && S x))) = res h fun x => !T x && S x from res_congr fun x => by cases S x <;> cases T x <;> rfl]
      · rw [res_res] at d
        rwa [show (res h fun x => !(T x || S x)) = res h fun x => !T x && !S x from res_congr fun x => by cases S x <;> cases T x <;> rfl]

theorem sat.p1 {A1 : Asr} (hs : sat h (A1 :: A :: l)) : sat h (A :: A1 :: l) := hs.swap
theorem sat.p2 {A1 A2 : Asr} (hs : sat h (A1 :: A2 :: A :: l)) : sat h (A :: A1 :: A2 :: l) := (hs.tl fun _ h => h.p1).swap
theorem sat.p3 {A1 A2 A3 : Asr} (hs : sat h (A1 :: A2 :: A3 :: A :: l)) : sat h (A :: A1 :: A2 :: A3 :: l) := (hs.tl fun _ h => h.p2).swap
theorem sat.p4 {A1 A2 A3 A4 : Asr} (hs : sat h (A1 :: A2 :: A3 :: A4 :: A :: l)) : sat h (A :: A1 :: A2 :: A3 :: A4 :: l) := (hs.tl fun _ h => h.p3).swap
theorem sat.p5 {A1 A2 A3 A4 A5 : Asr} (hs : sat h (A1 :: A2 :: A3 :: A4 :: A5 :: A :: l)) : sat h (A :: A1 :: A2 :: A3 :: A4 :: A5 :: l) := (hs.tl fun _ h => h.p4).swap
theorem sat.p6 {A1 A2 A3 A4 A5 A6 : Asr} (hs : sat h (A1 :: A2 :: A3 :: A4 :: A5 :: A6 :: A :: l)) : sat h (A :: A1 :: A2 :: A3 :: A4 :: A5 :: A6 :: l) := (hs.tl fun _ h => h.p5).swap
theorem sat.p7 {A1 A2 A3 A4 A5 A6 A7 : Asr} (hs : sat h (A1 :: A2 :: A3 :: A4 :: A5 :: A6 :: A7 :: A :: l)) : sat h (A :: A1 :: A2 :: A3 :: A4 :: A5 :: A6 :: A7 :: l) := (hs.tl fun _ h => h.p6).swap
theorem sat.d1 {A1 : Asr} (hs : sat h (A :: A1 :: l)) : sat h (A :: l) := hs.tl fun _ h => h.drop
theorem sat.d2 {A1 A2 : Asr} (hs : sat h (A :: A1 :: A2 :: l)) : sat h (A :: A1 :: l) := hs.tl fun _ h => h.d1

theorem sat.d3 {A1 A2 A3 : Asr} (hs : sat h (A :: A1 :: A2 :: A3 :: l)) : sat h (A :: A1 :: A2 :: l) := hs.tl fun _ h => h.d2
theorem sat.d4 {A1 A2 A3 A4 : Asr} (hs : sat h (A :: A1 :: A2 :: A3 :: A4 :: l)) : sat h (A :: A1 :: A2 :: A3 :: l) := hs.tl fun _ h => h.d3
theorem sat.q1 {A1 A2 : Asr} (hs : sat h (A :: A1 :: A2 :: l)) : sat h (A :: A2 :: A1 :: l) := hs.tl fun _ h => h.p1
theorem sat.q2 {A1 A2 A3 : Asr} (hs : sat h (A :: A1 :: A2 :: A3 :: l)) : sat h (A :: A3 :: A1 :: A2 :: l) := hs.tl fun _ h => h.p2
theorem sat.q3 {A1 A2 A3 A4 : Asr} (hs : sat h (A :: A1 :: A2 :: A3 :: A4 :: l)) : sat h (A :: A4 :: A1 :: A2 :: A3 :: l) := hs.tl fun _ h => h.p3

/-! ### blocks -/

def pto (b : Nat) (o : AObj) : Asr := fun h => h b = some o
theorem sat.at {b : Nat} {o : AObj} (hs : sat h (pto b o :: l)) : h b = some o := by
  obtain ⟨S, a, _⟩ := hs
  exact (res_some a).2
theorem sat.set {b : Nat} {o o' : AObj} (hs : sat h (pto b o :: l)) : sat (h.set b o') (pto b o' :: l) := by
  obtain ⟨S, a, c⟩ := hs
  have hS := (res_some a).1
  refine ⟨S, ?_, ?_⟩
  · unfold pto res; rw [if_pos hS]; simp
  · have : (res (h.set b o') fun x => !S x) = res h fun x => !S x := by
      funext x
      unfold res
      by_cases hx : x = b
      · subst hx; simp [hS]
      · simp [Hp.set_ne _ _ hx]
    rwa [this]
theorem sat.new {n : Nat} {o : AObj} (hs : sat h l) (hn : h n = none) : sat (h.set n o) (pto n o :: l) := by
  refine ⟨fun x => x == n, ?_, ?_⟩
  · unfold pto res; simp
  · have : (res (h.set n o) fun x => !(x == n)) = h := by
      funext x
      unfold res
      by_cases hx : x = n
      · subst hx; simp [hn]
      · simp [hx, Hp.set_ne]
    rwa [this]
theorem sat.del {b : Nat} {o : AObj} (hs : sat h (pto b o :: l)) : sat (h.del b) l := by
  obtain ⟨S, a, c⟩ := hs
  have hS := (res_some a).1
  refine sat.grow (T := fun x => !S x) ?_
  have : (res (h.del b) fun x => !S x) = res h fun x => !S x := by
    funext x
    unfold res
    by_cases hx : x = b
    · subst hx; simp [hS]
    · simp [Hp.del_ne _ hx]
  rwa [this]
theorem sat.ne {a b : Nat} {o o' : AObj} (hs : sat h (pto a o :: pto b o' :: l)) : a ≠ b := by
  obtain ⟨S, x, T, y, _⟩ := hs
  have h1 := (res_some x).1
  have h2 := (res_some (res_some y).2).1
  intro hh; subst hh; simp [h1] at h2

/-- What reads the same in more memory. -/
def Mono (A : Asr) : Prop := ∀ h S, A (res h S) → A h
theorem sat.hd (hs : sat h (A :: l)) (hm : Mono B) (hi : ∀ h, A h → B h) : B h := by
  obtain ⟨S, a, _⟩ := hs
  exact hm _ _ (hi _ a)
theorem srcA_mono {s : Nat} {v : AV} {es : List (List AV)} {S : Nat → Bool} (e : srcA s (res h S) v = some es) : srcA s h v = some es := by
  unfold srcA at *
  split at e <;> first | exact e | skip
  split at e <;> first | cases e | skip
  rename_i hb
  rw [(res_some hb).2]
  exact e
theorem Els.mono {s : Nat} {v : AV} {es : List (List AV)} : Mono fun h => Els h s v es := fun h S e => ⟨srcA_mono e.1, e.2⟩
theorem Els.lst {s : Nat} {es : List (List AV)} (hs : ∀ e ∈ es, e.length = s) : Els h s (.lst es) es := ⟨by simp only [srcA]; rw [if_pos hs], by simp⟩

theorem ia_lst {α : Type} {f : α → List AV} {l : List α} {s i : Nat} {k : IntKind} (hi : i < l.length) (hs : ∀ x, (f x).length = s) : iaA s (.lst (l.map f)) (.int k (i : Int)) = some (.ro (f l[i])) := by
  simp [iaA, hi, hs]

/-! ### slices of one's own -/

def Ow (s : Nat) (v : AV) (es : List (List AV)) : Asr := fun h =>
  (v = .nils ∧ es = []) ∨ ∃ b cap, v = .arr b s 0 es.length cap ∧ h b = some (.row s es cap) ∧ es.length ≤ cap

theorem ow_nil {s : Nat} : Ow s .nils [] h := .inl ⟨rfl, rfl⟩
theorem Ow.els {s : Nat} {v : AV} {es : List (List AV)} (o : Ow s v es h) : Els h s v es := by
  rcases o with ⟨rfl, rfl⟩ | ⟨b, cap, rfl, hb, hc⟩
  · exact ⟨rfl, by simp⟩
  · exact ⟨by simp [srcA, hb], by simp⟩
theorem sat.els {s : Nat} {v : AV} {es : List (List AV)} (hs : sat h (Ow s v es :: l)) : Els h s v es := hs.hd Els.mono fun _ o => o.els
theorem sat.bts {v : AV} {bs : List UInt8} (hs : sat h (Ow 1 v (bs.map eb) :: l)) : Bts h v bs := hs.els
theorem sat.arr {s b len cap : Nat} {es : List (List AV)} (hs : sat h (Ow s (.arr b s 0 len cap) es :: l)) : sat h (pto b (.row s es cap) :: l) ∧ len = es.length ∧ es.length ≤ cap := by
  obtain ⟨S, ⟨h1, _⟩ | ⟨b', cap', h1, h2, h3⟩, c⟩ := hs
  · cases h1
  · cases h1; exact ⟨⟨S, h2, c⟩, rfl, h3⟩
theorem sat.ow {s b cap : Nat} {es : List (List AV)} (hs : sat h (pto b (.row s es cap) :: l)) (hc : es.length ≤ cap) : sat h (Ow s (.arr b s 0 es.length cap) es :: l) :=
  hs.imp fun _ hb => .inr ⟨b, cap, rfl, hb, hc⟩
theorem sat.cases {s : Nat} {v : AV} {es : List (List AV)} (hs : sat h (Ow s v es :: l)) :
    (v = .nils ∧ es = [] ∧ sat h l) ∨ ∃ b cap, v = .arr b s 0 es.length cap ∧ sat h (pto b (.row s es cap) :: l) ∧ es.length ≤ cap := by
  obtain ⟨S, ⟨h1, h2⟩ | ⟨b', cap', h1, h2, h3⟩, c⟩ := hs
  · exact .inl ⟨h1, h2, c.grow⟩
  · exact .inr ⟨b', cap', h1, ⟨S, h2, c⟩, h3⟩

theorem wpA_imp {P : Program} : ∀ (c : ACode) {e : Env} {h : Hp} {kn kn' kr kr' : Env → Hp → Prop} {kx kx' : Nat → Env → Hp → Prop}, wpA P c e h kn kr kx → (∀ e h, kn e h → kn' e h) → (∀ e h, kr e h → kr' e h) → (∀ i e h, kx i e h → kx' i e h) → wpA P c e h kn' kr' kx'
  | .skip, _, _, _, _, _, _, _, _, hw, h1, _, _ => h1 _ _ hw
  | .reg l, _, _, _, _, _, _, _, _, hw, h1, _, _ => wpS_mono h1 l _ _ hw
  | .seq a b, _, _, _, _, _, _, _, _, hw, h1, h2, h3 => wpA_imp a hw (fun e h hb => wpA_imp b hb h1 h2 h3) h2 h3
  | .cond c t f, _, _, _, _, _, _, _, _, ⟨b, hb, ht, hf⟩, h1, h2, h3 => ⟨b, hb, fun q => wpA_imp t (ht q) h1 h2 h3, fun q => wpA_imp f (hf q) h1 h2 h3⟩
  | .block id b, _, _, kn, kn', _, _, kx, kx', hw, h1, h2, h3 => wpA_imp b hw h1 h2 fun i e h hx => by
    by_cases hi : i = id
    · rw [if_pos hi] at hx ⊢; exact h1 _ _ hx
    · rw [if_neg hi] at hx ⊢; exact h3 _ _ _ hx
  | .loop b, _, _, _, _, _, _, _, _, ⟨I, μ, h0, hr⟩, h1, h2, h3 => ⟨I, μ, h0, fun e h hi => wpA_imp b (hr e h hi) (fun _ _ x => x) h2 h3⟩
  | .exit id, _, _, _, _, _, _, _, _, hw, _, _, h3 => h3 _ _ _ hw
  | .ret, _, _, _, _, _, _, _, _, hw, _, h2, _ => h2 _ _ hw
theorem run_imp {P : Program} {b : ACode} {st : List Fr} {e : Env} {k : Kt} {J J' : Env → Hp → Prop} (hw : run P b (.lp J :: st) e h k) (hi : ∀ e h, J e h → J' e h) : run P b (.lp J' :: st) e h k :=
  wpA_imp b hw hi (fun _ _ x => x) (fun _ _ _ x => x)

/-- A new block. -/
theorem new_sat {P : Program} {st : List Fr} {e : Env} {k : Kt} {d : Option Nat} {r : List (AItem × List AItem)} {o : AObj} {g : Nat → AV} (hs : sat h F)
    (hk : ∀ n, h n = none → sat (h.set n o) (pto n o :: F) → runS P r st (e.put d (g n)) (h.set n o) k) : newR P o g d r st e h k := fun n hn => hk n hn (hs.new hn)

theorem least {p : Nat → Prop} (h : ∃ n, p n) : ∃ n, p n ∧ ∀ m, p m → n ≤ m := by
  obtain ⟨n, hn⟩ := h
  induction n using Nat.strongRecOn with
  | _ n ih =>
    by_cases hm : ∃ m, m < n ∧ p m
    · obtain ⟨m, h1, h2⟩ := hm
      exact ih m h1 h2
    · exact ⟨n, hn, fun m hm' => Nat.le_of_not_lt fun hlt => hm ⟨m, hlt, hm'⟩⟩
/-- A loop with a number that falls. -/
theorem run_loopN {P : Program} {b : ACode} {st : List Fr} {e : Env} {k : Kt} (I : Nat → Env → Hp → Prop) (n : Nat) (h0 : I n e h)
    (hr : ∀ n e h, I n e h → run P b (.lp (fun e' h' => ∃ m, m < n ∧ I m e' h') :: st) e h k) : run P (.loop b) st e h k := by
  classical
  refine run_loop (fun e h => ∃ n, I n e h) (fun e h => if hh : ∃ n, I n e h then Classical.choose (least hh) else 0) ⟨n, h0⟩ fun e h hi => ?_
  have hn := (Classical.choose_spec (least hi)).1
  have e0 : (if hh : ∃ n, I n e h then Classical.choose (least hh) else 0) = Classical.choose (least hi) := dif_pos hi
  rw [e0]
  refine run_imp (hr _ e h hn) ?_
  rintro e' h' ⟨m, hm, hi'⟩
  have hx : ∃ n, I n e' h' := ⟨m, hi'⟩
  refine ⟨hx, ?_⟩
  rw [dif_pos hx]
  exact Nat.lt_of_le_of_lt ((Classical.choose_spec (least hx)).2 m hi') hm
/-- A new block, and what the heap holds then. -/
theorem new_opq {P : Program} {st : List Fr} {e : Env} {k : Kt} {d : Option Nat} {r : List (AItem × List AItem)} {o : AObj} {g : Nat → AV} (hs : sat h F)
    (hk : ∀ n h', sat h' (pto n o :: F) → runS P r st (e.put d (g n)) h' k) : newR P o g d r st e h k := fun n hn => hk n _ (hs.new hn)
/-- A loop that counts up. -/
theorem run_up {P : Program} {b : ACode} {st : List Fr} {e : Env} {k : Kt} {N : Nat} (I : Nat → Env → Hp → Prop) (h0 : I 0 e h)
    (hr : ∀ i e h, i ≤ N → I i e h → run P b (.lp (fun e' h' => i < N ∧ I (i + 1) e' h') :: st) e h k) : run P (.loop b) st e h k := by
  refine run_loopN (fun n e h => ∃ i, i ≤ N ∧ n = N - i ∧ I i e h) N ⟨0, Nat.zero_le _, rfl, h0⟩ ?_
  rintro n e h ⟨i, hi, rfl, hI⟩
  refine run_imp (hr i e h hi hI) ?_
  rintro e' h' ⟨hlt, hI'⟩
  exact ⟨N - (i + 1), by omega, i + 1, by omega, rfl, hI'⟩

/-- append to a slice of one's own. -/
theorem app_sat {P : Program} {st : List Fr} {e : Env} {k : Kt} {d : Option Nat} {r : List (AItem × List AItem)} {s bytes : Nat} {v y : AV} {es ys : List (List AV)}
    (hs : sat h (Ow s v es :: F)) (hy : srcA s h y = some ys) (ha : AtomsL ys)
    (hb : (es.length + ys.length) * bytes ≤ 70368744177664) (hk : ∀ v' h', sat h' (Ow s v' (es ++ ys) :: F) → v'.cells = [v'] → v'.isAtom = true → runS P r st (e.put d v') h' k) :
    effR P (appE s bytes v y h) [] d r st e k := by
  have fin : ∀ v' h', sat h' (Ow s v' (es ++ ys) :: F) → obls P [] (e.put d v') h' ∧ runS P r st (e.put d v') h' k := fun v' h' g =>
    ⟨fun _ hm => by simp at hm, hk v' h' g g.els.cells g.els.atom⟩
  refine ⟨ys, hy, ha, ?_⟩
  rcases hs.cases with ⟨rfl, rfl, g⟩ | ⟨b, cap, rfl, g, hle⟩
  · refine ⟨fun h0 => fin _ _ (g.add (.inl ⟨rfl, by simp [h0]⟩)), fun h0 => ⟨by simpa using hb, fun n c hn hc => fin _ _ ?_⟩⟩
    simpa using (g.new (o := .row s ys c) hn).ow hc
  · have hbb := g.at
    simp only [hbb]
    refine ⟨trivial, trivial, trivial, Nat.le_refl _, trivial, hb, fun n c hn hc _ => fin _ _ ?_⟩
    rw [List.take_length]
    have := ((g.del).new (o := .row s (es ++ ys) c) hn).ow (by simpa using hc)
    simpa using this

theorem atoms_one {x : List AV} (hx : x.all AV.isAtom = true) : AtomsL [x] := by
  intro e he v hv
  simp only [List.mem_cons, List.not_mem_nil, or_false] at he
  subst he
  exact List.all_eq_true.1 hx v hv
theorem src_one {s b n c : Nat} {x : List AV} (hn : h b = some (.row s [x] n)) : srcA s h (.arr b s 0 1 c) = some [x] := by simp [srcA, hn]

theorem ow_slc {s : Nat} {v : AV} {es : List (List AV)} {k k' : IntKind} {lo hi : Nat} (h1 : lo ≤ hi) (h2 : hi ≤ es.length) (hs : sat h (Ow s v es :: F)) :
    ∃ x, slcL s v (some (.int k lo)) (some (.int k' hi)) = some x ∧ (∀ h (G : List Asr), sat h (Ow s v es :: G) → Els h s x ((es.drop lo).take (hi - lo))) ∧ x.cells = [x] := by
  rcases hs.cases with ⟨rfl, rfl, _⟩ | ⟨b, cap, rfl, g, hc⟩
  · have : hi = 0 := by simpa using h2
    subst this
    have : lo = 0 := by omega
    subst this
    exact ⟨.nils, rfl, fun _ _ _ => ⟨by simp [srcA], by simp⟩, rfl⟩
  · refine ⟨.arr b s (0 + lo) (hi - lo) (cap - lo), ?_, fun h G hs => ⟨?_, by simp⟩, rfl⟩
    · simp only [slcL, boundA]
      simp
      omega
    · have hb := (hs.arr).1.at
      simp only [srcA, hb]
      rw [if_pos ⟨trivial, trivial, by omega⟩]
      simp

/-- A slice that ends within its room. -/
def CapOK (v : AV) : Prop := ∀ q s o l c, v = .arr q s o l c → l ≤ c
theorem capOK_lst {es : List (List AV)} : CapOK (.lst es) := fun _ _ _ _ _ h => by cases h
theorem sat.cap {s : Nat} {v : AV} {es : List (List AV)} (hs : sat h (Ow s v es :: l)) : CapOK v := by
  rcases hs.cases with ⟨rfl, _⟩ | ⟨b, cap, rfl, _, hc⟩
  · intro _ _ _ _ _ h; cases h
  · intro _ _ _ _ _ h; cases h; exact hc
theorem capOK_slc {s : Nat} {v x : AV} {lo hi : Option AV} (hc : CapOK v) (hx : slcL s v lo hi = some x) : CapOK x := by
  unfold slcL at hx
  split at hx <;> first | (cases hx; done) | skip
  all_goals
    split at hx <;> first | (cases hx; done) | skip
    split at hx <;> first | (cases hx; done) | skip
    cases hx
    intro q s o l c h
    cases h
    try omega
/-- A part of a slice that is read through what the heap holds. -/
theorem slc_E {A : Hp → Prop} {s : Nat} {v : AV} {es : List (List AV)} (h0 : A h) (hE : ∀ h, A h → Els h s v es) (hc : CapOK v) (k k' : IntKind) {lo hi : Nat} (h1 : lo ≤ hi) (h2 : hi ≤ es.length) :
    ∃ x, slcL s v (some (.int k lo)) (some (.int k' hi)) = some x ∧ (∀ h, A h → Els h s x ((es.drop lo).take (hi - lo))) ∧ CapOK x := by
  obtain ⟨x, a, _⟩ := Els.slc (k := k) (k' := k') (hE h h0) h1 h2 hc
  refine ⟨x, a, fun h' h0' => ?_, capOK_slc hc a⟩
  obtain ⟨x', a', b', _⟩ := Els.slc (k := k) (k' := k') (hE h' h0') h1 h2 hc
  rw [a] at a'
  cases a'
  exact b'
theorem slc_lo {s : Nat} {v : AV} {hi : Option AV} : slcL s v none hi = slcL s v (some (.int .i64 0)) hi := by
  unfold slcL
  split <;> rfl
theorem slc_hi {s n : Nat} {v : AV} {lo : Option AV} (hl : lenL v = some (.int .i64 n)) : slcL s v lo none = slcL s v lo (some (.int .i64 n)) := by
  unfold lenL at hl
  unfold slcL
  split <;> simp at hl <;> first | (have h2 := Int.ofNat_inj.1 hl; subst h2; simp [boundA]) | (have h2 := Int.ofNat_inj.1 hl; subst h2; rfl) | (subst hl; rfl) | rfl | skip

/-- A function value that is called. -/
theorem callv_use {P : Program} {st : List Fr} {e : Env} {k : Kt} {d : Option Nat} {r : List (AItem × List AItem)} {f : Nat} {caps args : List AV} {Q : AV → Hp → Prop} (hf : okFn P f = true) (c : Triple P f (args ++ caps) h Q)
    (hk : ∀ v h', Q v h' → runS P r st (e.put d v) h' k) : effR P (callvE P (.fn f caps) args h) [] d r st e k :=
  ⟨okFn_ok hf, c.mono fun v h' q => ⟨fun _ hm => by simp at hm, hk v h' q⟩⟩
/-- The bytes of a string, only read from then on. -/
theorem strb_ro {P : Program} {st : List Fr} {e : Env} {k : Kt} {d : Option Nat} {r : List (AItem × List AItem)} {l : List UInt8} (hk : runS P r st (e.put d (.lst (l.map eb))) h k) : effR P (strbE (.str l) h) [] d r st e k :=
  .inr ⟨l, rfl, fun _ hm => by simp at hm, hk⟩

/-! ### what is not written again -/

theorem Triple.view {P : Program} {f : Nat} {args : List AV} {post : AV → Hp → Prop} (t : Triple P f args h fun r h' => ∃ r' h'', GV r h' r' h'' ∧ post r' h'') : Triple P f args h post :=
  fun fz w cargs r a => (t fz w cargs r a).mono fun _ w' ⟨cv, x, h', fz', e1, e2, e3, e4, r', h'', g, p⟩ => by
    obtain ⟨f2, g1, g2, g3⟩ := g fz' w' cv e2 e3
    exact ⟨cv, r', h'', f2, e1, g1, g2, e4.trans g3, p⟩

/-- The slice that a call answers, as one that is only read. -/
theorem sat.view {s : Nat} {v : AV} {es : List (List AV)} (hs : sat h (Ow s v es :: l)) : ∃ h', GV v h (.lst es) h' ∧ sat h' l := by
  rcases hs.cases with ⟨rfl, rfl, g⟩ | ⟨b, cap, rfl, g, hle⟩
  · exact ⟨h, GV.nils, g⟩
  · exact ⟨_, GV.arr g.at rfl hle, g.del⟩
/-- A call that answers a slice of one's own answers one that is only read. -/
theorem Triple.lst {P : Program} {f : Nat} {args : List AV} (s : Nat) {post : AV → Hp → Prop}
    (t : Triple P f args h fun r h' => ∃ es F, sat h' (Ow s r es :: F) ∧ ∀ h'', sat h'' F → post (.lst es) h'') : Triple P f args h post :=
  Triple.view (t.mono fun r h' ⟨es, F, hs, hp⟩ => by
    obtain ⟨h'', g, hs'⟩ := hs.view
    exact ⟨_, h'', g, hp _ hs'⟩)
/-- A call that answers a tuple whose first is a slice of one's own. -/
theorem Triple.lst1 {P : Program} {f : Nat} {args : List AV} (s : Nat) {post : AV → Hp → Prop}
    (t : Triple P f args h fun r h' => ∃ v rest es F, r = .tup (v :: rest) ∧ sat h' (Ow s v es :: F) ∧ ∀ h'', sat h'' F → post (.tup (.lst es :: rest)) h'') : Triple P f args h post :=
  Triple.view (t.mono fun r h' ⟨v, rest, es, F, hr, hs, hp⟩ => by
    obtain ⟨h'', g, hs'⟩ := hs.view
    subst hr
    exact ⟨_, h'', GV.tup [] rest g, hp _ hs'⟩)

/-! ### what says less of an argument -/

/-- Each value of the one is a value of the other. -/
def VI (a b : AV) : Prop := ∀ (fz : Nat → Prop) (H : Array Obj) (cv : Value), VR fz H a cv → VR fz H b cv
def VIs : List AV → List AV → Prop
  | [], [] => True
  | a :: as, b :: bs => VI a b ∧ VIs as bs
  | _, _ => False
theorem VI.refl (a : AV) : VI a a := fun _ _ _ h => h
theorem VI.nils : VI .nils (.lst []) := fun fz H cv h => by cases h; exact .lst0 none 0 (fun _ => rfl)
theorem VIs.get : ∀ {as bs : List AV}, VIs as bs → as.length = bs.length ∧ ∀ i (h1 : i < as.length) (h2 : i < bs.length), VI as[i] bs[i]
  | [], [], _ => ⟨rfl, fun i h => by simp at h⟩
  | [], _ :: _, h => h.elim
  | _ :: _, [], h => h.elim
  | a :: as, b :: bs, h => by
    obtain ⟨h1, h2⟩ := VIs.get h.2
    refine ⟨by simp [h1], fun i a b => ?_⟩
    cases i with
    | zero => exact h.1
    | succ i => exact h2 i (by simpa using a) (by simpa using b)
theorem VI.agg {as bs : List AV} (h : VIs as bs) : VI (.agg as) (.agg bs) := fun fz H cv hv => by
  obtain ⟨h1, h2⟩ := h.get
  cases hv with
  | agg cs vs hl hvs => exact .agg bs vs (by rw [← h1, hl]) fun i a b => h2 i (by omega) a fz H _ (hvs i (by omega) b)
theorem Triple.vi {P : Program} {f : Nat} {as bs : List AV} {post : AV → Hp → Prop} (hv : VIs as bs) (t : Triple P f bs h post) : Triple P f as h post := fun fz w cargs r a => by
  obtain ⟨h1, h2⟩ := hv.get
  exact t fz w cargs r ⟨by rw [← h1]; exact a.1, fun i x y => h2 i (by omega) x fz _ _ (a.2 i (by omega) y)⟩
end Go.Hz
/- A law: what comes in is read by its types; it answers true, and what came in reads as before. -/
set_option linter.unusedSimpArgs false
set_option linter.unusedVariables false
namespace Go.Hz
open Go.RowKit Go.ChangeShapes Go.WideShapes Go.ChangeAt

def Ty.one : Ty → AV → Prop
  | .st c, a => ∃ cs, a = .agg cs ∧ c.shape cs
  | τ, a => τ.shape [a]
def Ty.ones : List Ty → List AV → Prop
  | [], [] => True
  | τ :: ts, a :: as => τ.one a ∧ Ty.ones ts as
  | _, _ => False
def Ty.bulk1 : Ty → AV → Nat
  | .st c, .agg cs => c.bulk cs + 1
  | τ, a => τ.bulk [a]
def Ty.bulks : List Ty → List AV → Nat
  | τ :: ts, a :: as => τ.bulk1 a + Ty.bulks ts as
  | _, _ => 0
def fitsAll (P : Program) : List Ty → List TypeId → Bool
  | [], [] => true
  | τ :: τs, t :: ts => τ.fits P (.inl t) && fitsAll P τs ts
  | _, _ => false

section
variable {H : Type} {enc : TypeId × Value → H} {P : Program} {w : World} {base : Nat} {spare : Nat → Bool} {held : Bool}

theorem Ty.arg1 (B : Bulk H) (τ : Ty) {t : TypeId} {v : Value} {d : DataW H} {ps : List MemPlace} {r : Reach} {b0 : Nat}
    (hf : τ.fits P (.inl t) = true) (h : DataW.Trod enc P w base spare held t v d ps) (hw : Value.okWide P w r b0 t v) :
    ∃ a, τ.one a ∧ VR (fun b => b < w.heap.size) w.heap a v ∧ τ.bulk1 a ≤ B.b d := by
  have key : v.cells = #[v] → τ.size = 1 → ∃ a, τ.shape [a] ∧ VR (fun b => b < w.heap.size) w.heap a v ∧ τ.bulk [a] ≤ B.b d := fun h1 h2 => Ty.arg B τ hf h h1 h2
  cases τ with
  | bool =>
    have hf' := hf
    simp only [Ty.fits] at hf'
    split at hf'
    · rename_i ht; obtain ⟨b, rfl⟩ := okWide_bool ht hw; exact key rfl rfl
    · cases hf'
  | str =>
    have hf' := hf
    simp only [Ty.fits] at hf'
    split at hf'
    · rename_i ht; obtain ⟨b, rfl⟩ := okWide_string ht hw; exact key rfl rfl
    · cases hf'
  | int k =>
    have hf' := hf
    simp only [Ty.fits] at hf'
    split at hf'
    · rename_i ht; obtain ⟨b, rfl⟩ := okWide_int ht hw; exact key rfl rfl
    · cases hf'
  | sl e =>
    have hf' := hf
    simp only [Ty.fits] at hf'
    split at hf'
    · rename_i ht; obtain ⟨b, _, _, rfl⟩ := okWide_slice ht hw; exact key rfl rfl
    · cases hf'
  | st c =>
    have hf' := hf
    simp only [Ty.fits] at hf'
    split at hf'
    · rename_i ht
      obtain ⟨cs, rfl, hcs⟩ := okWide_struct ht hw
      obtain ⟨fuel, h⟩ := h
      obtain ⟨as, g1, g2, g3, g4⟩ := ((Ty.st c).read (enc := enc) (base := base) (spare := spare) (held := held) B).1 fuel t _ _ hf h
      refine ⟨.agg as, ⟨as, rfl, g1⟩, ?_, g4⟩
      exact .agg as cs (by simpa [Value.cells] using g3.1) fun i h1 h2 => by simpa [Value.cells] using g3.2 i h1 (by simpa [Value.cells] using h2)
    · cases hf'
  | fnil => simp [Ty.fits] at hf
  | fcons a b => simp [Ty.fits] at hf

theorem args_read (B : Bulk H) {r : Reach} {b0 : Nat} : ∀ (τs : List Ty) (ts : List TypeId) (vs : List Value) (ds : List (DataW H)) (ps : List MemPlace), fitsAll P τs ts = true → DataW.TrodAll enc P w base spare held ts vs ds ps →
    (∀ (j : Nat) t v, ts[j]? = some t → vs[j]? = some v → Value.okWide P w r b0 t v) → ∃ as, Ty.ones τs as ∧ VRs (fun b => b < w.heap.size) w.heap as vs ∧ ds.length = ts.length ∧ Ty.bulks τs as ≤ B.ba ds
  | [], [], vs, ds, ps, _, h, _ => by
    obtain ⟨rfl, rfl, _⟩ := trodAll_nil h
    exact ⟨[], trivial, VRs.nil, rfl, Nat.zero_le _⟩
  | [], _ :: _, _, _, _, hf, _, _ => by simp [fitsAll] at hf
  | _ :: _, [], _, _, _, hf, _, _ => by simp [fitsAll] at hf
  | τ :: τs, t :: ts, vs, ds, ps, hf, h, hw => by
    obtain ⟨v, vs', d, ds', p, q, rfl, rfl, rfl, h1, h2⟩ := trodAll_cons h
    simp only [fitsAll, Bool.and_eq_true] at hf
    obtain ⟨a, g1, g2, g3⟩ := Ty.arg1 B τ hf.1 h1 (hw 0 t v rfl rfl)
    obtain ⟨as, k1, k2, k3, k4⟩ := args_read B τs ts vs' ds' q hf.2 h2 fun j t v a b => hw (j + 1) t v (by simpa using a) (by simpa using b)
    refine ⟨a :: as, ⟨g1, k1⟩, VRs.cons g2 k2, by simp [k3], ?_⟩
    have := B.cons d ds'
    simp only [Ty.bulks]
    omega

theorem args_back {W W' : World} (hl : laidOutB P = true) (hb : Below W.heap.size W W') : ∀ (ts : List TypeId) (vs : List Value) (ds : List (DataW H)) (ps : List MemPlace), (ts.all fun t => P.readableRec t && decide (t < P.types.size)) = true →
    DataW.TrodAll enc P W 0 (fun _ => true) true ts vs ds ps → DataW.TrodAll enc P W' 0 (fun b => decide (b < W.heap.size)) true ts vs ds ps
  | [], vs, ds, ps, _, h => by
    obtain ⟨rfl, rfl, rfl⟩ := trodAll_nil h
    exact trodAll_mk0
  | t :: ts, vs, ds, ps, ht, h => by
    obtain ⟨v, vs', d, ds', p, q, rfl, rfl, rfl, h1, h2⟩ := trodAll_cons h
    simp only [List.all_cons, Bool.and_eq_true, decide_eq_true_eq] at ht
    have lt : ∀ x ∈ p, x.block < W.heap.size := by obtain ⟨m, hm⟩ := h1; exact DataW.trod_lt m _ _ _ hm
    exact trodAll_cons_mk (Below.trod hl ht.1.1 ht.1.2 h1 hb lt) (args_back hl hb ts vs' ds' q (by simpa using ht.2) h2)

/-- What a row asks of a law's call. -/
theorem law_contract (B : Bulk H) {N : Nat} {f : FuncId} {fn : Func} {s : ChangeSpec} {ts : List TypeId} {rt : TypeId} (τs : List Ty) (hv : s.vars = []) (hts : fn.params.toList = ts) (hrt : fn.resultTypes.toList = [rt]) (hrs : fn.resultTypes.size = 1) (hb : P.underlying rt = some .bool)
    (hfit : fitsAll P τs ts = true) (hlaid : laidOutB P = true) (hread : (ts.all fun t => P.readableRec t && decide (t < P.types.size)) = true)
    (hs : ∀ ds : List (DataW H), ds.length = ts.length → s.fn H ds = { results := [.lit (.bool true)], args := ds })
    {W : World} {base : Nat} {args : Array Value} {ds gs : List (DataW H)} {before : List MemPlace}
    (hval : ∀ (j : Nat) t v, fn.params[j]? = some t → args[j]? = some v → Value.okWide P W .any base t v)
    (hW : DataW.Whole enc P fn.params.toList s.vars false W args.toList ds gs before)
    (hN : B.ba ds ≤ N) (law : ∀ as, Ty.ones τs as → Ty.bulks τs as ≤ N → Triple P f as Hp.emp fun r _ => r = .bool true) :
    Calls P f args W fun e W' => ∃ v, e = .returned v ∧ s.post enc P fn false true false false W args v W' := by
  have hW' := hW
  obtain ⟨p, q, hA, hV, rfl, hfz, hnd⟩ := hW
  rw [hts] at hA
  rw [hv] at hV
  obtain ⟨rfl, rfl⟩ := trodVars_none hV
  obtain ⟨as, h1, h2, h3, h4⟩ := args_read B τs ts args.toList ds p hfit hA fun j t v a b => hval j t v (by rw [← a, ← hts]; simp) (by rw [← b]; simp)
  refine (entry (law as h1 (Nat.le_trans h4 hN)) h2).mono fun e W' ⟨he, bel⟩ => ?_
  subst he
  refine ⟨_, rfl, ds, [], p ++ [], [], p, [], hW', ?_, ?_, ?_, bel.frame _, fun h => by cases h⟩
  · rw [List.append_nil, hs ds h3, hrt, hrs]
    exact trodAll_mk1 (shut_bool hb _)
  · rw [List.append_nil, hs ds h3, hts]
    exact args_back hlaid bel ts _ ds p hread hA
  · rw [hv, List.append_nil, hs ds h3]; rfl
end

def nums (l : List Int) : AV := .lst (l.map fun k => [AV.int .i64 k])
theorem num_at {l : List Int} {i : Nat} (hi : i < l.length) : iaA 1 (nums l) (.int .i64 (i : Int)) = some (.ro [.int .i64 l[i]]) := ia_lst (f := fun k => [AV.int .i64 k]) hi fun _ => rfl
theorem num_len {l : List Int} : lenL (nums l) = some (.int .i64 l.length) := by simp [nums, lenL]

theorem bytes_of {a : AV} (h : (Ty.sl (.int .u8)).one a) : ∃ b : List UInt8, a = .lst (b.map eb) ∧ b.length ≤ 9223372036854775807 := by
  obtain ⟨es, rfl', h2, h3⟩ := h
  cases rfl'
  have : ∃ b : List UInt8, es = b.map eb := by
    clear h2
    induction es with
    | nil => exact ⟨[], rfl⟩
    | cons x es ih =>
      obtain ⟨b, rfl⟩ := ih fun y hy => h3 y (List.mem_cons_of_mem _ hy)
      obtain ⟨n, rfl, hw⟩ := h3 x (List.mem_cons_self ..)
      simp only [Lit.wf, Bool.and_eq_true, decide_eq_true_eq] at hw
      have h1 : 0 ≤ n := hw.1
      have h2 : n ≤ 255 := hw.2
      refine ⟨UInt8.ofNat n.toNat :: b, ?_⟩
      have e : ((UInt8.ofNat n.toNat).toNat : Int) = n := by
        rw [UInt8.toNat_ofNat']
        omega
      have e2 : eb (UInt8.ofNat n.toNat) = [AV.int .u8 n] := by unfold eb; rw [e]
      rw [List.map_cons, e2]
  obtain ⟨b, rfl⟩ := this
  exact ⟨b, rfl, by have : (b.map eb).length ≤ 9223372036854775807 := Nat.le_trans h2 (by decide); simpa using this⟩
theorem nums_of {a : AV} (h : (Ty.sl (.int .i64)).one a) : ∃ l : List Int, a = nums l ∧ l.length ≤ 9223372036854775807 ∧ ∀ k ∈ l, -9223372036854775808 ≤ k ∧ k ≤ 9223372036854775807 := by
  obtain ⟨es, rfl', h2, h3⟩ := h
  cases rfl'
  have : ∃ l : List Int, es = l.map (fun k => [AV.int .i64 k]) ∧ ∀ k ∈ l, -9223372036854775808 ≤ k ∧ k ≤ 9223372036854775807 := by
    clear h2
    induction es with
    | nil => exact ⟨[], rfl, by simp⟩
    | cons x es ih =>
      obtain ⟨b, rfl, hb⟩ := ih fun y hy => h3 y (List.mem_cons_of_mem _ hy)
      obtain ⟨n, rfl, hw⟩ := h3 x (List.mem_cons_self ..)
      simp only [Lit.wf, Bool.and_eq_true, decide_eq_true_eq] at hw
      refine ⟨n :: b, rfl, fun k hk => ?_⟩
      rcases List.mem_cons.1 hk with rfl | hk
      · exact hw
      · exact hb k hk
  obtain ⟨b, rfl, hb⟩ := this
  exact ⟨b, rfl, by have : (b.map fun k => [AV.int .i64 k]).length ≤ 9223372036854775807 := Nat.le_trans h2 (by decide); simpa using this, hb⟩

theorem int_of {a : AV} (h : (Ty.int .i64).one a) : ∃ n : Int, a = .int .i64 n ∧ -9223372036854775808 ≤ n ∧ n ≤ 9223372036854775807 := by
  obtain ⟨n, hn, hw⟩ := h
  cases hn
  simp only [Lit.wf, Bool.and_eq_true, decide_eq_true_eq] at hw
  exact ⟨n, rfl, hw⟩
theorem str_of {a : AV} (h : Ty.str.one a) : ∃ l : List UInt8, a = .str l ∧ l.length ≤ 9223372036854775807 := by
  obtain ⟨l, hl, hw⟩ := h
  cases hl
  exact ⟨l, rfl, Nat.le_trans hw (by decide)⟩
theorem bool_of {a : AV} (h : Ty.bool.one a) : ∃ b : Bool, a = .bool b := by
  obtain ⟨l, hl⟩ := h
  cases hl
  exact ⟨l, rfl⟩
theorem ones_nil {vs : List AV} (h : Ty.ones [] vs) : vs = [] := by
  cases vs with
  | nil => rfl
  | cons a l => exact h.elim
theorem ones_cons {τ : Ty} {τs : List Ty} {vs : List AV} (h : Ty.ones (τ :: τs) vs) : ∃ a l, vs = a :: l ∧ τ.one a ∧ Ty.ones τs l := by
  cases vs with
  | nil => exact h.elim
  | cons a l => exact ⟨a, l, rfl, h.1, h.2⟩
end Go.Hz
/- The rules of a walk, as one set of the simplifier. -/
set_option linter.unusedVariables false
namespace Go.Hz
theorem wrap_i64_go {x : Int} (h1 : -9223372036854775808 ≤ x) (h2 : x ≤ 9223372036854775807) : IntKind.i64.wrap x = x := by
  simp only [IntKind.wrap, IntKind.signed, IntKind.bits]
  simp
  omega
attribute [go_sem] run_skip run_reg run_seq run_cond run_block run_exit run_ret fall_nil fall_code fall_blk fall_lp out_nil out_code out_blk out_lp runS_nil cnd_true cnd_false nx_some nx_if nxh_some nxh_obl obls_nil obls_cons stab_ld stab_ldg stab_bs stab_bsg gd_bool gd_tup msl_inl msl_inr bsl_some runS_op opR ev_tm ev_cs evs_nil evs_cons evIdx_nil evIdx_cons evParts_nil evParts_cons oev_none oev_some Env.put_some Env.put_none true_and and_true List.getD_cons_zero List.getD_cons_succ initE binA pickA eqN_b eqN_pnn eqN_ppn eqN_pnp eqN_prn eqN_snn eqN_san eqN_sen eqN_sln eqN_mnn eqN_mmn eqN_fnn eqN_ffn eqN_iin eqN_inn unA cviA strA ckA faA fldA ixsA iaA_arr lenS lenL_lst lenL_arr lenL_nils lenL_emp bstrA_nils capL extA mmA ldA cellsAt_ptr cellsAt_ro partA stA cells_bool atom_bool cells_int atom_int cells_str atom_str cells_nilp atom_nilp cells_ptr atom_ptr cells_ro atom_ro cells_nils atom_nils cells_lst atom_lst cells_arr atom_arr cells_nilm atom_nilm cells_map atom_map cells_fn atom_fn cells_nilf atom_nilf cells_nili atom_nili cells_iface atom_iface cells_agg List.map_cons List.map_nil List.getElem?_cons_zero List.drop_zero Option.map_some Option.map_none List.length_cons List.length_nil Hp.set_same forall_const implies_true List.not_mem_nil false_implies Bool.true_eq_false Bool.false_eq_true resK_nil resK_tmp resK_cell resK_more resL_nil resL_tmp resL_cell Option.bind_some ex_some true_implies setL List.replicate List.all_cons List.all_nil Bool.and_true Bool.true_and Bool.and_self IntKind.bits splice List.length_append List.drop_succ_cons List.take_succ_cons List.take_zero List.getElem?_cons_succ List.getElem?_nil List.set_cons_zero List.set_cons_succ List.cons_append List.nil_append List.append_nil Nat.zero_add Nat.add_zero decide_true decide_false Bool.not_true Bool.not_false ne_eq not_true_eq_false not_false_eq_true
attribute [go_sem ↓] Env.upd_apply
theorem bstr_lst {h : Hp} {bs : List UInt8} : bstrA h (.lst (bs.map eb)) = some (.str bs) := Bts.bstr (Els.lst (eb_one _))
theorem iaA_go {s b off len c : Nat} {k : IntKind} {n : Int} (h1 : 0 ≤ n) (h2 : n < len) : iaA s (.arr b s off len c) (.int k n) = some (.ptr b s (off + n.toNat) 0) := by
  simp [iaA, h1, h2]
attribute [go_sem] eq_self Int.cast_ofNat_Int List.length_map bstr_lst wrap_i64_go beq_self_eq_true bne_self_eq_false Hp.set_set fillA boxR iapA ixaA
attribute [go_sem high] iaA_go Int.toNat_natCast
end Go.Hz
/- Slices of one's own: made, copied into. -/
set_option linter.unusedVariables false
set_option linter.unusedSimpArgs false
namespace Go.Hz
section
variable {P : Program} {st : List Fr} {e : Env} {k : Kt} {d : Option Nat} {r : List (AItem × List AItem)} {h : Hp} {F : List Asr}

/-- make of so many elements. -/
theorem msl_use {s bytes n : Nat} {zs : List AV} {k1 k2 : IntKind} (hs : sat h F) (hn : n ≤ 140737488355328) (hb : n * bytes ≤ 140737488355328)
    (hk : ∀ b h', sat h' (pto b (.row s (List.replicate n zs) n) :: F) → runS P r st (e.put d (.arr b s 0 n n)) h' k) :
    mslR P (mslA s bytes zs (.int k1 n) (.int k2 n)) d r st e h k := by
  have e1 : mslA s bytes zs (.int k1 (n : Int)) (.int k2 (n : Int)) = some (.inr (.row s (List.replicate n zs) n, fun b => .arr b s 0 n n)) := by
    simp only [mslA]
    rw [if_pos ⟨by omega, by omega, by omega, by
      have : ((n * bytes : Nat) : Int) = (n : Int) * (bytes : Int) := by push_cast; rfl
      omega⟩]
    simp
  rw [e1]
  exact msl_inr.2 fun b hb => hk b _ (hs.new hb)

/-- copy into a row of one's own. -/
theorem cp_use {s b off len cap rc n : Nat} {es ys : List (List AV)} {src : AV} (hs : sat h (pto b (.row s es rc) :: F)) (h1 : off ≤ es.length) (h2 : off + len ≤ rc) (h3 : len ≤ cap) (hl : lenN src = some n)
    (hy : srcN s h src (min n len) = some ys) (ha : AtomsL ys)
    (hk : ∀ h', sat h' (pto b (.row s (es.take off ++ ys ++ es.drop (off + min n len)) rc) :: F) → runS P r st (e.put d (.int .i64 (min n len : Nat))) h' k) :
    effR P (cpE s (.arr b s off len cap) src h) [] d r st e k := by
  refine ⟨n, len, ys, hl, rfl, hy, ha, ?_⟩
  have hb := hs.at
  simp only [hb]
  exact ⟨trivial, trivial, h1, h2, h3, fun _ hm => by simp at hm, hk _ hs.set⟩

theorem slcM_go {s b off len cap : Nat} {k1 k2 k3 : IntKind} {x y z : Int} (h0 : 0 ≤ x) (h1 : x ≤ y) (h2 : y ≤ z) (h3 : z ≤ cap) :
    slcM s (.arr b s off len cap) (some (.int k1 x)) (.int k2 y) (.int k3 z) = some (.arr b s (off + x.toNat) (y.toNat - x.toNat) (z.toNat - x.toNat)) := by
  simp only [slcM, boundA]
  rw [if_pos h0, if_pos (Int.le_trans h0 h1), if_pos (Int.le_trans h0 (Int.le_trans h1 h2))]
  dsimp only
  rw [if_pos ⟨by omega, by omega, by omega, trivial⟩]
theorem slcL_hi {s b off len cap : Nat} {k2 : IntKind} {y : Int} (h1 : 0 ≤ y) (h2 : y ≤ cap) (hl : len ≤ cap) :
    slcL s (.arr b s off len cap) none (some (.int k2 y)) = some (.arr b s off y.toNat cap) := by
  simp only [slcL, boundA]
  rw [if_pos h1]
  dsimp only
  rw [if_pos ⟨by omega, by omega, hl, trivial⟩]
  simp
theorem slcL_lo {s b off len cap : Nat} {k1 : IntKind} {x : Int} (h0 : 0 ≤ x) (h1 : x ≤ len) (hl : len ≤ cap) :
    slcL s (.arr b s off len cap) (some (.int k1 x)) none = some (.arr b s (off + x.toNat) (len - x.toNat) (cap - x.toNat)) := by
  simp only [slcL, boundA]
  rw [if_pos h0]
  dsimp only
  rw [if_pos ⟨by omega, hl, hl, trivial⟩]
theorem slcL_lohi {s b off len cap : Nat} {k1 k2 : IntKind} {x y : Int} (h0 : 0 ≤ x) (h1 : x ≤ y) (h2 : y ≤ cap) (hl : len ≤ cap) :
    slcL s (.arr b s off len cap) (some (.int k1 x)) (some (.int k2 y)) = some (.arr b s (off + x.toNat) (y.toNat - x.toNat) (cap - x.toNat)) := by
  simp only [slcL, boundA]
  rw [if_pos h0, if_pos (Int.le_trans h0 h1)]
  dsimp only
  rw [if_pos ⟨by omega, by omega, hl, trivial⟩]

/-- append of the end of a slice to its front. -/
theorem app_del {s bytes b i j n cap c2 : Nat} {es : List (List AV)} (hs : sat h (pto b (.row s es cap) :: F)) (hn : n = es.length) (hi : i ≤ j) (hj : j ≤ n) (hc : n ≤ cap) (ha : AtomsL es) (hb : n * bytes ≤ 70368744177664)
    (hk : ∀ h', sat h' (pto b (.row s (es.take i ++ es.drop j) cap) :: F) → runS P r st (e.put d (.arr b s 0 (i + (n - j)) cap)) h' k) :
    effR P (appE s bytes (.arr b s 0 i cap) (.arr b s j (n - j) c2) h) [] d r st e k := by
  subst hn
  have hbb := hs.at
  have hl : (es.drop j).length = es.length - j := by simp
  have hsrc : srcA s h (.arr b s j (es.length - j) c2) = some (es.drop j) := by
    simp only [srcA, hbb]
    rw [if_pos ⟨trivial, trivial, by omega⟩]
    rw [List.take_of_length_le (by omega)]
  refine ⟨es.drop j, hsrc, fun e he => ha e (List.mem_of_mem_drop he), ?_⟩
  simp only [hbb]
  refine ⟨trivial, trivial, trivial, by omega, trivial, ?_, fun m c hm hcc hf => ?_⟩
  · refine Nat.le_trans (Nat.mul_le_mul_right _ ?_) hb
    omega
  · obtain ⟨rfl, rfl⟩ := hf (by omega)
    have := (hs.del).new (o := .row s (es.take i ++ es.drop j) c) hm
    rw [hl]
    exact ⟨fun _ hm => by simp at hm, hk _ this⟩

/-- clear. -/
theorem clr_use {s b off len cap rc : Nat} {zs : List AV} {es : List (List AV)} (hs : sat h (pto b (.row s es rc) :: F)) (h1 : off ≤ es.length) (h2 : off + len ≤ rc)
    (hk : ∀ h', sat h' (pto b (.row s (es.take off ++ List.replicate len zs ++ es.drop (off + len)) rc) :: F) → runS P r st (e.put d (.tup [])) h' k) :
    effR P (clrE s zs (.arr b s off len cap) h) [] d r st e k := by
  unfold effR clrE
  dsimp only
  split
  · rename_i h0
    subst h0
    have := hk h (by simpa using hs)
    exact ⟨fun _ hm => by simp at hm, this⟩
  · have hbb := hs.at
    simp only [hbb]
    exact ⟨trivial, trivial, h1, h2, fun _ hm => by simp at hm, hk _ hs.set⟩

/-- A row of which less is said. -/
theorem Rel.rowvi {fz : Nat → Prop} {w : World} {b s cap : Nat} {es es' : List (List AV)} (hr : Rel fz h w) (hb : h b = some (.row s es cap)) (hl : es.length = es'.length) (hv : ∀ i (h1 : i < es.length) (h2 : i < es'.length), VIs es[i] es'[i]) :
    Rel fz (h.set b (.row s es' cap)) w := by
  refine ⟨hr.lt, fun x o hx => ?_⟩
  by_cases hxb : x = b
  · subst hxb
    rw [Hp.set_same] at hx
    cases hx
    obtain ⟨hnf, c, hw, ho⟩ := hr.own x _ hb
    cases ho with
    | row _ _ _ c T fr hcap hs hcs hsoft hel =>
      refine ⟨hnf, _, hw, .row _ _ _ _ _ _ (by omega) (fun i hi => ?_) hcs hsoft fun i h1 k h2 h3 => ?_⟩
      · rw [← (hv i (by omega) hi).get.1]; exact hs i (by omega)
      · have g := (hv i (by omega) h1).get
        exact g.2 k (by rw [g.1]; exact h2) h2 _ _ _ (hel i (by omega) k (by rw [g.1]; exact h2) h3)
  · rw [Hp.set_ne _ _ hxb] at hx
    exact hr.own x o hx
theorem Triple.rowvi {f : Nat} {args : List AV} {post : AV → Hp → Prop} {b s cap : Nat} {es es' : List (List AV)} (hb : h b = some (.row s es cap)) (hl : es.length = es'.length) (hv : ∀ i (h1 : i < es.length) (h2 : i < es'.length), VIs es[i] es'[i])
    (t : Triple P f args (h.set b (.row s es' cap)) post) : Triple P f args h post := fun fz w cargs r a =>
  (t fz w cargs (r.rowvi hb hl hv) a).mono fun _ w' ⟨cv, x, h', fz', e1, e2, e3, e4, p⟩ => by
    refine ⟨cv, x, h', fz', e1, e2, e3, ⟨e4.os, e4.tape, e4.output, e4.size, e4.grow, fun y hy hn => ?_, fun y hy => ?_⟩, p⟩
    · refine e4.keep y hy ?_
      have : y ≠ b := fun hh => by rw [hh, hb] at hn; cases hn
      rw [Hp.set_ne _ _ this]; exact hn
    · rcases e4.new y hy with g | ⟨o, g⟩ | g
      · exact .inl g
      · by_cases hyb : y = b
        · subst hyb; exact .inr (.inl ⟨_, hb⟩)
        · rw [Hp.set_ne _ _ hyb] at g; exact .inr (.inl ⟨o, g⟩)
      · exact .inr (.inr g)

/-- A part of a row. -/
theorem src_part {s b off len c rc : Nat} {es : List (List AV)} (hs : sat h (pto b (.row s es rc) :: F)) (h1 : off + len ≤ es.length) : srcA s h (.arr b s off len c) = some ((es.drop off).take len) := by
  have hb := hs.at
  simp only [srcA, hb]
  rw [if_pos ⟨trivial, trivial, h1⟩]

/-- append to a slice of one's own, where a load has to stand. -/
theorem app_satO {s bytes : Nat} {v y : AV} {es ys : List (List AV)} {obl : List AItem}
    (hs : sat h (Ow s v es :: F)) (hy : srcA s h y = some ys) (ha : AtomsL ys)
    (hb : (es.length + ys.length) * bytes ≤ 70368744177664) (hk : ∀ v' h', sat h' (Ow s v' (es ++ ys) :: F) → v'.cells = [v'] → v'.isAtom = true → obls P obl (e.put d v') h' ∧ runS P r st (e.put d v') h' k) :
    effR P (appE s bytes v y h) obl d r st e k := by
  refine ⟨ys, hy, ha, ?_⟩
  rcases hs.cases with ⟨rfl, rfl, g⟩ | ⟨b, cap, rfl, g, hle⟩
  · refine ⟨fun h0 => ?_, fun h0 => ⟨by simpa using hb, fun n c hn hc => ?_⟩⟩
    · have := g.add (A := Ow s .nils ([] ++ ys)) (.inl ⟨rfl, by simp [h0]⟩)
      exact hk _ _ this this.els.cells this.els.atom
    · have := (g.new (o := .row s ys c) hn).ow hc
      have t : sat (h.set n (.row s ys c)) (Ow s (.arr n s 0 ys.length c) ([] ++ ys) :: F) := by simpa using this
      exact hk _ _ t t.els.cells t.els.atom
  · have hbb := g.at
    simp only [hbb]
    refine ⟨trivial, trivial, trivial, Nat.le_refl _, trivial, hb, fun n c hn hc _ => ?_⟩
    rw [List.take_length]
    have := ((g.del).new (o := .row s (es ++ ys) c) hn).ow (by simpa using hc)
    have t : sat ((h.del b).set n (.row s (es ++ ys) c)) (Ow s (.arr n s 0 (es.length + ys.length) c) (es ++ ys) :: F) := by simpa using this
    exact hk _ _ t t.els.cells t.els.atom
end
end Go.Hz
/- Keys in order; lists that are woven; parts of a heap in another order; slices.Insert's steps. -/
set_option linter.unusedVariables false
set_option linter.unusedSimpArgs false
namespace Go.Hz
section
variable {h : Hp} {l l' F : List Asr} {A B : Asr}
theorem sat.perm (p : l.Perm l') : ∀ {h : Hp}, sat h l → sat h l' := by
  induction p with
  | nil => exact fun hs => hs
  | cons A _ ih => exact fun hs => hs.tl fun _ g => ih g
  | swap A B l => exact fun hs => hs.swap
  | trans _ _ ih1 ih2 => exact fun hs => ih2 (ih1 hs)
theorem sat.mid {l1 l2 : List Asr} (hs : sat h (l1 ++ A :: l2)) : sat h (A :: (l1 ++ l2)) := hs.perm List.perm_middle
theorem sat.unmid {l1 l2 : List Asr} (hs : sat h (A :: (l1 ++ l2))) : sat h (l1 ++ A :: l2) := hs.perm List.perm_middle.symm
theorem sat.comm {l1 l2 : List Asr} (hs : sat h (l1 ++ l2)) : sat h (l2 ++ l1) := hs.perm List.perm_append_comm
theorem sat.left {l1 l2 : List Asr} (hs : sat h (l1 ++ l2)) : sat h l1 := by
  induction l1 generalizing h with
  | nil => trivial
  | cons A l1 ih => exact hs.tl fun _ g => ih g
theorem sat.right {l1 l2 : List Asr} (hs : sat h (l1 ++ l2)) : sat h l2 := hs.comm.left
end

/-! ### keys -/
abbrev Key := List UInt8
def ltK (a b : Key) : Bool := Op.bytesLess a b
theorem ltK_nn : ltK [] [] = false := rfl
theorem ltK_irrefl : ∀ a : Key, ltK a a = false
  | [] => rfl
  | x :: a => by
    have := ltK_irrefl a
    simp only [ltK, Op.bytesLess] at this ⊢
    simp [this]
theorem ltK_eq : ∀ (x y : Key), ltK x y = decide (x < y)
  | [], [] => by simp [ltK, Op.bytesLess]
  | [], y :: ys => by simp [ltK, Op.bytesLess]
  | x :: xs, [] => by simp [ltK, Op.bytesLess]
  | x :: xs, y :: ys => by
    have ih := ltK_eq xs ys
    simp only [ltK] at ih
    simp only [ltK, Op.bytesLess, ih]
    by_cases h1 : x < y
    · simp [h1, List.cons_lt_cons_iff]
    · by_cases h2 : x = y
      · subst h2; simp [List.cons_lt_cons_iff]
      · simp [h1, h2, List.cons_lt_cons_iff]
theorem ltK_lt {a b : Key} : ltK a b = true ↔ a < b := by rw [ltK_eq]; simp
theorem ltK_ge {a b : Key} : ltK a b = false ↔ ¬ a < b := by rw [ltK_eq]; simp
theorem ltK_trans {a b c : Key} (h1 : ltK a b = true) (h2 : ltK b c = true) : ltK a c = true := ltK_lt.2 (List.lt_trans (ltK_lt.1 h1) (ltK_lt.1 h2))
theorem ltK_asymm {a b : Key} (h1 : ltK a b = true) : ltK b a = false := by
  cases h : ltK b a with
  | false => rfl
  | true => have := ltK_trans h1 h; rw [ltK_irrefl] at this; cases this
theorem ltK_total {a b : Key} (h1 : ltK a b = false) (h2 : ltK b a = false) : a = b := by
  have h1 := ltK_ge.1 h1
  have h2 := ltK_ge.1 h2
  exact List.le_antisymm (List.not_lt.1 h2) (List.not_lt.1 h1)
theorem ltK_lt_of_lt_of_ge {a b c : Key} (h1 : ltK a b = true) (h2 : ltK c b = false) : ltK a c = true := by
  by_cases h : ltK b c = true
  · exact ltK_trans h1 h
  · have := ltK_total (by simpa using h) h2
    subst this; exact h1
theorem ltK_ge_trans {a b c : Key} (h1 : ltK b a = false) (h2 : ltK b c = true) : ltK a c = true := by
  by_cases h : ltK a b = true
  · exact ltK_trans h h2
  · have := ltK_total (by simpa using h) h1
    subst this; exact h2

/-- An item as a node has it: where it lies, its key. -/
abbrev Kp := Nat × Key
def kpt (x : Kp) : List AV := [.ptr x.1 2 0 0]
def Srt (l : List Kp) : Prop := l.Pairwise fun x y => ltK x.2 y.2 = true
theorem Srt.app {l1 l2 : List Kp} : Srt (l1 ++ l2) ↔ Srt l1 ∧ Srt l2 ∧ ∀ x ∈ l1, ∀ y ∈ l2, ltK x.2 y.2 = true := List.pairwise_append

/-- An item among others, by its key. -/
def insK (x : Kp) (l : List Kp) : List Kp := l.takeWhile (fun y => ltK y.2 x.2) ++ x :: l.dropWhile (fun y => ltK y.2 x.2)
def findKp (k : Key) (l : List Kp) : Option Kp := l.find? fun y => y.2 == k
theorem takeWhile_all {α : Type} {p : α → Bool} {A l : List α} (h : ∀ x ∈ A, p x = true) : (A ++ l).takeWhile p = A ++ l.takeWhile p := by
  induction A with
  | nil => rfl
  | cons x A ih => simp [h x (by simp), ih fun y hy => h y (by simp [hy])]
theorem dropWhile_all {α : Type} {p : α → Bool} {A l : List α} (h : ∀ x ∈ A, p x = true) : (A ++ l).dropWhile p = l.dropWhile p := by
  induction A with
  | nil => rfl
  | cons x A ih => simp [h x (by simp), ih fun y hy => h y (by simp [hy])]
theorem takeWhile_stop {α : Type} {p : α → Bool} {M C : List α} (h : ∀ x ∈ C.head?, p x = false) : (M ++ C).takeWhile p = M.takeWhile p := by
  induction M with
  | nil => cases C with
    | nil => rfl
    | cons x C => simp [h x (by simp)]
  | cons x M ih => simp only [List.cons_append, List.takeWhile_cons, ih]
theorem dropWhile_stop {α : Type} {p : α → Bool} {M C : List α} (h : ∀ x ∈ C.head?, p x = false) : (M ++ C).dropWhile p = M.dropWhile p ++ C := by
  induction M with
  | nil => cases C with
    | nil => rfl
    | cons x C => simp [h x (by simp)]
  | cons x M ih => simp only [List.cons_append, List.dropWhile_cons, ih]; split <;> rfl
theorem insK_mid {x : Kp} {A M C : List Kp} (h1 : ∀ y ∈ A, ltK y.2 x.2 = true) (h2 : ∀ y ∈ C.head?, ltK y.2 x.2 = false) : insK x (A ++ M ++ C) = A ++ insK x M ++ C := by
  unfold insK
  rw [List.append_assoc, takeWhile_all h1, dropWhile_all h1, takeWhile_stop h2, dropWhile_stop h2]
  simp
theorem insK_split {x : Kp} {A C : List Kp} (h1 : ∀ y ∈ A, ltK y.2 x.2 = true) (h2 : ∀ y ∈ C.head?, ltK y.2 x.2 = false) : insK x (A ++ C) = A ++ x :: C := by
  have := insK_mid (M := []) h1 h2
  simpa [insK] using this
theorem insK_mem {x y : Kp} {l : List Kp} : y ∈ insK x l ↔ y = x ∨ y ∈ l := by
  unfold insK
  have : l.takeWhile (fun y => ltK y.2 x.2) ++ l.dropWhile (fun y => ltK y.2 x.2) = l := List.takeWhile_append_dropWhile
  constructor
  · intro h
    simp only [List.mem_append, List.mem_cons] at h
    rcases h with h | h | h
    · right; rw [← this]; exact List.mem_append_left _ h
    · exact .inl h
    · right; rw [← this]; exact List.mem_append_right _ h
  · rintro (h | h)
    · simp [h]
    · rw [← this] at h
      simp only [List.mem_append, List.mem_cons] at h ⊢
      rcases h with h | h
      · exact .inl h
      · exact .inr (.inr h)
theorem insK_perm {x : Kp} {l : List Kp} : (insK x l).Perm (x :: l) := by
  unfold insK
  refine List.perm_middle.trans ?_
  rw [List.takeWhile_append_dropWhile]
theorem insK_len {x : Kp} {l : List Kp} : (insK x l).length = l.length + 1 := by
  have : l.takeWhile (fun y => ltK y.2 x.2) ++ l.dropWhile (fun y => ltK y.2 x.2) = l := List.takeWhile_append_dropWhile
  unfold insK
  have h2 := congrArg List.length this
  simp only [List.length_append, List.length_cons] at h2 ⊢
  omega
/-- What lies ahead of a place and behind it, in order. -/
theorem Srt.cut {l : List Kp} (hs : Srt l) (k : Key) : ∃ A C, l = A ++ C ∧ (∀ y ∈ A, ltK y.2 k = true) ∧ (∀ y ∈ C, ltK y.2 k = false) := by
  refine ⟨l.takeWhile (fun y => ltK y.2 k), l.dropWhile (fun y => ltK y.2 k), List.takeWhile_append_dropWhile.symm, fun y hy => (List.all_takeWhile (p := fun y : Kp => ltK y.2 k) (l := l) |> fun h => List.all_eq_true.1 h y hy), ?_⟩
  induction l with
  | nil => intro y hy; simp at hy
  | cons x l ih =>
    have h1 := List.pairwise_cons.1 hs
    intro y hy
    simp only [List.dropWhile_cons] at hy
    split at hy
    · exact ih h1.2 y hy
    · rename_i hx
      rcases List.mem_cons.1 hy with rfl | hy
      · simpa using hx
      · cases hyk : ltK y.2 k with
        | false => rfl
        | true => exact absurd (ltK_trans (h1.1 y hy) hyk) (by simpa using hx)
theorem Srt.ins {x : Kp} {l : List Kp} (hs : Srt l) (hx : ∀ y ∈ l, y.2 ≠ x.2) : Srt (insK x l) := by
  obtain ⟨A, C, rfl, h1, h2⟩ := hs.cut x.2
  rw [insK_split h1 fun y hy => h2 y (List.mem_of_mem_head? hy)]
  obtain ⟨a, b, c⟩ := Srt.app.1 hs
  refine Srt.app.2 ⟨a, List.pairwise_cons.2 ⟨fun y hy => ?_, b⟩, fun y hy z hz => ?_⟩
  · cases h : ltK x.2 y.2 with
    | true => rfl
    | false => exact absurd (ltK_total (h2 y hy) h) (hx y (by simp [hy]))
  · rcases List.mem_cons.1 hz with rfl | hz
    · exact h1 y hy
    · exact c y hy z hz

/-! ### lists woven with what lies between -/
def weave {α : Type} : List (List α) → List α → List α
  | [], is => is
  | l :: ls, [] => l ++ ls.flatten
  | l :: ls, i :: is => l ++ i :: weave ls is
theorem weave_cut {α : Type} : ∀ (ls1 ls2 : List (List α)) (is1 is2 : List α) (m : α), ls1.length = is1.length + 1 → weave (ls1 ++ ls2) (is1 ++ m :: is2) = weave ls1 is1 ++ m :: weave ls2 is2
  | [], _, _, _, _, h => by simp at h
  | [l], ls2, [], is2, m, _ => by simp [weave]
  | l :: l' :: ls, _, [], _, _, h => by simp at h
  | l :: ls1, ls2, i :: is1, is2, m, h => by
    have := weave_cut ls1 ls2 is1 is2 m (by simpa using h)
    simp [weave, this]
theorem weave_split {α : Type} : ∀ (ls : List (List α)) (is : List α) (j : Nat), ls.length = is.length + 1 → (hj : j ≤ is.length) →
    ∃ A C, weave ls is = A ++ ls.getD j [] ++ C ∧ (∀ m, weave (ls.set j m) is = A ++ m ++ C) ∧ (∀ m1 x m2, weave (ls.take j ++ m1 :: m2 :: ls.drop (j + 1)) (is.take j ++ x :: is.drop j) = A ++ m1 ++ x :: m2 ++ C) ∧
      (j = 0 ∧ A = [] ∨ 0 < j ∧ ∃ y, A.getLast? = some y ∧ is[j - 1]? = some y) ∧ C.head? = is[j]?
  | [], _, _, h, _ => by simp at h
  | l :: ls, [], j, h, hj => by
    have h0 : ls = [] := by simpa using h
    have h1 : j = 0 := by simpa using hj
    subst h0; subst h1
    exact ⟨[], [], by simp [weave], fun m => by simp [weave], fun m1 x m2 => by simp [weave], by simp, by simp⟩
  | l :: ls, i :: is, 0, h, _ => by
    refine ⟨[], i :: weave ls is, by simp [weave], fun m => by simp [weave], fun m1 x m2 => by simp [weave], by simp, by simp⟩
  | l :: ls, i :: is, j + 1, h, hj => by
    obtain ⟨A, C, h1, h2, h3, h4, h5⟩ := weave_split ls is j (by simpa using h) (by simpa using hj)
    refine ⟨l ++ i :: A, C, by simp [weave, h1], fun m => by simp [weave, h2], fun m1 x m2 => by simp [weave, h3], .inr ⟨Nat.succ_pos _, ?_⟩, by simpa using h5⟩
    rw [Nat.add_sub_cancel]
    rcases h4 with ⟨rfl, rfl⟩ | ⟨h4, y, g1, g2⟩
    · exact ⟨i, by simp, by simp⟩
    · obtain ⟨j', rfl⟩ : ∃ j', j = j' + 1 := ⟨j - 1, by omega⟩
      exact ⟨y, by simp [List.getLast?_cons, g1], by simpa using g2⟩

/-! ### slices.Insert's steps -/
section
variable {P : Program} {st : List Fr} {e : Env} {k : Kt} {d : Option Nat} {r : List (AItem × List AItem)} {h : Hp} {F : List Asr}
theorem appz_use {s bytes b i m cap rc : Nat} {ki : IntKind} {zs : List AV} {es : List (List AV)} (hs : sat h (pto b (.row s es rc) :: F)) (h1 : i ≤ es.length) (h2 : cap < i + m) (h3 : (i + m) * bytes ≤ 70368744177664)
    (hk : ∀ b2 c h', i + m ≤ c → sat h' (pto b2 (.row s (es.take i ++ List.replicate m zs) c) :: pto b (.row s es rc) :: F) → runS P r st (e.put d (.arr b2 s 0 (i + m) c)) h' k) :
    effR P (appzE s bytes zs (.arr b s 0 i cap) (.int ki m) h) [] d r st e k := by
  refine ⟨by omega, ?_⟩
  have hb := hs.at
  simp only [hb, Int.toNat_natCast]
  exact ⟨trivial, trivial, trivial, h1, h2, h3, fun n c hn hc => ⟨fun _ hm => by simp at hm, hk n c _ hc (hs.new hn)⟩⟩
theorem ovl_use {s b b2 off len cap off2 len2 cap2 rc rc2 : Nat} {es es2 : List (List AV)} (hs : sat h (pto b (.row s es rc) :: pto b2 (.row s es2 rc2) :: F)) (h1 : off + len ≤ rc) (h2 : 0 < len) (h3 : 0 < len2)
    (hk : ∀ q : Bool, runS P r st (e.put d (.bool q)) h k) : effR P (ovlE s (.arr b s off len cap) (.arr b2 s off2 len2 cap2) h) [] d r st e k := by
  refine ⟨hs.ne, ?_, ?_, h2, h3, ⟨fun _ hm => by simp at hm, hk false⟩, ⟨fun _ hm => by simp at hm, hk true⟩⟩
  · have hb := hs.at
    simp only [hb]
    exact ⟨trivial, trivial, h1⟩
  · have hb := hs.p1.at
    simp only [hb]
/-- A part of a row, the first elements of it. -/
theorem srcN_part {s b off len c rc n : Nat} {es : List (List AV)} (hs : sat h (pto b (.row s es rc) :: F)) (h0 : n ≤ len) (h1 : off + n ≤ es.length) : srcN s h (.arr b s off len c) n = some ((es.drop off).take n) := by
  have hb := hs.at
  simp only [srcN, hb]
  rw [if_pos ⟨trivial, trivial, h0, h1⟩]
end
theorem AtomsL.take {es : List (List AV)} {n : Nat} (h : AtomsL es) : AtomsL (es.take n) := fun e he => h e (List.mem_of_mem_take he)
theorem AtomsL.drop {es : List (List AV)} {n : Nat} (h : AtomsL es) : AtomsL (es.drop n) := fun e he => h e (List.mem_of_mem_drop he)
theorem AtomsL.app {es es2 : List (List AV)} (h : AtomsL es) (h2 : AtomsL es2) : AtomsL (es ++ es2) := fun e he => (List.mem_append.1 he).elim (h e) (h2 e)
/-- A row of pointers. -/
def pt (p : Nat) : List AV := [.ptr p 2 0 0]
theorem atoms_kpt (l : List Kp) : AtomsL (l.map kpt) := by
  intro e he v hv
  obtain ⟨k, _, rfl⟩ := List.mem_map.1 he
  simp only [kpt, List.mem_cons, List.not_mem_nil, or_false] at hv
  subst hv; rfl

/-! ### what 'place' tells -/
/-- What 'place' tells of a key among items. -/
structure PlaceR (is : List Kp) (key : Key) (j : Nat) (q : Bool) : Prop where
  le : j ≤ is.length
  lo : ∀ i x, is[i]? = some x → i < j → ltK x.2 key = true
  hi : ∀ i x, is[i]? = some x → j ≤ i → ltK x.2 key = false
  yes : q = true → ∃ a, is[j]? = some (a, key)
  no : q = false → ∀ x, is[j]? = some x → ltK key x.2 = true
theorem Srt.le_last {A : List Kp} {y : Kp} {k : Key} (hs : Srt A) (hl : A.getLast? = some y) (hy : ltK y.2 k = true) : ∀ z ∈ A, ltK z.2 k = true := by
  intro z hz
  have hne : A ≠ [] := fun h => by subst h; cases hz
  have e : A.dropLast ++ [y] = A := by
    have := List.dropLast_concat_getLast hne
    rw [List.getLast?_eq_some_getLast hne] at hl
    cases hl; exact this
  rw [← e] at hz hs
  rcases List.mem_append.1 hz with h | h
  · exact ltK_trans ((Srt.app.1 hs).2.2 z h y (by simp)) hy
  · simp at h; subst h; exact hy
theorem Srt.ge_head {C : List Kp} {k : Key} (hs : Srt C) (hy : ∀ y ∈ C.head?, ltK y.2 k = false) : ∀ z ∈ C, ltK z.2 k = false := by
  cases C with
  | nil => intro z hz; cases hz
  | cons c C =>
    have h0 := hy c (by simp)
    intro z hz
    rcases List.mem_cons.1 hz with rfl | hz
    · exact h0
    · have := (List.pairwise_cons.1 hs).1 z hz
      cases h : ltK z.2 k with
      | false => rfl
      | true => rw [ltK_trans this h] at h0; cases h0
theorem Srt.gt_head {C : List Kp} {k : Key} (hs : Srt C) (hy : ∀ y ∈ C.head?, ltK k y.2 = true) : ∀ z ∈ C, ltK k z.2 = true := by
  cases C with
  | nil => intro z hz; cases hz
  | cons c C =>
    have h0 := hy c (by simp)
    intro z hz
    rcases List.mem_cons.1 hz with rfl | hz
    · exact h0
    · exact ltK_trans h0 ((List.pairwise_cons.1 hs).1 z hz)
theorem PlaceR.cut {ls : List (List Kp)} {is : List Kp} {key : Key} {j : Nat} {q : Bool} (hp : PlaceR is key j q) (hl : ls.length = is.length + 1) (hs : Srt (weave ls is)) :
    ∃ A C, weave ls is = A ++ ls.getD j [] ++ C ∧ (∀ m, weave (ls.set j m) is = A ++ m ++ C) ∧ (∀ m1 x m2, weave (ls.take j ++ m1 :: m2 :: ls.drop (j + 1)) (is.take j ++ x :: is.drop j) = A ++ m1 ++ x :: m2 ++ C) ∧
      (∀ y ∈ A, ltK y.2 key = true) ∧ (∀ y ∈ C, ltK y.2 key = false) ∧ (q = false → ∀ y ∈ C, ltK key y.2 = true) ∧ C.head? = is[j]? := by
  obtain ⟨A, C, h1, h2, h3, h4, h5⟩ := weave_split ls is j hl hp.le
  rw [h1] at hs
  have sA := (Srt.app.1 (Srt.app.1 hs).1).1
  have sC := (Srt.app.1 hs).2.1
  refine ⟨A, C, h1, h2, h3, ?_, sC.ge_head fun y hy => hp.hi j y (by rw [← h5]; exact hy) (Nat.le_refl _), fun hq => sC.gt_head fun y hy => hp.no hq y (by rw [← h5]; exact hy), h5⟩
  rcases h4 with ⟨_, rfl⟩ | ⟨hj, y, g1, g2⟩
  · intro y hy; cases hy
  · exact sA.le_last g1 (hp.lo (j - 1) y g2 (by omega))

theorem findKp_mem {l : List Kp} {x : Kp} (hs : Srt l) (hx : x ∈ l) : findKp x.2 l = some x := by
  induction l with
  | nil => cases hx
  | cons y l ih =>
    have h1 := List.pairwise_cons.1 hs
    unfold findKp
    rw [List.find?_cons]
    rcases List.mem_cons.1 hx with rfl | hx
    · simp
    · have := h1.1 x hx
      have hne : (y.2 == x.2) = false := by
        rw [beq_eq_false_iff_ne]; intro h; rw [h, ltK_irrefl] at this; cases this
      rw [hne]; exact ih h1.2 hx
theorem findKp_none {l : List Kp} {k : Key} (h : ∀ x ∈ l, x.2 ≠ k) : findKp k l = none := List.find?_eq_none.2 fun x hx => by simpa using h x hx
theorem findKp_mid {A M C : List Kp} {k : Key} (h1 : ∀ y ∈ A, ltK y.2 k = true) (h2 : ∀ y ∈ C, ltK k y.2 = true) : findKp k (A ++ M ++ C) = findKp k M := by
  have hA : findKp k A = none := findKp_none fun x hx h => by have := h1 x hx; rw [h, ltK_irrefl] at this; cases this
  have hC : findKp k C = none := findKp_none fun x hx h => by have := h2 x hx; rw [h, ltK_irrefl] at this; cases this
  unfold findKp at *
  rw [List.find?_append, List.find?_append, hA, hC]
  simp
theorem mem_weave {α : Type} {x : α} : ∀ (ls : List (List α)) (is : List α), x ∈ is → x ∈ weave ls is
  | [], is, h => h
  | l :: ls, [], h => by cases h
  | l :: ls, i :: is, h => by
    rcases List.mem_cons.1 h with rfl | h
    · simp [weave]
    · simp [weave, mem_weave ls is h]
theorem mem_weave2 {α : Type} {x : α} : ∀ (ls : List (List α)) (is : List α) (l : List α), ls.length = is.length + 1 → l ∈ ls → x ∈ l → x ∈ weave ls is
  | [], is, l, h, h2, _ => by cases h2
  | l' :: ls, [], l, h, h2, h3 => by
    have : ls = [] := by simpa using h
    subst this
    simp at h2; subst h2; simpa [weave] using h3
  | l' :: ls, i :: is, l, h, h2, h3 => by
    rcases List.mem_cons.1 h2 with rfl | h2
    · simp [weave, h3]
    · simp [weave, mem_weave2 ls is l (by simpa using h) h2 h3]
theorem weave_srt : ∀ (ls : List (List Kp)) (is : List Kp), Srt (weave ls is) → Srt is
  | [], is, h => h
  | l :: ls, [], _ => List.Pairwise.nil
  | l :: ls, i :: is, h => by
    have h1 := (Srt.app.1 h).2.1
    have h2 := List.pairwise_cons.1 h1
    exact List.pairwise_cons.2 ⟨fun y hy => h2.1 y (mem_weave ls is hy), weave_srt ls is h2.2⟩
theorem weave_len {α : Type} : ∀ (ls : List (List α)) (is : List α), ls.length = is.length + 1 → (weave ls is).length = (ls.map List.length).sum + is.length
  | [], is, h => by simp at h
  | l :: ls, [], h => by
    have : ls = [] := by simpa using h
    subst this; simp [weave]
  | l :: ls, i :: is, h => by
    have := weave_len ls is (by simpa using h)
    simp [weave, this]; omega

/-! ### the tree as it lies -/
inductive Tr where
  | nd (p : Nat) (iv kv : AV) (is : List Kp) (ks : List Tr)
def Tr.root : Tr → Nat
  | .nd p _ _ _ _ => p
mutual
def Tr.flat : Tr → List Kp
  | .nd _ _ _ is ks => weave (Tr.flats ks) is
def Tr.flats : List Tr → List (List Kp)
  | [] => []
  | k :: ks => k.flat :: Tr.flats ks
end
theorem Tr.flats_map : ∀ ks : List Tr, Tr.flats ks = ks.map Tr.flat
  | [] => by simp [Tr.flats]
  | k :: ks => by simp [Tr.flats, Tr.flats_map ks]
theorem Tr.flat_nd {p : Nat} {iv kv : AV} {is : List Kp} {ks : List Tr} : (Tr.nd p iv kv is ks).flat = weave (ks.map Tr.flat) is := by rw [Tr.flat, Tr.flats_map]
mutual
def Tr.asr : Tr → Asr
  | .nd p iv kv is ks => fun h => sat h (pto p (.row 2 [[iv, kv]] 1) :: Ow 1 iv (is.map kpt) :: Ow 1 kv (ks.map fun k => pt k.root) :: Tr.asrs ks)
def Tr.asrs : List Tr → List Asr
  | [] => []
  | k :: ks => k.asr :: Tr.asrs ks
end
theorem Tr.asrs_map : ∀ ks : List Tr, Tr.asrs ks = ks.map Tr.asr
  | [] => by simp [Tr.asrs]
  | k :: ks => by simp [Tr.asrs, Tr.asrs_map ks]
def Tr.parts (p : Nat) (iv kv : AV) (is : List Kp) (ks : List Tr) : List Asr := pto p (.row 2 [[iv, kv]] 1) :: Ow 1 iv (is.map kpt) :: Ow 1 kv (ks.map fun k => pt k.root) :: ks.map Tr.asr
theorem Tr.asr_nd {p : Nat} {iv kv : AV} {is : List Kp} {ks : List Tr} {h : Hp} : (Tr.nd p iv kv is ks).asr h ↔ sat h (Tr.parts p iv kv is ks) := by rw [Tr.asr, Tr.asrs_map]; exact Iff.rfl
theorem sat_nd {p : Nat} {iv kv : AV} {is : List Kp} {ks : List Tr} {h : Hp} {F : List Asr} : sat h ((Tr.nd p iv kv is ks).asr :: F) ↔ sat h (Tr.parts p iv kv is ks ++ F) := by
  rw [← sat_sl]
  exact ⟨fun hs => hs.imp fun _ g => Tr.asr_nd.1 g, fun hs => hs.imp fun _ g => Tr.asr_nd.2 g⟩
/-- A tree of so many storeys below its root. -/
def OKd : Nat → Tr → Prop
  | 0, .nd _ _ _ is ks => is.length ≤ 5 ∧ ks = []
  | d + 1, .nd _ _ _ is ks => 1 ≤ is.length ∧ is.length ≤ 5 ∧ ks.length = is.length + 1 ∧ ∀ k ∈ ks, OKd d k ∧ k.flat ≠ []
/-- What is read of a node. -/
structure NR (p : Nat) (iv kv : AV) (is : List Kp) (h : Hp) : Prop where
  nd : h p = some (.row 2 [[iv, kv]] 1)
  it : Ow 1 iv (is.map kpt) h
  ks : ∀ x ∈ is, ∃ mv, h x.1 = some (.row 2 [[.str x.2, mv]] 1)
/-- What is read of a tree. -/
def RT : Nat → Tr → Hp → Prop
  | 0, .nd p iv kv is ks, h => NR p iv kv is h ∧ Ow 1 kv (ks.map fun k => pt k.root) h
  | d + 1, .nd p iv kv is ks, h => NR p iv kv is h ∧ Ow 1 kv (ks.map fun k => pt k.root) h ∧ ∀ k ∈ ks, RT d k h
theorem Ow.mono {s : Nat} {v : AV} {es : List (List AV)} : Mono (Ow s v es) := fun h S o => by
  rcases o with o | ⟨b, cap, h1, h2, h3⟩
  · exact .inl o
  · exact .inr ⟨b, cap, h1, (res_some h2).2, h3⟩
theorem sat.owr {s : Nat} {v : AV} {es : List (List AV)} {h : Hp} {F : List Asr} (hs : sat h (Ow s v es :: F)) : Ow s v es h := hs.hd Ow.mono fun _ o => o
/-- The items' keys can be read. -/
def IR (l : List Kp) (h : Hp) : Prop := ∀ x ∈ l, ∃ mv, h x.1 = some (.row 2 [[.str x.2, mv]] 1)
theorem RT.of : ∀ (d : Nat) (t : Tr) {h : Hp} {F : List Asr}, OKd d t → sat h (t.asr :: F) → IR t.flat h → RT d t h
  | 0, .nd p iv kv is ks, h, F, ok, hs, hi => by
    have hs := sat_nd.1 hs
    rw [Tr.flat_nd] at hi
    exact ⟨⟨hs.at, hs.drop.owr, fun x hx => hi x (mem_weave _ _ hx)⟩, hs.drop.drop.owr⟩
  | d + 1, .nd p iv kv is ks, h, F, ok, hs, hi => by
    have hs := sat_nd.1 hs
    obtain ⟨o1, o2, o3, o4⟩ := ok
    rw [Tr.flat_nd] at hi
    refine ⟨⟨hs.at, hs.drop.owr, fun x hx => hi x (mem_weave _ _ hx)⟩, hs.drop.drop.owr, fun k hk => ?_⟩
    obtain ⟨k1, k2, rfl⟩ := List.append_of_mem hk
    have g : sat h ((k1 ++ k :: k2).map Tr.asr ++ F) := hs.drop.drop.drop
    rw [List.map_append, List.map_cons, List.append_assoc, List.cons_append] at g
    exact RT.of d k (o4 k hk).1 g.mid fun x hx => hi x (mem_weave2 _ _ k.flat (by simpa using o3) (List.mem_map_of_mem hk) hx)
theorem RT.nr {d : Nat} {p : Nat} {iv kv : AV} {is : List Kp} {ks : List Tr} {h : Hp} (r : RT d (.nd p iv kv is ks) h) : NR p iv kv is h := by
  cases d with
  | zero => exact r.1
  | succ d => exact r.1
theorem RT.kv {d : Nat} {p : Nat} {iv kv : AV} {is : List Kp} {ks : List Tr} {h : Hp} (r : RT d (.nd p iv kv is ks) h) : Ow 1 kv (ks.map fun k => pt k.root) h := by
  cases d with
  | zero => exact r.2
  | succ d => exact r.2.1
theorem Ow.len {s : Nat} {v : AV} {es : List (List AV)} {h : Hp} (o : Ow s v es h) : lenL v = some (.int .i64 es.length) := by
  rcases o with ⟨rfl, rfl⟩ | ⟨b, cap, rfl, h2, h3⟩ <;> rfl
theorem Ow.row {s : Nat} {v : AV} {es : List (List AV)} {h : Hp} (o : Ow s v es h) {i : Nat} {x : List AV} (hi : es[i]? = some x) : ∃ b cap, v = .arr b s 0 es.length cap ∧ h b = some (.row s es cap) ∧ es.length ≤ cap := by
  rcases o with ⟨rfl, rfl⟩ | ⟨b, cap, rfl, h2, h3⟩
  · simp at hi
  · exact ⟨b, cap, rfl, h2, h3⟩
section
variable {h : Hp}
theorem NR.arr {p : Nat} {iv kv : AV} {is : List Kp} (r : NR p iv kv is h) {i : Nat} {x : Kp} (hi : is[i]? = some x) : ∃ b cap, iv = .arr b 1 0 is.length cap ∧ h b = some (.row 1 (is.map kpt) cap) := by
  rcases r.it with ⟨_, h0⟩ | ⟨b, cap, h1, h2, h3⟩
  · have : is = [] := by simpa using h0
    subst this; simp at hi
  · rw [List.length_map] at h1
    exact ⟨b, cap, h1, h2⟩
theorem NR.len {p : Nat} {iv kv : AV} {is : List Kp} (r : NR p iv kv is h) : lenL iv = some (.int .i64 is.length) := by
  rcases r.it with ⟨h1, h0⟩ | ⟨b, cap, h1, h2, h3⟩
  · have : is = [] := by simpa using h0
    subst this; subst h1; rfl
  · rw [h1, List.length_map]; rfl
theorem kpt_get {is : List Kp} {i : Nat} {x : Kp} (hi : is[i]? = some x) : (is.map kpt)[i]? = some [.ptr x.1 2 0 0] := by simp [hi, kpt]
theorem ia_go {b off len c i : Nat} (hi : i < len) : iaA 1 (.arr b 1 off len c) (.int .i64 i) = some (.ptr b 1 (off + i) 0) := by rw [iaA_go (by omega) (by omega)]; simp

end
theorem PlaceR.none {is : List Kp} {key : Key} {j : Nat} {q : Bool} (hp : PlaceR is key j q) (hq : q = false) (hs : Srt is) : ∀ x ∈ is, x.2 ≠ key := by
  intro x hx hk
  obtain ⟨i, hi⟩ := List.getElem?_of_mem hx
  by_cases hij : i < j
  · have := hp.lo i x hi hij
    rw [hk, ltK_irrefl] at this; cases this
  · have hi' := (List.getElem?_eq_some_iff.1 hi).1
    have hj := List.getElem?_eq_getElem (l := is) (i := j) (by omega)
    have h1 := hp.no hq _ hj
    by_cases hij2 : i = j
    · subst hij2
      rw [hi] at hj
      rw [← Option.some.inj hj, hk, ltK_irrefl] at h1; cases h1
    · have h2 := List.pairwise_iff_getElem.1 hs j i (by omega) hi' (by omega)
      have h3 := (List.getElem?_eq_some_iff.1 hi).2
      rw [h3] at h2
      have := ltK_trans h1 h2
      rw [hk, ltK_irrefl] at this; cases this
theorem weave_srt2 : ∀ (ls : List (List Kp)) (is l : List Kp), ls.length = is.length + 1 → l ∈ ls → Srt (weave ls is) → Srt l
  | [], is, l, h, h2, _ => by cases h2
  | l' :: ls, [], l, h, h2, h3 => by
    have : ls = [] := by simpa using h
    subst this
    simp at h2; subst h2; simpa [weave] using h3
  | l' :: ls, i :: is, l, h, h2, h3 => by
    have h4 := Srt.app.1 h3
    rcases List.mem_cons.1 h2 with rfl | h2
    · exact h4.1
    · exact weave_srt2 ls is l (by simpa using h) h2 (List.pairwise_cons.1 h4.2.1).2
/-- What lies ahead of a kid. -/
def ahd {α : Type} (ls : List (List α)) (is : List α) : Nat → List α
  | 0 => []
  | i + 1 => ahd ls is i ++ ls.getD i [] ++ (is[i]?).toList
theorem ahd_weave {α : Type} {ls : List (List α)} {is : List α} (hl : ls = [] ∨ ls.length = is.length + 1) : ∀ i, i ≤ is.length → weave ls is = ahd ls is i ++ weave (ls.drop i) (is.drop i)
  | 0, _ => by simp [ahd]
  | i + 1, h => by
    have ih := ahd_weave hl i (by omega)
    rw [ih, ahd, List.append_assoc, List.append_assoc]
    congr 1
    have e1 : is.drop i = is[i] :: is.drop (i + 1) := List.drop_eq_getElem_cons (by omega)
    rw [e1]
    rcases hl with rfl | hl
    · simp [weave, List.getElem?_eq_getElem (show i < is.length by omega)]
    · have e2 : ls.drop i = ls[i] :: ls.drop (i + 1) := List.drop_eq_getElem_cons (by omega)
      rw [e2]
      simp [weave, List.getElem?_eq_getElem (show i < is.length by omega), List.getElem?_eq_getElem (show i < ls.length by omega)]
theorem ahd_cut {α : Type} {ls : List (List α)} {is : List α} (hl : ls = [] ∨ ls.length = is.length + 1) {i : Nat} (hi : i ≤ is.length) : ∃ C, weave ls is = ahd ls is i ++ ls.getD i [] ++ C ∧ C.head? = is[i]? := by
  rw [ahd_weave hl i hi]
  by_cases h : i = is.length
  · subst h
    rw [List.drop_length]
    refine ⟨[], ?_, by simp⟩
    rcases hl with rfl | hl
    · simp [weave]
    · have e2 : ls.drop is.length = [ls[is.length]] := by
        rw [List.drop_eq_getElem_cons (by omega), List.drop_eq_nil_of_le (by omega)]
      rw [e2]
      simp [weave, List.getElem?_eq_getElem (show is.length < ls.length by omega)]
  · have e1 : is.drop i = is[i] :: is.drop (i + 1) := List.drop_eq_getElem_cons (by omega)
    rw [e1]
    refine ⟨is[i] :: weave (ls.drop (i + 1)) (is.drop (i + 1)), ?_, by simp [List.getElem?_eq_getElem (show i < is.length by omega)]⟩
    rcases hl with rfl | hl
    · simp [weave]
    · have e2 : ls.drop i = ls[i] :: ls.drop (i + 1) := List.drop_eq_getElem_cons (by omega)
      rw [e2]
      simp [weave, List.getElem?_eq_getElem (show i < ls.length by omega)]
def rngK (lo hi : Key) (x : Kp) : Bool := !(ltK x.2 lo) && (hi == [] || ltK x.2 hi)
theorem ahd_lo {ls : List (List Kp)} {is : List Kp} {lo : Key} {j : Nat} {q : Bool} (hp : PlaceR is lo j q) (hl : ls = [] ∨ ls.length = is.length + 1) (hs : Srt (weave ls is)) (hi : Key) : (ahd ls is j).filter (rngK lo hi) = [] := by
  have h1 := ahd_weave hl j hp.le
  rw [h1] at hs
  have sA := (Srt.app.1 hs).1
  refine List.filter_eq_nil_iff.2 fun x hx => ?_
  have : ltK x.2 lo = true := by
    cases j with
    | zero => simp [ahd] at hx
    | succ j =>
      have hj := hp.le
      have e := List.getElem?_eq_getElem (l := is) (i := j) (by omega)
      refine sA.le_last (y := is[j]) ?_ (hp.lo j _ e (by omega)) x hx
      simp [ahd, e]
  simp [rngK, this]
theorem rng_hi {C : List Kp} {lo hi : Key} {x : Kp} (hs : Srt C) (hx : C.head? = some x) (h0 : hi ≠ []) (h1 : ltK x.2 hi = false) : C.filter (rngK lo hi) = [] := by
  refine List.filter_eq_nil_iff.2 fun y hy => ?_
  have := hs.ge_head (fun y hy => by rw [hx] at hy; cases hy; exact h1) y hy
  simp [rngK, this, h0]
/-- Both branches of a test end in what is said, and from there it goes on. -/
theorem cnd_join {P : Program} {st : List Fr} {e : Env} {h : Hp} {k : Kt} {v : AV} {t f : ACode} {Q : Env → Hp → Prop} (hh : cndR P v t f (.lp Q :: st) e h k) (hq : ∀ e h, Q e h → fall P st e h k) : cndR P v t f st e h k := by
  obtain ⟨b, hb, ht, hf⟩ := hh
  exact ⟨b, hb, fun q => wpA_imp t (ht q) hq (fun _ _ x => x) (fun _ _ _ x => x), fun q => wpA_imp f (hf q) hq (fun _ _ x => x) (fun _ _ _ x => x)⟩
section
variable {h : Hp} {l : List Asr} {A : Asr}
theorem sat.p8 {A1 A2 A3 A4 A5 A6 A7 A8 : Asr} (hs : sat h (A1 :: A2 :: A3 :: A4 :: A5 :: A6 :: A7 :: A8 :: A :: l)) : sat h (A :: A1 :: A2 :: A3 :: A4 :: A5 :: A6 :: A7 :: A8 :: l) := (hs.tl fun _ h => h.p7).swap
theorem sat.p9 {A1 A2 A3 A4 A5 A6 A7 A8 A9 : Asr} (hs : sat h (A1 :: A2 :: A3 :: A4 :: A5 :: A6 :: A7 :: A8 :: A9 :: A :: l)) : sat h (A :: A1 :: A2 :: A3 :: A4 :: A5 :: A6 :: A7 :: A8 :: A9 :: l) := (hs.tl fun _ h => h.p8).swap
theorem sat.p10 {A1 A2 A3 A4 A5 A6 A7 A8 A9 A10 : Asr} (hs : sat h (A1 :: A2 :: A3 :: A4 :: A5 :: A6 :: A7 :: A8 :: A9 :: A10 :: A :: l)) : sat h (A :: A1 :: A2 :: A3 :: A4 :: A5 :: A6 :: A7 :: A8 :: A9 :: A10 :: l) := (hs.tl fun _ h => h.p9).swap
theorem sat.p11 {A1 A2 A3 A4 A5 A6 A7 A8 A9 A10 A11 : Asr} (hs : sat h (A1 :: A2 :: A3 :: A4 :: A5 :: A6 :: A7 :: A8 :: A9 :: A10 :: A11 :: A :: l)) : sat h (A :: A1 :: A2 :: A3 :: A4 :: A5 :: A6 :: A7 :: A8 :: A9 :: A10 :: A11 :: l) := (hs.tl fun _ h => h.p10).swap
theorem sat.p12 {A1 A2 A3 A4 A5 A6 A7 A8 A9 A10 A11 A12 : Asr} (hs : sat h (A1 :: A2 :: A3 :: A4 :: A5 :: A6 :: A7 :: A8 :: A9 :: A10 :: A11 :: A12 :: A :: l)) : sat h (A :: A1 :: A2 :: A3 :: A4 :: A5 :: A6 :: A7 :: A8 :: A9 :: A10 :: A11 :: A12 :: l) := (hs.tl fun _ h => h.p11).swap
end
theorem sat.tls {l1 l l' : List Asr} : ∀ {h : Hp}, sat h (l1 ++ l) → (∀ h, sat h l → sat h l') → sat h (l1 ++ l') := by
  induction l1 with
  | nil => exact fun hs hi => hi _ hs
  | cons A l1 ih => exact fun hs hi => hs.tl fun _ g => ih g hi
theorem sat.swapl {l1 l2 l : List Asr} {h : Hp} (hs : sat h (l1 ++ (l2 ++ l))) : sat h (l2 ++ (l1 ++ l)) := hs.perm (List.perm_append_comm_assoc l1 l2 l)
theorem kpt_pt (is : List Kp) : is.map kpt = (is.map fun x => x.1).map pt := by simp [kpt, pt]
theorem rt_pt (ks : List Tr) : (ks.map fun k => pt k.root) = (ks.map Tr.root).map pt := by simp
def OKs : Nat → List Kp → List Tr → Prop
  | 0, _, ks => ks = []
  | d + 1, is, ks => 1 ≤ is.length ∧ ks.length = is.length + 1 ∧ ∀ k ∈ ks, OKd d k ∧ k.flat ≠ []
theorem okd_nd {d p : Nat} {iv kv : AV} {is : List Kp} {ks : List Tr} : OKd d (.nd p iv kv is ks) ↔ is.length ≤ 5 ∧ OKs d is ks := by
  cases d with
  | zero => exact Iff.rfl
  | succ d => exact ⟨fun ⟨a, b, c, e⟩ => ⟨b, a, c, e⟩, fun ⟨b, a, c, e⟩ => ⟨a, b, c, e⟩⟩
theorem weave_nil {α : Type} (is : List α) : weave [] is = is := rfl
theorem weave_ne {α : Type} {ls : List (List α)} {is : List α} (h : 1 ≤ is.length) : weave ls is ≠ [] := by
  intro hh
  cases is with
  | nil => simp at h
  | cons i is =>
    have := mem_weave ls (i :: is) (List.mem_cons_self)
    rw [hh] at this; cases this
/-- A block ends in what is said, and from there it goes on. -/
theorem blk_join {P : Program} {st : List Fr} {e : Env} {h : Hp} {k : Kt} {id : Nat} {c : ACode} {Q : Env → Hp → Prop} (hh : run P c (.blk id :: .lp Q :: st) e h k) (hq : ∀ e h, Q e h → fall P st e h k) : run P c (.blk id :: st) e h k := by
  refine wpA_imp c hh (fun e h x => hq e h x) (fun _ _ x => x) (fun i e h x => ?_)
  show if i = id then _ else _
  have x : if i = id then Q e h else (kk P k st).2 i e h := x
  by_cases hi : i = id
  · rw [if_pos hi] at x ⊢; exact hq e h x
  · rw [if_neg hi] at x ⊢; exact x
end Go.Hz
/- Bytes of numbers and texts, a reader over bytes, the sums of frames: as plain data. -/
set_option linter.unusedSimpArgs false
set_option linter.unusedVariables false
namespace Go.Hz

/-- One byte of a number, the k-th from the end. -/
def bz (n : Int) (k : Nat) : UInt8 := UInt8.ofNat (IntKind.u8.wrap ((IntKind.u64.wrap n).fdiv (2 ^ (8 * k)))).toNat
/-- So many bytes of a number, the highest first. -/
def beB : Nat → Int → List UInt8
  | 0, _ => []
  | k + 1, n => bz n k :: beB k n
/-- A text as it is written. -/
def txB (s : List UInt8) : List UInt8 := beB 4 s.length ++ s

theorem beB_length (k : Nat) (n : Int) : (beB k n).length = k := by induction k with
  | zero => rfl
  | succ k ih => simp [beB, ih]
theorem txB_length (s : List UInt8) : (txB s).length = 4 + s.length := by simp [txB, beB_length]

theorem eb_wrap (x : Int) : [AV.int .u8 (IntKind.u8.wrap x)] = eb (UInt8.ofNat (IntKind.u8.wrap x).toNat) := by
  have h1 : 0 ≤ IntKind.u8.wrap x ∧ IntKind.u8.wrap x < 256 := by
    simp only [IntKind.wrap, IntKind.signed, IntKind.bits]
    constructor <;> simp <;> omega
  have h2 : ((UInt8.ofNat (IntKind.u8.wrap x).toNat).toNat : Int) = IntKind.u8.wrap x := by
    rw [UInt8.toNat_ofNat']
    omega
  simp only [eb]
  rw [h2]
theorem bz_cell (n : Int) (j : Nat) (h0 : 1 ≤ j) (h8 : j ≤ 8) : [[AV.int .u8 (IntKind.u8.wrap ((IntKind.u64.wrap n).fdiv (2 ^ min (8 * ((j : Int) - 1)).toNat 64)))]] = [bz n (j - 1)].map eb := by
  have e1 : (8 * ((j : Int) - 1)).toNat = 8 * (j - 1) := by omega
  have e2 : min (8 * (j - 1)) 64 = 8 * (j - 1) := by omega
  rw [eb_wrap, e1, e2]
  rfl
theorem beB1 (n : Int) : [[AV.int .u8 (IntKind.u8.wrap n)]] = (beB 1 n).map eb := by
  have e1 : IntKind.u8.wrap ((IntKind.u64.wrap n).fdiv (2 ^ (8 * 0))) = IntKind.u8.wrap n := by
    simp only [IntKind.wrap, IntKind.signed, IntKind.bits]
    simp
  rw [eb_wrap, ← e1]
  rfl
theorem src_row1 {h : Hp} {b n : Nat} {x : AV} (hn : h b = some (.row 1 [[x]] n)) (c : Nat) : srcA 1 h (.arr b 1 0 1 c) = some [[x]] := by simp [srcA, hn]
theorem eb_str {h : Hp} {s : List UInt8} : srcA 1 h (.str s) = some (s.map eb) := by simp [srcA, eb]

/-! ### a reader -/

/-- One byte more of a number. -/
def nstep (n : Int) (x : UInt8) : Int := bitsA .or .u64 (IntKind.u64.wrap (n * 2 ^ 8)) (IntKind.u64.wrap x.toNat)
def rawN (l : List UInt8) : Int := l.foldl nstep 0
theorem rawN_succ (l : List UInt8) (i : Nat) (hi : i < l.length) : rawN (l.take (i + 1)) = nstep (rawN (l.take i)) l[i] := by
  unfold rawN
  rw [List.take_succ_eq_append_getElem hi, List.foldl_append]
  rfl

structure RS where
  b : List UInt8
  a : Nat
  err : Int

/-- There are so many bytes. -/
def RS.ok (s : RS) (n : Nat) : Bool := decide (s.err = 0) && decide (n ≤ s.b.length - s.a)
/-- Behind so many bytes, if there are. -/
def RS.adv (s : RS) (n : Nat) : RS := ⟨s.b, if s.ok n then s.a + n else s.a, if s.ok n then s.err else 8⟩
/-- A number of so many bytes. -/
def RS.val (s : RS) (n : Nat) : Int := if s.ok n then IntKind.i64.wrap (rawN ((s.b.drop s.a).take n)) else 0
/-- A text, and where the reader then stands. -/
def RS.txk (s : RS) : Nat := (s.val 4).toNat
def RS.tx (s : RS) : List UInt8 := if (s.adv 4).ok s.txk then ((s.b.drop (s.adv 4).a).take s.txk) else []
def RS.atx (s : RS) : RS := if (s.adv 4).ok s.txk then (s.adv 4).adv s.txk else ⟨s.b, s.a, 8⟩
def RS.good (s : RS) : Prop := s.a ≤ s.b.length ∧ s.b.length ≤ 1000000000000 ∧ (s.err = 0 ∨ s.err = 8)

theorem RS.e0 {s : RS} (h : s.err = 0) : (s.err != 0) = false := by simp [h]
theorem RS.e8 {s : RS} (h : s.err = 8) : (s.err != 0) = true := by simp [h]
theorem RS.adv_b (s : RS) (n : Nat) : (s.adv n).b = s.b := rfl
theorem RS.atx_b (s : RS) : s.atx.b = s.b := by unfold RS.atx; split <;> rfl
theorem RS.ok_le {s : RS} {n : Nat} (h : s.ok n = true) : s.err = 0 ∧ n ≤ s.b.length - s.a := by simpa [RS.ok] using h
theorem RS.good.adv {s : RS} (g : s.good) (n : Nat) : (s.adv n).good := by
  obtain ⟨g1, g2, g3⟩ := g
  unfold RS.adv
  cases hk : s.ok n
  · exact ⟨g1, g2, .inr rfl⟩
  · have := RS.ok_le hk
    exact ⟨by simp; omega, g2, by simpa using g3⟩
theorem RS.good.atx {s : RS} (g : s.good) : s.atx.good := by
  unfold RS.atx
  split
  · exact (g.adv 4).adv _
  · exact ⟨g.1, g.2.1, .inr rfl⟩

/-- Where bytes lacked nothing is read. -/
theorem RS.dead {s : RS} (h : s.err = 8) : (∀ n, s.val n = 0) ∧ (∀ n, s.adv n = s) ∧ s.tx = [] ∧ s.atx = s := by
  obtain ⟨b, a, err⟩ := s
  simp only at h
  subst h
  have h0 : ∀ n, (RS.mk b a 8).ok n = false := fun n => by simp [RS.ok]
  have h1 : ∀ n, (RS.mk b a 8).adv n = RS.mk b a 8 := fun n => by unfold RS.adv; rw [h0]; rfl
  refine ⟨fun n => by unfold RS.val; rw [h0]; rfl, h1, ?_, ?_⟩
  · unfold RS.tx; rw [h1, h0]; rfl
  · unfold RS.atx; rw [h1, h0]; rfl
theorem natB (a : Nat) : (BitVec.ofInt 64 (a : Int)).toNat = a % 2 ^ 64 := by simp
theorem nstep_lt (n : Int) (x : UInt8) (k : Nat) (hk : k ≤ 7) (h : ∃ a : Nat, n = a ∧ a < 2 ^ (8 * k)) : ∃ a : Nat, nstep n x = a ∧ a < 2 ^ (8 * (k + 1)) := by
  obtain ⟨a, rfl, ha⟩ := h
  have hx := x.toNat_lt
  have hp : 2 ^ (8 * (k + 1)) = 256 * 2 ^ (8 * k) := by rw [Nat.mul_add, Nat.pow_add]; omega
  have hp2 : 2 ^ (8 * (k + 1)) ≤ 2 ^ 64 := Nat.pow_le_pow_right (by omega) (by omega)
  have h1 : IntKind.u64.wrap ((a : Int) * 2 ^ 8) = ((a * 256 : Nat) : Int) := by
    simp only [IntKind.wrap, IntKind.signed, IntKind.bits]
    simp
    omega
  have h2 : IntKind.u64.wrap (x.toNat : Int) = (x.toNat : Int) := by
    simp only [IntKind.wrap, IntKind.signed, IntKind.bits]
    simp
    omega
  have h3 : nstep (a : Int) x = IntKind.u64.wrap (((a * 256 ||| x.toNat : Nat)) : Int) := by
    unfold nstep
    rw [h1, h2]
    change IntKind.u64.wrap (((BitVec.ofInt 64 ((a * 256 : Nat) : Int) ||| BitVec.ofInt 64 (x.toNat : Int)).toNat : Nat) : Int) = _
    rw [BitVec.toNat_or, natB, natB, Nat.mod_eq_of_lt (by omega), Nat.mod_eq_of_lt (by omega)]
  have h4 : (a * 256 ||| x.toNat) < 2 ^ (8 * (k + 1)) := Nat.or_lt_two_pow (by omega) (by rw [hp]; have := Nat.one_le_two_pow (n := 8 * k); omega)
  refine ⟨_, ?_, h4⟩
  rw [h3]
  simp only [IntKind.wrap, IntKind.signed, IntKind.bits]
  simp
  omega
theorem rawN_lt (l : List UInt8) (hl : l.length ≤ 8) : ∃ a : Nat, rawN l = a ∧ a < 2 ^ (8 * l.length) := by
  have key : ∀ i, i ≤ l.length → ∃ a : Nat, rawN (l.take i) = a ∧ a < 2 ^ (8 * i) := by
    intro i
    induction i with
    | zero => intro _; exact ⟨0, rfl, by simp⟩
    | succ i ih =>
      intro hi
      rw [rawN_succ l i (by omega)]
      exact nstep_lt _ _ i (by omega) (ih (by omega))
  have := key l.length (Nat.le_refl _)
  rwa [List.take_length] at this
theorem RS.val_lt (s : RS) (n : Nat) (hn : n ≤ 7) : ∃ k : Nat, s.val n = k ∧ k < 2 ^ (8 * n) := by
  unfold RS.val
  split
  · have hl : ((s.b.drop s.a).take n).length ≤ n := List.length_take_le _ _
    obtain ⟨k, h1, h2⟩ := rawN_lt ((s.b.drop s.a).take n) (by omega)
    have h3 : k < 2 ^ (8 * n) := Nat.lt_of_lt_of_le h2 (Nat.pow_le_pow_right (by omega) (by omega))
    have h4 : 2 ^ (8 * n) ≤ 2 ^ 56 := Nat.pow_le_pow_right (by omega) (by omega)
    exact ⟨k, by rw [h1]; exact wrap_i64_go (by omega) (by omega), h3⟩
  · exact ⟨0, rfl, Nat.two_pow_pos _⟩
theorem RS.val_txk (s : RS) : s.val 4 = (s.txk : Int) ∧ s.txk < 4294967296 := by
  obtain ⟨k, h1, h2⟩ := s.val_lt 4 (by omega)
  unfold RS.txk
  rw [h1]
  exact ⟨by simp, by simpa using h2⟩
def valN (l : List UInt8) : Nat := l.foldl (fun n x => n * 256 + x.toNat) 0
theorem valN_snoc (l : List UInt8) (x : UInt8) : valN (l ++ [x]) = valN l * 256 + x.toNat := by simp [valN]
theorem list_snoc_ind {α : Type} {p : List α → Prop} (h0 : p []) (h1 : ∀ l x, p l → p (l ++ [x])) (l : List α) : p l := by
  have : ∀ m : List α, p m.reverse := by
    intro m
    induction m with
    | nil => exact h0
    | cons x m ih => rw [List.reverse_cons]; exact h1 _ _ ih
  have := this l.reverse
  rwa [List.reverse_reverse] at this
theorem valN_lt (l : List UInt8) : valN l < 256 ^ l.length := by
  refine list_snoc_ind (p := fun l => valN l < 256 ^ l.length) (by decide) (fun l x ih => ?_) l
  rw [valN_snoc, List.length_append, List.length_singleton, Nat.pow_succ]
  have := x.toNat_lt
  omega
theorem nstep_val (m : Nat) (x : UInt8) (hm : m < 72057594037927936) : nstep m x = ((m * 256 + x.toNat : Nat) : Int) := by
  have hx := x.toNat_lt
  have e1 : IntKind.u64.wrap ((m : Int) * 2 ^ 8) = ((m * 256 : Nat) : Int) := by
    simp only [IntKind.wrap, IntKind.signed, IntKind.bits]
    simp
    omega
  have e2 : IntKind.u64.wrap (x.toNat : Int) = (x.toNat : Int) := by
    simp only [IntKind.wrap, IntKind.signed, IntKind.bits]
    simp
    omega
  unfold nstep
  rw [e1, e2]
  change IntKind.u64.wrap (((BitVec.ofInt 64 ((m * 256 : Nat) : Int) ||| BitVec.ofInt 64 (x.toNat : Int)).toNat : Nat) : Int) = _
  have e3 : ∀ k : Nat, BitVec.ofInt 64 (k : Int) = BitVec.ofNat 64 k := fun k => by
    apply BitVec.eq_of_toNat_eq
    simp
  rw [e3, e3, BitVec.toNat_or, BitVec.toNat_ofNat, BitVec.toNat_ofNat, Nat.mod_eq_of_lt (by omega), Nat.mod_eq_of_lt (by omega)]
  have e4 : m * 256 ||| x.toNat = m * 256 + x.toNat := by
    rw [show m * 256 = m <<< 8 from by rw [Nat.shiftLeft_eq]]
    exact (Nat.shiftLeft_add_eq_or_of_lt (by omega) m).symm
  rw [e4]
  simp only [IntKind.wrap, IntKind.signed, IntKind.bits]
  simp
  omega
theorem rawN_val (l : List UInt8) (hl : l.length ≤ 8) : rawN l = valN l := by
  have : ∀ l : List UInt8, l.length ≤ 8 → rawN l = valN l := by
    intro l
    refine list_snoc_ind (p := fun l => l.length ≤ 8 → rawN l = valN l) (fun _ => rfl) (fun l x ih hl => ?_) l
    rw [List.length_append, List.length_singleton] at hl
    rw [valN_snoc]
    have e : rawN (l ++ [x]) = nstep (rawN l) x := by simp [rawN]
    rw [e, ih (by omega), nstep_val _ _ ?_]
    have h1 := valN_lt l
    have h2 : 256 ^ l.length ≤ 256 ^ 7 := Nat.pow_le_pow_right (by omega) (by omega)
    exact Nat.lt_of_lt_of_le h1 h2
  exact this l hl


/-! ### what was written is read -/

theorem valN_cons (x : UInt8) (l : List UInt8) : valN (x :: l) = x.toNat * 256 ^ l.length + valN l := by
  have key : ∀ (l : List UInt8) (a : Nat), l.foldl (fun n x => n * 256 + x.toNat) a = a * 256 ^ l.length + valN l := by
    intro l
    induction l with
    | nil => intro a; simp [valN]
    | cons y l ih =>
      intro a
      have h1 := ih (a * 256 + y.toNat)
      have h2 := ih y.toNat
      simp only [List.foldl_cons, List.length_cons, valN] at h1 h2 ⊢
      rw [h1]
      simp only [Nat.zero_mul, Nat.zero_add]
      rw [h2, Nat.pow_succ, Nat.add_mul]
      rw [show a * 256 * 256 ^ l.length = a * (256 ^ l.length * 256) from by rw [Nat.mul_assoc, Nat.mul_comm 256]]
      omega
  have := key l x.toNat
  simpa [valN] using this
theorem bz_val (n : Int) (m k : Nat) (hm : IntKind.u64.wrap n = m) : (bz n k).toNat = m / 256 ^ k % 256 := by
  unfold bz
  rw [hm]
  have e : (2 : Int) ^ (8 * k) = ((256 ^ k : Nat) : Int) := by
    rw [Int.pow_mul]
    simp
  rw [e, Int.fdiv_eq_ediv_of_nonneg _ (Int.natCast_nonneg _)]
  have e2 : (m : Int) / ((256 ^ k : Nat) : Int) = ((m / 256 ^ k : Nat) : Int) := by simp
  rw [e2]
  generalize m / 256 ^ k = q
  simp only [IntKind.wrap, IntKind.signed, IntKind.bits]
  rw [UInt8.toNat_ofNat']
  simp
  omega
theorem valN_be (n : Int) (m : Nat) (hm : IntKind.u64.wrap n = m) : ∀ k, valN (beB k n) = m % 256 ^ k
  | 0 => by simp [beB, valN, Nat.mod_one]
  | k + 1 => by
    rw [beB, valN_cons, bz_val n m k hm, beB_length, valN_be n m hm k, Nat.mod_pow_succ, Nat.mul_comm, Nat.add_comm]
theorem u64_nat (n : Int) : ∃ m : Nat, IntKind.u64.wrap n = m ∧ (m : Int) = n % 18446744073709551616 := by
  refine ⟨(n % 18446744073709551616).toNat, ?_, ?_⟩
  · simp only [IntKind.wrap, IntKind.signed, IntKind.bits]
    simp
    omega
  · omega

theorem ofInt_nat (n : Int) : (BitVec.ofInt 64 n).toNat = (n % 18446744073709551616).toNat := by
  rw [BitVec.toNat_ofInt]
  rfl
theorem and_mask (n : Int) (k : Nat) (hk : k ≤ 62) : bitsA .and .i64 n ((2 ^ k - 1 : Nat) : Int) = n % ((2 ^ k : Nat) : Int) := by
  change IntKind.i64.wrap (((BitVec.ofInt 64 n &&& BitVec.ofInt 64 ((2 ^ k - 1 : Nat) : Int)).toNat : Nat) : Int) = _
  have hp : 2 ^ k ≤ 2 ^ 62 := Nat.pow_le_pow_right (by omega) hk
  have hp0 := Nat.two_pow_pos k
  rw [BitVec.toNat_and, natB, ofInt_nat, Nat.mod_eq_of_lt (a := 2 ^ k - 1) (by omega), Nat.and_two_pow_sub_one_eq_mod]
  have h1 : (n % 18446744073709551616).toNat % 2 ^ k < 2 ^ k := Nat.mod_lt _ hp0
  rw [wrap_i64_go (by omega) (by omega)]
  have h2 : ((2 ^ k : Nat) : Int) ∣ 18446744073709551616 := by
    have : 2 ^ k ∣ 2 ^ 64 := Nat.pow_dvd_pow 2 (by omega)
    exact Int.natCast_dvd_natCast.2 this
  rw [← Int.emod_emod_of_dvd n h2, Int.natCast_emod, Int.toNat_of_nonneg (Int.emod_nonneg n (by omega))]
theorem and255 (n : Int) : bitsA .and .i64 n 255 = n % 256 := and_mask n 8 (by omega)
theorem and32 (n : Int) : bitsA .and .i64 n 4294967295 = n % 4294967296 := and_mask n 32 (by omega)

/-- A number that was written. -/
theorem RS.be {s : RS} {k : Nat} {n : Int} {t : List UInt8} (hk : k ≤ 8) (he : s.err = 0) (hd : s.b.drop s.a = beB k n ++ t) :
    s.val k = IntKind.i64.wrap (n % 18446744073709551616 % 256 ^ k) ∧ s.adv k = ⟨s.b, s.a + k, 0⟩ ∧ s.b.drop (s.a + k) = t := by
  have hlen : s.b.length - s.a = k + t.length := by
    have := congrArg List.length hd
    simpa [beB_length] using this
  have hok : s.ok k = true := by simp [RS.ok, he]; omega
  refine ⟨?_, ?_, ?_⟩
  · unfold RS.val
    rw [if_pos hok, hd, List.take_left' (beB_length k n), rawN_val _ (by rw [beB_length]; exact hk)]
    obtain ⟨m, h1, h2⟩ := u64_nat n
    rw [valN_be n m h1 k, ← h2]
    congr 1
  · unfold RS.adv
    rw [hok]
    simp [he]
  · rw [← List.drop_drop, hd, List.drop_left' (beB_length k n)]
theorem RS.be8 {s : RS} {n : Int} {t : List UInt8} (h1 : -9223372036854775808 ≤ n) (h2 : n ≤ 9223372036854775807) (he : s.err = 0) (hd : s.b.drop s.a = beB 8 n ++ t) :
    s.val 8 = n ∧ s.adv 8 = ⟨s.b, s.a + 8, 0⟩ ∧ s.b.drop (s.a + 8) = t := by
  obtain ⟨a, b, c⟩ := RS.be (by omega) he hd
  refine ⟨?_, b, c⟩
  rw [a]
  simp only [IntKind.wrap, IntKind.signed, IntKind.bits]
  simp
  omega
theorem RS.be4 {s : RS} {n : Int} {t : List UInt8} (he : s.err = 0) (hd : s.b.drop s.a = beB 4 n ++ t) :
    s.val 4 = n % 4294967296 ∧ s.adv 4 = ⟨s.b, s.a + 4, 0⟩ ∧ s.b.drop (s.a + 4) = t := by
  obtain ⟨a, b, c⟩ := RS.be (by omega) he hd
  refine ⟨?_, b, c⟩
  rw [a, wrap_i64_go (by omega) (by omega)]
  omega
theorem RS.be1 {s : RS} {n : Int} {t : List UInt8} (he : s.err = 0) (hd : s.b.drop s.a = beB 1 n ++ t) :
    s.val 1 = n % 256 ∧ s.adv 1 = ⟨s.b, s.a + 1, 0⟩ ∧ s.b.drop (s.a + 1) = t := by
  obtain ⟨a, b, c⟩ := RS.be (by omega) he hd
  refine ⟨?_, b, c⟩
  rw [a, wrap_i64_go (by omega) (by omega)]
  omega
theorem RS.beT {s : RS} {x t : List UInt8} (hx : x.length < 4294967296) (he : s.err = 0) (hd : s.b.drop s.a = txB x ++ t) :
    s.tx = x ∧ s.atx = ⟨s.b, s.a + (4 + x.length), 0⟩ ∧ s.b.drop (s.a + (4 + x.length)) = t := by
  unfold txB at hd
  rw [List.append_assoc] at hd
  obtain ⟨a, b, c⟩ := RS.be4 he hd
  have hk : s.txk = x.length := by
    unfold RS.txk
    rw [a]
    omega
  have hlen : s.b.length - (s.a + 4) = x.length + t.length := by
    have := congrArg List.length c
    simpa using this
  have hok : (s.adv 4).ok s.txk = true := by
    rw [hk, b]
    simp [RS.ok]
    omega
  refine ⟨?_, ?_, ?_⟩
  · unfold RS.tx
    rw [if_pos hok, hk, b, c, List.take_left]
  · unfold RS.atx
    rw [if_pos hok]
    rw [b] at hok ⊢
    unfold RS.adv
    rw [hok]
    simp [hk]
    omega
  · rw [show s.a + (4 + x.length) = s.a + 4 + x.length from by omega, ← List.drop_drop, c, List.drop_left]
end Go.Hz
/- The sums of frames: four bits at a time, and bit by bit. -/
set_option linter.unusedSimpArgs false
set_option linter.unusedVariables false
set_option maxRecDepth 10000
namespace Go.Hz

theorem u32_lt (c : UInt32) : (c.toNat : Int) < 4294967296 := by have := c.toNat_lt; omega
theorem u32_wrap (n : Nat) (h : n < 4294967296) : IntKind.u32.wrap (n : Int) = n := by
  simp only [IntKind.wrap, IntKind.signed, IntKind.bits]
  simp
  omega
theorem ofInt32 (k : Nat) : BitVec.ofInt 32 (k : Int) = BitVec.ofNat 32 k := by
  apply BitVec.eq_of_toNat_eq
  simp
theorem u32_bv (c : UInt32) : BitVec.ofInt 32 (c.toNat : Int) = c.toBitVec := by
  rw [ofInt32]
  exact BitVec.eq_of_toNat_eq (by simp)
theorem u32_xor (c d : UInt32) : bitsA .xor .u32 (c.toNat : Int) (d.toNat : Int) = ((c ^^^ d).toNat : Int) := by
  change IntKind.u32.wrap (((BitVec.ofInt 32 (c.toNat : Int) ^^^ BitVec.ofInt 32 (d.toNat : Int)).toNat : Nat) : Int) = _
  rw [u32_bv, u32_bv, u32_wrap _ (BitVec.isLt _)]
  rfl
theorem u32_and (c d : UInt32) : bitsA .and .u32 (c.toNat : Int) (d.toNat : Int) = ((c &&& d).toNat : Int) := by
  change IntKind.u32.wrap (((BitVec.ofInt 32 (c.toNat : Int) &&& BitVec.ofInt 32 (d.toNat : Int)).toNat : Nat) : Int) = _
  rw [u32_bv, u32_bv, u32_wrap _ (BitVec.isLt _)]
  rfl
theorem u32_shr (c : UInt32) (k : Nat) (hk : k < 32) : (c.toNat : Int).fdiv (2 ^ k) = ((c >>> UInt32.ofNat k).toNat : Int) := by
  rw [UInt32.toNat_shiftRight, UInt32.toNat_ofNat', Nat.mod_eq_of_lt (show k < 2 ^ 32 by omega), Nat.mod_eq_of_lt hk, Nat.shiftRight_eq_div_pow]
  rw [Int.fdiv_eq_ediv_of_nonneg _ (Int.pow_nonneg (by omega))]
  simp
theorem u32_of_u8 (x : UInt8) : IntKind.u32.wrap (x.toNat : Int) = (x.toUInt32.toNat : Int) := by
  have := x.toNat_lt
  rw [u32_wrap _ (by omega)]
  simp

def tabP : List UInt32 := [0, 498536548, 997073096, 651767980, 1994146192, 1802195444, 1303535960, 1342533948, 3988292384, 4027552580, 3604390888, 3412177804, 2607071920, 2262029012, 2685067896, 3183342108]
def nibP (c : UInt32) : UInt32 := (c >>> 4) ^^^ tabP.getD (c &&& 15).toNat 0
def stepP (c : UInt32) (x : UInt8) : UInt32 := nibP (nibP (c ^^^ x.toUInt32))
def sumP (b : List UInt8) : UInt32 := ~~~ (b.foldl stepP 4294967295)

theorem and15 (c : UInt32) : (c &&& 15).toNat < 16 := by
  rw [UInt32.toNat_and]
  exact Nat.lt_of_le_of_lt Nat.and_le_right (by decide)

theorem u32_and15 (c : UInt32) : bitsA .and .u32 (c.toNat : Int) 15 = ((c &&& 15).toNat : Int) := u32_and c 15
theorem u32_shr4 (c : UInt32) : (c.toNat : Int).fdiv (2 ^ min 4 32) = ((c >>> 4).toNat : Int) := u32_shr c 4 (by omega)
theorem u32_not (c : UInt32) : bitsA .xor .u32 (if IntKind.u32.signed = true then -1 else IntKind.u32.max) (c.toNat : Int) = ((~~~ c).toNat : Int) := by
  change bitsA .xor .u32 IntKind.u32.max (c.toNat : Int) = _
  have e : IntKind.u32.max = (((4294967295 : UInt32)).toNat : Int) := by decide
  rw [e, u32_xor]
  congr 2
def cellsP : List AV := tabP.map fun c => .int .u32 c.toNat
theorem cellsP_at (k : Nat) (hk : k < 16) : (List.drop k cellsP)[0]? = some (.int .u32 (tabP.getD k 0).toNat) := by
  have hl : tabP.length = 16 := rfl
  rw [List.getElem?_drop]
  simp [cellsP, List.getD_eq_getElem?_getD]
  rw [List.getElem?_eq_getElem (by omega)]
  simp

/-- One bit of the document's sum. -/
def bitX (c : UInt32) : UInt32 := if c &&& 1 = 1 then (c >>> 1) ^^^ 3988292384 else c >>> 1
def bitsX : Nat → UInt32 → UInt32
  | 0, c => c
  | k + 1, c => bitX (bitsX k c)
def stepX (c : UInt32) (x : UInt8) : UInt32 := bitsX 8 (c ^^^ x.toUInt32)
def sumX (b : List UInt8) : UInt32 := ~~~ (b.foldl stepX 4294967295)
theorem u32_and1 (c : UInt32) : bitsA .and .u32 (c.toNat : Int) 1 = ((c &&& 1).toNat : Int) := u32_and c 1
theorem u32_shr1 (c : UInt32) : (c.toNat : Int).fdiv (2 ^ min 1 32) = ((c >>> 1).toNat : Int) := u32_shr c 1 (by omega)
theorem u32_xorP (c : UInt32) : bitsA .xor .u32 (c.toNat : Int) 3988292384 = ((c ^^^ 3988292384).toNat : Int) := u32_xor c 3988292384

theorem bitX_bv (c : UInt32) : (bitX c).toBitVec = (c.toBitVec >>> 1) ^^^ (if c.toBitVec.getLsbD 0 then 3988292384#32 else 0#32) := by
  have h := BitVec.and_one_eq_setWidth_ofBool_getLsbD (x := c.toBitVec)
  unfold bitX
  cases hb : c.toBitVec.getLsbD 0
  · have hc : ¬ (c &&& 1 = 1) := by
      intro hh
      have h2 := congrArg UInt32.toBitVec hh
      rw [hb] at h
      rw [UInt32.toBitVec_and] at h2
      have h3 : c.toBitVec &&& 1#32 = 1#32 := h2
      rw [h3] at h
      exact absurd h (by decide)
    rw [if_neg hc]
    simp
  · have hc : c &&& 1 = 1 := by
      apply UInt32.toBitVec_inj.1
      rw [hb] at h
      rw [UInt32.toBitVec_and]
      exact h
    rw [if_pos hc]
    rfl

theorem nib (c : UInt32) : bitsX 4 c = nibP c := by
  apply UInt32.toBitVec_inj.1
  have e : (bitsX 4 c).toBitVec = (bitX (bitX (bitX (bitX c)))).toBitVec := rfl
  rw [e, bitX_bv, bitX_bv, bitX_bv, bitX_bv]
  unfold nibP
  rw [UInt32.toBitVec_xor]
  have e4 : (c >>> 4).toBitVec = c.toBitVec >>> 4 := rfl
  have e15 : (c &&& 15).toNat = c.toBitVec.toNat % 16 := by
    rw [UInt32.toNat_and]
    exact Nat.and_two_pow_sub_one_eq_mod _ 4
  rw [e4, e15]
  generalize c.toBitVec = x
  have t : ∀ i, x.getLsbD i = x.toNat.testBit i := fun i => rfl
  cases h0 : x.getLsbD 0 <;> cases h1 : x.getLsbD 1 <;> cases h2 : x.getLsbD 2 <;> cases h3 : x.getLsbD 3
  all_goals
    have g0 := h0
    have g1 := h1
    have g2 := h2
    have g3 := h3
    rw [t, Nat.testBit_eq_decide_div_mod_eq] at g0 g1 g2 g3
    simp at g0 g1 g2 g3
    have gm : x.toNat % 16 = (x.toNat % 2) + 2 * (x.toNat / 2 % 2) + 4 * (x.toNat / 4 % 2) + 8 * (x.toNat / 8 % 2) := by omega
    rw [g0, g1, g2, g3] at gm
    rw [gm]
    clear g0 g1 g2 g3 gm t
    simp at h0 h1 h2 h3
    simp [h0, h1, h2, h3, tabP, BitVec.ushiftRight_xor_distrib, ← BitVec.shiftRight_add, BitVec.xor_assoc]

theorem step_eq (c : UInt32) (x : UInt8) : stepP c x = stepX c x := by
  have e : stepX c x = bitsX 4 (bitsX 4 (c ^^^ x.toUInt32)) := rfl
  rw [e, nib, nib]
  rfl
theorem sum_eq (b : List UInt8) : sumP b = sumX b := by
  have : stepP = stepX := funext fun c => funext fun x => step_eq c x
  unfold sumP sumX
  rw [this]

/-- A frame. -/
def frameB (b : List UInt8) : List UInt8 := beB 4 b.length ++ beB 4 (sumX b).toNat ++ b

theorem i64_u32 (c : UInt32) : IntKind.i64.wrap (c.toNat : Int) = c.toNat := wrap_i64_go (by omega) (by have := u32_lt c; omega)

def B9 : List UInt8 := [49, 50, 51, 52, 53, 54, 55, 56, 57]
theorem k1 : (txB [97, 98] == [0, 0, 0, 2, 97, 98]) = true := by decide +kernel
theorem k2 : (((frameB B9).length : Int) == 17) = true := by decide +kernel
theorem k3 : (((frameB B9).drop 4).take 4 == [203, 244, 57, 38]) = true := by decide +kernel


/-- The numbers of a frame's head. -/
def hdN (b : List UInt8) : Nat := (rawN (b.take 4)).toNat
def hdS (b : List UInt8) : Nat := (rawN ((b.drop 4).take 4)).toNat
/-- What a frame's bytes are read as. -/
def unF (b : List UInt8) : List UInt8 × Nat × Int :=
  if b.length < 8 then ([], 0, 8)
  else if 16777216 < hdN b then ([], 0, 5)
  else if b.length < 8 + hdN b then ([], 0, 8)
  else if (sumX ((b.drop 8).take (hdN b))).toNat ≠ hdS b then ([], 0, 12)
  else ((b.drop 8).take (hdN b), 8 + hdN b, 0)

theorem raw4 (l : List UInt8) (hl : l.length ≤ 4) : IntKind.i64.wrap (rawN l) = ((rawN l).toNat : Int) ∧ (rawN l).toNat < 4294967296 := by
  obtain ⟨a, h1, h2⟩ := rawN_lt l (by omega)
  have h3 : 2 ^ (8 * l.length) ≤ 2 ^ 32 := Nat.pow_le_pow_right (by omega) (by omega)
  rw [h1, wrap_i64_go (by omega) (by omega)]
  exact ⟨by simp, by simp; omega⟩
theorem hdN_val (b c : List UInt8) (hb : 4 ≤ c.length) (hc : c.take 4 = b.take 4) : (RS.mk c 0 0).val 4 = (hdN b : Int) ∧ hdN b < 4294967296 := by
  have hok : (RS.mk c 0 0).ok 4 = true := by simp [RS.ok]; omega
  unfold RS.val
  rw [hok]
  simp only [if_true, List.drop_zero]
  rw [hc]
  exact raw4 _ (by simp; omega)
theorem hdS_val (b c : List UInt8) (hb : 8 ≤ c.length) (hc : (c.drop 4).take 4 = (b.drop 4).take 4) : ((RS.mk c 0 0).adv 4).val 4 = (hdS b : Int) ∧ hdS b < 4294967296 := by
  have hok : (RS.mk c 0 0).ok 4 = true := by simp [RS.ok]; omega
  have e : (RS.mk c 0 0).adv 4 = ⟨c, 4, 0⟩ := by
    unfold RS.adv
    rw [hok]
    rfl
  rw [e]
  have hok : (RS.mk c 4 0).ok 4 = true := by simp [RS.ok]; omega
  unfold RS.val
  rw [hok]
  simp only [if_true]
  rw [hc]
  exact raw4 _ (by simp; omega)

theorem raw_be (k : Nat) (hk : k ≤ 8) (n : Nat) (hn : n < 256 ^ k) : (rawN (beB k n)).toNat = n := by
  have h8 : 256 ^ k ≤ 256 ^ 8 := Nat.pow_le_pow_right (by omega) hk
  have hm : IntKind.u64.wrap (n : Int) = n := by
    simp only [IntKind.wrap, IntKind.signed, IntKind.bits]
    simp
    omega
  rw [rawN_val _ (by rw [beB_length]; exact hk), valN_be n n hm k, Nat.mod_eq_of_lt hn]
  simp
theorem frameB_length (x : List UInt8) : (frameB x).length = 8 + x.length := by simp [frameB, beB_length]; omega
theorem hd_frame (x t : List UInt8) (hx : x.length < 4294967296) : hdN (frameB x ++ t) = x.length ∧ hdS (frameB x ++ t) = (sumX x).toNat := by
  constructor
  · unfold hdN frameB
    rw [List.append_assoc, List.append_assoc, List.take_left' (beB_length 4 _)]
    exact raw_be 4 (by omega) _ (by omega)
  · unfold hdS frameB
    rw [List.append_assoc, List.append_assoc, List.drop_left' (beB_length 4 _), List.take_left' (beB_length 4 _)]
    exact raw_be 4 (by omega) _ (by have := (sumX x).toNat_lt; omega)
/-- A frame, with more behind it. -/
theorem unF_frame (x t : List UInt8) (hx : x.length ≤ 16777216) : unF (frameB x ++ t) = (x, 8 + x.length, 0) := by
  obtain ⟨h1, h2⟩ := hd_frame x t (by omega)
  have h3 : (((frameB x ++ t).drop 8).take x.length) = x := by
    unfold frameB
    have h8 : (beB 4 (x.length : Int) ++ beB 4 ((sumX x).toNat : Int)).length = 8 := by simp [beB_length]
    rw [List.append_assoc, List.drop_left' h8, List.take_left]
  have hl : (frameB x ++ t).length = 8 + x.length + t.length := by simp [frameB_length]
  unfold unF
  rw [h1, h2, h3, if_neg (by omega), if_neg (by omega), if_neg (by omega), if_neg (by simp)]
theorem unF_le (b : List UInt8) : (unF b).2.2 = 0 → (unF b).2.1 ≤ b.length := by
  intro h0
  unfold unF at h0 ⊢
  split at h0
  · simp at h0
  split at h0
  · simp at h0
  split at h0
  · simp at h0
  split at h0
  · simp at h0
  rw [if_neg ‹_›, if_neg ‹_›, if_neg ‹_›, if_neg ‹_›]
  simp only
  omega
/-- A frame whose end lacks. -/
theorem unF_cut (x : List UInt8) (c : Nat) (hx : x.length ≤ 16777216) (hc : c < 8 + x.length) : unF ((frameB x).take c) = ([], 0, 8) := by
  have hl : ((frameB x).take c).length = c := by rw [List.length_take, frameB_length]; omega
  unfold unF
  by_cases h8 : c < 8
  · rw [if_pos (by omega)]
  · have h1 : hdN ((frameB x).take c) = x.length := by
      have := (hd_frame x [] (by omega)).1
      rw [List.append_nil] at this
      unfold hdN at this ⊢
      rw [List.take_take, Nat.min_eq_left (by omega)]
      exact this
    rw [h1, if_neg (by omega), if_neg (by omega), if_pos (by omega)]
end Go.Hz
/- Messages: their bytes, and what bytes are read as. -/
set_option linter.unusedSimpArgs false
set_option linter.unusedVariables false
set_option maxRecDepth 10000
namespace Go.Hz

structure En where
  idx : Int
  term : Int
  kind : Int
  data : List UInt8
  deriving DecidableEq
structure Ms where
  kind : Int
  frm : Int
  to : Int
  term : Int
  index : Int
  lterm : Int
  es : List En
  commit : Int
  seq : Int
  ok : Bool
  mtch : Int
  mi : Int
  mt : Int
  vs : List Int
  data : List UInt8
  deriving DecidableEq

def bytesV (b : List UInt8) : AV := .lst (b.map eb)
def En.row (e : En) : List AV := [.int .i64 e.idx, .int .i64 e.term, .int .i64 e.kind, bytesV e.data]
def ensV (l : List En) : AV := .lst (l.map En.row)
def intsV (l : List Int) : AV := .lst (l.map fun k => [AV.int .i64 k])
def Ms.cells (m : Ms) : List AV :=
  [.int .i64 m.kind, .int .i64 m.frm, .int .i64 m.to, .int .i64 m.term, .int .i64 m.index, .int .i64 m.lterm, ensV m.es, .int .i64 m.commit, .int .i64 m.seq, .bool m.ok, .int .i64 m.mtch,
   .int .i64 m.mi, .int .i64 m.mt, intsV m.vs, bytesV m.data]
def Ms.zero : Ms := ⟨0, 0, 0, 0, 0, 0, [], 0, 0, false, 0, 0, 0, [], []⟩

theorem bytesV_len {b : List UInt8} : lenL (bytesV b) = some (.int .i64 b.length) := by simp [bytesV, lenL]
theorem bytesV_str {h : Hp} {b : List UInt8} : bstrA h (bytesV b) = some (.str b) := bstr_lst
theorem bytesV_cells {b : List UInt8} : (bytesV b).cells = [bytesV b] := rfl
theorem bytesV_atom {b : List UInt8} : (bytesV b).isAtom = true := rfl
theorem ensV_len {l : List En} : lenL (ensV l) = some (.int .i64 l.length) := by simp [ensV, lenL]
theorem ensV_cells {l : List En} : (ensV l).cells = [ensV l] := rfl
theorem ensV_atom {l : List En} : (ensV l).isAtom = true := rfl
theorem ensV_at {l : List En} {i : Nat} (hi : i < l.length) : iaA 4 (ensV l) (.int .i64 (i : Int)) = some (.ro l[i].row) := ia_lst hi fun _ => rfl
theorem intsV_len {l : List Int} : lenL (intsV l) = some (.int .i64 l.length) := by simp [intsV, lenL]
theorem intsV_cells {l : List Int} : (intsV l).cells = [intsV l] := rfl
theorem intsV_atom {l : List Int} : (intsV l).isAtom = true := rfl
theorem intsV_at {l : List Int} {i : Nat} (hi : i < l.length) : iaA 1 (intsV l) (.int .i64 (i : Int)) = some (.ro [.int .i64 l[i]]) := ia_lst (f := fun k => [AV.int .i64 k]) hi fun _ => rfl
attribute [go_sem] bytesV_len bytesV_str bytesV_cells bytesV_atom ensV_len ensV_cells ensV_atom intsV_len intsV_cells intsV_atom

theorem Ms.cells_all {m : Ms} : m.cells.all AV.isAtom = true := rfl
theorem Ms.cells_len {m : Ms} : m.cells.length = 15 := rfl
theorem Ms.cells_take {m : Ms} : m.cells.take 15 = m.cells := rfl
attribute [go_sem] Ms.cells_all Ms.cells_len Ms.cells_take
/-- No message is longer. -/
def Ms.room (m : Ms) : Prop := m.es.length ≤ 1000000000000 ∧ m.vs.length ≤ 1000000000000

theorem atoms_En (l : List En) : AtomsL (l.map En.row) := by
  intro e he v hv
  obtain ⟨x, _, rfl⟩ := List.mem_map.1 he
  simp only [En.row, List.mem_cons, List.not_mem_nil, or_false] at hv
  rcases hv with rfl | rfl | rfl | rfl <;> rfl
theorem atoms_int (l : List Int) : AtomsL (l.map fun k => [AV.int .i64 k]) := by
  intro e he v hv
  obtain ⟨x, _, rfl⟩ := List.mem_map.1 he
  simp only [List.mem_cons, List.not_mem_nil, or_false] at hv
  subst hv; rfl

/-! ### bytes -/

def En.B (e : En) : List UInt8 := beB 8 e.idx ++ (beB 8 e.term ++ (beB 1 e.kind ++ txB e.data))
def Ms.five (m : Ms) : List Int := [m.frm, m.to, m.term, m.index, m.lterm]
def flagN (b : Bool) : Int := if b then 1 else 0
def Ms.B (m : Ms) : List UInt8 :=
  beB 1 m.kind ++ (m.five.flatMap (beB 8) ++ (beB 1 m.es.length ++ (m.es.flatMap En.B ++ (beB 8 m.commit ++ (beB 8 m.seq ++ (beB 1 (flagN m.ok) ++ (beB 8 m.mtch ++ (beB 8 m.mi ++ (beB 8 m.mt ++
    (beB 1 m.vs.length ++ (m.vs.flatMap (beB 8) ++ txB m.data)))))))))))
def En.bad (e : En) : Bool := decide (e.kind < 0) || decide (255 < e.kind)
def Ms.e (m : Ms) : Int :=
  if m.kind < 1 ∨ 5 < m.kind then 3 else if 255 < m.es.length ∨ 255 < m.vs.length then 4 else if m.es.any En.bad then 3 else if 16777216 < m.B.length then 5 else 0
def Ms.enc (m : Ms) : List UInt8 := if m.e = 0 then frameB m.B else []

theorem flatMap_succ {α β : Type} {f : α → List β} {l : List α} {i : Nat} (hi : i < l.length) : (l.take (i + 1)).flatMap f = (l.take i).flatMap f ++ f l[i] := by
  rw [List.take_succ_eq_append_getElem hi, List.flatMap_append]
  simp
theorem flatMap_drop {α β : Type} {f : α → List β} {l : List α} {i : Nat} (hi : i < l.length) : (l.drop i).flatMap f = f l[i] ++ (l.drop (i + 1)).flatMap f := by
  rw [List.drop_eq_getElem_cons hi]
  rfl
theorem flatMap_take_le {α β : Type} {f : α → List β} {l : List α} (i : Nat) : ((l.take i).flatMap f).length ≤ (l.flatMap f).length := by
  have : l.flatMap f = (l.take i).flatMap f ++ (l.drop i).flatMap f := by rw [← List.flatMap_append, List.take_append_drop]
  rw [this, List.length_append]
  omega

theorem flat8 (l : List Int) : (l.flatMap (beB 8)).length = 8 * l.length := by
  induction l with
  | nil => rfl
  | cons x l ih => rw [List.flatMap_cons, List.length_append, ih, beB_length, List.length_cons]; omega

/-! ### reading -/

def entP : Nat → RS → List En × RS
  | 0, s => ([], s)
  | n + 1, s => if s.err = 0 then
      (⟨s.val 8, (s.adv 8).val 8, ((s.adv 8).adv 8).val 1, (((s.adv 8).adv 8).adv 1).tx⟩ :: (entP n (((s.adv 8).adv 8).adv 1).atx).1, (entP n (((s.adv 8).adv 8).adv 1).atx).2) else ([], s)
def votP : Nat → RS → List Int × RS
  | 0, s => ([], s)
  | n + 1, s => if s.err = 0 then (s.val 8 :: (votP n (s.adv 8)).1, (votP n (s.adv 8)).2) else ([], s)
/-- A message's inside, from its second number on: the states of the reader on the way. -/
structure RdP where
  s1 : RS
  es : List En
  s2 : RS
  vs : List Int
  s3 : RS
def RS.v (s : RS) (n : Nat) : Nat := (s.val n).toNat
def rdP (s : RS) : RdP :=
  let s1 := (((((s.adv 1).adv 8).adv 8).adv 8).adv 8).adv 8
  let E := entP (s1.v 1) (s1.adv 1)
  let s2 := (((((E.2.adv 8).adv 8).adv 1).adv 8).adv 8).adv 8
  let V := votP (s2.v 1) (s2.adv 1)
  ⟨s1, E.1, E.2, V.1, V.2⟩
def msP (s : RS) : Ms :=
  let r := rdP s
  ⟨s.val 1, (s.adv 1).val 8, ((s.adv 1).adv 8).val 8, (((s.adv 1).adv 8).adv 8).val 8, ((((s.adv 1).adv 8).adv 8).adv 8).val 8, (((((s.adv 1).adv 8).adv 8).adv 8).adv 8).val 8,
   r.es, r.s2.val 8, (r.s2.adv 8).val 8, ((r.s2.adv 8).adv 8).val 1 == 1, (((r.s2.adv 8).adv 8).adv 1).val 8, ((((r.s2.adv 8).adv 8).adv 1).adv 8).val 8, (((((r.s2.adv 8).adv 8).adv 1).adv 8).adv 8).val 8,
   r.vs, r.s3.tx⟩
/-- What is wrong with a message's inside. -/
def erP (s : RS) : Int :=
  let r := rdP s
  if (s.adv 1).err = 0 ∧ (s.val 1 < 1 ∨ 5 < s.val 1) then 3
  else if (((r.s2.adv 8).adv 8).adv 1).err = 0 ∧ 1 < ((r.s2.adv 8).adv 8).val 1 then 11
  else if r.s3.atx.err ≠ 0 then 8
  else if r.s3.atx.a < s.b.length then 9 else 0
/-- What bytes are read as. -/
def parE (b : List UInt8) : Int := if (unF b).2.2 ≠ 0 then (unF b).2.2 else if (unF b).2.1 < b.length then 9 else erP ⟨(unF b).1, 0, 0⟩
def parM (b : List UInt8) : Ms := if parE b = 0 then msP ⟨(unF b).1, 0, 0⟩ else Ms.zero

theorem entP_b (n : Nat) : ∀ s, (entP n s).2.b = s.b := by
  induction n with
  | zero => intro s; rfl
  | succ n ih =>
    intro s
    unfold entP
    split
    · simp only [ih, RS.atx_b]; rfl
    · rfl
theorem votP_b (n : Nat) : ∀ s, (votP n s).2.b = s.b := by
  induction n with
  | zero => intro s; rfl
  | succ n ih =>
    intro s
    unfold votP
    split
    · simp only [ih]; rfl
    · rfl
theorem RS.v_val (s : RS) : s.val 1 = (s.v 1 : Int) ∧ s.v 1 < 256 := by
  obtain ⟨k, h1, h2⟩ := s.val_lt 1 (by omega)
  unfold RS.v
  rw [h1]
  exact ⟨by simp, by simpa using h2⟩
/-- No message, as it is made. -/
def zeroM : List AV := [.int .i64 0, .int .i64 0, .int .i64 0, .int .i64 0, .int .i64 0, .int .i64 0, .nils, .int .i64 0, .int .i64 0, .bool false, .int .i64 0, .int .i64 0, .int .i64 0, .nils, .nils]
theorem GV.zeroM (h : Hp) (k : AV) : GV (.tup [.agg zeroM, k]) h (.tup [.agg Ms.zero.cells, k]) h := by
  refine GV.tup [] [k] ?_
  refine GV.trans (GV.agg [.int .i64 0, .int .i64 0, .int .i64 0, .int .i64 0, .int .i64 0, .int .i64 0] [.int .i64 0, .int .i64 0, .bool false, .int .i64 0, .int .i64 0, .int .i64 0, .nils, .nils] GV.nils) ?_
  refine GV.trans (GV.agg [.int .i64 0, .int .i64 0, .int .i64 0, .int .i64 0, .int .i64 0, .int .i64 0, .lst [], .int .i64 0, .int .i64 0, .bool false, .int .i64 0, .int .i64 0, .int .i64 0] [.nils] GV.nils) ?_
  exact GV.agg [.int .i64 0, .int .i64 0, .int .i64 0, .int .i64 0, .int .i64 0, .int .i64 0, .lst [], .int .i64 0, .int .i64 0, .bool false, .int .i64 0, .int .i64 0, .int .i64 0, .lst []] [] GV.nils
end Go.Hz
/- A reader stands ahead of bytes: what was written is read, and what was read was written. -/
set_option linter.unusedSimpArgs false
set_option linter.unusedVariables false
namespace Go.Hz

/-- A reader that lacks nothing stands ahead of these bytes. -/
def RS.At (s : RS) (r : List UInt8) : Prop := s.err = 0 ∧ s.b.drop s.a = r ∧ s.a ≤ s.b.length

theorem RS.At.i8 {s : RS} {n : Int} {t : List UInt8} (h : s.At (beB 8 n ++ t)) (h1 : -9223372036854775808 ≤ n) (h2 : n ≤ 9223372036854775807) : s.val 8 = n ∧ (s.adv 8).At t := by
  obtain ⟨a, b, c⟩ := RS.be8 h1 h2 h.1 h.2.1
  have hl := congrArg List.length h.2.1
  simp [beB_length] at hl
  exact ⟨a, by rw [b]; exact ⟨rfl, c, by simp only; omega⟩⟩
theorem RS.At.i1 {s : RS} {n : Int} {t : List UInt8} (h : s.At (beB 1 n ++ t)) (h1 : 0 ≤ n) (h2 : n < 256) : s.val 1 = n ∧ (s.adv 1).At t := by
  obtain ⟨a, b, c⟩ := RS.be1 h.1 h.2.1
  have hl := congrArg List.length h.2.1
  simp [beB_length] at hl
  exact ⟨by rw [a]; omega, by rw [b]; exact ⟨rfl, c, by simp only; omega⟩⟩
theorem RS.At.t {s : RS} {x t : List UInt8} (h : s.At (txB x ++ t)) (hx : x.length < 4294967296) : s.tx = x ∧ s.atx.At t := by
  obtain ⟨a, b, c⟩ := RS.beT hx h.1 h.2.1
  have hl := congrArg List.length h.2.1
  simp [txB_length] at hl
  exact ⟨a, by rw [b]; exact ⟨rfl, c, by simp only; omega⟩⟩
theorem RS.At.fin {s : RS} (h : s.At []) : s.a = s.b.length := by
  have := congrArg List.length h.2.1
  simp at this
  have := h.2.2
  omega
theorem RS.At.start (b : List UInt8) : (RS.mk b 0 0).At b := ⟨rfl, rfl, Nat.zero_le _⟩

/-! ### back -/

theorem valN_inj : ∀ {l l' : List UInt8}, l.length = l'.length → valN l = valN l' → l = l'
  | [], [], _, _ => rfl
  | [], _ :: _, h, _ => by simp at h
  | _ :: _, [], h, _ => by simp at h
  | x :: l, y :: l', h, hv => by
    have hl : l.length = l'.length := by simpa using h
    rw [valN_cons, valN_cons, hl] at hv
    have h1 := valN_lt l
    have h2 := valN_lt l'
    rw [hl] at h1
    have hp : 0 < 256 ^ l'.length := Nat.pow_pos (by omega)
    have hx : x.toNat = y.toNat := by
      have e1 : (x.toNat * 256 ^ l'.length + valN l) / 256 ^ l'.length = x.toNat := by
        rw [Nat.mul_comm, Nat.mul_add_div hp, Nat.div_eq_of_lt h1, Nat.add_zero]
      have e2 : (y.toNat * 256 ^ l'.length + valN l') / 256 ^ l'.length = y.toNat := by
        rw [Nat.mul_comm, Nat.mul_add_div hp, Nat.div_eq_of_lt h2, Nat.add_zero]
      rw [← e1, ← e2, hv]
    rw [hx] at hv
    have := valN_inj hl (by omega)
    rw [this, UInt8.toNat_inj.1 hx]
theorem be_raw (l : List UInt8) (hl : l.length ≤ 8) : beB l.length (IntKind.i64.wrap (rawN l)) = l := by
  apply valN_inj (by rw [beB_length])
  have h1 := valN_lt l
  have h8 : 256 ^ l.length ≤ 256 ^ 8 := Nat.pow_le_pow_right (by omega) hl
  rw [rawN_val l hl]
  have hm : IntKind.u64.wrap (IntKind.i64.wrap (valN l : Int)) = (valN l : Int) := by
    simp only [IntKind.wrap, IntKind.signed, IntKind.bits]
    simp
    omega
  rw [valN_be _ (valN l) hm, Nat.mod_eq_of_lt h1]
theorem RS.back {s : RS} {n : Nat} (hn : n ≤ 8) (hg : s.a ≤ s.b.length) (h : (s.adv n).err = 0) : s.err = 0 ∧ s.b.drop s.a = beB n (s.val n) ++ (s.adv n).b.drop (s.adv n).a ∧ (s.adv n).a ≤ (s.adv n).b.length := by
  have hok : s.ok n = true := by
    cases hk : s.ok n
    · have : (s.adv n).err = 8 := by
        show (if s.ok n then s.err else (8 : Int)) = 8
        rw [hk]; rfl
      omega
    · rfl
  obtain ⟨h0, hle⟩ := RS.ok_le hok
  have hlen : ((s.b.drop s.a).take n).length = n := by simp; omega
  have hv : beB n (s.val n) = (s.b.drop s.a).take n := by
    have := be_raw ((s.b.drop s.a).take n) (by omega)
    rw [hlen] at this
    unfold RS.val
    rw [if_pos hok, this]
  have ha : (s.adv n).a = s.a + n := by
    show (if s.ok n then s.a + n else s.a) = _
    rw [hok]; rfl
  refine ⟨h0, ?_, ?_⟩
  · rw [hv, ha, RS.adv_b, ← List.drop_drop, List.take_append_drop]
  · rw [ha, RS.adv_b]; omega
/-- A reader that stood well. -/
def RS.well (s : RS) : Prop := s.a ≤ s.b.length
theorem RS.well.adv {s : RS} (h : s.well) (n : Nat) : (s.adv n).well := by
  unfold RS.well at *
  show (if s.ok n then s.a + n else s.a) ≤ s.b.length
  cases hk : s.ok n
  · exact h
  · have := (RS.ok_le hk).2
    simp only [if_true]
    omega
theorem RS.well.atx {s : RS} (h : s.well) : s.atx.well := by
  unfold RS.atx
  split
  · exact (h.adv 4).adv _
  · exact h
/-- What is left. -/
def RS.rest (s : RS) : List UInt8 := s.b.drop s.a
theorem RS.backN {s : RS} {n : Nat} (hn : n ≤ 8) (hg : s.well) (h : (s.adv n).err = 0) : s.err = 0 ∧ s.rest = beB n (s.val n) ++ (s.adv n).rest := by
  obtain ⟨a, b, c⟩ := RS.back hn hg h
  exact ⟨a, b⟩
theorem RS.backT {s : RS} (hg : s.well) (h : s.atx.err = 0) : s.err = 0 ∧ s.rest = txB s.tx ++ s.atx.rest ∧ s.tx.length < 4294967296 := by
  have hok : (s.adv 4).ok s.txk = true := by
    cases hk : (s.adv 4).ok s.txk
    · have : s.atx.err = 8 := by unfold RS.atx; rw [hk]; rfl
      omega
    · rfl
  have e : s.atx = (s.adv 4).adv s.txk := by unfold RS.atx; rw [hok]; rfl
  have et : s.tx = ((s.b.drop (s.adv 4).a).take s.txk) := by unfold RS.tx; rw [hok]; rfl
  obtain ⟨h4, hle⟩ := RS.ok_le hok
  obtain ⟨a, b⟩ := RS.backN (n := 4) (by omega) hg h4
  obtain ⟨k1, k2⟩ := s.val_txk
  have hle' : s.txk ≤ s.b.length - (s.adv 4).a := hle
  have hl : s.tx.length = s.txk := by rw [et]; simp; omega
  refine ⟨a, ?_, by omega⟩
  rw [b, k1]
  unfold txB
  rw [hl, List.append_assoc]
  congr 1
  have ha : s.atx.a = (s.adv 4).a + s.txk := by
    rw [e]
    show (if (s.adv 4).ok s.txk then _ else _) = _
    rw [hok]; rfl
  unfold RS.rest
  rw [ha, RS.atx_b, RS.adv_b, et, ← List.drop_drop, List.take_append_drop]
end Go.Hz
