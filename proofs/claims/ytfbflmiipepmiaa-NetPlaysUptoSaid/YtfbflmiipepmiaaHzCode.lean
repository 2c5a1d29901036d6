/- The operations as data; what each means; from the model's operations to them. -/
import Derived.Test.YtfbflmiipepmiaaHzArr2
namespace Go.Hz

inductive AOp where
  | mv (x : AE)
  | pick (c a b : AE)
  | bin (op : BinOp) (x y : AE)
  | eqn (k : NK) (neg : Bool) (x y : AE)
  | un (op : UnOp) (x : AE)
  | cvi (k : IntKind) (x : AE)
  | cvs (x : AE)
  | nilck (x : AE)
  | fa (off : Nat) (x : AE)
  | fld (off sz : Nat) (ag : Bool) (x : AE)
  | ixs (x i : AE)
  | ia (s : Nat) (x i : AE)
  | slcS (x : AE) (lo hi : Option AE)
  | slcL (s : Nat) (x : AE) (lo hi : Option AE)
  | lenS (x : AE)
  | lenL (x : AE)
  | capL (x : AE)
  | ext (n : Nat) (x : AE)
  | mkif (t : TypeId) (x : AE)
  | ta (t : TypeId) (ok : Bool) (zero : AV) (x : AE)
  | mkfn (f : FuncId) (caps : List AE)
  | mm (mx : Bool) (x y : AE)
  | bld (zero : List AV) (parts : List (Nat × Nat × AE))
  | ld (sz : Nat) (ag : Bool) (x : AE)
  | bstr (x : AE)
  | box (x : AE)
  | alloc (zero : List AV)
  | bsl (zero : List AV) (n : Nat) (parts : List (Nat × AE))
  | msl (bytes : Nat) (zero : List AV) (len cap : AE)
  | st (sz : Nat) (x y : AE)
  | app (s bytes : Nat) (x y : AE)
  | cp (s : Nat) (x y : AE)
  | strb (x : AE)
  | call (f : FuncId) (args : List AE)
  | callv (x : AE) (args : List AE)
  | iap (n s : Nat) (x i : AE)
  | ixa (n s : Nat) (ag : Bool) (x i : AE)
  | cvb (x : AE)
  | nop
  | slcM (s : Nat) (x : AE) (lo : Option AE) (hi mx : AE)
  | clr (s : Nat) (zero : List AV) (x : AE)
  | appz (s bytes : Nat) (zero : List AV) (x y : AE)
  | ovl (s : Nat) (x y : AE)

instance : Inhabited AOp := ⟨.mv (.tm 0)⟩

def oev (e : Env) (x : Option AE) : Option AV := x.map (·.ev e)
def olooks : Option AE → List Nat
  | none => []
  | some x => x.looks
def evs (e : Env) (xs : List AE) : List AV := xs.map (·.ev e)

def AOp.sm (P : Program) : AOp → Sm
  | .mv x => .pure fun e => some (x.ev e)
  | .pick c a b => .pure fun e => pickA (c.ev e) (a.ev e) (b.ev e)
  | .bin op x y => .pure fun e => binA op (x.ev e) (y.ev e)
  | .eqn k neg x y => .pure fun e => (eqN k (x.ev e) (y.ev e)).map fun b => .bool (if neg then !b else b)
  | .un op x => .pure fun e => unA op (x.ev e)
  | .cvi k x => .pure fun e => cviA k (x.ev e)
  | .cvs x => .pure fun e => strA (x.ev e)
  | .nilck x => .pure fun e => ckA (x.ev e)
  | .fa off x => .pure fun e => faA off (x.ev e)
  | .fld off sz ag x => .pure fun e => fldA off sz ag (x.ev e)
  | .ixs x i => .pure fun e => ixsA (x.ev e) (i.ev e)
  | .ia s x i => .pure fun e => iaA s (x.ev e) (i.ev e)
  | .slcS x lo hi => .pure fun e => Hz.slcS (x.ev e) (oev e lo) (oev e hi)
  | .slcL s x lo hi => .pure fun e => Hz.slcL s (x.ev e) (oev e lo) (oev e hi)
  | .lenS x => .pure fun e => Hz.lenS (x.ev e)
  | .lenL x => .pure fun e => Hz.lenL (x.ev e)
  | .capL x => .pure fun e => Hz.capL (x.ev e)
  | .ext n x => .pure fun e => extA n (x.ev e)
  | .mkif t x => .pure fun e => some (.iface t (x.ev e))
  | .ta t ok z x => .pure fun e => taA t ok z (x.ev e)
  | .mkfn f caps => .pure fun e => some (.fn f (evs e caps))
  | .mm mx x y => .pure fun e => mmA mx (x.ev e) (y.ev e)
  | .bld z ps => .pure fun e => (fillA z (evParts e ps)).map .agg
  | .ld sz ag x => .load fun e h => ldA sz ag h (x.ev e)
  | .bstr x => .load fun e h => bstrA h (x.ev e)
  | .box x => .mk fun e => if ((x.ev e).cells.all AV.isAtom) = true then some (.inr (.row (x.ev e).cells.length [(x.ev e).cells] 1, fun n => .ptr n (x.ev e).cells.length 0 0)) else none
  | .alloc z => .mk fun _ => some (.inr (.row z.length [z] 1, fun n => .ptr n z.length 0 0))
  | .bsl z n ps => .mk fun e => (setL z.length (List.replicate n z) (evIdx e ps)).map fun es => .inr (.row z.length es n, fun b => .arr b z.length 0 n n)
  | .msl bytes z l c => .mk fun e => mslA z.length bytes z (l.ev e) (c.ev e)
  | .st sz x y => .eff fun e h K => ∃ h', stA sz h (x.ev e) (y.ev e) = some h' ∧ K (.tup []) h'
  | .app s bytes x y => .eff fun e h K => appE s bytes (x.ev e) (y.ev e) h K
  | .cp s x y => .eff fun e h K => cpE s (x.ev e) (y.ev e) h K
  | .strb x => .eff fun e h K => strbE (x.ev e) h K
  | .call f args => .eff fun e h K => Triple P f (evs e args) h K
  | .callv x args => .eff fun e h K => callvE P (x.ev e) (evs e args) h K
  | .iap n s x i => .pure fun e => iapA n s (x.ev e) (i.ev e)
  | .ixa n s ag x i => .pure fun e => ixaA n s ag (x.ev e) (i.ev e)
  | .cvb x => .eff fun e h K => cvbE (x.ev e) h K
  | .nop => .eff fun _ h K => K (.tup []) h
  | .slcM s x lo hi mx => .pure fun e => Hz.slcM s (x.ev e) (oev e lo) (hi.ev e) (mx.ev e)
  | .clr s z x => .eff fun e h K => clrE s z (x.ev e) h K
  | .appz s bytes z x y => .eff fun e h K => appzE s bytes z (x.ev e) (y.ev e) h K
  | .ovl s x y => .eff fun e h K => ovlE s (x.ev e) (y.ev e) h K

def AOp.looks : AOp → List Nat
  | .mv x | .un _ x | .cvi _ x | .cvs x | .nilck x | .fa _ x | .fld _ _ _ x | .lenS x | .lenL x | .capL x | .ext _ x | .mkif _ x | .ta _ _ _ x | .ld _ _ x | .bstr x | .box x | .strb x | .cvb x | .clr _ _ x => x.looks
  | .pick c a b => c.looks ++ (a.looks ++ b.looks)
  | .bin _ x y | .eqn _ _ x y | .ixs x y | .ia _ x y | .mm _ x y | .st _ x y | .app _ _ x y | .cp _ x y | .msl _ _ x y | .iap _ _ x y | .ixa _ _ _ x y | .appz _ _ _ x y | .ovl _ x y => x.looks ++ y.looks
  | .slcS x lo hi | .slcL _ x lo hi => x.looks ++ (olooks lo ++ olooks hi)
  | .slcM _ x lo hi mx => x.looks ++ (olooks lo ++ (hi.looks ++ mx.looks))
  | .mkfn _ caps => caps.flatMap AE.looks
  | .bld _ ps => ps.flatMap fun p => p.2.2.looks
  | .alloc _ => []
  | .nop => []
  | .bsl _ _ ps => ps.flatMap fun p => p.2.looks
  | .call _ args => args.flatMap AE.looks
  | .callv x args => x.looks ++ args.flatMap AE.looks

inductive Kind where
  | pure | load | mk | eff
  deriving DecidableEq

def AOp.kind : AOp → Kind
  | .ld .. | .bstr .. => .load
  | .box .. | .alloc .. | .bsl .. | .msl .. => .mk
  | .st .. | .app .. | .cp .. | .strb .. | .call .. | .callv .. | .cvb .. | .nop | .clr .. | .appz .. | .ovl .. => .eff
  | _ => .pure

theorem oev_congr {x : Option AE} {e e' : Env} (h : ∀ t ∈ olooks x, e t = e' t) : oev e x = oev e' x := by
  cases x with
  | none => rfl
  | some x => simp only [oev, Option.map_some]; rw [AE.ev_congr h]

theorem evParts_congr {ps : List (Nat × Nat × AE)} {e e' : Env} (h : ∀ t ∈ ps.flatMap (fun p => p.2.2.looks), e t = e' t) : evParts e ps = evParts e' ps :=
  List.map_congr_left fun x hx => by rw [AE.ev_congr fun t ht => h t (List.mem_flatMap.2 ⟨x, hx, ht⟩)]

theorem evIdx_congr {ps : List (Nat × AE)} {e e' : Env} (h : ∀ t ∈ ps.flatMap (fun p => p.2.looks), e t = e' t) : evIdx e ps = evIdx e' ps :=
  List.map_congr_left fun x hx => by rw [AE.ev_congr fun t ht => h t (List.mem_flatMap.2 ⟨x, hx, ht⟩)]

theorem AOp.good (P : Program) (o : AOp) : (o.sm P).good o.looks := by
  cases o with
  | ld sz ag x => exact good_ld
  | bstr x => exact good_bstr
  | st sz x y => exact good_st
  | app s b x y => exact good_app
  | cp s x y => exact good_cp
  | strb x => exact good_strb
  | call f args => exact good_call
  | callv x args => exact good_callv
  | cvb x => exact good_cvb
  | clr s z x => exact good_clr
  | appz s b z x y => exact good_appz
  | ovl s x y => exact good_ovl
  | slcM s x lo hi mx =>
    intro e e' h
    simp only [AOp.looks, List.mem_append] at h
    dsimp only
    rw [AE.ev_congr (y := x) fun t ht => h t (.inl ht), oev_congr (x := lo) fun t ht => h t (.inr (.inl ht)), AE.ev_congr (y := hi) fun t ht => h t (.inr (.inr (.inl ht))), AE.ev_congr (y := mx) fun t ht => h t (.inr (.inr (.inr ht)))]
  | nop => exact ⟨fun _ _ _ _ _ hf => hf, fun _ _ _ _ hk hf => hk _ _ hf, fun e h K n ob hn hf => ⟨h, hn, rfl, hf⟩⟩
  | iap n s x y => intro e e' h; simp only [AOp.looks, List.mem_append] at h; dsimp only; rw [AE.ev_congr (y := x) fun t ht => h t (.inl ht), AE.ev_congr (y := y) fun t ht => h t (.inr ht)]
  | ixa n s ag x y => intro e e' h; simp only [AOp.looks, List.mem_append] at h; dsimp only; rw [AE.ev_congr (y := x) fun t ht => h t (.inl ht), AE.ev_congr (y := y) fun t ht => h t (.inr ht)]
  | slcS x lo hi =>
    intro e e' h
    simp only [AOp.looks, List.mem_append] at h
    dsimp only
    rw [AE.ev_congr (y := x) fun t ht => h t (.inl ht), oev_congr (x := lo) fun t ht => h t (.inr (.inl ht)), oev_congr (x := hi) fun t ht => h t (.inr (.inr ht))]
  | slcL s x lo hi =>
    intro e e' h
    simp only [AOp.looks, List.mem_append] at h
    dsimp only
    rw [AE.ev_congr (y := x) fun t ht => h t (.inl ht), oev_congr (x := lo) fun t ht => h t (.inr (.inl ht)), oev_congr (x := hi) fun t ht => h t (.inr (.inr ht))]
  | pick c a b =>
    intro e e' h
    simp only [AOp.looks, List.mem_append] at h
    dsimp only
    rw [AE.ev_congr (y := c) fun t ht => h t (.inl ht), AE.ev_congr (y := a) fun t ht => h t (.inr (.inl ht)), AE.ev_congr (y := b) fun t ht => h t (.inr (.inr ht))]
  | mkfn f caps => intro e e' h; dsimp only; rw [show evs e caps = evs e' caps from evs_congr h]
  | bld z ps => intro e e' h; dsimp only; rw [evParts_congr h]
  | bsl z n ps => intro e e' h; dsimp only; rw [evIdx_congr h]
  | alloc z => intro e e' h; rfl
  | bin op x y => intro e e' h; simp only [AOp.looks, List.mem_append] at h; dsimp only; rw [AE.ev_congr (y := x) fun t ht => h t (.inl ht), AE.ev_congr (y := y) fun t ht => h t (.inr ht)]
  | eqn k neg x y => intro e e' h; simp only [AOp.looks, List.mem_append] at h; dsimp only; rw [AE.ev_congr (y := x) fun t ht => h t (.inl ht), AE.ev_congr (y := y) fun t ht => h t (.inr ht)]
  | ixs x y => intro e e' h; simp only [AOp.looks, List.mem_append] at h; dsimp only; rw [AE.ev_congr (y := x) fun t ht => h t (.inl ht), AE.ev_congr (y := y) fun t ht => h t (.inr ht)]
  | ia s x y => intro e e' h; simp only [AOp.looks, List.mem_append] at h; dsimp only; rw [AE.ev_congr (y := x) fun t ht => h t (.inl ht), AE.ev_congr (y := y) fun t ht => h t (.inr ht)]
  | mm mx x y => intro e e' h; simp only [AOp.looks, List.mem_append] at h; dsimp only; rw [AE.ev_congr (y := x) fun t ht => h t (.inl ht), AE.ev_congr (y := y) fun t ht => h t (.inr ht)]
  | msl b z x y => intro e e' h; simp only [AOp.looks, List.mem_append] at h; dsimp only; rw [AE.ev_congr (y := x) fun t ht => h t (.inl ht), AE.ev_congr (y := y) fun t ht => h t (.inr ht)]
  | mv x => intro e e' h; dsimp only; rw [AE.ev_congr (y := x) h]
  | un op x => intro e e' h; dsimp only; rw [AE.ev_congr (y := x) h]
  | cvi k x => intro e e' h; dsimp only; rw [AE.ev_congr (y := x) h]
  | cvs x => intro e e' h; dsimp only; rw [AE.ev_congr (y := x) h]
  | nilck x => intro e e' h; dsimp only; rw [AE.ev_congr (y := x) h]
  | fa off x => intro e e' h; dsimp only; rw [AE.ev_congr (y := x) h]
  | fld off sz ag x => intro e e' h; dsimp only; rw [AE.ev_congr (y := x) h]
  | lenS x => intro e e' h; dsimp only; rw [AE.ev_congr (y := x) h]
  | lenL x => intro e e' h; dsimp only; rw [AE.ev_congr (y := x) h]
  | capL x => intro e e' h; dsimp only; rw [AE.ev_congr (y := x) h]
  | ext n x => intro e e' h; dsimp only; rw [AE.ev_congr (y := x) h]
  | mkif t x => intro e e' h; dsimp only; rw [AE.ev_congr (y := x) h]
  | ta t ok z x => intro e e' h; dsimp only; rw [AE.ev_congr (y := x) h]
  | box x => intro e e' h; dsimp only; rw [AE.ev_congr (y := x) h]

theorem AOp.kind_pure {P : Program} {o : AOp} (h : o.kind = .pure) : (o.sm P).isPure = true := by cases o <;> first | rfl | cases h
theorem AOp.kind_load {P : Program} {o : AOp} (h : o.kind = .load) : (o.sm P).isLoad = true := by cases o <;> first | rfl | cases h
theorem AOp.kind_mk {P : Program} {o : AOp} (h : o.kind = .mk) : (o.sm P).isMk = true := by cases o <;> first | rfl | cases h
theorem AOp.kind_eff {P : Program} {o : AOp} (h : o.kind = .eff) : (o.sm P).isEff = true := by cases o <;> first | rfl | cases h

/-! ### from the model's operations -/

def okFn (P : Program) (f : FuncId) : Bool :=
  match P.funcs[f]? with
  | some fn => fn.name != "runtime.NumGoroutine" && fn.body.isSome
  | none => false

def nkOf : TypeDesc → Option NK
  | .bool => some .bool
  | .pointer _ => some .ptr
  | .slice _ => some .sl
  | .map _ _ => some .mp
  | .func _ _ _ => some .fn
  | .interface _ => some .ifc
  | _ => none

def constO : Operand → Bool
  | .const _ => true
  | _ => false

def notInt : TypeDesc → Bool
  | .int _ => false
  | _ => true
def notIfc : NK → Bool
  | .ifc => false
  | _ => true

def o2 {α β γ : Type} (x : Option α) (y : Option β) (f : α → β → γ) : Option γ := match x, y with | some a, some b => some (f a b) | _, _ => none

def compBuiltin (P : Program) (b : Builtin) (args : List Operand) (ats : Array TypeId) : Option AOp :=
  match b, args with
  | .len, [x] => match AE.of x, ats[0]? with
    | some x', some t => match P.underlying t with
      | some .string => some (.lenS x')
      | some (.slice _) => some (.lenL x')
      | _ => none
    | _, _ => none
  | .cap, [x] => match AE.of x, ats[0]? with
    | some x', some t => match P.underlying t with
      | some (.slice _) => some (.capL x')
      | _ => none
    | _, _ => none
  | .max, [x, y] => match AE.of x, AE.of y with
    | some x', some y' => some (.mm true x' y')
    | _, _ => none
  | .min, [x, y] => match AE.of x, AE.of y with
    | some x', some y' => some (.mm false x' y')
    | _, _ => none
  | .append, [x, y] => match AE.of x, AE.of y, ats[0]?, ats[1]? with
    | some x', some y', some xt, some yt => match P.underlying xt, P.underlying yt with
      | some (.slice el), some dy => match P.info? el with
        | some i => match i.zero with
          | some z => if z.cells.size = i.size ∧ i.bytes ≠ 0 then (match dy with
            | .int _ => match zeroA z with
              | some zs => if zs.length = i.size then some (.appz i.size i.bytes zs x' y') else none
              | none => none
            | _ => some (.app i.size i.bytes x' y')) else none
          | none => none
        | none => none
      | _, _ => none
    | _, _, _, _ => none
  | .copy, [x, y] => match AE.of x, AE.of y, ats[0]? with
    | some x', some y', some xt => match P.underlying xt with
      | some (.slice el) => match P.info? el with
        | some i => some (.cp i.size x' y')
        | none => none
      | _ => none
    | _, _, _ => none
  | .clear, [x] => match AE.of x, ats[0]? with
    | some x', some xt => match P.underlying xt with
      | some (.slice el) => match P.info? el with
        | some i => match i.zero with
          | some z => match zeroA z with
            | some zs => if zs.length = i.size ∧ zs.all AV.isAtom = true then some (.clr i.size zs x') else none
            | none => none
          | none => none
        | none => none
      | _ => none
    | _, _ => none
  | _, _ => none

def compOp (P : Program) (o : Oper) : Option AOp :=
  match o.op with
  | .move x => (AE.of x).map .mv
  | .assign x => (AE.of x).map .mv
  | .pick c a b => match AE.of c, AE.of a, AE.of b with
    | some c', some a', some b' => some (.pick c' a' b')
    | _, _, _ => none
  | .binOp op t x y _ => match AE.of x, AE.of y, P.underlying t with
    | some x', some y', some d => match d with
      | .int _ => some (.bin op x' y')
      | .string => some (.bin op x' y')
      | d => match op, nkOf d with
        | .eql, some k => if constO y = true ∨ notIfc k = true then some (.eqn k false x' y') else none
        | .neq, some k => if constO y = true ∨ notIfc k = true then some (.eqn k true x' y') else none
        | _, _ => none
    | _, _, _ => none
  | .unOp op _ x => (AE.of x).map (.un op)
  | .convert s d x => match AE.of x, P.underlying s, P.underlying d with
    | some x', some ds, some dd => match ds, dd with
      | .string, .string => some (.cvs x')
      | .string, .slice el => match P.underlying el with
        | some (.int .u8) => some (.strb x')
        | _ => none
      | .slice el, .string => match P.underlying el with
        | some (.int .u8) => some (.bstr x')
        | _ => none
      | .int _, .int k => some (.cvi k x')
      | .slice el, .slice _ => if s = d then (match P.underlying el with
        | some (.int .u8) => some (.cvb x')
        | _ => none) else none
      | _, _ => none
    | _, _, _ => none
  | .nilCheck x => (AE.of x).map .nilck
  | .fieldAddr s x n => match AE.of x, P.underlying s with
    | some x', some (.struct fs) => match fs[n]? with
      | some fl => match P.info? fl.type with
        | some i => if i.size ≠ 0 then some (.fa fl.offset x') else none
        | none => none
      | none => none
    | _, _ => none
  | .field s x n => match AE.of x, P.underlying s with
    | some x', some (.struct fs) => match fs[n]? with
      | some fl => match P.info? fl.type, P.underlying fl.type with
        | some i, some d => some (.fld fl.offset i.size d.isAg x')
        | _, _ => none
      | none => none
    | _, _ => none
  | .index t x i => match AE.of x, AE.of i, P.underlying t with
    | some x', some i', some .string => some (.ixs x' i')
    | some x', some i', some (.array n el) => match P.info? el, P.underlying el with
      | some inf, some d => some (.ixa n inf.size d.isAg x' i')
      | _, _ => none
    | _, _, _ => none
  | .indexAddr t x i => match AE.of x, AE.of i, P.underlying t with
    | some x', some i', some (.slice el) => match P.info? el with
      | some inf => some (.ia inf.size x' i')
      | none => none
    | some x', some i', some (.array n el) => match P.info? el with
      | some inf => some (.iap n inf.size x' i')
      | none => none
    | _, _, _ => none
  | .slice t x lo hi none => match AE.of x, AE.ofO lo, AE.ofO hi, P.underlying t with
    | some x', some lo', some hi', some d => match d with
      | .string => some (.slcS x' lo' hi')
      | .slice el => match P.info? el with
        | some inf => some (.slcL inf.size x' lo' hi')
        | none => none
      | _ => none
    | _, _, _, _ => none
  | .slice t x lo (some hi) (some mx) => match AE.of x, AE.ofO lo, AE.of hi, AE.of mx, P.underlying t with
    | some x', some lo', some hi', some mx', some (.slice el) => match P.info? el with
      | some inf => some (.slcM inf.size x' lo' hi' mx')
      | none => none
    | _, _, _, _, _ => none
  | .extract x n => (AE.of x).map (.ext n)
  | .makeInterface t x => match AE.of x, P.underlying t with
    | some x', some d => match d with
      | .interface _ => none
      | _ => some (.mkif t x')
    | _, _ => none
  | .typeAssert x _ t ok => match AE.of x, P.underlying t, P.info? t with
    | some x', some d, some i => match d with
      | .interface _ => none
      | _ => match i.zero with
        | some z => match avOf z with
          | some za => some (.ta t ok za x')
          | none => none
        | none => none
    | _, _, _ => none
  | .makeFunc (.func f) first caps => if first = #[] then (AE.ofL caps.toList).map (.mkfn f) else none
  | .build t parts => match P.underlying t, P.info? t with
    | some (.struct fs), some i => match i.zero with
      | some z => match zeroA z with
        | some zs => if (fs.toList.all fun f => (P.info? f.type).isSome) = true then (AE.ofParts ((placesOf P fs)[·]?) parts.toList).map (.bld zs) else none
        | none => none
      | none => none
    | some (.array _ el), some i => match i.zero, P.info? el with
      | some z, some ie => match zeroA z with
        | some zs => (AE.ofParts (fun i => some (i * ie.size, ie.size)) parts.toList).map (.bld zs)
        | none => none
      | _, _ => none
    | _, _ => none
  | .load t x => match AE.of x, P.underlying t, P.info? t with
    | some x', some d, some i => some (.ld i.size d.isAg x')
    | _, _, _ => none
  | .box _ x => (AE.of x).map .box
  | .alloc t => match P.info? t with
    | some i => match i.zero with
      | some z => (zeroA z).map .alloc
      | none => none
    | none => none
  | .buildSlice t n parts => match P.underlying t with
    | some (.slice el) => match P.info? el with
      | some i => match i.zero with
        | some z => match zeroA z with
          | some zs => if zs.length = i.size ∧ n * i.size ≤ 16777216 then (AE.ofIdx parts.toList).map (.bsl zs n) else none
          | none => none
        | none => none
      | none => none
    | _ => none
  | .makeSlice t l c => match AE.of l, AE.of c, P.underlying t with
    | some l', some c', some (.slice el) => match P.info? el with
      | some i => match i.zero with
        | some z => match zeroA z with
          | some zs => if zs.length = i.size then some (.msl i.bytes zs l' c') else none
          | none => none
        | none => none
      | none => none
    | _, _, _ => none
  | .store t x y => match AE.of x, AE.of y, P.info? t with
    | some x', some y', some i => some (.st i.size x' y')
    | _, _, _ => none
  | .call c => match c.callee with
    | .value (.func f) => if okFn P f = true then (AE.ofL c.args.toList).map (.call f) else match c.args.toList with
      | [x, y] => match ovlOf P f, AE.of x, AE.of y with
        | some s, some x', some y' => some (.ovl s x' y')
        | _, _, _ => none
      | _ => none
    | .value x => match AE.of x, AE.ofL c.args.toList with
      | some x', some as => some (.callv x' as)
      | _, _ => none
    | .builtin b => compBuiltin P b c.args.toList c.argTypes
    | .invoke _ _ => none
  | _ => none

end Go.Hz
