/- Operations that only compute. -/
import Derived.Test.YtfbflmiipepmiaaHzOps
import Derived.Laws.Sem
namespace Go.Hz

theorem OpOK.of_pure {P : Program} {o : Oper} {f : Env → Option AV}
    (h : ∀ (fz : Nat → Prop) (e : Env) (a : Act) (w : World), EnvR fz w.heap e a.tmps → ∀ v, f e = some v → ∃ cv, (execOp a.eval o).run P w = .ok (.value cv) w ∧ VR fz w.heap v cv) : OpOK P o (.pure f) := by
  intro fz e hp a w K he hr hh
  obtain ⟨v, h1, h2⟩ := hh
  obtain ⟨cv, h3, h4⟩ := h fz e a w he v h1
  unfold OutOK
  rw [h3]
  exact ⟨v, hp, fz, h2, h4, hr, Ext.refl _ _ _⟩

theorem OpOK.of_load {P : Program} {o : Oper} {f : Env → Hp → Option AV}
    (h : ∀ (fz : Nat → Prop) (e : Env) (hp : Hp) (a : Act) (w : World), EnvR fz w.heap e a.tmps → Rel fz hp w → ∀ v, f e hp = some v → ∃ cv, (execOp a.eval o).run P w = .ok (.value cv) w ∧ VR fz w.heap v cv) : OpOK P o (.load f) := by
  intro fz e hp a w K he hr hh
  obtain ⟨v, h1, h2⟩ := hh
  obtain ⟨cv, h3, h4⟩ := h fz e hp a w he hr v h1
  unfold OutOK
  rw [h3]
  exact ⟨v, hp, fz, h2, h4, hr, Ext.refl _ _ _⟩

def _root_.Go.TypeDesc.isAg : TypeDesc → Bool
  | .struct _ | .array _ _ => true
  | _ => false

section sem
variable {α β : Type} {P : Program} {w w' : World}
theorem run_bind (s : Sem α) (f : α → Sem β) : (s >>= f).run P w = (s.run P w).andThen fun a w' => (f a).run P w' := Sem.run_bind P w s f
theorem run_pure (a : α) : (pure a : Sem α).run P w = .ok a w := rfl
theorem run_value (s : Sem Value) {v : Value} (h : s.run P w = .ok v w') : (do pure (Next.value (← s)) : Sem Next).run P w = .ok (.value v) w' := by
  simp [h]
theorem run_underlying {t : TypeId} {d : TypeDesc} (h : P.underlying t = some d) : (underlying t).run P w = .ok d w := by
  simp [underlying, h]
theorem run_typeInfo {t : TypeId} {i : TypeInfo} (h : P.info? t = some i) : (typeInfo t).run P w = .ok i w := by
  simp [typeInfo, h]
theorem run_sizeOf {t : TypeId} {i : TypeInfo} (h : P.info? t = some i) : (sizeOf t).run P w = .ok i.size w := by
  simp [sizeOf, run_typeInfo h]
theorem run_zero {t : TypeId} {i : TypeInfo} {v : Value} (h : P.info? t = some i) (hz : i.zero = some v) : (zeroValue t).run P w = .ok v w := by
  simp [zeroValue, run_typeInfo h, hz]
theorem run_isAgg {t : TypeId} {d : TypeDesc} (h : P.underlying t = some d) : (isAgg t).run P w = .ok d.isAg w := by
  simp only [isAgg, run_bind, run_underlying h, Result.andThen_ok]
  cases d <;> rfl
end sem

def bitsA (op : BinOp) (k : IntKind) (x y : Int) : Int :=
  let a := BitVec.ofInt k.bits x
  let b := BitVec.ofInt k.bits y
  match op with
  | .and => k.wrap (a &&& b).toNat
  | .or => k.wrap (a ||| b).toNat
  | .xor => k.wrap (a ^^^ b).toNat
  | _ => k.wrap (a &&& ~~~b).toNat

def binA (op : BinOp) : AV → AV → Option AV
  | .int k a, .int k' b =>
    match op with
    | .shl => if 0 ≤ b then some (.int k (k.wrap (a * 2 ^ (min b.toNat k.bits)))) else none
    | .shr => if 0 ≤ b then some (.int k (a.fdiv (2 ^ (min b.toNat k.bits)))) else none
    | .add => if k = k' then some (.int k (k.wrap (a + b))) else none
    | .sub => if k = k' then some (.int k (k.wrap (a - b))) else none
    | .mul => if k = k' then some (.int k (k.wrap (a * b))) else none
    | .quo => if k = k' ∧ b ≠ 0 then some (.int k (k.wrap (a.tdiv b))) else none
    | .rem => if k = k' ∧ b ≠ 0 then some (.int k (a.tmod b)) else none
    | .and | .or | .xor | .andNot => if k = k' then some (.int k (bitsA op k a b)) else none
    | .eql => if k = k' then some (.bool (a == b)) else none
    | .neq => if k = k' then some (.bool (a != b)) else none
    | .lss => if k = k' then some (.bool (decide (a < b))) else none
    | .leq => if k = k' then some (.bool (decide (a ≤ b))) else none
    | .gtr => if k = k' then some (.bool (decide (b < a))) else none
    | .geq => if k = k' then some (.bool (decide (b ≤ a))) else none
  | .str a, .str b =>
    match op with
    | .add => if a.length + b.length < 9223372036854775808 then some (.str (a ++ b)) else none
    | .eql => some (.bool (a == b))
    | .neq => some (.bool (a != b))
    | .lss => some (.bool (Op.bytesLess a b))
    | .leq => some (.bool (Op.bytesLess a b || a == b))
    | .gtr => some (.bool !(Op.bytesLess a b || a == b))
    | .geq => some (.bool !(Op.bytesLess a b))
    | _ => none
  | _, _ => none

theorem byteArray_toList (l : List UInt8) : (ByteArray.mk l.toArray).toList = l := by
  have h : ∀ (b : ByteArray) (i : Nat) (acc : List UInt8), ByteArray.toList.loop b i acc = acc.reverse ++ b.data.toList.drop i := by
    intro b i acc
    fun_induction ByteArray.toList.loop b i acc with
    | case1 i r hlt ih =>
      rw [ih]
      have hlt' : i < b.data.toList.length := by simpa using hlt
      rw [List.drop_eq_getElem_cons hlt']
      simp only [List.reverse_cons, List.append_assoc, List.singleton_append]
      congr 2
      show b.get! i = _
      simp [ByteArray.get!]
      rw [getElem!_pos b.data i (by simpa using hlt)]
    | case2 i r hlt =>
      have : b.data.toList.length ≤ i := by simpa using hlt
      rw [List.drop_eq_nil_of_le this]; simp
  unfold ByteArray.toList
  rw [h]; simp

theorem byteArray_append (a b : List UInt8) : ByteArray.mk a.toArray ++ ByteArray.mk b.toArray = ByteArray.mk (a ++ b).toArray := by
  apply ByteArray.ext
  simp

theorem sim_bin {P : Program} {o : Oper} {op : BinOp} {t t' : TypeId} {x y : Operand} {x' y' : AE} (ho : o.op = .binOp op t x y t') (hx : AE.of x = some x') (hy : AE.of y = some y') :
    OpOK P o (.pure fun e => binA op (x'.ev e) (y'.ev e)) := by
  refine OpOK.of_pure fun fz e a w he v hv => ?_
  have h1 := AE.of_ok hx he
  have h2 := AE.of_ok hy he
  simp only [execOp, ho]
  suffices h : ∃ cv, (eqGuard op t x y (a.eval x) (a.eval y) >>= fun _ => binOp op t (a.eval x) (a.eval y)).run P w = .ok cv w ∧ VR fz w.heap v cv by
    obtain ⟨cv, h3, h4⟩ := h
    exact ⟨cv, run_value _ h3, h4⟩
  generalize a.eval x = cx at *
  generalize a.eval y = cy at *
  generalize x'.ev e = ax at *
  generalize y'.ev e = ay at *
  unfold binA at hv
  split at hv
  · rename_i k n k' m
    cases h1.int_inv
    cases h2.int_inv
    have hg : (eqGuard op t x y (.int k n) (.int k' m)).run P w = .ok () w := by unfold eqGuard; cases op <;> rfl
    rw [run_bind, hg, Result.andThen_ok]
    cases op <;> simp only at hv <;> split at hv <;> first | (cases hv; done) | skip
    all_goals rename_i hc
    all_goals cases hv
    all_goals first
      | (subst hc
         simp only [binOp, ne_eq, not_true_eq_false, if_false, Op.intBits, Op.intCmp, Op.intArith]
         first | exact ⟨_, rfl, .int _ _⟩ | exact ⟨_, rfl, .bool _⟩)
      | (obtain ⟨rfl, h0⟩ := hc
         simp only [binOp, ne_eq, not_true_eq_false, if_false, Op.intDiv, h0]
         exact ⟨_, rfl, .int _ _⟩)
      | (have hc' : ¬ m < 0 := by omega
         simp only [binOp, Op.shift, hc', if_false]
         exact ⟨_, rfl, .int _ _⟩)
  · rename_i s s'
    cases h1.str_inv
    cases h2.str_inv
    have hg : (eqGuard op t x y (.string ⟨s.toArray⟩) (.string ⟨s'.toArray⟩)).run P w = .ok () w := by unfold eqGuard; cases op <;> rfl
    rw [run_bind, hg, Result.andThen_ok]
    cases op <;> simp only at hv <;> first | (cases hv; done) | skip
    case add =>
      split at hv
      · rename_i hc
        cases hv
        simp only [binOp, Op.stringOp]
        rw [if_neg (by
          show ¬ (((s.toArray.size + s'.toArray.size : Nat) : Int) > IntKind.i64.max)
          simp only [IntKind.max, IntKind.signed, IntKind.bits, List.size_toArray, if_true]; omega)]
        exact ⟨_, rfl, by rw [byteArray_append]; exact .str _⟩
      · cases hv
    all_goals cases hv
    all_goals simp only [binOp, Op.stringOp, byteArray_toList]
    all_goals exact ⟨_, rfl, .bool _⟩
  · cases hv

end Go.Hz
namespace Go.Hz

section more
variable {P : Program} {o : Oper}

theorem sim_mv {x : Operand} {x' : AE} (ho : o.op = .move x ∨ o.op = .assign x) (hx : AE.of x = some x') : OpOK P o (.pure fun e => some (x'.ev e)) := by
  refine OpOK.of_pure fun fz e a w he v hv => ?_
  cases hv
  refine ⟨a.eval x, ?_, AE.of_ok hx he⟩
  rcases ho with ho | ho <;> simp only [execOp, ho] <;> rfl

def pickA (c a b : AV) : Option AV :=
  match c with
  | .bool t => some (if t then a else b)
  | _ => none

theorem sim_pick {c x y : Operand} {c' x' y' : AE} (ho : o.op = .pick c x y) (hc : AE.of c = some c') (hx : AE.of x = some x') (hy : AE.of y = some y') :
    OpOK P o (.pure fun e => pickA (c'.ev e) (x'.ev e) (y'.ev e)) := by
  refine OpOK.of_pure fun fz e a w he v hv => ?_
  have h0 := AE.of_ok hc he
  have h1 := AE.of_ok hx he
  have h2 := AE.of_ok hy he
  unfold pickA at hv
  split at hv
  · rename_i t ht
    rw [ht] at h0
    cases hv
    refine ⟨if t then a.eval x else a.eval y, ?_, by split <;> assumption⟩
    simp [execOp, ho, h0.bool_inv, asBool]
  · cases hv

inductive NK where
  | bool | ptr | sl | mp | fn | ifc

def eqN : NK → AV → AV → Option Bool
  | .bool, .bool a, .bool b => some (a == b)
  | .ptr, .nilp, .nilp => some true
  | .ptr, .ptr _ _ _ _, .nilp => some false
  | .ptr, .nilp, .ptr _ _ _ _ => some false
  | .ptr, .ro _, .nilp => some false
  | .sl, .nils, .nils => some true
  | .sl, .arr _ _ _ _ _, .nils => some false
  | .sl, .emp, .nils => some false
  | .sl, .lst (_ :: _), .nils => some false
  | .mp, .nilm, .nilm => some true
  | .mp, .map _, .nilm => some false
  | .fn, .nilf, .nilf => some true
  | .fn, .fn _ _, .nilf => some false
  | .ifc, .iface _ _, .nili => some false
  | .ifc, .nili, .nili => some true
  | _, _, _ => none

def NK.fits : NK → TypeDesc → Bool
  | .bool, .bool => true
  | .ptr, .pointer _ => true
  | .sl, .slice _ => true
  | .mp, .map _ _ => true
  | .fn, .func _ _ _ => true
  | .ifc, .interface _ => true
  | _, _ => false

theorem VR.ptr_some {fz : Nat → Prop} {H : Array Obj} {cv : Value} {cs : List AV} (h : VR fz H (.ro cs) cv) : ∃ a, cv = .pointer (some a) := by cases h; exact ⟨_, rfl⟩
theorem VR.arr_some {fz : Nat → Prop} {H : Array Obj} {cv : Value} {b s off len cap : Nat} (h : VR fz H (.arr b s off len cap) cv) : ∃ a, cv = .slice (some a) len cap := by
  cases h <;> exact ⟨_, rfl⟩
theorem VR.lst_some {fz : Nat → Prop} {H : Array Obj} {cv : Value} {e : List AV} {es : List (List AV)} (h : VR fz H (.lst (e :: es)) cv) : ∃ a cap, cv = .slice (some a) (e :: es).length cap := by
  cases h; exact ⟨_, _, rfl⟩

theorem eqN_run {k : NK} {t : TypeId} {d : TypeDesc} (hd : P.underlying t = some d) (hk : k.fits d = true) {fz : Nat → Prop} {w : World} {ax ay : AV} {cx cy : Value} {b : Bool}
    (hx : VR fz w.heap ax cx) (hy : VR fz w.heap ay cy) (h : eqN k ax ay = some b) : (Op.equal t cx cy).run P w = .ok b w := by
  unfold Op.equal Op.maxDepth
  rw [show (10000 : Nat) = 9999 + 1 from rfl]
  unfold Op.equalIn
  rw [run_bind, run_underlying hd, Result.andThen_ok]
  unfold eqN at h
  split at h <;> first | (cases h; done) | skip
  all_goals cases h
  · cases hx.bool_inv; cases hy.bool_inv; cases d <;> simp [NK.fits] at hk; rfl
  · cases hx.nilp_inv; cases hy.nilp_inv; cases d <;> simp [NK.fits] at hk; rfl
  · cases hx.ptr_inv; cases hy.nilp_inv; cases d <;> simp [NK.fits] at hk; rfl
  · cases hx.nilp_inv; cases hy.ptr_inv; cases d <;> simp [NK.fits] at hk; rfl
  · obtain ⟨a, rfl⟩ := hx.ptr_some; cases hy.nilp_inv; cases d <;> simp [NK.fits] at hk; rfl
  · cases hx.nils_inv; cases hy.nils_inv; cases d <;> simp [NK.fits] at hk; rfl
  · obtain ⟨a, rfl⟩ := hx.arr_some; cases hy.nils_inv; cases d <;> simp [NK.fits] at hk; rfl
  · obtain ⟨a, c, rfl⟩ := hx.emp_inv; cases hy.nils_inv; cases d <;> simp [NK.fits] at hk; rfl
  · obtain ⟨a, c, rfl⟩ := hx.lst_some; cases hy.nils_inv; cases d <;> simp [NK.fits] at hk; rfl
  · cases hx.nilm_inv; cases hy.nilm_inv; cases d <;> simp [NK.fits] at hk; rfl
  · cases hx.map_inv; cases hy.nilm_inv; cases d <;> simp [NK.fits] at hk; rfl
  · cases hx.nilf_inv; cases hy.nilf_inv; cases d <;> simp [NK.fits] at hk; rfl
  · obtain ⟨vs, rfl, _⟩ := hx.fn_inv; cases hy.nilf_inv; cases d <;> simp [NK.fits] at hk; rfl
  · obtain ⟨vs, rfl, _⟩ := hx.iface_inv; cases hy.nili_inv; cases d <;> simp [NK.fits] at hk; rfl
  · cases hx.nili_inv; cases hy.nili_inv; cases d <;> simp [NK.fits] at hk; rfl

theorem sim_eqn {neg : Bool} {t t' : TypeId} {x y : Operand} {x' y' : AE} {k : NK} {d : TypeDesc} (ho : o.op = .binOp (if neg then .neq else .eql) t x y t') (hd : P.underlying t = some d) (hk : k.fits d = true)
    (hx : AE.of x = some x') (hy : AE.of y = some y') (hc : (y matches .const _) = true ∨ (match k with | .ifc => false | _ => true) = true) :
    OpOK P o (.pure fun e => (eqN k (x'.ev e) (y'.ev e)).map fun b => .bool (if neg then !b else b)) := by
  refine OpOK.of_pure fun fz e a w he v hv => ?_
  have h1 := AE.of_ok hx he
  have h2 := AE.of_ok hy he
  cases hb : eqN k (x'.ev e) (y'.ev e) with
  | none => rw [hb] at hv; cases hv
  | some b =>
    rw [hb] at hv
    cases hv
    have hrun := eqN_run hd hk h1 h2 hb
    refine ⟨.bool (if neg then !b else b), ?_, .bool _⟩
    simp only [execOp, ho]
    refine run_value _ ?_
    have hg : (eqGuard (if neg then .neq else .eql) t x y (a.eval x) (a.eval y)).run P w = .ok () w := by
      generalize a.eval x = cx at *
      generalize hcy : a.eval y = cy at *
      generalize x'.ev e = ax at *
      generalize y'.ev e = ay at *
      unfold eqN at hb
      split at hb <;> first | (cases hb; done) | skip
      · cases h1.bool_inv; cases h2.bool_inv; cases neg <;> rfl
      · cases h1.nilp_inv; cases h2.nilp_inv; cases neg <;> rfl
      · cases h1.ptr_inv; cases h2.nilp_inv; cases neg <;> rfl
      · cases h1.nilp_inv; cases h2.ptr_inv; cases neg <;> rfl
      · obtain ⟨a, rfl⟩ := h1.ptr_some; cases h2.nilp_inv; cases neg <;> rfl
      · cases h1.nils_inv; cases h2.nils_inv; cases neg <;> rfl
      · obtain ⟨a, rfl⟩ := h1.arr_some; cases h2.nils_inv; cases neg <;> rfl
      · obtain ⟨a, c, rfl⟩ := h1.emp_inv; cases h2.nils_inv; cases neg <;> rfl
      · obtain ⟨a, c, rfl⟩ := h1.lst_some; cases h2.nils_inv; cases neg <;> rfl
      · cases h1.nilm_inv; cases h2.nilm_inv; cases neg <;> rfl
      · cases h1.map_inv; cases h2.nilm_inv; cases neg <;> rfl
      · cases h1.nilf_inv; cases h2.nilf_inv; cases neg <;> rfl
      · obtain ⟨vs, rfl, _⟩ := h1.fn_inv; cases h2.nilf_inv; cases neg <;> rfl
      · obtain ⟨vs, rfl, _⟩ := h1.iface_inv; cases h2.nili_inv; cases neg <;> rfl
      · cases h1.nili_inv; cases h2.nili_inv
        rcases hc with hc | hc
        · cases y <;> simp at hc
          cases x <;> cases neg <;> rfl
        · simp at hc
    rw [run_bind, hg, Result.andThen_ok]
    generalize a.eval x = cx at *
    generalize a.eval y = cy at *
    generalize x'.ev e = ax at *
    generalize y'.ev e = ay at *
    have hne : binOp (if neg then .neq else .eql) t cx cy = (Op.equal t cx cy >>= fun r => pure (.bool (if neg then !r else r))) := by
      unfold eqN at hb
      split at hb <;> first | (cases hb; done) | skip
      · cases h1.bool_inv; cases h2.bool_inv; cases neg <;> rfl
      · cases h1.nilp_inv; cases h2.nilp_inv; cases neg <;> rfl
      · cases h1.ptr_inv; cases h2.nilp_inv; cases neg <;> rfl
      · cases h1.nilp_inv; cases h2.ptr_inv; cases neg <;> rfl
      · obtain ⟨a, rfl⟩ := h1.ptr_some; cases h2.nilp_inv; cases neg <;> rfl
      · cases h1.nils_inv; cases h2.nils_inv; cases neg <;> rfl
      · obtain ⟨a, rfl⟩ := h1.arr_some; cases h2.nils_inv; cases neg <;> rfl
      · obtain ⟨a, c, rfl⟩ := h1.emp_inv; cases h2.nils_inv; cases neg <;> rfl
      · obtain ⟨a, c, rfl⟩ := h1.lst_some; cases h2.nils_inv; cases neg <;> rfl
      · cases h1.nilm_inv; cases h2.nilm_inv; cases neg <;> rfl
      · cases h1.map_inv; cases h2.nilm_inv; cases neg <;> rfl
      · cases h1.nilf_inv; cases h2.nilf_inv; cases neg <;> rfl
      · obtain ⟨vs, rfl, _⟩ := h1.fn_inv; cases h2.nilf_inv; cases neg <;> rfl
      · obtain ⟨vs, rfl, _⟩ := h1.iface_inv; cases h2.nili_inv; cases neg <;> rfl
      · cases h1.nili_inv; cases h2.nili_inv; cases neg <;> rfl
    rw [hne]
    simp [hrun]

def unA (op : UnOp) : AV → Option AV
  | .int k n => match op with
    | .neg => some (.int k (k.wrap (0 - n)))
    | .xor => some (.int k (bitsA .xor k (if k.signed then -1 else k.max) n))
    | _ => none
  | .bool b => match op with
    | .not => some (.bool (!b))
    | _ => none
  | _ => none

theorem sim_un {op : UnOp} {t : TypeId} {x : Operand} {x' : AE} (ho : o.op = .unOp op t x) (hx : AE.of x = some x') : OpOK P o (.pure fun e => unA op (x'.ev e)) := by
  refine OpOK.of_pure fun fz e a w he v hv => ?_
  have h1 := AE.of_ok hx he
  simp only [execOp, ho]
  generalize a.eval x = cx at *
  generalize x'.ev e = ax at *
  unfold unA at hv
  split at hv
  · cases h1.int_inv
    cases op <;> cases hv
    · exact ⟨_, rfl, .int _ _⟩
    · exact ⟨_, rfl, .int _ _⟩
  · cases h1.bool_inv
    cases op <;> cases hv
    exact ⟨_, rfl, .bool _⟩
  · cases hv

def cviA (k : IntKind) : AV → Option AV
  | .int _ n => some (.int k (k.wrap n))
  | _ => none

theorem sim_cvi {s d : TypeId} {k : IntKind} {ds : TypeDesc} {x : Operand} {x' : AE} (ho : o.op = .convert s d x) (hs : P.underlying s = some ds) (hd : P.underlying d = some (.int k)) (hx : AE.of x = some x') :
    OpOK P o (.pure fun e => cviA k (x'.ev e)) := by
  refine OpOK.of_pure fun fz e a w he v hv => ?_
  have h1 := AE.of_ok hx he
  simp only [execOp, ho]
  generalize a.eval x = cx at *
  generalize x'.ev e = ax at *
  unfold cviA at hv
  split at hv
  · cases h1.int_inv
    cases hv
    refine ⟨_, run_value _ ?_, .int _ _⟩
    unfold convert
    simp only [run_bind, run_underlying hs, run_underlying hd, Result.andThen_ok]
    cases ds <;> rfl
  · cases hv

def strA : AV → Option AV
  | .str l => some (.str l)
  | _ => none

theorem sim_cvs {s d : TypeId} {x : Operand} {x' : AE} (ho : o.op = .convert s d x) (hs : P.underlying s = some .string) (hd : P.underlying d = some .string) (hx : AE.of x = some x') :
    OpOK P o (.pure fun e => strA (x'.ev e)) := by
  refine OpOK.of_pure fun fz e a w he v hv => ?_
  have h1 := AE.of_ok hx he
  simp only [execOp, ho]
  generalize a.eval x = cx at *
  generalize x'.ev e = ax at *
  unfold strA at hv
  split at hv
  · cases h1.str_inv
    cases hv
    refine ⟨_, run_value _ ?_, .str _⟩
    unfold convert
    simp only [run_bind, run_underlying hs, run_underlying hd, Result.andThen_ok]
    rfl
  · cases hv

def ckA : AV → Option AV
  | .ptr b s i k => some (.ptr b s i k)
  | .ro c => some (.ro c)
  | .fn f c => some (.fn f c)
  | .iface t v => some (.iface t v)
  | _ => none

theorem sim_nilck {x : Operand} {x' : AE} (ho : o.op = .nilCheck x) (hx : AE.of x = some x') : OpOK P o (.pure fun e => ckA (x'.ev e)) := by
  refine OpOK.of_pure fun fz e a w he v hv => ?_
  have h1 := AE.of_ok hx he
  simp only [execOp, ho]
  generalize a.eval x = cx at *
  generalize x'.ev e = ax at *
  unfold ckA at hv
  split at hv <;> first | (cases hv; done) | skip
  · cases hv; cases h1.ptr_inv; exact ⟨_, rfl, h1⟩
  · cases hv; obtain ⟨a, rfl⟩ := h1.ptr_some; exact ⟨_, rfl, h1⟩
  · cases hv; obtain ⟨vs, rfl, _⟩ := h1.fn_inv; exact ⟨_, rfl, h1⟩
  · cases hv; obtain ⟨u, rfl, _⟩ := h1.iface_inv; exact ⟨_, rfl, h1⟩

def faA (off : Nat) : AV → Option AV
  | .ptr b s i k => some (.ptr b s i (k + off))
  | .ro c => if off ≤ c.length then some (.ro (c.drop off)) else none
  | _ => none

theorem Addr.add_none (b o n : Nat) : (⟨b, o, none⟩ : Addr).add n = ⟨b, o + n, none⟩ := by
  unfold Addr.add; split <;> simp_all

theorem VR.ro_drop {fz : Nat → Prop} {H : Array Obj} {c : List AV} {cv : Value} {off : Nat} (h : VR fz H (.ro c) cv) (hl : off ≤ c.length) :
    ∃ b o, cv = .pointer (some ⟨b, o, none⟩) ∧ VR fz H (.ro (c.drop off)) (.pointer (some ⟨b, o + off, none⟩)) := by
  cases h with
  | ro cells b o cs T fr hf hb hc h =>
    refine ⟨b, o, rfl, .ro _ b (o + off) cs T fr hf hb (by simp; omega) fun k h1 h2 => ?_⟩
    have h1' : off + k < c.length := by simp at h1; omega
    have := h (off + k) h1' (by omega)
    simp only [List.getElem_drop, Nat.add_assoc] at this ⊢
    exact this

theorem sim_fa {s : TypeId} {fs : Array Field} {fl : Field} {i : TypeInfo} {x : Operand} {x' : AE} {n : Nat} (ho : o.op = .fieldAddr s x n) (hs : P.underlying s = some (.struct fs)) (hf : fs[n]? = some fl)
    (hi : P.info? fl.type = some i) (h0 : i.size ≠ 0) (hx : AE.of x = some x') : OpOK P o (.pure fun e => faA fl.offset (x'.ev e)) := by
  refine OpOK.of_pure fun fz e a w he v hv => ?_
  have h1 := AE.of_ok hx he
  simp only [execOp, ho]
  generalize a.eval x = cx at *
  generalize x'.ev e = ax at *
  have key : ∀ b o', cx = .pointer (some ⟨b, o', none⟩) → (Instr.fieldAt s cx n).run P w = .ok (.pointer (some ⟨b, o' + fl.offset, none⟩)) w := fun b o' hc => by
    subst hc
    unfold Instr.fieldAt fieldPlace
    simp [run_underlying hs, hf, Instr.sureAddr, run_sizeOf hi, h0, Addr.add_none]
  unfold faA at hv
  split at hv
  · cases hv; cases h1.ptr_inv
    exact ⟨_, run_value _ (key _ _ rfl), by rw [Nat.add_assoc]; exact .ptr _ _ _ _⟩
  · split at hv
    · rename_i hl
      cases hv
      obtain ⟨b, o', rfl, h2⟩ := h1.ro_drop hl
      exact ⟨_, run_value _ (key _ _ rfl), h2⟩
    · cases hv
  · cases hv

/-- A part of cells: a struct or an array, or the one cell. -/
def partA (cs : List AV) (off sz : Nat) (ag : Bool) : Option AV :=
  if ag then (if off + sz ≤ cs.length then some (.agg ((cs.drop off).take sz)) else none) else cs[off]?

theorem part_run {t : TypeId} {d : TypeDesc} {i : TypeInfo} {fz : Nat → Prop} {w : World} {cs : List AV} {vs : Array Value} {off : Nat} {v : AV} (hd : P.underlying t = some d) (hi : P.info? t = some i)
    (hr : VRs fz w.heap cs vs.toList) (hv : partA cs off i.size d.isAg = some v) :
    ∃ cv, (part t vs off).run P w = .ok cv w ∧ VR fz w.heap v cv := by
  unfold part
  rw [run_bind, run_isAgg hd, Result.andThen_ok]
  generalize d.isAg = ag at *
  unfold partA at hv
  cases ag with
  | true =>
    simp only [if_true] at hv ⊢
    split at hv
    · rename_i hle
      cases hv
      have hl := hr.1
      simp only [Array.length_toList] at hl
      refine ⟨.agg (vs.extract off (off + i.size)), by simp [run_sizeOf hi], .agg _ _ (by simp; omega) fun j h1 h2 => ?_⟩
      have h3 := hr.2 (off + j) (by simp at h1; omega) (by simp at h1; simp; omega)
      simp only [List.getElem_take, List.getElem_drop, Array.getElem_extract]
      simpa using h3
    · cases hv
  | false =>
    simp only [Bool.false_eq_true, if_false] at hv ⊢
    have hlt : off < cs.length := (List.getElem?_eq_some_iff.1 hv).1
    have hl := hr.1
    simp only [Array.length_toList] at hl
    have h3 := hr.2 off hlt (by simp; omega)
    have e1 : vs[off]? = some vs[off] := Array.getElem?_eq_getElem (by omega)
    rw [e1]
    have e2 : cs[off] = v := by rw [List.getElem?_eq_getElem hlt] at hv; exact Option.some.inj hv
    exact ⟨_, rfl, by rw [← e2]; simpa using h3⟩

def fldA (off sz : Nat) (ag : Bool) : AV → Option AV
  | .agg cs => partA cs off sz ag
  | _ => none

theorem sim_fld {s : TypeId} {fs : Array Field} {fl : Field} {i : TypeInfo} {d : TypeDesc} {x : Operand} {x' : AE} {n : Nat} (ho : o.op = .field s x n) (hs : P.underlying s = some (.struct fs)) (hf : fs[n]? = some fl)
    (hd : P.underlying fl.type = some d) (hi : P.info? fl.type = some i) (hx : AE.of x = some x') :
    OpOK P o (.pure fun e => fldA fl.offset i.size d.isAg (x'.ev e)) := by
  refine OpOK.of_pure fun fz e a w he v hv => ?_
  have h1 := AE.of_ok hx he
  simp only [execOp, ho]
  generalize a.eval x = cx at *
  generalize x'.ev e = ax at *
  unfold fldA at hv
  split at hv
  · obtain ⟨vs, rfl, h2⟩ := h1.agg_inv
    obtain ⟨cv, h3, h4⟩ := part_run hd hi h2 hv
    refine ⟨cv, run_value _ ?_, h4⟩
    unfold Instr.field
    simp [run_underlying hs, hf, asAgg, h3]
  · cases hv

def ixsA : AV → AV → Option AV
  | .str l, .int _ n => if 0 ≤ n then (l[n.toNat]?).map fun b => .int .u8 b.toNat else none
  | _, _ => none

theorem byteArray_get? (l : List UInt8) (n : Nat) : (ByteArray.mk l.toArray)[n]? = l[n]? := by
  by_cases h : n < l.length
  · rw [List.getElem?_eq_getElem h]
    have h' : n < (ByteArray.mk l.toArray).size := by simpa [ByteArray.size] using h
    rw [getElem?_pos (ByteArray.mk l.toArray) n h']
    rfl
  · rw [List.getElem?_eq_none (by omega)]
    rw [getElem?_neg (ByteArray.mk l.toArray) n (by simpa [ByteArray.size] using h)]

theorem sim_ixs {t : TypeId} {x y : Operand} {x' y' : AE} (ho : o.op = .index t x y) (ht : P.underlying t = some .string) (hx : AE.of x = some x') (hy : AE.of y = some y') :
    OpOK P o (.pure fun e => ixsA (x'.ev e) (y'.ev e)) := by
  refine OpOK.of_pure fun fz e a w he v hv => ?_
  have h1 := AE.of_ok hx he
  have h2 := AE.of_ok hy he
  simp only [execOp, ho]
  generalize a.eval x = cx at *
  generalize a.eval y = cy at *
  generalize x'.ev e = ax at *
  generalize y'.ev e = ay at *
  unfold ixsA at hv
  split at hv
  · rename_i l k n
    cases h1.str_inv
    cases h2.int_inv
    split at hv
    · rename_i h0
      cases hb : l[n.toNat]? with
      | none => rw [hb] at hv; cases hv
      | some b =>
        rw [hb] at hv; cases hv
        refine ⟨_, run_value _ ?_, .int _ _⟩
        unfold Instr.index
        simp [run_underlying ht, asIntOf, h0, byteArray_get?, hb]
    · cases hv
  · cases hv

def iaA (s : Nat) : AV → AV → Option AV
  | .arr b s' off len _, .int _ n => if s' = s ∧ 0 ≤ n ∧ n < len then some (.ptr b s (off + n.toNat) 0) else none
  | .lst es, .int _ n => if 0 ≤ n then (match es[n.toNat]? with
    | some el => if el.length = s then some (.ro el) else none
    | none => none) else none
  | _, _ => none

theorem sim_ia {t el : TypeId} {i : TypeInfo} {x y : Operand} {x' y' : AE} (ho : o.op = .indexAddr t x y) (ht : P.underlying t = some (.slice el)) (hi : P.info? el = some i) (hx : AE.of x = some x') (hy : AE.of y = some y') :
    OpOK P o (.pure fun e => iaA i.size (x'.ev e) (y'.ev e)) := by
  refine OpOK.of_pure fun fz e a w he v hv => ?_
  have h1 := AE.of_ok hx he
  have h2 := AE.of_ok hy he
  simp only [execOp, ho]
  generalize a.eval x = cx at *
  generalize a.eval y = cy at *
  generalize x'.ev e = ax at *
  generalize y'.ev e = ay at *
  have key : ∀ (ad : Addr) (len cap : Nat) (k : IntKind) (n : Int), cx = .slice (some ad) len cap → cy = .int k n → 0 ≤ n → n < len →
      (Instr.indexAt t cx cy).run P w = .ok (.pointer (some (ad.add (n.toNat * i.size)))) w := fun ad len cap k n hc hc' h0 hn => by
    subst hc hc'
    unfold Instr.indexAt
    simp [run_underlying ht, asIntOf, h0, hn, run_sizeOf hi]
  unfold iaA at hv
  split at hv
  · rename_i b s' off len cap k n
    cases h2.int_inv
    split at hv
    · rename_i hc
      obtain ⟨rfl, h0, hn⟩ := hc
      cases hv
      cases h1 with
      | arr => exact ⟨_, run_value _ (key _ _ _ _ _ rfl rfl h0 hn), by rw [Addr.add_none, ← Nat.add_mul, show (off + n.toNat) * i.size = (off + n.toNat) * i.size + 0 from rfl]; exact .ptr _ _ _ _⟩
      | arr0 => simp at hn; omega
    · cases hv
  · rename_i es k n
    cases h2.int_inv
    split at hv
    · rename_i h0
      cases hb : es[n.toNat]? with
      | none => rw [hb] at hv; cases hv
      | some el' =>
        rw [hb] at hv
        simp only at hv
        split at hv
        · rename_i hsz
          cases hv
          have hlt : n.toNat < es.length := (List.getElem?_eq_some_iff.1 hb).1
          have hel : es[n.toNat] = el' := by rw [List.getElem?_eq_getElem hlt] at hb; exact Option.some.inj hb
          cases h1 with
          | lst _ b o' s cap c T fr hf hb' hl hs hc h =>
            have hss : s = i.size := by rw [← hsz, ← hel]; exact (hs _ hlt).symm
            subst hss
            have hle : n.toNat * i.size + i.size ≤ es.length * i.size := by rw [← Nat.succ_mul]; exact Nat.mul_le_mul_right _ hlt
            refine ⟨_, run_value _ (key _ _ _ _ _ rfl rfl h0 (by omega)), ?_⟩
            rw [Addr.add_none]
            subst hel
            refine .ro _ b _ c T fr hf hb' (by rw [hs _ hlt]; omega) fun k h1 h2 => h _ hlt k h1 h2
          | lst0 => simp at hlt
        · cases hv
    · cases hv
  · cases hv

end more
end Go.Hz
