/- Lengths, parts of tuples, structs by value, interfaces, function values, min and max. -/
import Derived.Test.YtfbflmiipepmiaaHzPure2
namespace Go.Hz
section
variable {P : Program} {o : Oper}

def lenS : AV → Option AV
  | .str l => some (.int .i64 l.length)
  | _ => none

def lenL : AV → Option AV
  | .lst es => some (.int .i64 es.length)
  | .arr _ _ _ len _ => some (.int .i64 len)
  | .nils => some (.int .i64 0)
  | .emp => some (.int .i64 0)
  | _ => none

def capL : AV → Option AV
  | .arr _ _ _ _ cap => some (.int .i64 cap)
  | .nils => some (.int .i64 0)
  | _ => none

theorem VR.lst_inv {fz : Nat → Prop} {H : Array Obj} {es : List (List AV)} {cv : Value} (h : VR fz H (.lst es) cv) : ∃ ad cap, cv = .slice ad es.length cap := by
  cases h <;> exact ⟨_, _, rfl⟩

theorem sim_lenS {t : TypeId} {ats : Array TypeId} {x : Operand} {x' : AE} (ho : o.op = .call { callee := .builtin .len, args := #[x], argTypes := ats }) (ht : ats[0]? = some t)
    (hd : P.underlying t = some .string) (hx : AE.of x = some x') : OpOK P o (.pure fun e => lenS (x'.ev e)) := by
  refine OpOK.of_pure fun fz e a w he v hv => ?_
  have h1 := AE.of_ok hx he
  simp only [execOp, ho, resolve, List.map_toArray, List.map_cons, List.map_nil]
  generalize a.eval x = cx at *
  generalize x'.ev e = ax at *
  unfold lenS at hv
  split at hv <;> first | (cases hv; done) | skip
  rename_i l
  cases hv
  cases h1.str_inv
  refine ⟨.int .i64 l.length, ?_, .int _ _⟩
  rw [run_bind, run_pure, Result.andThen_ok]
  refine run_value _ ?_
  unfold Builtin.len_
  simp only [ht, List.getElem?_toArray, List.getElem?_cons_zero]
  rw [run_bind, run_underlying hd, Result.andThen_ok]
  show Result.ok (goInt ((ByteArray.mk l.toArray).size : Nat)) w = _
  have : (ByteArray.mk l.toArray).size = l.length := by simp [ByteArray.size]
  rw [this]; rfl

theorem sim_lenL {t el : TypeId} {ats : Array TypeId} {x : Operand} {x' : AE} (ho : o.op = .call { callee := .builtin .len, args := #[x], argTypes := ats }) (ht : ats[0]? = some t)
    (hd : P.underlying t = some (.slice el)) (hx : AE.of x = some x') : OpOK P o (.pure fun e => lenL (x'.ev e)) := by
  refine OpOK.of_pure fun fz e a w he v hv => ?_
  have h1 := AE.of_ok hx he
  simp only [execOp, ho, resolve, List.map_toArray, List.map_cons, List.map_nil]
  generalize a.eval x = cx at *
  generalize x'.ev e = ax at *
  have key : ∀ ad (n cap : Nat), cx = .slice ad n cap → (do let d ← (pure { target := .builtin .len ats o.type (List.map (fun x => match x with | .const _ => true | _ => false) [x]).toArray, args := [cx].toArray } : Sem Deferred); invoke d.target d.args : Sem Next).run P w = .ok (.value (.int .i64 n)) w := fun ad n cap hc => by
    subst hc
    rw [run_bind, run_pure, Result.andThen_ok]
    refine run_value _ ?_
    unfold Builtin.len_
    simp only [ht, List.getElem?_toArray, List.getElem?_cons_zero]
    rw [run_bind, run_underlying hd, Result.andThen_ok]
    rfl
  unfold lenL at hv
  split at hv <;> first | (cases hv; done) | skip
  all_goals cases hv
  · obtain ⟨ad, cap, hc⟩ := h1.lst_inv
    exact ⟨_, key _ _ _ hc, .int _ _⟩
  · obtain ⟨ad, hc⟩ := h1.arr_some
    exact ⟨_, key _ _ _ hc, .int _ _⟩
  · exact ⟨_, key _ _ _ h1.nils_inv, .int _ _⟩
  · obtain ⟨ad, c, hc⟩ := h1.emp_inv
    exact ⟨_, key _ _ _ hc, .int _ _⟩

theorem sim_capL {t el : TypeId} {ats : Array TypeId} {x : Operand} {x' : AE} (ho : o.op = .call { callee := .builtin .cap, args := #[x], argTypes := ats }) (ht : ats[0]? = some t)
    (hd : P.underlying t = some (.slice el)) (hx : AE.of x = some x') : OpOK P o (.pure fun e => capL (x'.ev e)) := by
  refine OpOK.of_pure fun fz e a w he v hv => ?_
  have h1 := AE.of_ok hx he
  simp only [execOp, ho, resolve, List.map_toArray, List.map_cons, List.map_nil]
  generalize a.eval x = cx at *
  generalize x'.ev e = ax at *
  have key : ∀ ad (n cap : Nat), cx = .slice ad n cap → (do let d ← (pure { target := .builtin .cap ats o.type (List.map (fun x => match x with | .const _ => true | _ => false) [x]).toArray, args := [cx].toArray } : Sem Deferred); invoke d.target d.args : Sem Next).run P w = .ok (.value (.int .i64 cap)) w := fun ad n cap hc => by
    subst hc
    rw [run_bind, run_pure, Result.andThen_ok]
    refine run_value _ ?_
    unfold Builtin.cap_
    simp only [ht, List.getElem?_toArray, List.getElem?_cons_zero]
    rw [run_bind, run_underlying hd, Result.andThen_ok]
    rfl
  unfold capL at hv
  split at hv <;> first | (cases hv; done) | skip
  all_goals cases hv
  · obtain ⟨ad, hc⟩ := h1.arr_some
    exact ⟨_, key _ _ _ hc, .int _ _⟩
  · exact ⟨_, key _ _ _ h1.nils_inv, .int _ _⟩

def extA (n : Nat) : AV → Option AV
  | .tup vs => vs[n]?
  | _ => none

theorem VRs.get {fz : Nat → Prop} {H : Array Obj} {as : List AV} {vs : Array Value} {n : Nat} {v : AV} (h : VRs fz H as vs.toList) (hv : as[n]? = some v) : ∃ c, vs[n]? = some c ∧ VR fz H v c := by
  have hlt : n < as.length := (List.getElem?_eq_some_iff.1 hv).1
  have hl := h.1
  simp only [Array.length_toList] at hl
  have h3 := h.2 n hlt (by simp; omega)
  have e2 : as[n] = v := by rw [List.getElem?_eq_getElem hlt] at hv; exact Option.some.inj hv
  exact ⟨vs[n], Array.getElem?_eq_getElem (by omega), by rw [← e2]; simpa using h3⟩

theorem sim_ext {x : Operand} {x' : AE} {n : Nat} (ho : o.op = .extract x n) (hx : AE.of x = some x') : OpOK P o (.pure fun e => extA n (x'.ev e)) := by
  refine OpOK.of_pure fun fz e a w he v hv => ?_
  have h1 := AE.of_ok hx he
  simp only [execOp, ho]
  generalize a.eval x = cx at *
  generalize x'.ev e = ax at *
  unfold extA at hv
  split at hv
  · obtain ⟨vs, rfl, h2⟩ := h1.tup_inv
    obtain ⟨c, h3, h4⟩ := h2.get hv
    exact ⟨c, run_value _ (by simp [Instr.extract, h3]), h4⟩
  · cases hv

theorem sim_mkif {t : TypeId} {d : TypeDesc} {x : Operand} {x' : AE} (ho : o.op = .makeInterface t x) (hd : P.underlying t = some d) (hn : ∀ ms, d ≠ .interface ms) (hx : AE.of x = some x') :
    OpOK P o (.pure fun e => some (.iface t (x'.ev e))) := by
  refine OpOK.of_pure fun fz e a w he v hv => ?_
  have h1 := AE.of_ok hx he
  cases hv
  simp only [execOp, ho]
  refine ⟨.iface t (a.eval x), run_value _ ?_, .iface _ _ _ h1⟩
  unfold Instr.makeInterface
  rw [run_bind, run_underlying hd, Result.andThen_ok]
  cases d <;> first | rfl | exact absurd rfl (hn _)

/-- A type assertion to a type that is no interface. -/
def taA (t : TypeId) (ok : Bool) (zero : AV) : AV → Option AV
  | .iface t' v => if t' = t then some (if ok then .tup [v, .bool true] else v) else if ok then some (.tup [zero, .bool false]) else none
  | .nili => if ok then some (.tup [zero, .bool false]) else none
  | _ => none

theorem VR.tup2 {fz : Nat → Prop} {H : Array Obj} {a b : AV} {c d : Value} (h1 : VR fz H a c) (h2 : VR fz H b d) : VR fz H (.tup [a, b]) (.tuple #[c, d]) := by
  refine .tup _ _ rfl fun i h3 h4 => ?_
  match i, h3 with
  | 0, _ => exact h1
  | 1, _ => exact h2

theorem sim_ta {t xt : TypeId} {d : TypeDesc} {i : TypeInfo} {z : Value} {za : AV} {ok : Bool} {x : Operand} {x' : AE} (ho : o.op = .typeAssert x xt t ok) (hd : P.underlying t = some d) (hn : ∀ ms, d ≠ .interface ms)
    (hi : P.info? t = some i) (hz : i.zero = some z) (hza : avOf z = some za) (hx : AE.of x = some x') : OpOK P o (.pure fun e => taA t ok za (x'.ev e)) := by
  refine OpOK.of_pure fun fz e a w he v hv => ?_
  have h1 := AE.of_ok hx he
  simp only [execOp, ho]
  generalize a.eval x = cx at *
  generalize x'.ev e = ax at *
  unfold taA at hv
  split at hv <;> first | (cases hv; done) | skip
  · rename_i t' v'
    obtain ⟨u, rfl, h2⟩ := h1.iface_inv
    have hrun : ∀ r, (if t' = t then (.ok (if ok then .tuple #[u, .bool true] else u) w : Result Value) else if ok then .ok (.tuple #[z, .bool false]) w else .halt (.stuck "") w) = .ok r w →
        (Instr.typeAssert (.iface t' u) xt t ok).run P w = .ok r w := fun r hr => by
      unfold Instr.typeAssert
      rw [run_bind, run_underlying hd, Result.andThen_ok]
      have : (∀ ms, d ≠ .interface ms) := hn
      cases d <;> first | (exact absurd rfl (hn _)) | skip
      all_goals
        simp only
        split
        · rename_i htt
          rw [if_pos htt] at hr
          cases hr
          cases ok <;> rfl
        · rename_i htt
          rw [if_neg htt] at hr
          cases ok with
          | true => simp at hr; subst hr; simp [run_zero hi hz]
          | false => simp at hr
    split at hv
    · rename_i htt
      cases hv
      refine ⟨_, run_value _ (hrun (if ok then .tuple #[u, .bool true] else u) (by rw [if_pos htt])), ?_⟩
      cases ok
      · exact h2
      · exact VR.tup2 h2 (.bool _)
    · rename_i htt
      split at hv
      · rename_i hok
        cases hv
        exact ⟨_, run_value _ (hrun (.tuple #[z, .bool false]) (by rw [if_neg htt, if_pos hok])), VR.tup2 (avOf_ok hza _ _) (.bool _)⟩
      · cases hv
  · cases h1.nili_inv
    split at hv
    · rename_i hok
      cases hv
      refine ⟨.tuple #[z, .bool false], run_value _ ?_, VR.tup2 (avOf_ok hza _ _) (.bool _)⟩
      unfold Instr.typeAssert
      rw [run_bind, run_underlying hd, Result.andThen_ok]
      cases d <;> first | (exact absurd rfl (hn _)) | skip
      all_goals simp [hok, run_zero hi hz]
    · cases hv

def AE.ofL : List Operand → Option (List AE)
  | [] => some []
  | x :: xs => match AE.of x, AE.ofL xs with
    | some y, some ys => some (y :: ys)
    | _, _ => none

theorem AE.ofL_ok {fz : Nat → Prop} {H : Array Obj} {e : Env} {a : Act} (he : EnvR fz H e a.tmps) : ∀ {xs : List Operand} {ys : List AE}, AE.ofL xs = some ys → VRs fz H (ys.map (·.ev e)) (xs.map a.eval)
  | [], ys, h => by cases h; exact VRs.nil
  | x :: xs, ys, h => by
    unfold AE.ofL at h
    split at h
    · rename_i y ys' h1 h2
      cases h
      exact VRs.cons (AE.of_ok h1 he) (AE.ofL_ok he h2)
    · cases h

theorem sim_mkfn {f : FuncId} {caps : Array Operand} {caps' : List AE} (ho : o.op = .makeFunc (.func f) #[] caps) (hc : AE.ofL caps.toList = some caps') :
    OpOK P o (.pure fun e => some (.fn f (caps'.map (·.ev e)))) := by
  refine OpOK.of_pure fun fz e a w he v hv => ?_
  cases hv
  have h1 := AE.ofL_ok he hc
  simp only [execOp, ho]
  refine ⟨.func (.func f) #[] (caps.map a.eval), run_value _ (by simp [Instr.makeFunc]), .fn f _ _ (by have := h1.1; simpa using this) fun i h2 h3 => ?_⟩
  have := h1.2 i h2 (by simpa using h3)
  simpa using this

def mmA (mx : Bool) : AV → AV → Option AV
  | .int k x, .int k' y => if k = k' then some (.int k (if mx then (if x < y then y else x) else (if y < x then y else x))) else none
  | _, _ => none

theorem sim_mm {mx : Bool} {ats : Array TypeId} {x y : Operand} {x' y' : AE} (ho : o.op = .call { callee := .builtin (if mx then .max else .min), args := #[x, y], argTypes := ats }) (hx : AE.of x = some x') (hy : AE.of y = some y') :
    OpOK P o (.pure fun e => mmA mx (x'.ev e) (y'.ev e)) := by
  refine OpOK.of_pure fun fz e a w he v hv => ?_
  have h1 := AE.of_ok hx he
  have h2 := AE.of_ok hy he
  simp only [execOp, ho, resolve, List.map_toArray, List.map_cons, List.map_nil]
  generalize a.eval x = cx at *
  generalize a.eval y = cy at *
  generalize x'.ev e = ax at *
  generalize y'.ev e = ay at *
  unfold mmA at hv
  split at hv <;> first | (cases hv; done) | skip
  split at hv <;> first | (cases hv; done) | skip
  rename_i hk
  cases h1.int_inv
  cases h2.int_inv
  cases hv
  subst hk
  refine ⟨_, ?_, .int _ _⟩
  cases mx
  · simp [invoke, builtin, Builtin.min_, Builtin.min2]
  · simp [invoke, builtin, Builtin.max_, Builtin.max2]

end
end Go.Hz
