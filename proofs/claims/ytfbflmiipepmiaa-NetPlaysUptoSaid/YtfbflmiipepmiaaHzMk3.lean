/- Strings to bytes, function values that are called, cleared elements. -/
import Derived.Test.YtfbflmiipepmiaaHzMk2
import Derived.Test.YtfbflmiipepmiaaHzGv
namespace Go.Hz
section
variable {P : Program} {o : Oper}

def strbO (x : AV) (h : Hp) (K : AV → Hp → Prop) : Prop :=
  match x with
  | .str l => ∀ n c, h n = none → l.length ≤ c → K (.arr n 1 0 l.length c) (h.set n (.row 1 (l.map eb) c))
  | _ => False
theorem OutOK.imp {s : Sem Next} {w : World} {R R' : Value → World → Prop} (h : OutOK P s w R) (hi : ∀ v w', R v w' → R' v w') : OutOK P s w R' := by
  unfold OutOK at *
  generalize Sem.run P s w = r at *
  split at h
  · exact hi _ _ h
  · exact hi _ _ h
  · exact h.mono fun e w'' ⟨cv, e1, e2⟩ => ⟨cv, e1, hi _ _ e2⟩
  · exact h.elim
/-- Bytes of a string: of one's own, or such as are only read. -/
def strbE (x : AV) (h : Hp) (K : AV → Hp → Prop) : Prop := strbO x h K ∨ ∃ l, x = .str l ∧ K (.lst (l.map eb)) h

theorem freeze_push {w : World} {c : Array Value} {T : TypeId} :
    (pushed w (.cells c T (0, 0))).freeze ⟨w.heap.size, c.size, none⟩ 1 = pushed w (.cells c T (c.size, c.size + 1)) := by
  unfold World.freeze pushed
  simp only [Nat.one_ne_zero, if_false]
  congr 1
  apply Array.ext_getElem?
  intro i
  rw [Array.getElem?_modify, Array.getElem?_push, Array.getElem?_push]
  by_cases hi : w.heap.size = i
  · subst hi; simp
  · simp [hi, Ne.symm hi]

theorem sim_strbO {s d el : TypeId} {x : Operand} {x' : AE} (ho : o.op = .convert s d x) (hs : P.underlying s = some .string) (hd : P.underlying d = some (.slice el)) (he' : P.underlying el = some (.int .u8)) (hx : AE.of x = some x') :
    OpOK P o (.eff fun e h K => strbO (x'.ev e) h K) := by
  intro fz e h a w K he hr hh
  have h1 := AE.of_ok hx he
  change strbO (x'.ev e) h K at hh
  unfold strbO at hh
  split at hh <;> first | exact hh.elim | skip
  rename_i l heq
  rw [heq] at h1
  have h2 := h1.str_inv
  let cap := Question.cut (.appendCap l.length 0 el) (w.tape w.drawn (.appendCap l.length 0 el))
  have hcap : l.length ≤ cap := by simp only [cap, Question.cut]; omega
  let elems : Array Value := (l.map fun b => Value.int .u8 b.toNat).toArray
  let cells : Array Value := elems ++ Array.replicate (cap - l.length) (.int .u8 0)
  have hsz : cells.size = cap := by simp [cells, elems]; omega
  have hfl : Fl fz w.heap (l.map eb) 1 0 (cf cells) := by
    intro i k e' v hi hk
    rw [List.getElem?_map] at hi
    cases hb : l[i]? with
    | none => rw [hb] at hi; cases hi
    | some b =>
      rw [hb] at hi
      cases hi
      cases k with
      | succ k => simp [eb] at hk
      | zero =>
        simp [eb] at hk
        subst hk
        have hlt : i < l.length := (List.getElem?_eq_some_iff.1 hb).1
        refine ⟨.int .u8 b.toNat, ?_, .int _ _⟩
        simp only [cf, Nat.zero_add, Nat.mul_one, Nat.add_zero, cells]
        rw [Array.getElem?_append_left (by simp [elems]; exact hlt)]
        simp [elems, hb]
  have hor : OR fz w.heap (.row 1 (l.map eb) cap) (.cells cells el (cells.size, cells.size + 1)) := by
    refine OR.of_fl (by simpa using hcap) (fun e he => by obtain ⟨b, _, rfl⟩ := List.mem_map.1 he; rfl) (by rw [hsz, Nat.mul_one]) (.inr (Nat.le_refl _)) hfl
  have hr1 : Rel fz h { w with drawn := w.drawn + 1 } := hr.drew
  obtain ⟨m1, m2, m3⟩ := Rel.make (w := { w with drawn := w.drawn + 1 }) hr1 hor
  refine OutOK.of_run (cv := .slice (some ⟨w.heap.size, 0, none⟩) l.length cap) (w' := pushed { w with drawn := w.drawn + 1 } (.cells cells el (cells.size, cells.size + 1))) ?_
    ⟨_, _, fz, hh w.heap.size cap m1 hcap, ?_, m2, Ext.drew.trans m3⟩
  · simp only [execOp, ho]
    refine run_value _ ?_
    unfold convert
    rw [run_bind, run_underlying hs, Result.andThen_ok, run_bind, run_underlying hd, Result.andThen_ok, h2]
    simp only []
    rw [run_bind, run_underlying he', Result.andThen_ok]
    simp only []
    unfold Conv.stringToBytes
    have e1 : (ByteArray.mk l.toArray).size = l.length := by simp [ByteArray.size]
    have e2 : Array.map (fun b : UInt8 => Value.int .u8 b.toNat) (ByteArray.mk l.toArray).data = elems := by simp [elems]
    rw [run_bind, run_choose, e1]
    have hfo : (Question.appendCap l.length 0 el).forced = false := rfl
    rw [hfo]
    simp only [Bool.false_eq_true, if_false, Result.andThen_ok, e2]
    rw [run_bind]
    have hnr : (newRow el cells).run P { w with drawn := w.drawn + 1 } = .ok ⟨w.heap.size, 0, none⟩ (pushed { w with drawn := w.drawn + 1 } (.cells cells el (0, 0))) := rfl
    have hnr' : (newRow el (elems ++ Array.replicate ((Question.appendCap l.length 0 el).cut (w.tape w.drawn (Question.appendCap l.length 0 el)) - l.length) (.int .u8 0))).run P { w with drawn := w.drawn + 1 } = .ok ⟨w.heap.size, 0, none⟩ (pushed { w with drawn := w.drawn + 1 } (.cells cells el (0, 0))) := hnr
    rw [hnr', Result.andThen_ok, run_bind]
    have hsh : (pushed { w with drawn := w.drawn + 1 } (.cells cells el (0, 0))).shape? w.heap.size = some (el, cells.size) := by
      unfold World.shape?
      have := pushed_new (w := { w with drawn := w.drawn + 1 }) (ob := .cells cells el (0, 0))
      simp only at this
      rw [this]
    have hms : (markStringish ⟨w.heap.size, 0, none⟩).run P (pushed { w with drawn := w.drawn + 1 } (.cells cells el (0, 0))) = .ok () (pushed { w with drawn := w.drawn + 1 } (.cells cells el (cells.size, cells.size + 1))) := by
      unfold markStringish
      rw [run_bind, run_shape, Result.andThen_ok, hsh]
      simp only []
      rw [run_freeze]
      congr 1
      exact freeze_push (w := { w with drawn := w.drawn + 1 })
    rw [hms, Result.andThen_ok]
    rfl
  · have := VR.arr (fz := fz) (H := (pushed { w with drawn := w.drawn + 1 } (.cells cells el (cells.size, cells.size + 1))).heap) w.heap.size 1 0 l.length cap
    simpa using this

theorem sim_strb {s d el : TypeId} {x : Operand} {x' : AE} (ho : o.op = .convert s d x) (hs : P.underlying s = some .string) (hd : P.underlying d = some (.slice el)) (he' : P.underlying el = some (.int .u8)) (hx : AE.of x = some x') :
    OpOK P o (.eff fun e h K => strbE (x'.ev e) h K) := by
  intro fz e h a w K he hr hh
  rcases hh with hh | ⟨l, hl, hk⟩
  · exact sim_strbO ho hs hd he' hx fz e h a w K he hr hh
  · refine OutOK.imp (sim_strbO ho hs hd he' hx fz e h a w (fun v h' => ∃ n c, h n = none ∧ l.length ≤ c ∧ v = .arr n 1 0 l.length c ∧ h' = h.set n (.row 1 (l.map eb) c)) he hr ?_) ?_
    · show strbO (x'.ev e) h (fun v h' => ∃ n c, h n = none ∧ l.length ≤ c ∧ v = .arr n 1 0 l.length c ∧ h' = h.set n (.row 1 (l.map eb) c))
      rw [hl]
      exact fun n c hn hc => ⟨n, c, hn, hc, rfl, rfl⟩
    · rintro cv w' ⟨v, h', fz', ⟨n, c, hn, hc, rfl, rfl⟩, q2, q3, q4⟩
      obtain ⟨f2, g1, g2, g3⟩ := GV.arr (h := h.set n (.row 1 (l.map eb) c)) (b := n) (rc := c) (es := l.map eb) (by simp) (by simp) hc fz' w' cv q2 q3
      have e : (h.set n (.row 1 (l.map eb) c)).del n = h := by
        funext x
        by_cases hx : x = n
        · subst hx; simp [hn]
        · rw [Hp.del_ne _ hx, Hp.set_ne _ _ hx]
      rw [e] at g2 g3
      exact ⟨_, _, f2, hk, g1, g2, q4.trans g3⟩

theorem good_strbO {x : AE} : (Sm.eff fun e h K => strbO (x.ev e) h K).good x.looks := by
  refine ⟨fun e e' h K hh hf => ?_, fun e h K K' hk hf => ?_, fun e h K n ob hn hf => ?_⟩
  · dsimp only at hf ⊢
    rwa [← AE.ev_congr (y := x) fun t ht => hh t (by simp [ht])]
  · dsimp only at hf ⊢
    unfold strbO at *
    split at hf <;> first | exact hf.elim | skip
    exact fun n c hn hc => hk _ _ (hf n c hn hc)
  · dsimp only at hf ⊢
    unfold strbO at *
    split at hf <;> first | exact hf.elim | skip
    intro m c hm hc
    have hmn : m ≠ n := fun hh => by rw [hh, Hp.set_same] at hm; cases hm
    rw [Hp.set_ne _ _ hmn] at hm
    exact ⟨_, by rw [Hp.set_ne _ _ (Ne.symm hmn)]; exact hn, Hp.set_comm _ _ _ (Ne.symm hmn), hf m c hm hc⟩

theorem good_strb {x : AE} : (Sm.eff fun e h K => strbE (x.ev e) h K).good x.looks := by
  obtain ⟨a, b, c⟩ := good_strbO (x := x)
  refine ⟨fun e e' h K hl hh => ?_, fun e h K K' hk hh => ?_, fun e h K n ob hn hh => ?_⟩
  · rcases hh with hh | ⟨l, hl', hk⟩
    · exact .inl (a e e' h K hl hh)
    · exact .inr ⟨l, by rw [← AE.ev_congr hl]; exact hl', hk⟩
  · rcases hh with hh | ⟨l, hl', hk'⟩
    · exact .inl (b e h K K' hk hh)
    · exact .inr ⟨l, hl', hk _ _ hk'⟩
  · rcases hh with hh | ⟨l, hl', hk'⟩
    · exact .inl (c e h K n ob hn hh)
    · exact .inr ⟨l, hl', h, hn, rfl, hk'⟩

/-- A function that has a body of its own. -/
def FnOK (P : Program) (f : FuncId) : Prop := ∃ fn, P.funcs[f]? = some fn ∧ fn.name ≠ "runtime.NumGoroutine" ∧ fn.body.isSome = true

def callvE (P : Program) (x : AV) (args : List AV) (h : Hp) (K : AV → Hp → Prop) : Prop :=
  match x with
  | .fn f caps => FnOK P f ∧ Triple P f (args ++ caps) h K
  | _ => False

theorem sim_callv {x : Operand} {x' : AE} {args : Array Operand} {ats : Array TypeId} {args' : List AE} (ho : o.op = .call { callee := .value x, args, argTypes := ats }) (hx : AE.of x = some x') (ha : AE.ofL args.toList = some args') :
    OpOK P o (.eff fun e h K => callvE P (x'.ev e) (args'.map (·.ev e)) h K) := by
  intro fz e h a w K he hr hh
  have h0 := AE.of_ok hx he
  have h1 := AE.ofL_ok he ha
  change callvE P (x'.ev e) (args'.map (·.ev e)) h K at hh
  unfold callvE at hh
  split at hh <;> first | exact hh.elim | skip
  rename_i f caps heq
  obtain ⟨⟨fn, hf, hn, hb⟩, ht⟩ := hh
  rw [heq] at h0
  obtain ⟨vs, h2, h3⟩ := h0.fn_inv
  have hrun : (execOp a.eval o).run P w = .ok (.enter f (Array.map a.eval args ++ vs)) w := by
    simp only [execOp, ho, resolve, Deferred.ofValue, h2]
    rw [run_bind, run_pure, Result.andThen_ok]
    unfold invoke
    simp only [Array.empty_append]
    exact callFunc_run hf hn hb _ _
  refine OutOK.of_enter hrun ?_
  refine (ht fz w (Array.map a.eval args ++ vs) hr (by
    have := VRs.append (by simpa using h1) h3
    simpa using this)).mono ?_
  rintro ed w' ⟨cv, rv, h', fz', rfl, h2, h3, h4, h5⟩
  exact ⟨cv, rfl, rv, h', fz', h5, h2, h3, h4⟩

theorem good_callv {x : AE} {args : List AE} : (Sm.eff fun e h K => callvE P (x.ev e) (args.map (·.ev e)) h K).good (x.looks ++ args.flatMap AE.looks) := by
  refine ⟨fun e e' h K hh hf => ?_, fun e h K K' hk hf => ?_, fun e h K n ob hn hf => ?_⟩
  · dsimp only at hf ⊢
    rwa [← AE.ev_congr (y := x) fun t ht => hh t (by simp [ht]), ← evs_congr fun t ht => hh t (by simp only [List.mem_append]; exact .inr ht)]
  · dsimp only at hf ⊢
    unfold callvE at *
    split at hf <;> first | exact hf.elim | skip
    exact ⟨hf.1, hf.2.mono hk⟩
  · dsimp only at hf ⊢
    unfold callvE at *
    split at hf <;> first | exact hf.elim | skip
    exact ⟨hf.1, hf.2.frame hn⟩

theorem srcN_set {s : Nat} {h : Hp} {y : AV} {ys : List (List AV)} {m n : Nat} {ob : AObj} (hs : srcN s h y m = some ys) (hn : h n = none) : srcN s (h.set n ob) y m = some ys := by
  have key : ∀ z : Option (List (List AV)), (match srcA s h y with
    | some es => if m ≤ es.length then some (es.take m) else none
    | none => none) = some ys → (match srcA s (h.set n ob) y with
    | some es => if m ≤ es.length then some (es.take m) else none
    | none => none) = some ys := fun _ hs => by
    split at hs <;> first | (cases hs; done) | skip
    rename_i es he
    rw [srcA_set he hn]; exact hs
  cases y with
  | arr b s' off len cap =>
    simp only [srcN] at hs ⊢
    have hbn : b ≠ n := fun hh => by rw [hh, hn] at hs; cases hs
    rwa [Hp.set_ne _ _ hbn]
  | _ => exact key none hs

theorem good_cp {s : Nat} {x y : AE} : (Sm.eff fun e h K => cpE s (x.ev e) (y.ev e) h K).good (x.looks ++ y.looks) := by
  refine ⟨fun e e' h K hh hf => ?_, fun e h K K' hk hf => ?_, fun e h K n ob hn hf => ?_⟩
  · dsimp only at hf ⊢
    rwa [← AE.ev_congr (y := x) fun t ht => hh t (by simp [ht]), ← AE.ev_congr (y := y) fun t ht => hh t (by simp [ht])]
  · obtain ⟨ln, ld, ys, h1, h2, h4, h5, h3⟩ := hf
    refine ⟨ln, ld, ys, h1, h2, h4, h5, ?_⟩
    split at h3
    · exact hk _ _ h3
    · split at h3 <;> first | exact h3.elim | skip
      obtain ⟨a1, a2, a3, a4, a5, a6⟩ := h3
      exact ⟨a1, a2, a3, a4, a5, hk _ _ a6⟩
    · exact h3.elim
  · obtain ⟨ln, ld, ys, h1, h2, h4, h5, h3⟩ := hf
    refine ⟨ln, ld, ys, h1, h2, srcN_set h4 hn, h5, ?_⟩
    split at h3
    · exact ⟨h, hn, rfl, h3⟩
    · rename_i b s' off len cap _
      have hbn : b ≠ n := fun hh => by rw [hh, hn] at h3; exact h3.elim
      rw [Hp.set_ne _ _ hbn]
      split at h3 <;> first | exact h3.elim | skip
      obtain ⟨a1, a2, a3, a4, a5, a6⟩ := h3
      exact ⟨a1, a2, a3, a4, a5, _, by rw [Hp.set_ne _ _ (Ne.symm hbn)]; exact hn, Hp.set_comm _ _ _ (Ne.symm hbn), a6⟩
    · exact h3.elim

theorem stA_set {sz : Nat} {h h' : Hp} {p v : AV} {n : Nat} {ob : AObj} (hs : stA sz h p v = some h') (hn : h n = none) : h' n = none ∧ stA sz (h.set n ob) p v = some (h'.set n ob) := by
  unfold stA at hs ⊢
  split at hs <;> first | (cases hs; done) | skip
  rename_i b s i k
  have hbn : b ≠ n := fun hh => by rw [hh, hn] at hs; cases hs
  rw [Hp.set_ne _ _ hbn]
  split at hs <;> first | (cases hs; done) | skip
  split at hs <;> first | (cases hs; done) | skip
  rename_i hcs
  split at hs <;> first | (cases hs; done) | skip
  rename_i hc
  cases hs
  refine ⟨by rw [Hp.set_ne _ _ (Ne.symm hbn)]; exact hn, ?_⟩
  rw [if_pos hc, Hp.set_comm _ _ _ (Ne.symm hbn)]

theorem good_st {sz : Nat} {x y : AE} : (Sm.eff fun e h K => ∃ h', stA sz h (x.ev e) (y.ev e) = some h' ∧ K (.tup []) h').good (x.looks ++ y.looks) := by
  refine ⟨fun e e' h K hh hf => ?_, fun e h K K' hk hf => ?_, fun e h K n ob hn hf => ?_⟩
  · dsimp only at hf ⊢
    rwa [← AE.ev_congr (y := x) fun t ht => hh t (by simp [ht]), ← AE.ev_congr (y := y) fun t ht => hh t (by simp [ht])]
  · obtain ⟨h', h1, h2⟩ := hf
    exact ⟨h', h1, hk _ _ h2⟩
  · obtain ⟨h', h1, h2⟩ := hf
    obtain ⟨h3, h4⟩ := stA_set (ob := ob) h1 hn
    exact ⟨_, h4, h', h3, rfl, h2⟩

theorem cellsAt_set {h : Hp} {v : AV} {cs : List AV} {n : Nat} {ob : AObj} (hs : cellsAt h v = some cs) (hn : h n = none) : cellsAt (h.set n ob) v = some cs := by
  unfold cellsAt at hs ⊢
  split at hs <;> first | exact hs | skip
  rename_i b s' off len
  have hbn : b ≠ n := fun hh => by rw [hh, hn] at hs; cases hs
  rw [Hp.set_ne _ _ hbn]; exact hs

/-- What a value reads of the heap. -/
def readsOf : AV → List Nat
  | .ptr b _ _ _ => [b]
  | .arr b _ _ _ _ => [b]
  | .map b => [b]
  | _ => []

theorem cellsAt_loc {h h' : Hp} {v : AV} (hh : ∀ b ∈ readsOf v, h b = h' b) : cellsAt h v = cellsAt h' v := by
  unfold cellsAt
  split
  · rw [hh _ (by simp [readsOf])]
  · rfl
  · rfl

theorem srcA_loc {s : Nat} {h h' : Hp} {v : AV} (hh : ∀ b ∈ readsOf v, h b = h' b) : srcA s h v = srcA s h' v := by
  unfold srcA
  split <;> first | rfl | skip
  rw [hh _ (by simp [readsOf])]

theorem good_ld {sz : Nat} {ag : Bool} {x : AE} : (Sm.load fun e h => ldA sz ag h (x.ev e)).good x.looks := by
  refine ⟨fun e e' h hh => ?_, fun e h v n ob hf hn => ?_, fun e => ⟨readsOf (x.ev e), fun h h' hh => ?_⟩⟩
  · dsimp only
    rw [AE.ev_congr (y := x) fun t ht => hh t ht]
  · dsimp only at hf ⊢
    unfold ldA at hf ⊢
    split at hf <;> first | (cases hf; done) | skip
    rename_i cs hcs
    rw [cellsAt_set hcs hn]; exact hf
  · dsimp only
    unfold ldA
    rw [cellsAt_loc hh]

theorem good_bstr {x : AE} : (Sm.load fun e h => bstrA h (x.ev e)).good x.looks := by
  refine ⟨fun e e' h hh => ?_, fun e h v n ob hf hn => ?_, fun e => ⟨readsOf (x.ev e), fun h h' hh => ?_⟩⟩
  · dsimp only
    rw [AE.ev_congr (y := x) fun t ht => hh t ht]
  · dsimp only at hf ⊢
    unfold bstrA at hf ⊢
    cases hes : srcA 1 h (x.ev e) with
    | none => rw [hes] at hf; split at hf <;> simp_all
    | some es => rw [srcA_set hes hn]; rw [hes] at hf; exact hf
  · dsimp only
    unfold bstrA
    rw [srcA_loc hh]

end
end Go.Hz
