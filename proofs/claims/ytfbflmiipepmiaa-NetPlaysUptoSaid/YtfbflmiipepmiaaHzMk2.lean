/- make, copy, clear, strings and bytes, function values. -/
import Derived.Test.YtfbflmiipepmiaaHzMk
namespace Go.Hz
section
variable {P : Program} {o : Oper}

def mslA (s bytes : Nat) (zs : List AV) (l c : AV) : Option (AV ⊕ (AObj × (Nat → AV))) :=
  match l, c with
  | .int _ l, .int _ c => if 0 ≤ l ∧ l ≤ c ∧ c ≤ 140737488355328 ∧ c * bytes ≤ 140737488355328 then some (.inr (.row s (List.replicate l.toNat zs) c.toNat, fun n => .arr n s 0 l.toNat c.toNat)) else none
  | _, _ => none

theorem wrap_i64_in {n : Int} (h0 : -9223372036854775808 ≤ n) (h1 : n < 9223372036854775808) : IntKind.i64.wrap n = n := by
  rw [IntKind.wrap_i64]; omega

theorem sim_msl {t el : TypeId} {i : TypeInfo} {z : Value} {zs : List AV} {l c : Operand} {l' c' : AE} (ho : o.op = .makeSlice t l c) (hd : P.underlying t = some (.slice el)) (hi : P.info? el = some i)
    (hz : i.zero = some z) (hzs : zeroA z = some zs) (hsz : zs.length = i.size) (hl : AE.of l = some l') (hc : AE.of c = some c') :
    OpOK P o (.mk fun e => mslA zs.length i.bytes zs (l'.ev e) (c'.ev e)) := by
  intro fz e h a w K he hr hh
  obtain ⟨r, h1, h2⟩ := hh
  have hl1 := AE.of_ok hl he
  have hc1 := AE.of_ok hc he
  dsimp only at h1
  generalize l'.ev e = al at *
  generalize c'.ev e = ac at *
  unfold mslA at h1
  split at h1 <;> first | (cases h1; done) | skip
  rename_i kl l0 kc c0
  split at h1 <;> first | (cases h1; done) | skip
  rename_i hcond
  obtain ⟨q0, q1, q2, q3⟩ := hcond
  cases h1
  simp only at h2
  have hel := hl1.int_inv
  have hec := hc1.int_inv
  have hzr := zeroA_ok hzs fz w.heap
  obtain ⟨ln, rfl⟩ := Int.eq_ofNat_of_zero_le q0
  obtain ⟨cn, rfl⟩ := Int.eq_ofNat_of_zero_le (Int.le_trans q0 q1)
  simp only [Int.toNat_natCast] at h2
  have hle : ln ≤ cn := by omega
  have hfl := zeroTile_fl (zs := zs) (z := z.cells) hzr ln cn hle
  have hor : OR fz w.heap (.row zs.length (List.replicate ln zs) cn) (.cells ((Array.range (cn * zs.length)).map (z.cells[· % z.cells.size]!)) el (0, 0)) :=
    OR.of_fl (by simpa using hle) (fun e he => by rw [List.eq_of_mem_replicate he]) (by simp) Soft.zero hfl
  obtain ⟨m1, m2, m3⟩ := hr.make hor
  refine OutOK.of_run (cv := .slice (some ⟨w.heap.size, 0, none⟩) ln cn) (w' := pushed w (.cells ((Array.range (cn * zs.length)).map (z.cells[· % z.cells.size]!)) el (0, 0))) ?_ ⟨_, _, fz, h2 w.heap.size m1, ?_, m2, m3⟩
  · simp only [execOp, ho, hel, hec]
    refine run_value _ ?_
    unfold Instr.makeSlice
    rw [run_bind, run_underlying hd, Result.andThen_ok]
    simp only [asInt, asIntOf]
    rw [run_bind, run_bind, run_pure, Result.andThen_ok, run_pure, Result.andThen_ok, run_bind, run_bind, run_pure, Result.andThen_ok, run_pure, Result.andThen_ok, run_bind, run_typeInfo hi, Result.andThen_ok]
    have w1 : IntKind.i64.wrap (ln : Int) = ln := wrap_i64_in (by omega) (by omega)
    have w2 : IntKind.i64.wrap (cn : Int) = cn := wrap_i64_in (by omega) (by omega)
    have q3' : ¬ ((i.bytes : Int) * (cn : Int) > 2 ^ 48) := by rw [Int.mul_comm]; omega
    simp only [w1, w2, Int.toNat_natCast]
    have g : (((decide ((cn : Int) < 0) || decide ((i.bytes : Int) * (cn : Int) > 2 ^ 48)) || decide ((ln : Int) < 0)) || decide ((ln : Int) > cn)) = false := by
      simp only [Bool.or_eq_false_iff, decide_eq_false_iff_not]; omega
    rw [g]
    simp only [Bool.false_eq_true, if_false]
    rw [run_bind, run_askRoom, Result.andThen_ok, run_bind, run_sizeOf hi, Result.andThen_ok]
    by_cases h0 : cn * i.size = 0
    · rw [if_pos h0, run_bind, run_pure, Result.andThen_ok]
      have e3 : Array.map (fun x => (#[] : Array Value)[x % (#[] : Array Value).size]!) (Array.range (cn * i.size)) = (Array.range (cn * zs.length)).map (z.cells[· % z.cells.size]!) := by
        rw [hsz, h0]; simp
      rw [e3]; rfl
    · rw [if_neg h0, run_bind, run_zero hi hz, Result.andThen_ok, run_bind, run_pure, Result.andThen_ok, ← hsz]
      rfl
  · have := VR.arr (fz := fz) (H := (pushed w (.cells ((Array.range (cn * zs.length)).map (z.cells[· % z.cells.size]!)) el (0, 0))).heap) w.heap.size zs.length 0 ln cn
    simpa using this

/-- copy(dst, src). -/
def cpE (s : Nat) (dst src : AV) (h : Hp) (K : AV → Hp → Prop) : Prop :=
  ∃ n d ys, lenN src = some n ∧ lenN dst = some d ∧ srcN s h src (min n d) = some ys ∧ AtomsL ys ∧
  match dst with
  | .nils => K (.int .i64 0) h
  | .arr b s' off len cap => match h b with
    | some (.row s'' es rc) => s' = s ∧ s'' = s ∧ off ≤ es.length ∧ off + len ≤ rc ∧ len ≤ cap ∧
        K (.int .i64 ((min n d : Nat) : Int)) (h.set b (.row s (es.take off ++ ys ++ es.drop (off + min n d)) rc))
    | _ => False
  | _ => False

theorem copy_run {ats : Array TypeId} {xt el ty : TypeId} {i : TypeInfo} (hx : ats[0]? = some xt) (hd : P.underlying xt = some (.slice el)) (hi : P.info? el = some i)
    {fz : Nat → Prop} {h : Hp} {w : World} (hr : Rel fz h w) {ax ay : AV} {cx cy : Value} (hvx : VR fz w.heap ax cx) (hvy : VR fz w.heap ay cy)
    {K : AV → Hp → Prop} (hk : cpE i.size ax ay h K) : ∃ cv w', (Builtin.copy_ ats ty #[cx, cy]).run P w = .ok cv w' ∧ After fz h w K cv w' := by
  obtain ⟨ln, ld, ys, hln, hld, hys, hats, hk⟩ := hk
  obtain ⟨s1, sl, new, n1, n2, n3⟩ := srcN_run (P := P) hr hvy hys
  have s2 := lenN_run (P := P) hvy hln
  have hxa : (#[cx, cy] : Array Value)[0]? = some cx := rfl
  have hya : (#[cx, cy] : Array Value)[1]? = some cy := rfl
  have run : ∀ (base : Option Addr) (cap : Nat) (w' : World), cx = .slice base ld cap →
      (match base with
        | some a => (storeCells a new.toList).run P w
        | none => .ok () w) = .ok () w' → (Builtin.copy_ ats ty #[cx, cy]).run P w = .ok (.int .i64 ((min ln ld : Nat) : Int)) w' := fun base cap w' hc hst => by
    subst hc
    unfold Builtin.copy_
    simp only [hx, hxa, hya]
    rw [run_bind, run_underlying hd, Result.andThen_ok]
    simp only []
    rw [run_bind, s2, Result.andThen_ok, run_bind, run_sizeOf hi, Result.andThen_ok]
    have hn' : (Builtin.firstCells i.size (Nat.min ln ld) cy).run P w = .ok new w := n1
    rw [run_bind, hn', Result.andThen_ok]
    cases base with
    | none => simp only at hst; cases hst; rfl
    | some a =>
      simp only at hst ⊢
      rw [run_bind, hst, Result.andThen_ok]; rfl
  split at hk
  · cases hvx.nils_inv
    cases hld
    refine ⟨_, w, run none 0 w rfl rfl, ?_⟩
    rw [Nat.min_zero]
    exact ⟨_, h, fz, hk, .int _ _, hr, Ext.refl _ _ _⟩
  · rename_i b s' off len cap
    cases hld
    split at hk <;> first | exact hk.elim | skip
    rename_i s'' es rc hb
    obtain ⟨rfl, rfl, hoff, hrc, hlc, k⟩ := hk
    generalize hm : min ln ld = m at *
    have n4 := n3.atoms s1 (by rw [sl]; exact n2) hats
    obtain ⟨c, T, fr, q1, q2, q3, q4, q5, q6⟩ := hr.row_fl hb
    obtain ⟨ad, rfl⟩ := hvx.arr_some
    by_cases hm0 : m = 0
    · subst hm0
      have hnew : new = #[] := Array.eq_empty_of_size_eq_zero (by simpa using n2)
      have hst : (storeCells ad new.toList).run P w = .ok () w := by rw [hnew]; rfl
      refine ⟨_, w, run (some ad) cap w rfl hst, ?_⟩
      refine ⟨_, _, fz, k, .int _ _, ?_, ?_⟩
      · have hy0 : ys = [] := List.eq_nil_of_length_eq_zero sl
        have e : es.take off ++ ys ++ es.drop (off + 0) = es := by rw [hy0]; simp
        rw [e]
        refine ⟨hr.lt, fun x ox hx => ?_⟩
        by_cases hxb : x = b
        · subst hxb; rw [Hp.set_same] at hx; cases hx; exact hr.own x _ hb
        · rw [Hp.set_ne _ _ hxb] at hx; exact hr.own x ox hx
      · refine ⟨rfl, rfl, rfl, Nat.le_refl _, fun _ h => h, fun x hx hn => ⟨rfl, ?_⟩, fun _ h => .inl h⟩
        have hxb : x ≠ b := fun hh => by rw [hh, hb] at hn; cases hn
        rw [Hp.set_ne _ _ hxb]; exact hn
    · have had : ad = ⟨b, off * i.size, none⟩ := by
        cases hvx with
        | arr => rfl
        | arr0 => omega
      subst had
      have hmul := Nat.mul_le_mul_right i.size (show off + m ≤ rc by omega)
      rw [Nat.add_mul] at hmul
      have hst := storeCells_run (P := P) new.toList w c (off * i.size) 0 q1 q5 (by rw [Array.length_toList, n2, q4]; omega) n4
      have hor : OR fz w.heap (.row i.size (es.take off ++ ys ++ es.drop (off + m)) rc) (.cells (writeA c (off * i.size + 0) new.toList) T fr) := by
        have hto : (es.take off).length = off := by simp; omega
        refine OR.of_fl (by simp only [List.length_append, hto, sl, List.length_drop]; omega) (fun e he => ?_) (by rw [writeA_size]; exact q4) (q5.sized (writeA_size _ _ _)) (Fl.append (Fl.append ?_ ?_) ?_)
        · rcases List.mem_append.1 he with he | he
          · rcases List.mem_append.1 he with he | he
            · exact q3 e (List.mem_of_mem_take he)
            · exact s1 e he
          · exact q3 e (List.mem_of_mem_drop he)
        · exact q6.take.beside (fun e he => q3 e (List.mem_of_mem_take he)) (.inl (by rw [hto]; omega))
        · rw [hto, Nat.zero_add, Nat.add_zero]
          exact n3.written s1 (by rw [sl]; exact n2) (by omega)
        · rw [List.length_append, hto, sl]
          refine (q6.drop (n := off + m)).beside (fun e he => q3 e (List.mem_of_mem_drop he)) (.inr ?_)
          rw [Array.length_toList, n2, Nat.add_mul]; omega
      obtain ⟨r1, r2⟩ := hr.turn hb hor
      refine ⟨_, _, run (some ⟨b, off * i.size, none⟩) cap _ rfl hst, ?_⟩
      exact ⟨_, _, fz, k, .int _ _, r1, r2⟩
  · exact hk.elim

theorem sim_copy {ats : Array TypeId} {xt el : TypeId} {i : TypeInfo} {x y : Operand} {x' y' : AE} (ho : o.op = .call { callee := .builtin .copy, args := #[x, y], argTypes := ats })
    (hx : ats[0]? = some xt) (hd : P.underlying xt = some (.slice el)) (hi : P.info? el = some i) (hxx : AE.of x = some x') (hyy : AE.of y = some y') : OpOK P o (.eff fun e h K => cpE i.size (x'.ev e) (y'.ev e) h K) := by
  intro fz e h a w K he hr hh
  have h1 := AE.of_ok hxx he
  have h2 := AE.of_ok hyy he
  obtain ⟨cv, w', h3, h4⟩ := copy_run (ty := o.type) hx hd hi hr h1 h2 hh
  refine OutOK.of_run (w' := w') (cv := cv) ?_ h4
  simp only [execOp, ho, resolve, List.map_toArray, List.map_cons, List.map_nil]
  rw [run_bind, run_pure, Result.andThen_ok]
  exact run_value _ h3

/-! ### strings and bytes -/

def eb (b : UInt8) : List AV := [.int .u8 b.toNat]

def byteOfE : List AV → Option UInt8
  | [.int .u8 n] => some (UInt8.ofNat n.toNat)
  | _ => none

def bytesOf : List (List AV) → Option (List UInt8)
  | [] => some []
  | e :: es => match byteOfE e, bytesOf es with
    | some b, some bs => some (b :: bs)
    | _, _ => none

theorem bytesOf_map (l : List UInt8) : bytesOf (l.map eb) = some l := by
  induction l with
  | nil => rfl
  | cons b l ih => simp [bytesOf, eb, byteOfE, ih, UInt8.ofNat_toNat]

def bstrA (h : Hp) (v : AV) : Option AV :=
  match srcA 1 h v, v with
  | _, .str _ => none
  | some es, _ => (bytesOf es).map .str
  | none, _ => none

theorem bytes_loop {fz : Nat → Prop} {w : World} : ∀ (es : List (List AV)) (vs : List Value) (l : List UInt8) (acc : ByteArray), es.length = vs.length → (∀ j (h1 : j < es.length) (h2 : j < vs.length), ∃ v, es[j] = [v] ∧ VR fz w.heap v vs[j]) → bytesOf es = some l →
    (forIn vs acc fun c s => (match c with
      | .int .u8 n => pure (.yield (s.push (UInt8.ofNat n.toNat)))
      | _ => do
        stuck "bytesToString: byte expected"
        pure (.yield s) : Sem (ForInStep ByteArray))).run P w = .ok (acc ++ ByteArray.mk l.toArray) w
  | [], [], l, acc, _, _, hb => by
    cases hb
    have : acc ++ ByteArray.mk #[] = acc := by apply ByteArray.ext; simp
    rw [this]; rfl
  | [], _ :: _, _, _, hl, _, _ => by simp at hl
  | _ :: _, [], _, _, hl, _, _ => by simp at hl
  | e :: es, v :: vs, l, acc, hl, hv, hb => by
    unfold bytesOf at hb
    split at hb <;> first | (cases hb; done) | skip
    rename_i b bs h1 h2
    cases hb
    obtain ⟨u, hu1, hu2⟩ := hv 0 (by simp) (by simp)
    simp only [List.getElem_cons_zero] at hu1 hu2
    subst hu1
    unfold byteOfE at h1
    split at h1 <;> first | (cases h1; done) | skip
    rename_i n heq
    cases heq
    cases h1
    cases hu2.int_inv
    have ih := bytes_loop es vs bs (acc.push (UInt8.ofNat n.toNat)) (by simpa using hl) (fun j a b => by have := hv (j + 1) (by simpa using a) (by simpa using b); simpa using this) h2
    rw [List.forIn_cons, run_bind, run_pure, Result.andThen_ok]
    simp only []
    rw [ih]
    congr 1
    apply ByteArray.ext
    simp

theorem bytesOf_single : ∀ {es : List (List AV)} {l : List UInt8}, bytesOf es = some l → Sized 1 es
  | [], _, _ => fun e he => by simp at he
  | e :: es, l, h => by
    unfold bytesOf at h
    split at h <;> first | (cases h; done) | skip
    rename_i b bs h1 h2
    intro x hx
    rcases List.mem_cons.1 hx with rfl | hx
    · unfold byteOfE at h1
      split at h1 <;> first | (cases h1; done) | rfl
    · exact bytesOf_single h2 x hx

theorem bstr_run {fz : Nat → Prop} {h : Hp} {w : World} (r : Rel fz h w) {v u : AV} {cv : Value} (hv : VR fz w.heap v cv) (hb : bstrA h v = some u) :
    ∃ l, u = .str l ∧ (Conv.bytesToString cv).run P w = .ok (.string ⟨l.toArray⟩) w := by
  unfold bstrA at hb
  split at hb <;> first | (cases hb; done) | skip
  rename_i es hns hes
  cases hl : bytesOf es with
  | none => rw [hl] at hb; cases hb
  | some l =>
    rw [hl] at hb
    cases hb
    refine ⟨l, rfl, ?_⟩
    obtain ⟨s1, s2, s3⟩ := srcA_run (P := P) r hv hes
    obtain ⟨vs, n1, n2, n3⟩ := s3 es.length (Nat.le_refl _)
    rw [List.take_length] at n3
    rw [Nat.mul_one] at n2
    have fin : ∀ (ad : Addr) (cap : Nat), cv = .slice (some ad) es.length cap → (Conv.bytesToString cv).run P w = .ok (.string ⟨l.toArray⟩) w := fun ad cap hc => by
      subst hc
      have hload : (loadCells ad es.length).run P w = .ok vs w := by
        have : (Builtin.firstCells 1 es.length (.slice (some ad) es.length cap)).run P w = (loadCells ad (es.length * 1)).run P w := rfl
        rw [this, Nat.mul_one] at n1; exact n1
      have hlp := bytes_loop (P := P) (fz := fz) (w := w) es vs.toList l ByteArray.empty (by simpa using n2.symm) (fun j h1 h2 => by
        have hel := s1 _ (List.getElem_mem h1)
        obtain ⟨x, hx⟩ := List.length_eq_one_iff.1 hel
        refine ⟨x, hx, ?_⟩
        obtain ⟨c, g1, g2⟩ := n3 j 0 es[j] x (List.getElem?_eq_getElem h1) (by rw [hx]; rfl)
        have hj : j < vs.size := by simpa using h2
        rw [cf, show 0 + j * 1 + 0 = j from by omega, Array.getElem?_eq_getElem hj] at g1
        rw [Array.getElem_toList, Option.some.inj g1]; exact g2) hl
      unfold Conv.bytesToString
      simp only []
      rw [run_bind, hload, Result.andThen_ok]
      have e0 : ByteArray.empty ++ ByteArray.mk l.toArray = ByteArray.mk l.toArray := by apply ByteArray.ext; simp
      rw [e0] at hlp
      rw [← Array.forIn_toList]
      rw [run_bind]
      exact congrArg (fun r : Result ByteArray => r.andThen fun a w' => (pure (Value.string a) : Sem Value).run P w') hlp
    unfold srcA at hes
    split at hes <;> first | (cases hes; done) | skip
    · cases hes; cases hl; cases hv.nils_inv; rfl
    · cases hes
      obtain ⟨ad, cap, rfl⟩ := hv.emp_inv
      exact fin ad cap rfl
    · split at hes <;> first | (cases hes; done) | skip
      cases hes
      obtain ⟨ad, cap, rfl⟩ := hv.lst_inv
      cases ad with
      | none =>
        cases hv with
        | lst0 => cases hl; rfl
      | some ad => exact fin ad cap rfl
    · rename_i b s' off len cap
      split at hes <;> first | (cases hes; done) | skip
      split at hes <;> first | (cases hes; done) | skip
      rename_i hcc
      have hlen : es.length = len := by cases hes; simp; omega
      obtain ⟨ad, rfl⟩ := hv.arr_some
      exact fin ad cap (by rw [hlen])
    · exact absurd rfl (hns _)

theorem sim_bstr {s d el : TypeId} {x : Operand} {x' : AE} (ho : o.op = .convert s d x) (hs : P.underlying s = some (.slice el)) (hd : P.underlying d = some .string) (he' : P.underlying el = some (.int .u8)) (hx : AE.of x = some x') :
    OpOK P o (.load fun e h => bstrA h (x'.ev e)) := by
  refine OpOK.of_load fun fz e h a w he hr v hv => ?_
  have h1 := AE.of_ok hx he
  obtain ⟨l, rfl, h2⟩ := bstr_run (P := P) hr h1 hv
  refine ⟨_, ?_, .str l⟩
  simp only [execOp, ho]
  refine run_value _ ?_
  unfold convert
  rw [run_bind, run_underlying hs, Result.andThen_ok, run_bind, run_underlying hd, Result.andThen_ok]
  generalize a.eval x = cx at *
  cases cx <;> simp only [] <;> first | (rw [run_bind, run_underlying he', Result.andThen_ok]; exact h2) | (exfalso; revert h2; unfold Conv.bytesToString; simp; done)

end
end Go.Hz
