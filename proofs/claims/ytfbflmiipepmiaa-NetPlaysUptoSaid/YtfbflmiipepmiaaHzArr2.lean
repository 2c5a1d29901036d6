/- Full slices, clear, append of so many zeros, whether two slices overlap. -/
import Derived.Test.YtfbflmiipepmiaaHzArr
import Derived.Laws.Externs
import Derived.KernelRfl
set_option linter.unusedVariables false
set_option linter.unusedSimpArgs false
namespace Go.Hz
section
variable {P : Program} {o : Oper}

/-! ### a slice with its room told -/

def slcM (s : Nat) (x : AV) (lo : Option AV) (hi mx : AV) : Option AV :=
  match boundA lo 0, boundA (some hi) 0, boundA (some mx) 0 with
  | some a, some b, some m => match x with
    | .arr b' s' off len cap => if a ≤ b ∧ b ≤ m ∧ m ≤ cap ∧ s' = s then some (.arr b' s' (off + a) (b - a) (m - a)) else none
    | .nils => if a = 0 ∧ b = 0 ∧ m = 0 then some .nils else none
    | _ => none
  | _, _, _ => none

theorem bounds3_run {lo : Option AV} {hi mx : AV} {clo : Option Value} {chi cmx : Value} {fz : Nat → Prop} {w : World} {isS : Bool} {len cap a b m : Nat} (h1 : optR fz w lo clo) (h2 : VR fz w.heap hi chi) (h3 : VR fz w.heap mx cmx)
    (ha : boundA lo 0 = some a) (hb : boundA (some hi) 0 = some b) (hm : boundA (some mx) 0 = some m) (hab : a ≤ b) (hbm : b ≤ m) (hmc : m ≤ cap) :
    (Instr.sliceBounds isS len cap clo (some chi) (some cmx)).run P w = .ok (a, b, m) w := by
  have e1 := bound_run (P := P) (v := some mx) (cv := some cmx) (y := cap) (code := if isS then .slice3Acap else .slice3Alen) h3 hm hmc
  have e2 := bound_run (P := P) (v := some hi) (cv := some chi) (y := m) (code := .slice3B) h2 hb hbm
  have e3 := bound_run (P := P) (y := b) (code := .slice3C) h1 ha hab
  unfold Instr.sliceBounds
  simp at e1 e2
  cases clo with
  | none => simp at e3 ⊢; simp [e1, e2, e3]
  | some c => simp at e3 ⊢; simp [e1, e2, e3]

theorem sim_slcM {t el : TypeId} {i : TypeInfo} {x hi mx : Operand} {lo : Option Operand} {x' hi' mx' : AE} {lo' : Option AE} (ho : o.op = .slice t x lo (some hi) (some mx)) (hd : P.underlying t = some (.slice el)) (hi0 : P.info? el = some i)
    (hx : AE.of x = some x') (hlo : AE.ofO lo = some lo') (hhi : AE.of hi = some hi') (hmx : AE.of mx = some mx') :
    OpOK P o (.pure fun e => slcM i.size (x'.ev e) (lo'.map (·.ev e)) (hi'.ev e) (mx'.ev e)) := by
  refine OpOK.of_pure fun fz e a w he v hv => ?_
  have h1 := AE.of_ok hx he
  have h2 := AE.ofO_ok hlo he
  have h3 := AE.of_ok hhi he
  have h4 := AE.of_ok hmx he
  simp only [execOp, ho, Option.map_some]
  generalize a.eval x = cx at *
  generalize lo.map a.eval = clo at *
  generalize a.eval hi = chi at *
  generalize a.eval mx = cmx at *
  generalize x'.ev e = ax at *
  generalize lo'.map (·.ev e) = alo at *
  generalize hi'.ev e = ahi at *
  generalize mx'.ev e = amx at *
  unfold slcM at hv
  split at hv <;> first | (cases hv; done) | skip
  rename_i p q m hp hq hm
  have key : ∀ ad len cap, cx = .slice ad len cap → p ≤ q → q ≤ m → m ≤ cap →
      (Instr.sliceAt t cx clo (some chi) (some cmx)).run P w = .ok (.slice (if m = p then ad else ad.map (·.add (p * i.size))) (q - p) (m - p)) w := fun ad len cap hc hpq hqm hmc => by
    subst hc
    have := bounds3_run (P := P) (isS := true) (len := len) h2 h3 h4 hp hq hm hpq hqm hmc
    unfold Instr.sliceAt Instr.slice
    simp [run_underlying hd, this, run_sizeOf hi0]
  split at hv <;> first | (cases hv; done) | skip
  · rename_i bl s' off len cap
    split at hv <;> first | (cases hv; done) | skip
    rename_i hc
    obtain ⟨hpq, hqm, hmc, rfl⟩ := hc
    cases hv
    obtain ⟨ad, rfl⟩ := h1.arr_some
    refine ⟨_, run_value _ (key _ _ _ rfl hpq hqm hmc), ?_⟩
    by_cases hcp : m = p
    · have hq' : q = p := by omega
      subst hq' hcp
      simp only [if_true, Nat.sub_self]
      cases h1 with
      | arr => exact .arr0 _ _ _ _
      | arr0 => exact .arr0 _ _ _ _
    · rw [if_neg hcp]
      cases h1 with
      | arr =>
        simp only [Option.map_some, Addr.add_none]
        rw [← Nat.add_mul]
        exact .arr _ _ _ _ _
      | arr0 => omega
  · cases h1.nils_inv
    split at hv <;> first | (cases hv; done) | skip
    rename_i hc
    obtain ⟨rfl, rfl, rfl⟩ := hc
    cases hv
    exact ⟨_, run_value _ (key _ _ _ rfl (Nat.le_refl _) (Nat.le_refl _) (Nat.le_refl _)), .nils⟩

/-! ### clear -/

def clrE (s : Nat) (zs : List AV) (x : AV) (h : Hp) (K : AV → Hp → Prop) : Prop :=
  match x with
  | .nils => K (.tup []) h
  | .arr b s' off len cap => if len = 0 then K (.tup []) h else match h b with
    | some (.row s'' es rc) => s' = s ∧ s'' = s ∧ off ≤ es.length ∧ off + len ≤ rc ∧ K (.tup []) (h.set b (.row s (es.take off ++ List.replicate len zs ++ es.drop (off + len)) rc))
    | _ => False
  | _ => False

theorem zeroCells_eq (z : Array Value) (n : Nat) : Builtin.zeroCells z n = (Array.range (n * z.size)).map (z[· % z.size]!) := rfl

theorem clear_run {ats : Array TypeId} {xt el ty : TypeId} {i : TypeInfo} {z : Value} {zs : List AV} (hx : ats[0]? = some xt) (hd : P.underlying xt = some (.slice el)) (hi : P.info? el = some i)
    (hz : i.zero = some z) (hzs : zeroA z = some zs) (hsz : zs.length = i.size) (hat : zs.all AV.isAtom = true)
    {fz : Nat → Prop} {h : Hp} {w : World} (hr : Rel fz h w) {ax : AV} {cx : Value} (hvx : VR fz w.heap ax cx)
    {K : AV → Hp → Prop} (hk : clrE i.size zs ax h K) : ∃ cv w', (Builtin.clear_ ats ty #[cx]).run P w = .ok cv w' ∧ After fz h w K cv w' := by
  have hxa : (#[cx] : Array Value)[0]? = some cx := rfl
  have tup : ∀ {fz : Nat → Prop} {H : Array Obj}, VR fz H (.tup []) (.tuple #[]) := .tup _ _ rfl fun i a b => absurd a (by simp)
  unfold clrE at hk
  split at hk
  · cases hvx.nils_inv
    refine ⟨.tuple #[], w, ?_, _, h, fz, hk, tup, hr, Ext.refl _ _ _⟩
    unfold Builtin.clear_
    simp only [hx, hxa]
    rw [run_bind, run_underlying hd, Result.andThen_ok]
    rfl
  · rename_i b s' off len cap
    obtain ⟨ad, rfl⟩ := hvx.arr_some
    split at hk
    · rename_i h0
      subst h0
      refine ⟨.tuple #[], w, ?_, _, h, fz, hk, tup, hr, Ext.refl _ _ _⟩
      unfold Builtin.clear_
      simp only [hx, hxa]
      rw [run_bind, run_underlying hd, Result.andThen_ok]
      rfl
    · rename_i h0
      split at hk <;> first | exact hk.elim | skip
      rename_i s'' es rc hb
      obtain ⟨rfl, rfl, hoe, hle, k⟩ := hk
      have had : ad = ⟨b, off * i.size, none⟩ := by
        cases hvx with
        | arr => rfl
        | arr0 => omega
      subst had
      obtain ⟨c, T, fr, q1, q2, q3, q4, q5, q6⟩ := hr.row_fl hb
      have hzr := zeroA_ok hzs fz w.heap
      have hzl := hzr.1
      simp only [Array.length_toList] at hzl
      have hzc : z.cells.size = i.size := by omega
      have s1 : Sized i.size (List.replicate len zs) := fun e he => by rw [List.eq_of_mem_replicate he]; exact hsz
      have n3 : Fl fz w.heap (List.replicate len zs) i.size 0 (cf (Builtin.zeroCells z.cells len)) := by
        have := zeroTile_fl (zs := zs) (z := z.cells) hzr len len (Nat.le_refl _)
        rw [hsz] at this
        rw [zeroCells_eq, hzc]
        rw [hzc] at this
        exact this
      have n2 : (Builtin.zeroCells z.cells len).size = len * i.size := by rw [zeroCells_size, hzc]
      have n4 := n3.atoms s1 (by rw [List.length_replicate]; exact n2) (fun e he v hv => by
        rw [List.eq_of_mem_replicate he] at hv
        exact List.all_eq_true.1 hat v hv)
      have hmul := Nat.mul_le_mul_right i.size (show off + len ≤ rc by omega)
      rw [Nat.add_mul] at hmul
      have hst := storeCells_run (P := P) (Builtin.zeroCells z.cells len).toList w c (off * i.size) 0 q1 q5 (by rw [Array.length_toList, n2, q4]; omega) n4
      have hor : OR fz w.heap (.row i.size (es.take off ++ List.replicate len zs ++ es.drop (off + len)) rc) (.cells (writeA c (off * i.size + 0) (Builtin.zeroCells z.cells len).toList) T fr) := by
        have hto : (es.take off).length = off := by simp; omega
        refine OR.of_fl (by simp only [List.length_append, hto, List.length_replicate, List.length_drop]; omega) (fun e he => ?_) (by rw [writeA_size]; exact q4) (q5.sized (writeA_size _ _ _)) (Fl.append (Fl.append ?_ ?_) ?_)
        · rcases List.mem_append.1 he with he | he
          · rcases List.mem_append.1 he with he | he
            · exact q3 e (List.mem_of_mem_take he)
            · exact s1 e he
          · exact q3 e (List.mem_of_mem_drop he)
        · exact q6.take.beside (fun e he => q3 e (List.mem_of_mem_take he)) (.inl (by rw [hto]; omega))
        · rw [hto, Nat.zero_add, Nat.add_zero]
          exact n3.written s1 (by rw [List.length_replicate]; exact n2) (by omega)
        · rw [List.length_append, hto, List.length_replicate]
          refine (q6.drop (n := off + len)).beside (fun e he => q3 e (List.mem_of_mem_drop he)) (.inr ?_)
          rw [Array.length_toList, n2, Nat.add_mul]; omega
      obtain ⟨r1, r2⟩ := hr.turn hb hor
      refine ⟨.tuple #[], _, ?_, _, _, fz, k, tup, r1, r2⟩
      unfold Builtin.clear_
      simp only [hx, hxa]
      rw [run_bind, run_underlying hd, Result.andThen_ok]
      cases len with
      | zero => exact absurd rfl h0
      | succ len =>
        simp only []
        rw [run_bind, run_zero hi hz, Result.andThen_ok, run_bind, hst]
        rfl
  · exact hk.elim

theorem sim_clear {ats : Array TypeId} {xt el : TypeId} {i : TypeInfo} {z : Value} {zs : List AV} {x : Operand} {x' : AE} (ho : o.op = .call { callee := .builtin .clear, args := #[x], argTypes := ats })
    (hx : ats[0]? = some xt) (hd : P.underlying xt = some (.slice el)) (hi : P.info? el = some i) (hz : i.zero = some z) (hzs : zeroA z = some zs) (hsz : zs.length = i.size) (hat : zs.all AV.isAtom = true)
    (hxx : AE.of x = some x') : OpOK P o (.eff fun e h K => clrE i.size zs (x'.ev e) h K) := by
  intro fz e h a w K he hr hh
  have h1 := AE.of_ok hxx he
  obtain ⟨cv, w', h3, h4⟩ := clear_run (ty := o.type) hx hd hi hz hzs hsz hat hr h1 hh
  refine OutOK.of_run (w' := w') (cv := cv) ?_ h4
  simp only [execOp, ho, resolve, List.map_toArray, List.map_cons, List.map_nil]
  rw [run_bind, run_pure, Result.andThen_ok]
  exact run_value _ h3

theorem good_clr {s : Nat} {zs : List AV} {x : AE} : (Sm.eff fun e h K => clrE s zs (x.ev e) h K).good x.looks := by
  refine ⟨fun e e' h K hh hf => ?_, fun e h K K' hk hf => ?_, fun e h K n ob hn hf => ?_⟩
  · dsimp only at hf ⊢
    rwa [← AE.ev_congr (y := x) hh]
  · dsimp only at hf ⊢
    unfold clrE at *
    split at hf
    · exact hk _ _ hf
    · split at hf
      · rename_i h0; simp only [h0, if_true]; exact hk _ _ hf
      · rename_i h0
        simp only [h0, if_false]
        split at hf <;> first | exact hf.elim | skip
        exact ⟨hf.1, hf.2.1, hf.2.2.1, hf.2.2.2.1, hk _ _ hf.2.2.2.2⟩
    · exact hf.elim
  · dsimp only at hf ⊢
    unfold clrE at *
    split at hf
    · exact ⟨h, hn, rfl, hf⟩
    · split at hf
      · rename_i h0; simp only [h0, if_true]; exact ⟨h, hn, rfl, hf⟩
      · rename_i h0
        simp only [h0, if_false]
        rename_i b s' off len cap _
        have hbn : b ≠ n := fun hh => by rw [hh, hn] at hf; exact hf.elim
        rw [Hp.set_ne _ _ hbn]
        split at hf <;> first | exact hf.elim | skip
        exact ⟨hf.1, hf.2.1, hf.2.2.1, hf.2.2.2.1, _, by rw [Hp.set_ne _ _ (Ne.symm hbn)]; exact hn, Hp.set_comm _ _ _ (Ne.symm hbn), hf.2.2.2.2⟩
    · exact hf.elim

/-! ### append of so many zeros, where that takes new memory -/

def appzE (s bytes : Nat) (zs : List AV) (x y : AV) (h : Hp) (K : AV → Hp → Prop) : Prop :=
  match y with
  | .int _ n => 0 ≤ n ∧ match x with
    | .nils => 0 < n ∧ n.toNat * bytes ≤ 70368744177664 ∧ ∀ m c, h m = none → n.toNat ≤ c → K (.arr m s 0 n.toNat c) (h.set m (.row s (List.replicate n.toNat zs) c))
    | .arr b s' off len cap => match h b with
      | some (.row s'' es _) => s' = s ∧ s'' = s ∧ off = 0 ∧ len ≤ es.length ∧ cap < len + n.toNat ∧ (len + n.toNat) * bytes ≤ 70368744177664 ∧
        ∀ m c, h m = none → len + n.toNat ≤ c → K (.arr m s 0 (len + n.toNat) c) (h.set m (.row s (es.take len ++ List.replicate n.toNat zs) c))
      | _ => False
    | _ => False
  | _ => False

theorem appendz_run {ats : Array TypeId} {xt yt el ty : TypeId} {i : TypeInfo} {ki : IntKind} {z : Value} {zs : List AV} (hx : ats[0]? = some xt) (hy : ats[1]? = some yt) (hd : P.underlying xt = some (.slice el)) (hdy : P.underlying yt = some (.int ki))
    (hi : P.info? el = some i) (hz : i.zero = some z) (hzs : zeroA z = some zs) (hsz : zs.length = i.size) (hb0 : i.bytes ≠ 0) {fz : Nat → Prop} {h : Hp} {w : World} (hr : Rel fz h w) {ax ay : AV} {cx cy : Value} (hvx : VR fz w.heap ax cx) (hvy : VR fz w.heap ay cy)
    {K : AV → Hp → Prop} (hk : appzE i.size i.bytes zs ax ay h K) : ∃ cv w', (Builtin.append_ ats ty #[cx, cy]).run P w = .ok cv w' ∧ After fz h w K cv w' := by
  unfold appzE at hk
  split at hk <;> first | exact hk.elim | skip
  rename_i kk n0
  obtain ⟨h0, hk⟩ := hk
  obtain ⟨n, rfl⟩ := Int.eq_ofNat_of_zero_le h0
  simp only [Int.toNat_natCast] at hk
  cases hvy.int_inv
  have hxa : (#[cx, Value.int kk (n : Int)] : Array Value)[0]? = some cx := rfl
  have hya : (#[cx, Value.int kk (n : Int)] : Array Value)[1]? = some (.int kk (n : Int)) := rfl
  have hzr := zeroA_ok hzs fz w.heap
  have hzl := hzr.1
  simp only [Array.length_toList] at hzl
  have hzc : z.cells.size = i.size := by omega
  have s1 : Sized i.size (List.replicate n zs) := fun e he => by rw [List.eq_of_mem_replicate he]; exact hsz
  have n2 : (Builtin.zeroCells z.cells n).size = (List.replicate n zs).length * i.size := by rw [zeroCells_size, hzc, List.length_replicate]
  have n3 : Fl fz w.heap (List.replicate n zs) i.size 0 (cf (Builtin.zeroCells z.cells n)) := by
    have := zeroTile_fl (zs := zs) (z := z.cells) hzr n n (Nat.le_refl _)
    rw [hsz] at this
    rw [zeroCells_eq, hzc]
    rw [hzc] at this
    exact this
  have hb1 : 1 ≤ i.bytes := by omega
  have grows : ∀ (base : Option Addr) (sLen sCap : Nat) (old : Array Value), cx = .slice base sLen sCap → ¬ sLen + n ≤ sCap → (sLen + n) * i.bytes ≤ 70368744177664 →
      (Builtin.firstCells i.size sLen cx).run P { w with drawn := w.drawn + 1 } = .ok old { w with drawn := w.drawn + 1 } → ∃ m, sLen + n ≤ m ∧
      (Builtin.append_ ats ty #[cx, .int kk (n : Int)]).run P w = .ok (.slice (some ⟨w.heap.size, 0, none⟩) (sLen + n) m)
        (pushed { w with drawn := w.drawn + 1 } (.cells (old ++ Builtin.zeroCells z.cells n ++ Builtin.zeroCells z.cells (m - (sLen + n))) el (0, 0))) := fun base sLen sCap old hc hle hb hold => by
    subst hc
    have hnc := nextcap_le (n := sLen + n) (c := sCap) (by omega)
    have hnb : ¬ (Builtin.nextslicecap (sLen + n) sCap * i.bytes > 2 ^ 48) := by
      have := Nat.mul_le_mul_right i.bytes hnc
      rw [Nat.mul_assoc] at this
      omega
    have hnn : n * i.bytes ≤ 70368744177664 := Nat.le_trans (Nat.mul_le_mul_right _ (by omega)) hb
    have hln : sLen + n ≤ 70368744177664 := Nat.le_trans (Nat.le_mul_of_pos_right _ hb1) hb
    have hw : IntKind.i64.wrap (n : Int) = n := wrap_i64_in (by omega) (by omega)
    refine ⟨Question.cut (.appendCap (sLen + n) sCap el) (w.tape w.drawn (.appendCap (sLen + n) sCap el)), by simp only [Question.cut]; omega, ?_⟩
    unfold Builtin.append_
    simp only [hx, hxa, hya, hy]
    rw [run_bind, run_underlying hd, Result.andThen_ok]
    simp only []
    rw [run_bind, run_sizeOf hi, Result.andThen_ok, run_bind, run_underlying hdy, Result.andThen_ok, run_bind, run_pure, Result.andThen_ok]
    simp only [if_true]
    rw [run_bind]
    have hai : (asInt (.int kk (n : Int))).run P w = .ok (n : Int) w := by
      simp [asInt, asIntOf]
    rw [hai, Result.andThen_ok, hw]
    have c1 : ¬ ((n : Int) < 0) := by omega
    have c2 : ¬ ((n : Int) * (i.bytes : Int) > 2 ^ 48) := by
      have : ((n * i.bytes : Nat) : Int) = (n : Int) * (i.bytes : Int) := by push_cast; rfl
      omega
    simp only [c1, if_false]
    rw [run_bind, run_typeInfo hi, Result.andThen_ok]
    simp only [c2, if_false]
    rw [run_bind, run_pure, Result.andThen_ok, Int.toNat_natCast, if_neg hle, run_bind, run_typeInfo hi, Result.andThen_ok]
    have c3 : ¬ (((sLen + n : Nat) : Int) > IntKind.i64.max) := by
      show ¬ (((sLen + n : Nat) : Int) > 9223372036854775807)
      omega
    simp only [c3, false_and, if_false]
    rw [run_bind, run_typeInfo hi, Result.andThen_ok, if_neg hnb, run_bind, run_choose]
    have hfo : (Question.appendCap (sLen + n) sCap el).forced = false := rfl
    rw [hfo]
    simp only [Bool.false_eq_true, if_false, Result.andThen_ok]
    rw [run_bind, run_typeInfo hi, Result.andThen_ok, run_bind, run_askRoom, Result.andThen_ok, run_bind, hold, Result.andThen_ok]
    simp only [Bool.not_true, Bool.false_eq_true, if_false]
    have hap : (if n * i.size = 0 then pure #[] else (do pure (Builtin.zeroCells (← zeroValue el).cells n) : Sem (Array Value))).run P { w with drawn := w.drawn + 1 } = .ok (Builtin.zeroCells z.cells n) { w with drawn := w.drawn + 1 } := by
      split
      · rename_i hz0
        have : Builtin.zeroCells z.cells n = #[] := Array.eq_empty_of_size_eq_zero (by rw [zeroCells_size, hzc]; exact hz0)
        rw [this]; rfl
      · rw [run_bind, run_zero hi hz, Result.andThen_ok]; rfl
    rw [run_bind, hap, Result.andThen_ok, run_bind, run_zero hi hz, Result.andThen_ok]
    rfl
  have hr1 : Rel fz h { w with drawn := w.drawn + 1 } := hr.drew
  have emb : ∀ {h0 : Hp} {cv : Value} {w' : World}, Ext fz h w fz h0 { w with drawn := w.drawn + 1 } → After fz h0 { w with drawn := w.drawn + 1 } K cv w' → After fz h w K cv w' :=
    fun hx ⟨v, h', fz', a1, a2, a3, a4⟩ => ⟨v, h', fz', a1, a2, a3, hx.trans a4⟩
  split at hk
  · obtain ⟨k1, k2, k3⟩ := hk
    cases hvx.nils_inv
    have a1 : ¬ 0 + n ≤ 0 := by omega
    have a2 : (0 + n) * i.bytes ≤ 70368744177664 := by rw [Nat.zero_add]; exact k2
    have a3 : (Builtin.firstCells i.size 0 (.slice none 0 0)).run P { w with drawn := w.drawn + 1 } = .ok #[] { w with drawn := w.drawn + 1 } := rfl
    obtain ⟨m, g1, g2⟩ := grows none 0 0 #[] rfl a1 a2 a3
    have hlr : (List.replicate n zs).length = n := List.length_replicate
    refine ⟨_, _, g2, emb Ext.drew ?_⟩
    have := grow_after (K := K) hr1 (es := []) (ys := List.replicate n zs) (len := 0) (n := m) (el := el) (z := z.cells) (old := #[]) rfl (fun e he => by simp at he) s1 (by simp) n2 (fun i k e v hi => by simp at hi) n3 hzc (by rw [hlr]; exact g1) (by
      rw [hlr]
      intro m c hm hc
      simp only [Nat.zero_add] at hc
      simpa using k3 m c hm hc)
    rw [hlr] at this
    exact this
  · rename_i b s' off len cap
    split at hk <;> first | exact hk.elim | skip
    rename_i s'' es rc hb
    obtain ⟨rfl, rfl, rfl, hle, hcap, hbb, k⟩ := hk
    obtain ⟨ad, rfl⟩ := hvx.arr_some
    have htl : (es.take len).length = len := by simp; omega
    have htk : Sized i.size (es.take len) := by
      obtain ⟨c, T, fr, q1, q2, q3, q4, q5, q6⟩ := hr.row_fl hb
      exact fun e he => q3 e (List.mem_of_mem_take he)
    have hsrc : srcA i.size h (.arr b i.size 0 len cap) = some ((es.drop 0).take len) := by
      simp only [srcA, hb, true_and]
      rw [if_pos (by omega)]
    obtain ⟨_, _, u3⟩ := srcA_run (P := P) hr1 hvx hsrc
    obtain ⟨old, o1, o2, o3⟩ := u3 len (by simp; omega)
    have o3' : Fl fz w.heap (es.take len) i.size 0 (cf old) := by simpa [List.take_take] using o3
    obtain ⟨m, g1, g2⟩ := grows (some ad) len cap old rfl (by omega) hbb o1
    have hlr : (List.replicate n zs).length = n := List.length_replicate
    refine ⟨_, _, g2, emb Ext.drew ?_⟩
    have := grow_after (K := K) hr1 (es := es.take len) (ys := List.replicate n zs) (n := m) (el := el) (z := z.cells) htl.symm htk s1 (by rw [o2, htl]) n2 o3' n3 hzc (by rw [hlr]; exact g1) (by rw [hlr]; exact k)
    rw [hlr] at this
    exact this
  · exact hk.elim

theorem sim_appz {ats : Array TypeId} {xt yt el : TypeId} {i : TypeInfo} {ki : IntKind} {z : Value} {zs : List AV} {x y : Operand} {x' y' : AE} (ho : o.op = .call { callee := .builtin .append, args := #[x, y], argTypes := ats })
    (hx : ats[0]? = some xt) (hy : ats[1]? = some yt) (hd : P.underlying xt = some (.slice el)) (hdy : P.underlying yt = some (.int ki)) (hi : P.info? el = some i) (hz : i.zero = some z) (hzs : zeroA z = some zs) (hsz : zs.length = i.size) (hb0 : i.bytes ≠ 0)
    (hxx : AE.of x = some x') (hyy : AE.of y = some y') : OpOK P o (.eff fun e h K => appzE i.size i.bytes zs (x'.ev e) (y'.ev e) h K) := by
  intro fz e h a w K he hr hh
  have h1 := AE.of_ok hxx he
  have h2 := AE.of_ok hyy he
  obtain ⟨cv, w', h3, h4⟩ := appendz_run (ty := o.type) hx hy hd hdy hi hz hzs hsz hb0 hr h1 h2 hh
  refine OutOK.of_run (w' := w') (cv := cv) ?_ h4
  simp only [execOp, ho, resolve, List.map_toArray, List.map_cons, List.map_nil]
  rw [run_bind, run_pure, Result.andThen_ok]
  exact run_value _ h3

theorem good_appz {s bytes : Nat} {zs : List AV} {x y : AE} : (Sm.eff fun e h K => appzE s bytes zs (x.ev e) (y.ev e) h K).good (x.looks ++ y.looks) := by
  refine ⟨fun e e' h K hh hf => ?_, fun e h K K' hk hf => ?_, fun e h K n ob hn hf => ?_⟩
  · dsimp only at hf ⊢
    rwa [← AE.ev_congr (y := x) fun t ht => hh t (by simp [ht]), ← AE.ev_congr (y := y) fun t ht => hh t (by simp [ht])]
  · dsimp only at hf ⊢
    unfold appzE at *
    split at hf <;> first | exact hf.elim | skip
    refine ⟨hf.1, ?_⟩
    replace hf := hf.2
    split at hf
    · exact ⟨hf.1, hf.2.1, fun m c hm hc => hk _ _ (hf.2.2 m c hm hc)⟩
    · split at hf <;> first | exact hf.elim | skip
      obtain ⟨a1, a2, a3, a4, a5, a6, a7⟩ := hf
      exact ⟨a1, a2, a3, a4, a5, a6, fun m c hm hc => hk _ _ (a7 m c hm hc)⟩
    · exact hf.elim
  · dsimp only at hf ⊢
    unfold appzE at *
    split at hf <;> first | exact hf.elim | skip
    refine ⟨hf.1, ?_⟩
    replace hf := hf.2
    have push : ∀ (m _c : Nat) (o' : AObj) (v : AV), (h.set n ob) m = none → (h m = none → K v (h.set m o')) → ∃ h', h' n = none ∧ (h.set n ob).set m o' = h'.set n ob ∧ K v h' := fun m c o' v hm hkk => by
      have hmn : m ≠ n := fun hh => by rw [hh, Hp.set_same] at hm; cases hm
      rw [Hp.set_ne _ _ hmn] at hm
      exact ⟨_, by rw [Hp.set_ne _ _ (Ne.symm hmn)]; exact hn, Hp.set_comm _ _ _ (Ne.symm hmn), hkk hm⟩
    split at hf
    · exact ⟨hf.1, hf.2.1, fun m c hm hc => push m c _ _ hm fun hm => hf.2.2 m c hm hc⟩
    · rename_i b s' off len cap _
      have hbn : b ≠ n := fun hh => by rw [hh, hn] at hf; exact hf.elim
      rw [Hp.set_ne _ _ hbn]
      split at hf <;> first | exact hf.elim | skip
      obtain ⟨a1, a2, a3, a4, a5, a6, a7⟩ := hf
      exact ⟨a1, a2, a3, a4, a5, a6, fun m c hm hc => push m c _ _ hm fun hm => a7 m c hm hc⟩
    · exact hf.elim

/-! ### whether two slices of two blocks overlap: the model leaves it open where both are marked as a string's -/

theorem overlaps_run {ps rs : Array TypeId} {tS el : TypeId} {i : TypeInfo} (hp : ps[0]? = some tS) (hd : P.underlying tS = some (.slice el)) (hi : P.info? el = some i) {a b : Addr} {la ca lb cb : Nat} {w : World}
    {c1 c2 : Array Value} {T1 T2 : TypeId} {fr1 fr2 : Nat × Nat} (hne : a.block ≠ b.block) (h1 : w.heap[a.block]? = some (.cells c1 T1 fr1)) (h2 : w.heap[b.block]? = some (.cells c2 T2 fr2))
    (hfa : la ≠ 0 → i.size ≠ 0 → w.frozen? a = false) :
    ∃ r w', (Extern.SlicesOverlaps.overlaps ps rs #[.slice (some a) la ca, .slice (some b) lb cb]).run P w = .ok (.bool r) w' ∧ (w' = w ∨ w' = { w with drawn := w.drawn + 1 }) := by
  have hnb : (a.block != b.block) = true := by simpa using hne
  have hnb' : (a.block == b.block) = false := by simpa using hne
  have s1 : w.shape? a.block = some (T1, c1.size) := by simp [World.shape?, h1]
  have s2 : w.shape? b.block = some (T2, c2.size) := by simp [World.shape?, h2]
  have e : Extern.SlicesOverlaps.overlaps ps rs #[.slice (some a) la ca, .slice (some b) lb cb] = (do
    let some t := ps[0]? | stuck "slices.overlaps: no parameter types"
    let .slice elem ← underlying t | stuck "slices.overlaps: slice type expected"
    let size ← sizeOf elem
    match (some a : Option Addr), (some b : Option Addr) with
    | some a, some b =>
      if la = 0 ∨ lb = 0 ∨ size = 0 then pure (Value.bool false)
      else if a.block != b.block && (← frozen a) && (← frozen b) then unsupported .addressObserved
      else do
        if a.block != b.block then do
          noView a; noView b
          if ← mayBeOne a b then return Value.bool ((← choose (.extern "sameAddr.stringBytes" 2)) == 1)
        pure (Value.bool (a.block == b.block && a.off < b.off + lb * size && b.off < a.off + la * size))
    | _, _ => pure (Value.bool false)) := rfl
  rw [e]
  by_cases h0 : la = 0 ∨ lb = 0 ∨ i.size = 0
  · refine ⟨false, w, ?_, .inl rfl⟩
    simp [hp, run_underlying hd, run_sizeOf hi, h0]
  · have hf := hfa (fun h => h0 (.inl h)) (fun h => h0 (.inr (.inr h)))
    have hm : ∃ r, (mayBeOne a b).run P w = .ok r w := by
      unfold mayBeOne stringish shape frozen
      simp only [run_bind, run_pure, Sem.run, s1, s2, hf, Result.andThen_ok]
      simp only [Bool.false_eq_true, if_false, run_bind, run_pure, Sem.run, s1, s2, Result.andThen_ok]
      split <;> simp only [run_bind, run_pure, Sem.run, s1, s2, Result.andThen_ok] <;> split <;> simp [Sem.run, s1, s2] <;> split <;> simp [Sem.run]
    obtain ⟨r, hr⟩ := hm
    have hv1 : (noView a).run P w = .ok () w := by simp [noView, viewAt, shape, Sem.run, s1]
    have hv2 : (noView b).run P w = .ok () w := by simp [noView, viewAt, shape, Sem.run, s2]
    have hfz : (frozen a).run P w = .ok false w := by simp [frozen, Sem.run, hf]
    have hfz2 : (frozen b).run P w = .ok (w.frozen? b) w := by simp [frozen, Sem.run]
    cases r with
    | false =>
      refine ⟨false, w, ?_, .inl rfl⟩
      simp [hp, run_underlying hd, run_sizeOf hi, h0, hnb, hnb', hv1, hv2, hf, hfz, hfz2, hr]
    | true =>
      refine ⟨(Question.cut (.extern "sameAddr.stringBytes" 2) (w.tape w.drawn (.extern "sameAddr.stringBytes" 2)) == 1), { w with drawn := w.drawn + 1 }, ?_, .inr rfl⟩
      simp [hp, run_underlying hd, run_sizeOf hi, h0, hnb, hnb', hv1, hv2, hf, hfz, hfz2, hr, Question.forced]

def ovlE (s : Nat) (x y : AV) (h : Hp) (K : AV → Hp → Prop) : Prop :=
  match x, y with
  | .arr b s1 off len _, .arr b2 s2 off2 len2 _ => b ≠ b2 ∧ (match h b with | some (.row s' _ rc) => s1 = s ∧ s' = s ∧ off + len ≤ rc | _ => False) ∧ (match h b2 with | some (.row _ _ _) => True | _ => False) ∧ 0 < len ∧ 0 < len2 ∧ K (.bool false) h ∧ K (.bool true) h
  | _, _ => False

/-- A function that is the model's slices.overlaps; the size of its elements. -/
def ovlOf (P : Program) (f : FuncId) : Option Nat :=
  match P.funcs[f]? with
  | some fn => match fn.params[0]? with
    | some t => match P.underlying t with
      | some (.slice el) => match P.info? el with
        | some i => if (fn.name != "runtime.NumGoroutine" && (fn.body.isNone && ((Extern.findNext fn).isNone && (fn.origin == "slices.overlaps" && ((Extern.allGenericRows.lookup fn.name).isNone && ((Extern.allTypedRows.lookup fn.name).isNone && (Extern.allRows.lookup fn.name).isNone)))))) = true then some i.size else none
        | none => none
      | _ => none
    | none => none
  | none => none

theorem find_overlaps {fn : Func} (h1 : (Extern.allGenericRows.lookup fn.name).isNone = true) (h2 : (Extern.allTypedRows.lookup fn.name).isNone = true) (h3 : (Extern.allRows.lookup fn.name).isNone = true) (ho : fn.origin = "slices.overlaps") :
    Extern.find fn = some (Extern.SlicesOverlaps.overlaps fn.params fn.resultTypes) := by
  have g1 : Extern.allGenericRows.lookup "slices.overlaps" = none := by kernel_rfl
  have g2 : Extern.allTypedRows.lookup "slices.overlaps" = some Extern.SlicesOverlaps.overlaps := by kernel_rfl
  unfold Extern.find
  dsimp only
  rw [Option.isNone_iff_eq_none.1 h1, Option.isNone_iff_eq_none.1 h2, Option.isNone_iff_eq_none.1 h3, ho, g1, g2]
  rfl

theorem sim_ovl {f : FuncId} {x y : Operand} {ats : Array TypeId} {s : Nat} {x' y' : AE} (ho : o.op = .call { callee := .value (.func f), args := #[x, y], argTypes := ats }) (hf : ovlOf P f = some s)
    (hxx : AE.of x = some x') (hyy : AE.of y = some y') : OpOK P o (.eff fun e h K => ovlE s (x'.ev e) (y'.ev e) h K) := by
  intro fz e h a w K he hr hh
  have h1 := AE.of_ok hxx he
  have h2 := AE.of_ok hyy he
  unfold ovlOf at hf
  split at hf <;> first | (cases hf; done) | skip
  rename_i fn hfn
  split at hf <;> first | (cases hf; done) | skip
  rename_i t ht
  split at hf <;> first | (cases hf; done) | skip
  rename_i el hd
  split at hf <;> first | (cases hf; done) | skip
  rename_i i hi
  split at hf <;> first | (cases hf; done) | skip
  rename_i hc
  cases hf
  simp only [Bool.and_eq_true, bne_iff_ne, ne_eq, beq_iff_eq] at hc
  obtain ⟨q1, q2, q3, q4, q5, q6, q7⟩ := hc
  change ovlE i.size (x'.ev e) (y'.ev e) h K at hh
  generalize x'.ev e = ax at *
  generalize y'.ev e = ay at *
  unfold ovlE at hh
  split at hh <;> first | exact hh.elim | skip
  rename_i b s1 off len cap b2 s2 off2 len2 cap2
  obtain ⟨hne, k1, k2, hl1, hl2, kf, kt⟩ := hh
  split at k1 <;> first | exact k1.elim | skip
  rename_i s' es rc hb
  obtain ⟨rfl, rfl, hle⟩ := k1
  split at k2 <;> first | exact k2.elim | skip
  rename_i s'' es2 rc2 hb2
  obtain ⟨c1, T1, fr1, a1, a2, a3, a4, a5, a6⟩ := hr.row_fl hb
  obtain ⟨c2, T2, fr2, d1, d2, d3, d4, d5, d6⟩ := hr.row_fl hb2
  have hrun : ∃ r w', (execOp a.eval o).run P w = .ok (.value (.bool r)) w' ∧ (w' = w ∨ w' = { w with drawn := w.drawn + 1 }) := by
    have e1 : a.eval x = .slice (some ⟨b, off * i.size, none⟩) len cap := by
      generalize a.eval x = cx at h1
      cases h1 with
      | arr => rfl
      | arr0 => omega
    have e2 : a.eval y = .slice (some ⟨b2, off2 * s2, none⟩) len2 cap2 := by
      generalize a.eval y = cy at h2
      cases h2 with
      | arr => rfl
      | arr0 => omega
    obtain ⟨r, w', r1, r2⟩ := overlaps_run (P := P) (ps := fn.params) (rs := fn.resultTypes) ht hd hi (a := ⟨b, off * i.size, none⟩) (b := ⟨b2, off2 * s2, none⟩) (la := len) (ca := cap) (lb := len2) (cb := cap2) (w := w) hne a1 d1
      (fun _ hs0 => by
        have hmul := Nat.mul_le_mul_right i.size (show off + 1 ≤ rc by omega)
        rw [Nat.add_mul, Nat.one_mul] at hmul
        have := a5.at (off * i.size) (by omega)
        simp only [World.frozen?, a1]
        simp only [Bool.and_eq_false_iff, decide_eq_false_iff_not]
        omega)
    refine ⟨r, w', ?_, r2⟩
    simp only [execOp, ho, resolve, Act.eval, Deferred.ofValue]
    rw [run_bind, run_pure, Result.andThen_ok]
    unfold invoke
    simp only [Array.append_empty, Array.empty_append]
    have ea : Array.map a.eval #[x, y] = #[.slice (some ⟨b, off * i.size, none⟩) len cap, .slice (some ⟨b2, off2 * s2, none⟩) len2 cap2] := by simp [e1, e2]
    rw [ea, run_callFunc_extern hfn (by simpa using q1) q2 (Option.isNone_iff_eq_none.1 q3) (find_overlaps q5 q6 q7 q4), r1]
    rfl
  obtain ⟨r, w', r1, r2⟩ := hrun
  refine OutOK.of_run r1 ?_
  have hK : K (.bool r) h := by cases r <;> assumption
  rcases r2 with rfl | rfl
  · exact ⟨_, _, fz, hK, .bool _, hr, Ext.refl _ _ _⟩
  · exact ⟨_, _, fz, hK, .bool _, hr.drew, Ext.drew⟩

theorem good_ovl {s : Nat} {x y : AE} : (Sm.eff fun e h K => ovlE s (x.ev e) (y.ev e) h K).good (x.looks ++ y.looks) := by
  refine ⟨fun e e' h K hh hf => ?_, fun e h K K' hk hf => ?_, fun e h K n ob hn hf => ?_⟩
  · dsimp only at hf ⊢
    rwa [← AE.ev_congr (y := x) fun t ht => hh t (by simp [ht]), ← AE.ev_congr (y := y) fun t ht => hh t (by simp [ht])]
  · dsimp only at hf ⊢
    unfold ovlE at *
    split at hf <;> first | exact hf.elim | skip
    obtain ⟨a1, a2, a3, a4, a5, a6, a7⟩ := hf
    exact ⟨a1, a2, a3, a4, a5, hk _ _ a6, hk _ _ a7⟩
  · dsimp only at hf ⊢
    unfold ovlE at *
    split at hf <;> first | exact hf.elim | skip
    rename_i b s1 off len cap b2 s2 off2 len2 cap2 _ _
    obtain ⟨a1, a2, a3, a4, a5, a6, a7⟩ := hf
    have hbn : b ≠ n := fun hh => by rw [hh, hn] at a2; exact a2.elim
    have hbn2 : b2 ≠ n := fun hh => by rw [hh, hn] at a3; exact a3.elim
    rw [Hp.set_ne _ _ hbn, Hp.set_ne _ _ hbn2]
    exact ⟨a1, a2, a3, a4, a5, ⟨h, hn, rfl, a6⟩, ⟨h, hn, rfl, a7⟩⟩
end
end Go.Hz
