/- append. -/
import Derived.Test.YtfbflmiipepmiaaHzMem3
namespace Go.Hz
section
variable {P : Program} {o : Oper}

theorem Fl.written {fz : Nat → Prop} {H : Array Obj} {es : List (List AV)} {s o' : Nat} {c vs : Array Value} (h : Fl fz H es s 0 (cf vs)) (hs : Sized s es) (hv : vs.size = es.length * s) (hc : o' + vs.size ≤ c.size) :
    Fl fz H es s o' (cf (writeA c o' vs.toList)) := by
  refine h.congr hs fun x hx => ?_
  have := writeA_in vs.toList c o' x (by simp; omega) (by simpa using hc)
  rw [cf, this, Nat.zero_add, cf, Array.getElem?_eq_getElem (by omega)]
  simp

theorem Fl.beside {fz : Nat → Prop} {H : Array Obj} {es : List (List AV)} {s off o' : Nat} {c : Array Value} {vs : List Value} (h : Fl fz H es s off (cf c)) (hs : Sized s es)
    (hd : off + es.length * s ≤ o' ∨ o' + vs.length ≤ off) : Fl fz H es s off (cf (writeA c o' vs)) := by
  refine h.congr hs fun x hx => ?_
  rw [cf, writeA_out _ _ _ _ (by omega)]; rfl

theorem growBy_le (n : Nat) (hn : 256 ≤ n) : ∀ (r c : Nat), c ≤ 3 * n → Builtin.growBy n r c ≤ 3 * n
  | 0, c, h => h
  | r + 1, c, h => by
    unfold Builtin.growBy
    split
    · exact h
    · exact growBy_le n hn r _ (by omega)

theorem nextcap_le {n c : Nat} (h : c < n) : Builtin.nextslicecap n c ≤ 3 * n := by
  unfold Builtin.nextslicecap
  split
  · omega
  · split
    · omega
    · exact growBy_le n (by omega) 4 c (by omega)

def AtomsL (es : List (List AV)) : Prop := ∀ e ∈ es, ∀ v ∈ e, v.isAtom = true

theorem Fl.atoms {fz : Nat → Prop} {H : Array Obj} {es : List (List AV)} {s : Nat} {vs : Array Value} (h : Fl fz H es s 0 (cf vs)) (hs : Sized s es) (hv : vs.size = es.length * s) (ha : AtomsL es) :
    ∀ v ∈ vs.toList, v.oneCell' = true := by
  intro v hm
  obtain ⟨x, hx, rfl⟩ := List.getElem_of_mem hm
  simp only [Array.length_toList] at hx
  have hs0 : 0 < s := by
    rcases Nat.eq_zero_or_pos s with h0 | h0
    · subst h0; rw [Nat.mul_zero] at hv; omega
    · exact h0
  have hi : x / s < es.length := Nat.div_lt_of_lt_mul (by rw [Nat.mul_comm, ← hv]; exact hx)
  have hk : x % s < es[x / s].length := by rw [hs _ (List.getElem_mem hi)]; exact Nat.mod_lt _ hs0
  obtain ⟨cv, h1, h2⟩ := h (x / s) (x % s) _ _ (List.getElem?_eq_getElem hi) (List.getElem?_eq_getElem hk)
  have e : x / s * s + x % s = x := by rw [Nat.mul_comm]; exact Nat.div_add_mod x s
  rw [Nat.zero_add, e, cf, Array.getElem?_eq_getElem hx] at h1
  have := h2.oneCell (ha _ (List.getElem_mem hi) _ (List.getElem_mem hk))
  rw [← Option.some.inj h1] at this
  simpa using this

/-- append(x, y...): s: an element's cells, bytes: its bytes. -/
def appE (s bytes : Nat) (x y : AV) (h : Hp) (K : AV → Hp → Prop) : Prop :=
  ∃ ys, srcA s h y = some ys ∧ AtomsL ys ∧
  match x with
  | .nils => (ys = [] → K .nils h) ∧ (ys ≠ [] → ys.length * bytes ≤ 70368744177664 ∧ ∀ n c, h n = none → ys.length ≤ c → K (.arr n s 0 ys.length c) (h.set n (.row s ys c)))
  | .arr b s' off len cap => match h b with
    | some (.row s'' es rc) => s' = s ∧ s'' = s ∧ off = 0 ∧ len ≤ es.length ∧ cap = rc ∧ (len + ys.length) * bytes ≤ 70368744177664 ∧
      ∀ n c, h.del b n = none → len + ys.length ≤ c → (len + ys.length ≤ cap → n = b ∧ c = cap) → K (.arr n s 0 (len + ys.length) c) ((h.del b).set n (.row s (es.take len ++ ys) c))
    | _ => False
  | _ => False

theorem zeroCells_size (z : Array Value) (n : Nat) : (Builtin.zeroCells z n).size = n * z.size := by simp [Builtin.zeroCells]

theorem Rel.del {fz : Nat → Prop} {h : Hp} {w : World} (r : Rel fz h w) (b : Nat) : Rel fz (h.del b) w :=
  r.sub fun x o hx => by
    by_cases hxb : x = b
    · subst hxb; simp at hx
    · rwa [Hp.del_ne _ hxb] at hx

theorem Ext.del {fz : Nat → Prop} {h : Hp} {w : World} (b : Nat) : Ext fz h w fz (h.del b) w :=
  ⟨rfl, rfl, rfl, Nat.le_refl _, fun _ h => h, fun x _ hn => ⟨rfl, by
    by_cases hxb : x = b
    · subst hxb; simp
    · rwa [Hp.del_ne _ hxb]⟩, fun _ h => .inl h⟩

theorem Rel.drew {fz : Nat → Prop} {h : Hp} {w : World} (r : Rel fz h w) : Rel fz h { w with drawn := w.drawn + 1 } := ⟨r.lt, r.own⟩
theorem Ext.drew {fz : Nat → Prop} {h : Hp} {w : World} : Ext fz h w fz h { w with drawn := w.drawn + 1 } :=
  ⟨rfl, rfl, rfl, Nat.le_refl _, fun _ h => h, fun _ _ hn => ⟨rfl, hn⟩, fun _ h => .inl h⟩

/-- A grown array. -/
theorem grow_after {fz : Nat → Prop} {h : Hp} {w : World} (hr : Rel fz h w) {s n len : Nat} {es ys : List (List AV)} {old new : Array Value} {z : Array Value} {el : TypeId} {K : AV → Hp → Prop} (hle : len = es.length)
    (h1 : Sized s es) (h2 : Sized s ys) (ho : old.size = es.length * s) (hn : new.size = ys.length * s) (h3 : Fl fz w.heap es s 0 (cf old)) (h4 : Fl fz w.heap ys s 0 (cf new)) (hz : z.size = s) (hcap : len + ys.length ≤ n)
    (hk : ∀ m c, h m = none → len + ys.length ≤ c → K (.arr m s 0 (len + ys.length) c) (h.set m (.row s (es ++ ys) c))) :
    After fz h w K (.slice (some ⟨w.heap.size, 0, none⟩) (len + ys.length) n) (pushed w (.cells (old ++ new ++ Builtin.zeroCells z (n - (len + ys.length))) el (0, 0))) := by
  subst hle
  have hsz : (old ++ new ++ Builtin.zeroCells z (n - (es.length + ys.length))).size = n * s := by
    rw [Array.size_append, Array.size_append, zeroCells_size, ho, hn, hz, ← Nat.add_mul, ← Nat.add_mul]
    congr 1; omega
  have hor : OR fz w.heap (.row s (es ++ ys) n) (.cells (old ++ new ++ Builtin.zeroCells z (n - (es.length + ys.length))) el (0, 0)) := by
    refine OR.of_fl (by simpa using hcap) (fun e he => (List.mem_append.1 he).elim (h1 e) (h2 e)) hsz Soft.zero (Fl.append ?_ ?_)
    · refine h3.congr h1 fun x hx => ?_
      simp only [cf, Nat.zero_add]
      rw [Array.getElem?_append_left (by rw [Array.size_append]; omega), Array.getElem?_append_left (by omega)]
    · refine h4.congr h2 fun x hx => ?_
      simp only [cf, Nat.zero_add]
      rw [Array.getElem?_append_left (by rw [Array.size_append]; omega), Array.getElem?_append_right (by omega), ho]
      congr 1; omega
  obtain ⟨m1, m2, m3⟩ := hr.make hor
  refine ⟨_, _, fz, hk w.heap.size n m1 hcap, ?_, m2, m3⟩
  have := VR.arr (fz := fz) (H := (pushed w (.cells (old ++ new ++ Builtin.zeroCells z (n - (es.length + ys.length))) el (0, 0))).heap) w.heap.size s 0 (es.length + ys.length) n
  simpa using this

theorem append_run {ats : Array TypeId} {xt yt el ty : TypeId} {i : TypeInfo} {dy : TypeDesc} {z : Value} (hx : ats[0]? = some xt) (hy : ats[1]? = some yt) (hd : P.underlying xt = some (.slice el)) (hdy : P.underlying yt = some dy)
    (hdi : ∀ k, dy ≠ .int k) (hi : P.info? el = some i) (hz : i.zero = some z) (hzs : z.cells.size = i.size) (hb0 : i.bytes ≠ 0) {fz : Nat → Prop} {h : Hp} {w : World} (hr : Rel fz h w) {ax ay : AV} {cx cy : Value} (hvx : VR fz w.heap ax cx) (hvy : VR fz w.heap ay cy)
    {K : AV → Hp → Prop} (hk : appE i.size i.bytes ax ay h K) : ∃ cv w', (Builtin.append_ ats ty #[cx, cy]).run P w = .ok cv w' ∧ After fz h w K cv w' := by
  obtain ⟨ys, hys, hats, hk⟩ := hk
  obtain ⟨s1, s2, s3⟩ := srcA_run (P := P) hr hvy hys
  obtain ⟨new, n1, n2, n3⟩ := s3 ys.length (Nat.le_refl _)
  rw [List.take_length] at n3
  have n4 := n3.atoms s1 n2 hats
  have hzeros : (match dy with | .int _ => true | _ => false) = false := by
    cases dy <;> first | rfl | exact absurd rfl (hdi _)
  have hxa : (#[cx, cy] : Array Value)[0]? = some cx := rfl
  have hya : (#[cx, cy] : Array Value)[1]? = some cy := rfl
  have fits : ∀ (base : Option Addr) (sLen sCap : Nat) (w' : World), cx = .slice base sLen sCap → sLen + ys.length ≤ sCap →
      (match base with
        | some a => (storeCells (a.add (sLen * i.size)) new.toList).run P w
        | none => .ok () w) = .ok () w' → (Builtin.append_ ats ty #[cx, cy]).run P w = .ok (.slice base (sLen + ys.length) sCap) w' := fun base sLen sCap w' hc hle hst => by
    subst hc
    unfold Builtin.append_
    simp only [hx, hxa, hya, hy]
    rw [run_bind, run_underlying hd, Result.andThen_ok]
    simp only []
    rw [run_bind, run_sizeOf hi, Result.andThen_ok, run_bind, run_underlying hdy, Result.andThen_ok, run_bind, run_pure, Result.andThen_ok]
    simp only [Bool.false_eq_true, if_false]
    rw [run_bind, s2, Result.andThen_ok, if_pos hle]
    simp only [Bool.not_false, if_true]
    rw [run_bind, n1, Result.andThen_ok]
    cases base with
    | none => simp only at hst; cases hst; rfl
    | some a =>
      simp only at hst ⊢
      rw [run_bind, hst, Result.andThen_ok]; rfl
  have grows : ∀ (base : Option Addr) (sLen sCap : Nat) (old new : Array Value), cx = .slice base sLen sCap → ¬ sLen + ys.length ≤ sCap → (sLen + ys.length) * i.bytes ≤ 70368744177664 →
      (Builtin.firstCells i.size sLen cx).run P { w with drawn := w.drawn + 1 } = .ok old { w with drawn := w.drawn + 1 } →
      (Builtin.firstCells i.size ys.length cy).run P { w with drawn := w.drawn + 1 } = .ok new { w with drawn := w.drawn + 1 } → ∃ n, sLen + ys.length ≤ n ∧
      (Builtin.append_ ats ty #[cx, cy]).run P w = .ok (.slice (some ⟨w.heap.size, 0, none⟩) (sLen + ys.length) n)
        (pushed { w with drawn := w.drawn + 1 } (.cells (old ++ new ++ Builtin.zeroCells z.cells (n - (sLen + ys.length))) el (0, 0))) := fun base sLen sCap old new hc hle hb hold hnew => by
    subst hc
    have hnc := nextcap_le (n := sLen + ys.length) (c := sCap) (by omega)
    have hnb : ¬ (Builtin.nextslicecap (sLen + ys.length) sCap * i.bytes > 2 ^ 48) := by
      have := Nat.mul_le_mul_right i.bytes hnc
      rw [Nat.mul_assoc] at this
      omega
    refine ⟨Question.cut (.appendCap (sLen + ys.length) sCap el) (w.tape w.drawn (.appendCap (sLen + ys.length) sCap el)), by simp only [Question.cut]; omega, ?_⟩
    unfold Builtin.append_
    simp only [hx, hxa, hya, hy]
    rw [run_bind, run_underlying hd, Result.andThen_ok]
    simp only []
    rw [run_bind, run_sizeOf hi, Result.andThen_ok, run_bind, run_underlying hdy, Result.andThen_ok, run_bind, run_pure, Result.andThen_ok]
    simp only [Bool.false_eq_true, if_false]
    rw [run_bind, s2, Result.andThen_ok, if_neg hle, run_bind, run_typeInfo hi, Result.andThen_ok]
    simp only [hb0, or_false, and_false, if_false]
    rw [run_bind, run_typeInfo hi, Result.andThen_ok, if_neg hnb, run_bind, run_choose]
    have hfo : (Question.appendCap (sLen + ys.length) sCap el).forced = false := rfl
    rw [hfo]
    simp only [Bool.false_eq_true, if_false, Result.andThen_ok]
    rw [run_bind, run_typeInfo hi, Result.andThen_ok, run_bind, run_askRoom, Result.andThen_ok, run_bind, hold, Result.andThen_ok]
    simp only [Bool.not_false, if_true]
    rw [run_bind, hnew, Result.andThen_ok, run_bind, run_zero hi hz, Result.andThen_ok]
    rfl
  have hr1 : Rel fz h { w with drawn := w.drawn + 1 } := hr.drew
  obtain ⟨_, _, t3⟩ := srcA_run (P := P) hr1 hvy hys
  obtain ⟨new1, m1, m2, m3⟩ := t3 ys.length (Nat.le_refl _)
  rw [List.take_length] at m3
  have emb : ∀ {h0 : Hp} {cv : Value} {w' : World}, Ext fz h w fz h0 { w with drawn := w.drawn + 1 } → After fz h0 { w with drawn := w.drawn + 1 } K cv w' → After fz h w K cv w' :=
    fun hx ⟨v, h', fz', a1, a2, a3, a4⟩ => ⟨v, h', fz', a1, a2, a3, hx.trans a4⟩
  split at hk
  · -- nil
    obtain ⟨k1, k2⟩ := hk
    cases hvx.nils_inv
    by_cases hy0 : ys = []
    · subst hy0
      exact ⟨.slice none 0 0, w, fits none 0 0 w rfl (by simp) rfl, .nils, h, fz, k1 rfl, .nils, hr, Ext.refl _ _ _⟩
    · obtain ⟨k3, k4⟩ := k2 hy0
      have hlen : 0 < ys.length := List.length_pos_iff.2 hy0
      obtain ⟨n, g1, g2⟩ := grows none 0 0 #[] new1 rfl (by omega) (by simpa using k3) rfl m1
      refine ⟨_, _, g2, emb Ext.drew (grow_after hr1 (es := []) rfl (fun e he => by simp at he) s1 (by simp) m2 (fun i k e v hi => by simp at hi) m3 hzs g1 ?_)⟩
      intro m c hm hc
      simp only [Nat.zero_add] at hc
      simpa using k4 m c hm hc
  · -- an array
    rename_i b s' off len cap
    split at hk <;> first | exact hk.elim | skip
    rename_i s'' es rc hb
    obtain ⟨rfl, rfl, rfl, hle, rfl, hbb, k⟩ := hk
    obtain ⟨c, T, fr, q1, q2, q3, q4, q5, q6⟩ := hr.row_fl hb
    have htk : Sized i.size (es.take len) := fun e he => q3 e (List.mem_of_mem_take he)
    have htl : (es.take len).length = len := by simp; omega
    obtain ⟨ad, rfl⟩ := hvx.arr_some
    by_cases hfit : len + ys.length ≤ cap
    · -- it fits
      by_cases hcz : cap = 0
      · -- nothing to write
        have hy0 : ys = [] := List.eq_nil_of_length_eq_zero (by omega)
        have hl0 : len = 0 := by omega
        subst hy0 hl0 hcz
        have hrow : OR fz w.heap (.row i.size (es.take 0 ++ []) 0) (.cells c T fr) := OR.of_fl (by simp) (fun e he => by simp at he) q4 q5 (fun i k e v hi => by simp at hi)
        have hnew : new = #[] := by
          have : new.size = 0 := by simpa using n2
          exact Array.eq_empty_of_size_eq_zero this
        have hst : (storeCells (ad.add (0 * i.size)) new.toList).run P w = .ok () w := by rw [hnew]; rfl
        have hf := fits (some ad) 0 0 w rfl (by simp) hst
        have hnf := (hr.own b _ hb).1
        refine ⟨_, _, hf, _, _, fz, k b 0 (by simp) (by simp) (fun _ => ⟨rfl, rfl⟩), by simpa using hvx, ⟨hr.lt, fun x ox hx => ?_⟩, ?_⟩
        · by_cases hxb : x = b
          · subst hxb
            rw [Hp.set_same] at hx
            cases hx
            exact ⟨hnf, _, q1, hrow⟩
          · rw [Hp.set_ne _ _ hxb, Hp.del_ne _ hxb] at hx
            exact hr.own x ox hx
        · refine ⟨rfl, rfl, rfl, Nat.le_refl _, fun _ h => h, fun x hx hn => ⟨rfl, ?_⟩, fun _ h => .inl h⟩
          have hxb : x ≠ b := fun hh => by rw [hh, hb] at hn; cases hn
          rw [Hp.set_ne _ _ hxb, Hp.del_ne _ hxb]; exact hn
      · have had : ad = ⟨b, 0, none⟩ := by
          cases hvx with
          | arr => simp
          | arr0 => exact absurd rfl hcz
        subst had
        have hmul := Nat.mul_le_mul_right i.size hfit
        rw [Nat.add_mul] at hmul
        have hst := storeCells_run (P := P) new.toList w c (len * i.size) 0 q1 q5 (by rw [Array.length_toList, n2, q4]; omega) n4
        have hf := fits (some ⟨b, 0, none⟩) len cap _ rfl hfit (by show (storeCells (Addr.add ⟨b, 0, none⟩ _) _).run P w = _; rw [Addr.add_none, Nat.zero_add]; exact hst)
        have hor : OR fz w.heap (.row i.size (es.take len ++ ys) cap) (.cells (writeA c (len * i.size + 0) new.toList) T fr) := by
          refine OR.of_fl (by simp; omega) (fun e he => (List.mem_append.1 he).elim (htk e) (s1 e)) (by rw [writeA_size]; exact q4) (q5.sized (writeA_size _ _ _)) (Fl.append ?_ ?_)
          · exact q6.take.beside htk (.inl (by rw [htl]; omega))
          · rw [htl, Nat.zero_add, Nat.add_zero]
            exact n3.written s1 n2 (by omega)
        obtain ⟨r1, r2⟩ := hr.turn hb hor
        have heq : (h.del b).set b (.row i.size (es.take len ++ ys) cap) = h.set b (.row i.size (es.take len ++ ys) cap) := by
          funext x; simp only [Hp.set, Hp.del]; split <;> simp_all
        refine ⟨_, _, hf, _, _, fz, k b cap (by simp) hfit (fun _ => ⟨rfl, rfl⟩), ?_, by rw [heq]; exact r1, by rw [heq]; exact r2⟩
        have := VR.arr (fz := fz) (H := (withBlock w b (.cells (writeA c (len * i.size + 0) new.toList) T fr)).heap) b i.size 0 (len + ys.length) cap
        simpa using this
    · -- it grows
      have hold : ∃ old : Array Value, (Builtin.firstCells i.size len (.slice (some ad) len cap)).run P { w with drawn := w.drawn + 1 } = .ok old { w with drawn := w.drawn + 1 } ∧ old.size = (es.take len).length * i.size ∧ Fl fz w.heap (es.take len) i.size 0 (cf old) := by
        have hsrc : srcA i.size h (.arr b i.size 0 len cap) = some ((es.drop 0).take len) := by
          simp only [srcA, hb, true_and]
          rw [if_pos (by omega)]
        obtain ⟨_, _, u3⟩ := srcA_run (P := P) hr1 hvx hsrc
        obtain ⟨old, o1, o2, o3⟩ := u3 len (by simp; omega)
        refine ⟨old, o1, by rw [o2, htl], ?_⟩
        simpa [List.take_take] using o3
      obtain ⟨old, o1, o2, o3⟩ := hold
      obtain ⟨n, g1, g2⟩ := grows (some ad) len cap old new1 rfl hfit hbb o1 m1
      have hx1 : Ext fz h w fz (h.del b) { w with drawn := w.drawn + 1 } := Ext.drew.trans (Ext.del b)
      refine ⟨_, _, g2, emb hx1 (grow_after (hr1.del b) (es := es.take len) htl.symm htk s1 o2 m2 o3 m3 hzs g1 fun m c hm hc => k m c hm hc fun hf => absurd hf hfit)⟩
  · exact hk.elim

theorem OutOK.of_run {s : Sem Next} {w w' : World} {cv : Value} {R : Value → World → Prop} (h : s.run P w = .ok (.value cv) w') (hr : R cv w') : OutOK P s w R := by
  unfold OutOK; rw [h]; exact hr

theorem OutOK.of_skip {s : Sem Next} {w w' : World} {R : Value → World → Prop} (h : s.run P w = .ok .skip w') (hr : R undef w') : OutOK P s w R := by
  unfold OutOK; rw [h]; exact hr

theorem OutOK.of_enter {s : Sem Next} {w w' : World} {f : FuncId} {args : Array Value} {R : Value → World → Prop} (h : s.run P w = .ok (.enter f args) w')
    (hr : Calls P f args w' fun e w'' => ∃ cv, e = .returned cv ∧ R cv w'') : OutOK P s w R := by
  unfold OutOK; rw [h]; exact hr

theorem sim_app {ats : Array TypeId} {xt yt el : TypeId} {i : TypeInfo} {dy : TypeDesc} {z : Value} {x y : Operand} {x' y' : AE} (ho : o.op = .call { callee := .builtin .append, args := #[x, y], argTypes := ats })
    (hx : ats[0]? = some xt) (hy : ats[1]? = some yt) (hd : P.underlying xt = some (.slice el)) (hdy : P.underlying yt = some dy) (hdi : ∀ k, dy ≠ .int k) (hi : P.info? el = some i) (hz : i.zero = some z) (hzs : z.cells.size = i.size) (hb0 : i.bytes ≠ 0)
    (hxx : AE.of x = some x') (hyy : AE.of y = some y') : OpOK P o (.eff fun e h K => appE i.size i.bytes (x'.ev e) (y'.ev e) h K) := by
  intro fz e h a w K he hr hh
  have h1 := AE.of_ok hxx he
  have h2 := AE.of_ok hyy he
  obtain ⟨cv, w', h3, h4⟩ := append_run (ty := o.type) hx hy hd hdy hdi hi hz hzs hb0 hr h1 h2 hh
  refine OutOK.of_run (w' := w') (cv := cv) ?_ h4
  simp only [execOp, ho, resolve, List.map_toArray, List.map_cons, List.map_nil]
  rw [run_bind, run_pure, Result.andThen_ok]
  exact run_value _ h3

theorem srcA_set {s : Nat} {h : Hp} {y : AV} {ys : List (List AV)} {n : Nat} {ob : AObj} (hs : srcA s h y = some ys) (hn : h n = none) : srcA s (h.set n ob) y = some ys := by
  unfold srcA at hs ⊢
  split at hs <;> first | exact hs | skip
  rename_i b s' off len cap
  have hbn : b ≠ n := fun hh => by rw [hh, hn] at hs; cases hs
  rw [Hp.set_ne _ _ hbn]; exact hs

theorem del_set_comm {h : Hp} {b n : Nat} (ob : AObj) (hbn : b ≠ n) : (h.set n ob).del b = (h.del b).set n ob := by
  funext x; simp only [Hp.set, Hp.del]; split <;> split <;> simp_all

theorem good_app {s bytes : Nat} {x y : AE} : (Sm.eff fun e h K => appE s bytes (x.ev e) (y.ev e) h K).good (x.looks ++ y.looks) := by
  refine ⟨fun e e' h K hh hf => ?_, fun e h K K' hk hf => ?_, fun e h K n ob hn hf => ?_⟩
  · dsimp only at hf ⊢
    rwa [← AE.ev_congr (y := x) fun t ht => hh t (by simp [ht]), ← AE.ev_congr (y := y) fun t ht => hh t (by simp [ht])]
  · obtain ⟨ys, h1, h2, h3⟩ := hf
    refine ⟨ys, h1, h2, ?_⟩
    split at h3
    · exact ⟨fun h0 => hk _ _ (h3.1 h0), fun h0 => ⟨(h3.2 h0).1, fun n c hn hc => hk _ _ ((h3.2 h0).2 n c hn hc)⟩⟩
    · split at h3 <;> first | exact h3.elim | skip
      obtain ⟨a1, a2, a3, a4, a5, a6, a7⟩ := h3
      exact ⟨a1, a2, a3, a4, a5, a6, fun n c hn hc hf => hk _ _ (a7 n c hn hc hf)⟩
    · exact h3.elim
  · obtain ⟨ys, h1, h2, h3⟩ := hf
    refine ⟨ys, srcA_set h1 hn, h2, ?_⟩
    split at h3
    · refine ⟨fun h0 => ⟨h, hn, rfl, h3.1 h0⟩, fun h0 => ⟨(h3.2 h0).1, fun m c hm hc => ?_⟩⟩
      have hmn : m ≠ n := fun hh => by rw [hh, Hp.set_same] at hm; cases hm
      rw [Hp.set_ne _ _ hmn] at hm
      exact ⟨_, by rw [Hp.set_ne _ _ (Ne.symm hmn)]; exact hn, Hp.set_comm _ _ _ (Ne.symm hmn), (h3.2 h0).2 m c hm hc⟩
    · rename_i b s' off len cap _
      have hbn : b ≠ n := fun hh => by rw [hh, hn] at h3; exact h3.elim
      rw [Hp.set_ne _ _ hbn]
      split at h3 <;> first | exact h3.elim | skip
      obtain ⟨a1, a2, a3, a4, a5, a6, a7⟩ := h3
      refine ⟨a1, a2, a3, a4, a5, a6, fun m c hm hc hf => ?_⟩
      rw [del_set_comm _ hbn] at hm ⊢
      have hmn : m ≠ n := fun hh => by rw [hh, Hp.set_same] at hm; cases hm
      rw [Hp.set_ne _ _ hmn] at hm
      exact ⟨_, by rw [Hp.set_ne _ _ (Ne.symm hmn), Hp.del_ne _ (Ne.symm hbn)]; exact hn, Hp.set_comm _ _ _ (Ne.symm hmn), a7 m c hm hc hf⟩
    · exact h3.elim

/-! ### calls -/

theorem Triple.frame {f : FuncId} {args : List AV} {h : Hp} {post : AV → Hp → Prop} (t : Triple P f args h post) {n : Nat} {ob : AObj} (hn : h n = none) :
    Triple P f args (h.set n ob) fun r h'' => ∃ h', h' n = none ∧ h'' = h'.set n ob ∧ post r h' := by
  intro fz w cargs r a
  have hsub : ∀ b o, h b = some o → (h.set n ob) b = some o := fun b o hb => by
    have : b ≠ n := fun hh => by rw [hh, hn] at hb; cases hb
    rw [Hp.set_ne _ _ this]; exact hb
  have r0 := r.sub hsub
  refine (t fz w cargs r0 a).mono ?_
  rintro ed w' ⟨cv, rv, h', fz', rfl, h2, h3, h4, h5⟩
  obtain ⟨hnf, c, hc1, hc2⟩ := r.own n ob (Hp.set_same _ _ _)
  have hlt : n < w.heap.size := (Array.getElem?_eq_some_iff.1 hc1).1
  obtain ⟨k1, k2⟩ := h4.keep n hlt hn
  refine ⟨cv, rv, h'.set n ob, fz', rfl, h2, ⟨h3.lt, fun b o hb => ?_⟩, ⟨h4.os, h4.tape, h4.output, h4.size, h4.grow, fun b hb hbn => ?_, fun b hb => ?_⟩, h', k2, rfl, h5⟩
  · by_cases hbn : b = n
    · subst hbn
      rw [Hp.set_same] at hb
      cases hb
      refine ⟨fun hf => ?_, c, k1.trans hc1, hc2.mono h4.grow (r0.frozen h4)⟩
      rcases h4.new _ hf with h | ⟨o, h⟩ | h
      · exact hnf h
      · rw [hn] at h; cases h
      · omega
    · rw [Hp.set_ne _ _ hbn] at hb
      exact h3.own b o hb
  · have hne : b ≠ n := fun hh => by rw [hh, Hp.set_same] at hbn; cases hbn
    rw [Hp.set_ne _ _ hne] at hbn ⊢
    exact h4.keep b hb hbn
  · rcases h4.new b hb with h | ⟨o, h⟩ | h
    · exact .inl h
    · exact .inr (.inl ⟨o, hsub b o h⟩)
    · exact .inr (.inr h)

theorem callFunc_run {f : FuncId} {fn : Func} (hf : P.funcs[f]? = some fn) (hn : fn.name ≠ "runtime.NumGoroutine") (hb : fn.body.isSome = true) (args : Array Value) (w : World) : (callFunc f args).run P w = .ok (.enter f args) w := by
  unfold callFunc
  rw [run_bind, run_program, Result.andThen_ok]
  have h1 : (fn.name == "runtime.NumGoroutine") = false := by simpa using hn
  have h2 : fn.body.isNone = false := by
    cases hh : fn.body with
    | none => rw [hh] at hb; cases hb
    | some b => rfl
  simp only [hf, h1, h2, Bool.false_eq_true, if_false]
  rfl

theorem sim_call {f : FuncId} {fn : Func} {args : Array Operand} {ats : Array TypeId} {args' : List AE} (ho : o.op = .call { callee := .value (.func f), args, argTypes := ats }) (hf : P.funcs[f]? = some fn)
    (hn : fn.name ≠ "runtime.NumGoroutine") (hb : fn.body.isSome = true) (ha : AE.ofL args.toList = some args') :
    OpOK P o (.eff fun e h K => Triple P f (args'.map (·.ev e)) h K) := by
  intro fz e h a w K he hr hh
  have h1 := AE.ofL_ok he ha
  have hrun : (execOp a.eval o).run P w = .ok (.enter f (Array.map a.eval args)) w := by
    simp only [execOp, ho, resolve, Act.eval, Deferred.ofValue]
    rw [run_bind, run_pure, Result.andThen_ok]
    unfold invoke
    simp only [Array.append_empty, Array.empty_append]
    exact callFunc_run hf hn hb _ _
  refine OutOK.of_enter hrun ?_
  refine (hh fz w (Array.map a.eval args) hr (by simpa using h1)).mono ?_
  rintro ed w' ⟨cv, rv, h', fz', rfl, h2, h3, h4, h5⟩
  exact ⟨cv, rfl, rv, h', fz', h5, h2, h3, h4⟩

theorem evs_congr {args : List AE} {e e' : Env} (h : ∀ t ∈ args.flatMap AE.looks, e t = e' t) : args.map (·.ev e) = args.map (·.ev e') :=
  List.map_congr_left fun x hx => AE.ev_congr fun t ht => h t (List.mem_flatMap.2 ⟨x, hx, ht⟩)

theorem good_call {f : FuncId} {args : List AE} : (Sm.eff fun e h K => Triple P f (args.map (·.ev e)) h K).good (args.flatMap AE.looks) := by
  refine ⟨fun e e' h K hh hf => ?_, fun e h K K' hk hf => ?_, fun e h K n ob hn hf => ?_⟩
  · dsimp only at hf ⊢
    rwa [← evs_congr hh]
  · exact hf.mono hk
  · exact hf.frame hn

end
end Go.Hz
