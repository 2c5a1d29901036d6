/- Structs by value, literals of slices, make, copy, strings and bytes. -/
import Derived.Test.YtfbflmiipepmiaaHzApp
namespace Go.Hz
section
variable {P : Program} {o : Oper}

theorem VRs.splice {fz : Nat → Prop} {H : Array Obj} {cs vs : List AV} {c : Array Value} {us : List Value} {off : Nat} (h : VRs fz H cs c.toList) (hv : VRs fz H vs us) (hl : off + vs.length ≤ cs.length) :
    VRs fz H (splice cs off vs) (writeA c off us).toList := by
  have hcl := h.1
  have hul := hv.1
  simp only [Array.length_toList] at hcl
  refine ⟨by rw [splice_length hl, Array.length_toList (xs := writeA c off us), writeA_size]; exact hcl, fun j h1 h2 => ?_⟩
  rw [splice_length hl] at h1
  simp only [Array.length_toList, writeA_size] at h2
  simp only [Array.getElem_toList]
  by_cases hin : off ≤ j ∧ j < off + vs.length
  · have e1 : (writeA c off us)[j]'(by rw [writeA_size]; exact h2) = us[j - off]'(by omega) := by
      have := writeA_in us c off (j - off) (by omega) (by omega)
      rw [show off + (j - off) = j from by omega, Array.getElem?_eq_getElem (by rw [writeA_size]; exact h2)] at this
      exact Option.some.inj this
    have e2 : (Hz.splice cs off vs)[j]'(by rw [splice_length hl]; exact h1) = vs[j - off]'(by omega) := by
      simp only [Hz.splice]
      rw [List.getElem_append_left (by simp; omega), List.getElem_append_right (by simp; omega)]
      congr 1
      simp; omega
    rw [e1, e2]
    exact hv.2 _ _ _
  · have e1 : (writeA c off us)[j]'(by rw [writeA_size]; exact h2) = c[j] := by
      have := writeA_out us c off j (by omega)
      rw [Array.getElem?_eq_getElem (by rw [writeA_size]; exact h2), Array.getElem?_eq_getElem h2] at this
      exact Option.some.inj this
    have e2 : (Hz.splice cs off vs)[j]'(by rw [splice_length hl]; exact h1) = cs[j] := by
      simp only [Hz.splice]
      by_cases hj : j < off
      · rw [List.getElem_append_left (by simp; omega), List.getElem_append_left (by simp; omega), List.getElem_take]
      · rw [List.getElem_append_right (by simp; omega), List.getElem_drop]
        congr 1
        simp; omega
    rw [e1, e2]
    have := h.2 j h1 (by simpa using h2)
    simpa using this

theorem foldl_write (off : Nat) : ∀ (l : List Value) (n : Nat) (c : Array Value), (l.zipIdx n).foldl (fun cs (x : Value × Nat) => cs.setIfInBounds (off + x.2) x.1) c = writeA c (off + n) l
  | [], _, _ => rfl
  | v :: l, n, c => by
    rw [List.zipIdx_cons, List.foldl_cons, foldl_write off l (n + 1)]; rfl

/-- Values laid at their places. -/
def fillA : List AV → List (Nat × Nat × AV) → Option (List AV)
  | cs, [] => some cs
  | cs, (off, size, v) :: rest => if v.cells.length = size ∧ off + size ≤ cs.length ∧ (v.cells.all AV.isAtom) = true then fillA (splice cs off v.cells) rest else none

theorem fill_run {fz : Nat → Prop} {H : Array Obj} {place : Nat → Option (Nat × Nat)} : ∀ (ps : List (Nat × Value)) (qs : List (Nat × Nat × AV)) (cs : List AV) (c : Array Value) (out : List AV),
    ps.length = qs.length → (∀ j (h1 : j < ps.length) (h2 : j < qs.length), place ps[j].1 = some (qs[j].1, qs[j].2.1) ∧ VR fz H qs[j].2.2 ps[j].2) → VRs fz H cs c.toList → fillA cs qs = some out →
    ∃ c', Instr.fill place c ps = some c' ∧ VRs fz H out c'.toList
  | [], [], cs, c, out, _, _, h, hf => by cases hf; exact ⟨c, rfl, h⟩
  | [], q :: qs, _, _, _, hl, _, _, _ => by simp at hl
  | p :: ps, [], _, _, _, hl, _, _, _ => by simp at hl
  | (i, v) :: ps, (off, size, av) :: qs, cs, c, out, hl, hp, h, hf => by
    unfold fillA at hf
    split at hf <;> first | (cases hf; done) | skip
    rename_i hc
    obtain ⟨h1, h2, h3⟩ := hc
    obtain ⟨g1, g2⟩ := hp 0 (by simp) (by simp)
    simp only [List.getElem_cons_zero] at g1 g2
    have hcl := g2.cells (by simpa using h3)
    have hln := hcl.1
    simp only [Array.length_toList] at hln
    have hcs := h.1
    simp only [Array.length_toList] at hcs
    unfold Instr.fill
    simp only [g1]
    have hcond : (decide (v.cells.size ≠ size) || decide (off + v.cells.size > c.size)) = false := by
      simp only [Bool.or_eq_false_iff, decide_eq_false_iff_not]; omega
    simp only [hcond, Bool.false_eq_true, if_false]
    have hfold : v.cells.zipIdx.foldl (fun cs (x : Value × Nat) => cs.setIfInBounds (off + x.2) x.1) c = writeA c off v.cells.toList := by
      rw [← Array.foldl_toList, Array.toList_zipIdx, foldl_write]; rfl
    have hsp := VRs.splice h hcl (off := off) (by omega)
    have := fill_run ps qs _ (writeA c off v.cells.toList) out (by simpa using hl) (fun j a b => by have := hp (j + 1) (by simpa using a) (by simpa using b); simpa using this) hsp hf
    obtain ⟨c', h5, h6⟩ := this
    refine ⟨c', ?_, h6⟩
    rw [← h5, ← hfold]

def AE.ofParts (place : Nat → Option (Nat × Nat)) : List (Nat × Operand) → Option (List (Nat × Nat × AE))
  | [] => some []
  | (i, x) :: ps => match place i, AE.of x, AE.ofParts place ps with
    | some (off, size), some y, some qs => some ((off, size, y) :: qs)
    | _, _, _ => none

theorem AE.ofParts_ok {place : Nat → Option (Nat × Nat)} {fz : Nat → Prop} {H : Array Obj} {e : Env} {a : Act} (he : EnvR fz H e a.tmps) : ∀ {ps : List (Nat × Operand)} {qs : List (Nat × Nat × AE)}, AE.ofParts place ps = some qs →
    ps.length = qs.length ∧ ∀ j (h1 : j < ps.length) (h2 : j < qs.length), place ps[j].1 = some (qs[j].1, qs[j].2.1) ∧ VR fz H (qs[j].2.2.ev e) (a.eval ps[j].2)
  | [], qs, h => by cases h; exact ⟨rfl, fun j h => by simp at h⟩
  | (i, x) :: ps, qs, h => by
    unfold AE.ofParts at h
    split at h <;> first | (cases h; done) | skip
    rename_i off size y qs' h1 h2 h3
    cases h
    obtain ⟨g1, g2⟩ := AE.ofParts_ok he h3
    refine ⟨by simp [g1], fun j a b => ?_⟩
    cases j with
    | zero => exact ⟨h1, AE.of_ok h2 he⟩
    | succ j => exact g2 j (by simpa using a) (by simpa using b)

def evParts (e : Env) (qs : List (Nat × Nat × AE)) : List (Nat × Nat × AV) := qs.map fun q => (q.1, q.2.1, q.2.2.ev e)

def placesOf (P : Program) (fs : Array Field) : List (Nat × Nat) := fs.toList.map fun f => (f.offset, ((P.info? f.type).map (·.size)).getD 0)

theorem places_run (fs : List Field) {w : World} (h : ∀ f ∈ fs, ∃ i, P.info? f.type = some i) :
    (fs.mapM fun f => do pure (f.offset, ← sizeOf f.type) : Sem (List (Nat × Nat))).run P w = .ok (fs.map fun f => (f.offset, ((P.info? f.type).map (·.size)).getD 0)) w := by
  induction fs with
  | nil => rfl
  | cons f fs ih =>
    obtain ⟨i, hi⟩ := h f (by simp)
    rw [List.mapM_cons, run_bind]
    simp only [run_bind, run_sizeOf hi, Result.andThen_ok, run_pure, ih fun f hf => h f (by simp [hf])]
    simp [hi]

theorem sim_bld {t : TypeId} {fs : Array Field} {i : TypeInfo} {z : Value} {zs : List AV} {parts : Array (Nat × Operand)} {qs : List (Nat × Nat × AE)} (ho : o.op = .build t parts) (hd : P.underlying t = some (.struct fs)) (hi : P.info? t = some i)
    (hz : i.zero = some z) (hzs : zeroA z = some zs) (hfs : ∀ f ∈ fs.toList, ∃ i, P.info? f.type = some i) (hq : AE.ofParts ((placesOf P fs)[·]?) parts.toList = some qs) :
    OpOK P o (.pure fun e => (fillA zs (evParts e qs)).map .agg) := by
  refine OpOK.of_pure fun fz e a w he v hv => ?_
  obtain ⟨g1, g2⟩ := AE.ofParts_ok he hq
  cases hf : fillA zs (evParts e qs) with
  | none => rw [hf] at hv; cases hv
  | some out =>
    rw [hf] at hv
    cases hv
    obtain ⟨c', h1, h2⟩ := fill_run (place := ((placesOf P fs)[·]?)) (parts.toList.map fun p => (p.1, a.eval p.2)) (evParts e qs) zs z.cells out (by simp [evParts, g1])
      (fun j a b => by
        have := g2 j (by simpa using a) (by simpa [evParts] using b)
        simpa [evParts] using this) (zeroA_ok hzs fz w.heap) hf
    have hl := h2.1
    simp only [Array.length_toList] at hl
    refine ⟨.agg c', ?_, .agg _ _ hl fun j a b => h2.2 j a (by simpa using b)⟩
    simp only [execOp, ho]
    refine run_value _ ?_
    unfold Instr.build
    rw [run_bind, run_zero hi hz, Result.andThen_ok, run_bind, run_underlying hd, Result.andThen_ok]
    simp only []
    have hm : (fs.mapM fun f => do pure (f.offset, ← sizeOf f.type) : Sem (Array (Nat × Nat))).run P w = .ok (placesOf P fs).toArray w := by
      rw [Array.mapM_eq_mapM_toList, Sem.run_map, places_run _ hfs]; rfl
    rw [run_bind, hm, Result.andThen_ok]
    have e1 : (Array.map (fun x => match x with | (i, x) => (i, a.eval x)) parts).toList = parts.toList.map fun p => (p.1, a.eval p.2) := by
      rw [Array.toList_map]
    have e2 : (fun (x : Nat) => (placesOf P fs).toArray[x]?) = fun (x : Nat) => (placesOf P fs)[x]? := by funext x; simp
    rw [e1, e2, h1]
    rfl

/-! ### slices that are made -/

theorem zeroTile_fl {fz : Nat → Prop} {H : Array Obj} {zs : List AV} {z : Array Value} (h : VRs fz H zs z.toList) (n m : Nat) (hnm : n ≤ m) :
    Fl fz H (List.replicate n zs) zs.length 0 (cf ((Array.range (m * zs.length)).map (z[· % z.size]!))) := by
  intro i k e v hi hk
  have hl := h.1
  simp only [Array.length_toList] at hl
  have hlt : i < n := by have := (List.getElem?_eq_some_iff.1 hi).1; simpa using this
  have hel : e = zs := by
    rw [List.getElem?_replicate, if_pos hlt] at hi; exact (Option.some.inj hi).symm
  subst hel
  have hk' : k < e.length := (List.getElem?_eq_some_iff.1 hk).1
  have hkv : e[k] = v := (List.getElem?_eq_some_iff.1 hk).2
  have hle := mul_le_of (s := e.length) (Nat.lt_of_lt_of_le hlt hnm)
  have hmod : (i * e.length + k) % z.size = k := by
    rw [← hl, Nat.mul_comm, Nat.mul_add_mod]; exact Nat.mod_eq_of_lt hk'
  refine ⟨z[k], ?_, ?_⟩
  · simp only [cf, Nat.zero_add, Array.getElem?_map]
    rw [Array.getElem?_eq_getElem (by simp; omega)]
    simp only [Array.getElem_range, Option.map_some, hmod]
    rw [getElem!_pos z k (by omega)]
  · have := h.2 k hk' (by simp; omega)
    rw [hkv] at this
    simpa using this

/-- Elements laid at their places. -/
def setL (s : Nat) : List (List AV) → List (Nat × AV) → Option (List (List AV))
  | es, [] => some es
  | es, (i, v) :: rest => if v.cells.length = s ∧ i < es.length ∧ (v.cells.all AV.isAtom) = true then setL s (es.set i v.cells) rest else none

theorem Fl.set {fz : Nat → Prop} {H : Array Obj} {es : List (List AV)} {s i : Nat} {c : Array Value} {e : List AV} {us : List Value} (h : Fl fz H es s 0 (cf c)) (hs : Sized s es) (he : e.length = s) (hu : VRs fz H e us) (hi : i < es.length) (hc : es.length * s ≤ c.size) :
    Fl fz H (es.set i e) s 0 (cf (writeA c (i * s) us)) := by
  intro j k e' v hj hk
  have hul := hu.1
  have hle := mul_le_of (s := s) hi
  rw [List.getElem?_set] at hj
  split at hj
  · rename_i hij
    subst hij
    cases hj
    have hk' : k < e.length := (List.getElem?_eq_some_iff.1 hk).1
    have hkv : e[k] = v := (List.getElem?_eq_some_iff.1 hk).2
    refine ⟨us[k], ?_, by rw [← hkv]; exact hu.2 k hk' (by omega)⟩
    rw [Nat.zero_add, cf]
    exact writeA_in us c (i * s) k (by omega) (by omega)
  · rename_i hij
    obtain ⟨cv, h1, h2⟩ := h j k e' v hj hk
    have hk' : k < e'.length := (List.getElem?_eq_some_iff.1 hk).1
    rw [hs e' (List.mem_of_getElem? hj)] at hk'
    refine ⟨cv, ?_, h2⟩
    rw [cf, writeA_out]
    · exact h1
    · rcases Nat.lt_or_gt_of_ne hij with hlt | hlt
      · have := mul_le_of (s := s) hlt; omega
      · have := mul_le_of (s := s) hlt; omega

theorem fillL_run {fz : Nat → Prop} {H : Array Obj} {s : Nat} : ∀ (ps : List (Nat × Value)) (qs : List (Nat × AV)) (es : List (List AV)) (c : Array Value) (out : List (List AV)),
    ps.length = qs.length → (∀ j (h1 : j < ps.length) (h2 : j < qs.length), ps[j].1 = qs[j].1 ∧ VR fz H qs[j].2 ps[j].2) → Sized s es → Fl fz H es s 0 (cf c) → c.size = es.length * s → setL s es qs = some out →
    ∃ c', Instr.fill (fun i => some (i * s, s)) c ps = some c' ∧ Fl fz H out s 0 (cf c') ∧ Sized s out ∧ out.length = es.length ∧ c'.size = c.size
  | [], [], es, c, out, _, _, h1, h, _, hf => by cases hf; exact ⟨c, rfl, h, h1, rfl, rfl⟩
  | [], q :: qs, _, _, _, hl, _, _, _, _, _ => by simp at hl
  | p :: ps, [], _, _, _, hl, _, _, _, _, _ => by simp at hl
  | (i, v) :: ps, (i', av) :: qs, es, c, out, hl, hp, hs, h, hc, hf => by
    unfold setL at hf
    split at hf <;> first | (cases hf; done) | skip
    rename_i hcc
    obtain ⟨h1, h2, h3⟩ := hcc
    obtain ⟨g1, g2⟩ := hp 0 (by simp) (by simp)
    simp only [List.getElem_cons_zero] at g1 g2
    subst g1
    have hcl := g2.cells (by simpa using h3)
    have hln := hcl.1
    simp only [Array.length_toList] at hln
    have hle := mul_le_of (s := s) h2
    unfold Instr.fill
    simp only
    have hcond : (decide (v.cells.size ≠ s) || decide (i * s + v.cells.size > c.size)) = false := by
      simp only [Bool.or_eq_false_iff, decide_eq_false_iff_not]; omega
    simp only [hcond, Bool.false_eq_true, if_false]
    have hfold : v.cells.zipIdx.foldl (fun cs (x : Value × Nat) => cs.setIfInBounds (i * s + x.2) x.1) c = writeA c (i * s) v.cells.toList := by
      rw [← Array.foldl_toList, Array.toList_zipIdx, foldl_write]; rfl
    have hfl := h.set hs h1 hcl h2 (by omega)
    have hsz : Sized s (es.set i av.cells) := fun e he => (List.mem_or_eq_of_mem_set he).elim (hs e) (fun hh => hh ▸ h1)
    obtain ⟨c', h5, h6, h7, h8, h9⟩ := fillL_run ps qs _ (writeA c (i * s) v.cells.toList) out (by simpa using hl) (fun j a b => by have := hp (j + 1) (by simpa using a) (by simpa using b); simpa using this) hsz hfl
      (by rw [writeA_size, List.length_set]; exact hc) hf
    refine ⟨c', ?_, h6, h7, by simpa using h8, by rw [h9, writeA_size]⟩
    rw [← h5, ← hfold]

def AE.ofIdx : List (Nat × Operand) → Option (List (Nat × AE))
  | [] => some []
  | (i, x) :: ps => match AE.of x, AE.ofIdx ps with
    | some y, some qs => some ((i, y) :: qs)
    | _, _ => none

theorem AE.ofIdx_ok {fz : Nat → Prop} {H : Array Obj} {e : Env} {a : Act} (he : EnvR fz H e a.tmps) : ∀ {ps : List (Nat × Operand)} {qs : List (Nat × AE)}, AE.ofIdx ps = some qs →
    ps.length = qs.length ∧ ∀ j (h1 : j < ps.length) (h2 : j < qs.length), ps[j].1 = qs[j].1 ∧ VR fz H (qs[j].2.ev e) (a.eval ps[j].2)
  | [], qs, h => by cases h; exact ⟨rfl, fun j h => by simp at h⟩
  | (i, x) :: ps, qs, h => by
    unfold AE.ofIdx at h
    split at h <;> first | (cases h; done) | skip
    rename_i y qs' h2 h3
    cases h
    obtain ⟨g1, g2⟩ := AE.ofIdx_ok he h3
    refine ⟨by simp [g1], fun j a b => ?_⟩
    cases j with
    | zero => exact ⟨rfl, AE.of_ok h2 he⟩
    | succ j => exact g2 j (by simpa using a) (by simpa using b)

def evIdx (e : Env) (qs : List (Nat × AE)) : List (Nat × AV) := qs.map fun q => (q.1, q.2.ev e)

theorem sim_bsl {t el : TypeId} {i : TypeInfo} {z : Value} {zs : List AV} {n : Nat} {parts : Array (Nat × Operand)} {qs : List (Nat × AE)} (ho : o.op = .buildSlice t n parts) (hd : P.underlying t = some (.slice el)) (hi : P.info? el = some i)
    (hz : i.zero = some z) (hzs : zeroA z = some zs) (hsz : zs.length = i.size) (hbig : n * i.size ≤ 16777216) (hq : AE.ofIdx parts.toList = some qs) :
    OpOK P o (.mk fun e => (setL zs.length (List.replicate n zs) (evIdx e qs)).map fun es => .inr (.row zs.length es n, fun b => .arr b zs.length 0 n n)) := by
  intro fz e h a w K he hr hh
  obtain ⟨r, h1, h2⟩ := hh
  obtain ⟨g1, g2⟩ := AE.ofIdx_ok he hq
  dsimp only at h1
  cases hf : setL zs.length (List.replicate n zs) (evIdx e qs) with
  | none => rw [hf] at h1; cases h1
  | some out =>
    rw [hf] at h1
    cases h1
    simp only at h2
    have hzr := zeroA_ok hzs fz w.heap
    have hzl := hzr.1
    simp only [Array.length_toList] at hzl
    have hfl0 := zeroTile_fl (zs := zs) (z := z.cells) hzr n n (Nat.le_refl _)
    obtain ⟨c', h5, h6, h7, h8, h9⟩ := fillL_run (s := zs.length) (parts.toList.map fun p => (p.1, a.eval p.2)) (evIdx e qs) (List.replicate n zs) _ out (by simp [evIdx, g1])
      (fun j a b => by
        have := g2 j (by simpa using a) (by simpa [evIdx] using b)
        simpa [evIdx] using this) (fun e he => by rw [List.eq_of_mem_replicate he]) hfl0 (by simp) hf
    have hlen : out.length = n := by simpa using h8
    have hor : OR fz w.heap (.row zs.length out n) (.cells c' el (0, 0)) := OR.of_fl (by omega) h7 (by rw [h9]; simp) Soft.zero h6
    obtain ⟨m1, m2, m3⟩ := hr.make hor
    refine OutOK.of_run (w' := pushed w (.cells c' el (0, 0))) (cv := .slice (some ⟨w.heap.size, 0, none⟩) n n) ?_ ⟨_, _, fz, h2 w.heap.size m1, ?_, m2, m3⟩
    · simp only [execOp, ho]
      refine run_value _ ?_
      unfold Instr.buildSlice
      rw [run_bind, run_underlying hd, Result.andThen_ok]
      simp only []
      have e1 : (Array.map (fun x => match x with | (i, x) => (i, a.eval x)) parts).toList = parts.toList.map fun p => (p.1, a.eval p.2) := by
        rw [Array.toList_map]
      rw [run_bind, run_sizeOf hi, Result.andThen_ok, if_neg (by omega)]
      by_cases h0 : n * i.size = 0
      · rw [if_pos h0, run_bind, run_pure, Result.andThen_ok]
        have e3 : Array.map (fun x => (#[] : Array Value)[x % (#[] : Array Value).size]!) (Array.range (n * i.size)) = (Array.range (n * zs.length)).map (z.cells[· % z.cells.size]!) := by
          rw [hsz, h0]; simp
        rw [e1, e3, ← hsz, h5]
        rfl
      · rw [if_neg h0, run_bind, run_zero hi hz, Result.andThen_ok, run_bind, run_pure, Result.andThen_ok]
        rw [e1, ← hsz, h5]
        rfl
    · have := VR.arr (fz := fz) (H := (pushed w (.cells c' el (0, 0))).heap) w.heap.size zs.length 0 n n
      simpa using this

end
end Go.Hz
