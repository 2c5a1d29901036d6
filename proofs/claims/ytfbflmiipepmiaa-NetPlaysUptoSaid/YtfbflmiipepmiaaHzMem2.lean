/- Stores, new variables, literals of slices. -/
import Derived.Test.YtfbflmiipepmiaaHzMem
namespace Go.Hz
section
variable {P : Program} {o : Oper}

theorem withBlock_other {w : World} {b x : Nat} {ob : Obj} (h : x ≠ b) : (withBlock w b ob).heap[x]? = w.heap[x]? := by
  simp [withBlock, Ne.symm h]
theorem withBlock_same {w : World} {b : Nat} {ob : Obj} (h : b < w.heap.size) : (withBlock w b ob).heap[b]? = some ob := by
  simp [withBlock, h]

/-- A block that is owned turns. -/
theorem Rel.turn {fz : Nat → Prop} {h : Hp} {w : World} (r : Rel fz h w) {b : Nat} {a a' : AObj} (hb : h b = some a) {ob : Obj} (ho : OR fz w.heap a' ob) :
    Rel fz (h.set b a') (withBlock w b ob) ∧ Ext fz h w fz (h.set b a') (withBlock w b ob) := by
  have hnf := (r.own b a hb).1
  obtain ⟨c, hc, _⟩ := (r.own b a hb).2
  have hlt : b < w.heap.size := (Array.getElem?_eq_some_iff.1 hc).1
  have hfr : ∀ x, fz x → (withBlock w b ob).heap[x]? = w.heap[x]? := fun x hx => withBlock_other fun hh => hnf (hh ▸ hx)
  refine ⟨⟨fun x hx => by simpa [withBlock] using r.lt x hx, fun x ox hx => ?_⟩, ⟨rfl, rfl, rfl, by simp [withBlock], fun _ h => h, fun x hx hn => ?_, fun _ h => .inl h⟩⟩
  · by_cases hxb : x = b
    · subst hxb
      rw [Hp.set_same] at hx
      cases hx
      exact ⟨hnf, ob, withBlock_same hlt, ho.mono (fun _ h => h) hfr⟩
    · rw [Hp.set_ne _ _ hxb] at hx
      obtain ⟨h1, c, h2, h3⟩ := r.own x ox hx
      exact ⟨h1, c, (withBlock_other hxb).trans h2, h3.mono (fun _ h => h) hfr⟩
  · have hxb : x ≠ b := fun hh => by rw [hh, hb] at hn; cases hn
    exact ⟨withBlock_other hxb, by rw [Hp.set_ne _ _ hxb]; exact hn⟩

def pushed (w : World) (ob : Obj) : World := { w with heap := w.heap.push ob }

theorem pushed_old {w : World} {x : Nat} {ob : Obj} (h : x < w.heap.size) : (pushed w ob).heap[x]? = w.heap[x]? := by
  simp only [pushed]; rw [Array.getElem?_push, if_neg (by omega)]
theorem pushed_new {w : World} {ob : Obj} : (pushed w ob).heap[w.heap.size]? = some ob := by
  show (w.heap.push ob)[w.heap.size]? = some ob
  simp

theorem Rel.none_of_ge {fz : Nat → Prop} {h : Hp} {w : World} (r : Rel fz h w) {n : Nat} (hn : w.heap.size ≤ n) : h n = none := by
  cases hh : h n with
  | none => rfl
  | some o =>
    obtain ⟨_, c, hc, _⟩ := r.own n o hh
    have := (Array.getElem?_eq_some_iff.1 hc).1
    omega

/-- A new block. -/
theorem Rel.make {fz : Nat → Prop} {h : Hp} {w : World} (r : Rel fz h w) {a : AObj} {ob : Obj} (ho : OR fz w.heap a ob) :
    h w.heap.size = none ∧ Rel fz (h.set w.heap.size a) (pushed w ob) ∧ Ext fz h w fz (h.set w.heap.size a) (pushed w ob) := by
  have hfr : ∀ x, fz x → (pushed w ob).heap[x]? = w.heap[x]? := fun x hx => pushed_old (r.lt x hx)
  refine ⟨r.none_of_ge (Nat.le_refl _), ⟨fun x hx => by have := r.lt x hx; simp [pushed]; omega, fun x ox hx => ?_⟩, ⟨rfl, rfl, rfl, by simp [pushed], fun _ h => h, fun x hx hn => ?_, fun _ h => .inl h⟩⟩
  · by_cases hxb : x = w.heap.size
    · subst hxb
      rw [Hp.set_same] at hx
      cases hx
      exact ⟨fun hf => by have := r.lt _ hf; omega, ob, pushed_new, ho.mono (fun _ h => h) hfr⟩
    · rw [Hp.set_ne _ _ hxb] at hx
      obtain ⟨h1, c, h2, h3⟩ := r.own x ox hx
      have := (Array.getElem?_eq_some_iff.1 h2).1
      exact ⟨h1, c, (pushed_old this).trans h2, h3.mono (fun _ h => h) hfr⟩
  · exact ⟨pushed_old hx, by rw [Hp.set_ne _ _ (by omega)]; exact hn⟩

theorem VR.cells {fz : Nat → Prop} {H : Array Obj} {v : AV} {cv : Value} (h : VR fz H v cv) (ha : ∀ c ∈ v.cells, c.isAtom = true) : VRs fz H v.cells cv.cells.toList := by
  cases v with
  | agg cs =>
    obtain ⟨vs, rfl, h2⟩ := h.agg_inv
    exact h2
  | undef => simp [AV.cells, AV.isAtom] at ha
  | tup vs => simp [AV.cells, AV.isAtom] at ha
  | _ =>
    have h1 := h.oneCell rfl
    have : cv.cells = #[cv] := by cases cv <;> first | rfl | simp [Value.oneCell'] at h1
    rw [this]
    exact VRs.cons h VRs.nil

theorem VRs.atoms {fz : Nat → Prop} {H : Array Obj} {as : List AV} {vs : List Value} (h : VRs fz H as vs) (ha : ∀ c ∈ as, c.isAtom = true) : ∀ v ∈ vs, v.oneCell' = true := by
  intro v hv
  obtain ⟨i, hi, rfl⟩ := List.getElem_of_mem hv
  have hi' : i < as.length := by rw [h.1]; exact hi
  exact (h.2 i hi' hi).oneCell (ha _ (List.getElem_mem hi'))

def splice (cs : List AV) (k : Nat) (vs : List AV) : List AV := cs.take k ++ vs ++ cs.drop (k + vs.length)

theorem splice_length {cs : List AV} {k : Nat} {vs : List AV} (h : k + vs.length ≤ cs.length) : (splice cs k vs).length = cs.length := by
  simp [splice]; omega

def stA (sz : Nat) (h : Hp) (p v : AV) : Option Hp :=
  match p with
  | .ptr b s i k => match h b with
    | some (.row s' es cap) => match es[i]? with
      | some cs => if s' = s ∧ v.cells.length = sz ∧ k + sz ≤ cs.length ∧ (v.cells.all AV.isAtom) = true then some (h.set b (.row s (es.set i (splice cs k v.cells)) cap)) else none
      | none => none
    | _ => none
  | _ => none

theorem sim_st {t : TypeId} {i : TypeInfo} {x y : Operand} {x' y' : AE} (ho : o.op = .store t x y) (hi : P.info? t = some i) (hx : AE.of x = some x') (hy : AE.of y = some y') :
    OpOK P o (.eff fun e h K => ∃ h', stA i.size h (x'.ev e) (y'.ev e) = some h' ∧ K (.tup []) h') := by
  intro fz e h a w K he hr hh
  obtain ⟨h', h1, hk⟩ := hh
  have hx1 := AE.of_ok hx he
  have hy1 := AE.of_ok hy he
  unfold OutOK
  simp only [execOp, ho]
  generalize a.eval x = cx at *
  generalize a.eval y = cy at *
  generalize x'.ev e = ax at *
  generalize y'.ev e = ay at *
  unfold stA at h1
  split at h1 <;> first | (cases h1; done) | skip
  rename_i b s ix k
  split at h1 <;> first | (cases h1; done) | skip
  rename_i s' es cap hb
  split at h1 <;> first | (cases h1; done) | skip
  rename_i cs hcs
  split at h1 <;> first | (cases h1; done) | skip
  rename_i hc
  obtain ⟨rfl, hsz, hfit, hat⟩ := hc
  cases h1
  cases hx1.ptr_inv
  obtain ⟨hnf, c, T, fr, g1, g2, g3, g4, g5, g6⟩ := hr.row hb
  have hat' : ∀ c ∈ ay.cells, c.isAtom = true := by simpa using hat
  have hcl := hy1.cells hat'
  have hlt : ix < es.length := (List.getElem?_eq_some_iff.1 hcs).1
  have hel : es[ix] = cs := by rw [List.getElem?_eq_getElem hlt] at hcs; exact Option.some.inj hcs
  subst hel
  have hs := g3 ix hlt
  have hle := mul_le_of (s := s') (Nat.lt_of_lt_of_le hlt g2)
  have hln := hcl.1
  have hrun := storeCells_run (P := P) cy.cells.toList w c (ix * s' + k) 0 g1 g5 (by omega) (hcl.atoms hat')
  have hst : (Instr.storeAt t (.pointer (some ⟨b, ix * s' + k, none⟩)) cy).run P w = .ok () (withBlock w b (.cells (writeA c (ix * s' + k) cy.cells.toList) T fr)) := by
    unfold Instr.storeAt storeVar
    have hz : cy.cells.size = i.size := by rw [← hsz, hln]; simp
    simp [Instr.sureAddr, run_sizeOf hi, hz, hrun]
  have hrun2 : (do Instr.storeAt t (.pointer (some ⟨b, ix * s' + k, none⟩)) cy; pure Next.skip : Sem Next).run P w = .ok .skip (withBlock w b (.cells (writeA c (ix * s' + k) cy.cells.toList) T fr)) := by
    rw [run_bind, hst]; rfl
  rw [hrun2]
  have hor : OR fz w.heap (.row s' (es.set ix (splice es[ix] k ay.cells)) cap) (.cells (writeA c (ix * s' + k) cy.cells.toList) T fr) := by
    have hsp := splice_length (cs := es[ix]) (k := k) (vs := ay.cells) (by omega)
    have hlens : ∀ j (hj : j < (es.set ix (splice es[ix] k ay.cells)).length), (es.set ix (splice es[ix] k ay.cells))[j].length = s' := fun j hj => by
      rw [List.getElem_set]
      split
      · rw [hsp]; exact hs
      · exact g3 j (by simpa using hj)
    refine .row _ _ _ _ _ _ (by simpa using g2) hlens (by rw [writeA_size]; exact g4) (g5.sized (writeA_size _ _ _)) fun j h1 q h2 h3 => ?_
    have hj : j < es.length := by simpa using h1
    have hq : q < s' := by rw [← hlens j h1]; exact h2
    have hcj : j * s' + q < c.size := by rwa [writeA_size] at h3
    have hjs := g3 j hj
    -- where the cell lies
    by_cases hin : j = ix ∧ k ≤ q ∧ q < k + ay.cells.length
    · obtain ⟨rfl, hq1, hq2⟩ := hin
      have e1 : (writeA c (j * s' + k) cy.cells.toList)[j * s' + q] = cy.cells.toList[q - k]'(by omega) := by
        have := writeA_in cy.cells.toList c (j * s' + k) (q - k) (by omega) (by omega)
        rw [show j * s' + k + (q - k) = j * s' + q from by omega, Array.getElem?_eq_getElem h3] at this
        exact Option.some.inj this
      have e2 : ((es.set j (splice es[j] k ay.cells))[j])[q] = ay.cells[q - k]'(by omega) := by
        simp only [List.getElem_set_self, splice]
        rw [List.getElem_append_left (by simp; omega), List.getElem_append_right (by simp; omega)]
        congr 1
        simp; omega
      rw [e1, e2]
      exact hcl.2 _ _ _
    · have e1 : (writeA c (ix * s' + k) cy.cells.toList)[j * s' + q] = c[j * s' + q] := by
        have hout : j * s' + q < ix * s' + k ∨ ix * s' + k + cy.cells.toList.length ≤ j * s' + q := by
          rcases Nat.lt_trichotomy j ix with hji | hji | hji
          · have := mul_le_of (s := s') hji; omega
          · subst hji
            have : q < k ∨ k + ay.cells.length ≤ q := by omega
            omega
          · have := mul_le_of (s := s') hji; omega
        have := writeA_out cy.cells.toList c (ix * s' + k) (j * s' + q) hout
        rw [Array.getElem?_eq_getElem h3, Array.getElem?_eq_getElem hcj] at this
        exact Option.some.inj this
      have e2 : ((es.set ix (splice es[ix] k ay.cells))[j])[q] = es[j][q]'(by omega) := by
        by_cases hji : j = ix
        · subst hji
          have hq' : q < k ∨ k + ay.cells.length ≤ q := by omega
          simp only [List.getElem_set_self, splice]
          rcases hq' with hq' | hq'
          · rw [List.getElem_append_left (by simp; omega), List.getElem_append_left (by simp; omega), List.getElem_take]
          · rw [List.getElem_append_right (by simp; omega), List.getElem_drop]
            congr 1
            simp; omega
        · simp only [List.getElem_set_ne (Ne.symm hji)]
      rw [e1, e2]
      exact g6 j hj q (by omega) hcj
  obtain ⟨r1, r2⟩ := hr.turn hb hor
  exact ⟨.tup [], _, fz, hk, .tup [] #[] rfl (fun i h1 => by simp at h1), r1, r2⟩

/-! ### new variables -/

theorem OR.one {fz : Nat → Prop} {H : Array Obj} {cs : List AV} {vs : Array Value} {T : TypeId} (h : VRs fz H cs vs.toList) : OR fz H (.row cs.length [cs] 1) (.cells vs T (0, 0)) := by
  have hl := h.1
  simp only [Array.length_toList] at hl
  refine .row _ _ _ _ _ _ (by simp) (fun i hi => ?_) (by omega) Soft.zero fun i h1 k h2 h3 => ?_
  · have : i = 0 := by simp at hi; omega
    subst this; rfl
  · have : i = 0 := by simp at h1; omega
    subst this
    have h2' : k < cs.length := h2
    have := h.2 k h2' (by simp; omega)
    simpa using this

theorem atomOf_cells {z : Value} {v : AV} (h : atomOf z = some v) : v.cells = [v] := by
  unfold atomOf at h
  split at h <;> first | (cases h; rfl) | skip
  · split at h
    · cases h; rfl
    · cases h
  · cases h

def zeroA (z : Value) : Option (List AV) := (avOf z).map AV.cells

theorem zeroA_ok {z : Value} {cs : List AV} (h : zeroA z = some cs) (fz : Nat → Prop) (H : Array Obj) : VRs fz H cs z.cells.toList := by
  unfold zeroA at h
  cases hz : avOf z with
  | none => rw [hz] at h; cases h
  | some v =>
    rw [hz] at h
    cases h
    have h1 := avOf_ok hz fz H
    cases z with
    | agg cs =>
      simp only [avOf] at hz
      cases hh : atomsOf cs.toList with
      | none => rw [hh] at hz; cases hz
      | some as => rw [hh] at hz; cases hz; exact atomsOf_ok fz H hh
    | _ =>
      have hv : v.cells = [v] := atomOf_cells (by simpa only [avOf] using hz)
      rw [hv]
      exact VRs.cons h1 VRs.nil

/-- A new variable that holds a value, or zero. -/
theorem sim_box {t : TypeId} {x : Operand} {x' : AE} (ho : o.op = .box t x) (hx : AE.of x = some x') :
    OpOK P o (.mk fun e => if ((x'.ev e).cells.all AV.isAtom) = true then some (.inr (.row (x'.ev e).cells.length [(x'.ev e).cells] 1, fun n => .ptr n (x'.ev e).cells.length 0 0)) else none) := by
  intro fz e h a w K he hr hh
  obtain ⟨r, h1, h2⟩ := hh
  have hx1 := AE.of_ok hx he
  dsimp only at h1
  split at h1 <;> first | (cases h1; done) | skip
  rename_i hat
  cases h1
  simp only at h2
  unfold OutOK
  simp only [execOp, ho]
  have hcl := hx1.cells (by simpa using hat)
  have hm := hr.make (OR.one (T := t) hcl)
  have hrun : (do pure (Next.value (← Instr.box t (a.eval x))) : Sem Next).run P w = .ok (.value (.pointer (some ⟨w.heap.size, 0, none⟩))) (pushed w (.cells (a.eval x).cells t (0, 0))) := by
    rfl
  rw [hrun]
  refine ⟨_, _, fz, h2 w.heap.size hm.1, ?_, hm.2.1, hm.2.2⟩
  have := VR.ptr (fz := fz) (H := (pushed w (.cells (a.eval x).cells t (0, 0))).heap) w.heap.size (x'.ev e).cells.length 0 0
  simpa using this

theorem sim_alloc {t : TypeId} {i : TypeInfo} {z : Value} {cs : List AV} (ho : o.op = .alloc t) (hi : P.info? t = some i) (hz : i.zero = some z) (hc : zeroA z = some cs) :
    OpOK P o (.mk fun _ => some (.inr (.row cs.length [cs] 1, fun n => .ptr n cs.length 0 0))) := by
  intro fz e h a w K he hr hh
  obtain ⟨r, h1, h2⟩ := hh
  cases h1
  simp only at h2
  unfold OutOK
  simp only [execOp, ho]
  have hm := hr.make (OR.one (T := t) (zeroA_ok hc fz w.heap))
  have hrun : (do pure (Next.value (← Instr.alloc t true (.tuple #[]))) : Sem Next).run P w = .ok (.value (.pointer (some ⟨w.heap.size, 0, none⟩))) (pushed w (.cells z.cells t (0, 0))) := by
    refine run_value _ ?_
    unfold Instr.alloc
    rw [run_bind, run_zero hi hz, Result.andThen_ok]
    rfl
  rw [hrun]
  refine ⟨_, _, fz, h2 w.heap.size hm.1, ?_, hm.2.1, hm.2.2⟩
  have := VR.ptr (fz := fz) (H := (pushed w (.cells z.cells t (0, 0))).heap) w.heap.size cs.length 0 0
  simpa using this

end
end Go.Hz
