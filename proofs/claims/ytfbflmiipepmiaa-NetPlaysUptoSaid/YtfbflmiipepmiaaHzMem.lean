/- Memory: what is read and what is written. -/
import Derived.Test.YtfbflmiipepmiaaHzPure3
namespace Go.Hz
section
variable {P : Program} {o : Oper}

/-- From this address on these cells lie. -/
def Reads (fz : Nat → Prop) (w : World) (a : Addr) (cs : List AV) : Prop :=
  ∀ j (h : j < cs.length), ∃ cv, w.cell? (a.add j) = some cv ∧ VR fz w.heap cs[j] cv

theorem cell_of {w : World} {b o : Nat} {c : Array Value} {T : TypeId} {fr : Nat × Nat} (h : w.heap[b]? = some (.cells c T fr)) : w.cell? ⟨b, o, none⟩ = c[o]? := by
  simp [World.cell?, h]

theorem VR.ro_reads {fz : Nat → Prop} {w : World} {cs : List AV} {cv : Value} (h : VR fz w.heap (.ro cs) cv) : ∃ b o, cv = .pointer (some ⟨b, o, none⟩) ∧ Reads fz w ⟨b, o, none⟩ cs := by
  cases h with
  | ro _ b o c T fr hf hb hc h =>
    refine ⟨b, o, rfl, fun j hj => ?_⟩
    have hlt : o + j < c.size := by omega
    refine ⟨c[o + j], ?_, h j hj hlt⟩
    rw [Addr.add_none, cell_of hb, Array.getElem?_eq_getElem hlt]

theorem Rel.row {fz : Nat → Prop} {h : Hp} {w : World} (r : Rel fz h w) {b s cap : Nat} {es : List (List AV)} (hb : h b = some (.row s es cap)) :
    ¬ fz b ∧ ∃ c T fr, w.heap[b]? = some (.cells c T fr) ∧ es.length ≤ cap ∧ (∀ i (h : i < es.length), es[i].length = s) ∧ c.size = cap * s ∧ Soft c fr ∧
      (∀ i (h1 : i < es.length) k (h2 : k < es[i].length) (h3 : i * s + k < c.size), VR fz w.heap es[i][k] c[i * s + k]) := by
  obtain ⟨h1, c, h2, h3⟩ := r.own b _ hb
  refine ⟨h1, ?_⟩
  cases h3 with
  | row _ _ _ c T fr hcap hs hc hsoft h => exact ⟨c, T, fr, h2, hcap, hs, hc, hsoft, h⟩

theorem mul_le_of {i n s : Nat} (h : i < n) : i * s + s ≤ n * s := by rw [← Nat.succ_mul]; exact Nat.mul_le_mul_right _ h

theorem Rel.row_reads {fz : Nat → Prop} {h : Hp} {w : World} (r : Rel fz h w) {b s cap i : Nat} {es : List (List AV)} {cs : List AV} (hb : h b = some (.row s es cap)) (hi : es[i]? = some cs) (k : Nat) :
    Reads fz w ⟨b, i * s + k, none⟩ (cs.drop k) := by
  obtain ⟨_, c, T, fr, h1, h2, h3, h4, _, h5⟩ := r.row hb
  intro j hj
  have hlt : i < es.length := (List.getElem?_eq_some_iff.1 hi).1
  have hel : es[i] = cs := by rw [List.getElem?_eq_getElem hlt] at hi; exact Option.some.inj hi
  subst hel
  simp at hj
  have hs := h3 i hlt
  have hle := mul_le_of (s := s) (Nat.lt_of_lt_of_le hlt h2)
  have hkj : i * s + (k + j) < c.size := by omega
  refine ⟨c[i * s + (k + j)], ?_, ?_⟩
  · rw [Addr.add_none, cell_of h1, Nat.add_assoc, Array.getElem?_eq_getElem hkj]
  · have := h5 i hlt (k + j) (by omega) hkj
    simpa using this

/-- The cells that a pointer points to. -/
def cellsAt (h : Hp) : AV → Option (List AV)
  | .ptr b s i k => match h b with
    | some (.row s' es _) => if s' = s then (es[i]?).map (·.drop k) else none
    | _ => none
  | .ro cs => some cs
  | _ => none

theorem cellsAt_ok {fz : Nat → Prop} {h : Hp} {w : World} (r : Rel fz h w) {v : AV} {cv : Value} {cs : List AV} (hv : VR fz w.heap v cv) (hc : cellsAt h v = some cs) :
    ∃ b o, cv = .pointer (some ⟨b, o, none⟩) ∧ Reads fz w ⟨b, o, none⟩ cs := by
  unfold cellsAt at hc
  split at hc <;> first | (cases hc; done) | skip
  · cases hv.ptr_inv
    split at hc <;> first | (cases hc; done) | skip
    rename_i s' es _ hb
    split at hc <;> first | (cases hc; done) | skip
    rename_i hs
    subst hs
    cases hi : es[(_ : Nat)]? with
    | none => rw [hi] at hc; cases hc
    | some e => rw [hi] at hc; cases hc; exact ⟨_, _, rfl, r.row_reads hb hi _⟩
  · cases hc; exact hv.ro_reads

theorem loadCellsFrom_run {fz : Nat → Prop} {w : World} {a : Addr} {cs : List AV} (hr : Reads fz w a cs) : ∀ (n i : Nat) (acc : Array Value), i + n ≤ cs.length →
    ∃ vs : List Value, (loadCellsFrom a i n acc).run P w = .ok (acc ++ vs.toArray) w ∧ VRs fz w.heap ((cs.drop i).take n) vs
  | 0, i, acc, _ => ⟨[], by simp [loadCellsFrom], by simpa using VRs.nil⟩
  | n + 1, i, acc, h => by
    obtain ⟨cv, h1, h2⟩ := hr i (by omega)
    obtain ⟨vs, h3, h4⟩ := loadCellsFrom_run hr n (i + 1) (acc.push cv) (by omega)
    refine ⟨cv :: vs, ?_, ?_⟩
    · unfold loadCellsFrom
      simp [h1, h3]
    · rw [List.drop_eq_getElem_cons (by omega : i < cs.length), List.take_succ_cons]
      exact VRs.cons h2 h4

theorem loadVar_run {fz : Nat → Prop} {w : World} {a : Addr} {cs : List AV} {t : TypeId} {d : TypeDesc} {i : TypeInfo} {v : AV} (hr : Reads fz w a cs) (hd : P.underlying t = some d) (hi : P.info? t = some i)
    (hv : partA cs 0 i.size d.isAg = some v) : ∃ cv, (loadVar t a).run P w = .ok cv w ∧ VR fz w.heap v cv := by
  unfold loadVar
  rw [run_bind, run_isAgg hd, Result.andThen_ok]
  unfold partA at hv
  cases hag : d.isAg with
  | true =>
    rw [hag] at hv
    simp only [if_true, Nat.zero_add, List.drop_zero] at hv
    split at hv <;> first | (cases hv; done) | skip
    rename_i hle
    cases hv
    obtain ⟨vs, h1, h2⟩ := loadCellsFrom_run (P := P) hr i.size 0 #[] (by omega)
    refine ⟨.agg vs.toArray, ?_, ?_⟩
    · simp only [if_true]
      simp [run_sizeOf hi, loadCells, h1]
    · have hl := h2.1
      simp only [List.drop_zero] at h2 hl
      exact .agg _ _ (by simpa using hl) (fun j h3 h4 => by simpa using h2.2 j h3 (by simpa using h4))
  | false =>
    rw [hag] at hv
    simp only [Bool.false_eq_true, if_false] at hv ⊢
    have hlt : 0 < cs.length := (List.getElem?_eq_some_iff.1 hv).1
    obtain ⟨cv, h1, h2⟩ := hr 0 hlt
    have e2 : cs[0] = v := by rw [List.getElem?_eq_getElem hlt] at hv; exact Option.some.inj hv
    have h1' : w.cell? a = some cv := by simpa [Addr.add] using h1
    exact ⟨cv, by simp [h1'], by rw [← e2]; exact h2⟩

def ldA (sz : Nat) (ag : Bool) (h : Hp) (v : AV) : Option AV :=
  match cellsAt h v with
  | some cs => partA cs 0 sz ag
  | none => none

theorem sim_ld {t : TypeId} {d : TypeDesc} {i : TypeInfo} {x : Operand} {x' : AE} (ho : o.op = .load t x) (hd : P.underlying t = some d) (hi : P.info? t = some i) (hx : AE.of x = some x') :
    OpOK P o (.load fun e h => ldA i.size d.isAg h (x'.ev e)) := by
  refine OpOK.of_load fun fz e h a w he hr v hv => ?_
  have h1 := AE.of_ok hx he
  simp only [execOp, ho]
  unfold ldA at hv
  split at hv <;> first | (cases hv; done) | skip
  rename_i cs hcs
  obtain ⟨b, o', h2, h3⟩ := cellsAt_ok hr h1 hcs
  obtain ⟨cv, h4, h5⟩ := loadVar_run (P := P) h3 hd hi hv
  refine ⟨cv, run_value _ ?_, h5⟩
  unfold Instr.loadAt
  simp [h2, Instr.sureAddr, h4]

/-! ### writing -/

def AV.isAtom : AV → Bool
  | .undef | .agg _ | .tup _ => false
  | _ => true

theorem VR.oneCell {fz : Nat → Prop} {H : Array Obj} {v : AV} {cv : Value} (h : VR fz H v cv) (ha : v.isAtom = true) : cv.oneCell' = true := by
  cases h <;> first | rfl | simp [AV.isAtom] at ha

def writeA (c : Array Value) (o : Nat) : List Value → Array Value
  | [] => c
  | v :: vs => writeA (c.setIfInBounds o v) (o + 1) vs

theorem writeA_size (vs : List Value) : ∀ (c : Array Value) (o : Nat), (writeA c o vs).size = c.size := by
  induction vs with
  | nil => intro c o; rfl
  | cons v vs ih => intro c o; simp [writeA, ih]

theorem writeA_out (vs : List Value) : ∀ (c : Array Value) (o x : Nat), x < o ∨ o + vs.length ≤ x → (writeA c o vs)[x]? = c[x]? := by
  induction vs with
  | nil => intro c o x _; rfl
  | cons v vs ih =>
    intro c o x hx
    simp only [List.length_cons] at hx
    rw [writeA, ih _ _ _ (by omega), Array.getElem?_setIfInBounds_ne (by omega)]

theorem writeA_in (vs : List Value) : ∀ (c : Array Value) (o j : Nat) (_ : j < vs.length), o + vs.length ≤ c.size → (writeA c o vs)[o + j]? = some vs[j] := by
  induction vs with
  | nil => intro c o j hj; simp at hj
  | cons v vs ih =>
    intro c o j hj hc
    simp only [List.length_cons] at hj hc
    cases j with
    | zero =>
      rw [writeA, writeA_out _ _ _ _ (by omega)]
      simp [show o < c.size from by omega]
    | succ j =>
      have := ih (c.setIfInBounds o v) (o + 1) j (by omega) (by simp; omega)
      rw [writeA, show o + (j + 1) = o + 1 + j from by omega, this]; rfl

theorem setCell_heap {w : World} {b o : Nat} {c : Array Value} {T : TypeId} {fr : Nat × Nat} {v : Value} (h : w.heap[b]? = some (.cells c T fr)) :
    (w.setCell ⟨b, o, none⟩ v).heap = w.heap.setIfInBounds b (.cells (c.setIfInBounds o v) T fr) := by
  have hb : b < w.heap.size := (Array.getElem?_eq_some_iff.1 h).1
  have hv : w.heap[b] = .cells c T fr := (Array.getElem?_eq_some_iff.1 h).2
  apply Array.ext_getElem?
  intro i
  simp only [World.setCell, Array.getElem?_modify, Array.getElem?_setIfInBounds]
  by_cases hi : b = i
  · subst hi; simp [hb, hv]
  · simp [hi]

def withBlock (w : World) (b : Nat) (o : Obj) : World := { w with heap := w.heap.setIfInBounds b o }

theorem storeCells_run {b : Nat} {T : TypeId} {fr : Nat × Nat} : ∀ (vs : List Value) (w : World) (c : Array Value) (o i : Nat), w.heap[b]? = some (.cells c T fr) → Soft c fr → o + i + vs.length ≤ c.size →
    (∀ v ∈ vs, v.oneCell' = true) → (storeCells ⟨b, o, none⟩ vs i).run P w = .ok () (withBlock w b (.cells (writeA c (o + i) vs) T fr))
  | [], w, c, o, i, h, _, _, _ => by
    have hb : b < w.heap.size := (Array.getElem?_eq_some_iff.1 h).1
    have hv : w.heap[b] = .cells c T fr := (Array.getElem?_eq_some_iff.1 h).2
    have : withBlock w b (.cells (writeA c (o + i) []) T fr) = w := by
      unfold withBlock writeA
      have : w.heap.setIfInBounds b (.cells c T fr) = w.heap := by
        apply Array.ext_getElem?
        intro j
        rw [Array.getElem?_setIfInBounds]
        by_cases hj : b = j
        · subst hj; simp [hb, hv]
        · simp [hj]
      rw [this]
    rw [this]; rfl
  | v :: vs, w, c, o, i, h, hs, hl, hv => by
    simp only [List.length_cons] at hl
    have hb : b < w.heap.size := (Array.getElem?_eq_some_iff.1 h).1
    have hcell : w.cell? ⟨b, o + i, none⟩ = some c[o + i] := by rw [cell_of h, Array.getElem?_eq_getElem (by omega)]
    have hfr : w.frozen? ⟨b, o + i, none⟩ = false := by
      have := hs.at (o + i) (by omega)
      simp only [World.frozen?, h]
      simpa using this
    have h2 : (w.setCell ⟨b, o + i, none⟩ v).heap[b]? = some (.cells (c.setIfInBounds (o + i) v) T fr) := by
      rw [setCell_heap h]; simp [hb]
    have ih := storeCells_run vs (w.setCell ⟨b, o + i, none⟩ v) (c.setIfInBounds (o + i) v) o (i + 1) h2 (hs.sized (by simp)) (by simp; omega) (fun u hu => hv u (by simp [hu]))
    unfold storeCells
    rw [run_bind, Addr.add_none, run_store P w _ v .plain (hv v (by simp)), hcell]
    simp only [hfr, Bool.false_eq_true, if_false, Result.andThen_ok]
    rw [ih]
    unfold withBlock
    rw [setCell_heap h]
    simp only [World.setCell, writeA, Nat.add_assoc]
    congr 2
    apply Array.ext_getElem?
    intro j
    simp only [Array.getElem?_setIfInBounds]
    by_cases hj : b = j
    · subst hj; simp [hb]
    · simp [hj]

end
end Go.Hz
