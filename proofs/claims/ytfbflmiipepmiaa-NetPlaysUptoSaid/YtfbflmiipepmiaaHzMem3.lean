/- Elements one behind the other: literals of slices, make, append, copy, strings and bytes. -/
import Derived.Test.YtfbflmiipepmiaaHzMem2
namespace Go.Hz
section
variable {P : Program} {o : Oper}

/-- The cells of a block, by their places. -/
def cf (c : Array Value) (x : Nat) : Option Value := c[x]?

/-- Elements that lie one behind the other, each of s cells, from place off on. -/
def Fl (fz : Nat → Prop) (H : Array Obj) (es : List (List AV)) (s off : Nat) (c : Nat → Option Value) : Prop :=
  ∀ i k e v, es[i]? = some e → e[k]? = some v → ∃ cv, c (off + i * s + k) = some cv ∧ VR fz H v cv

def Sized (s : Nat) (es : List (List AV)) : Prop := ∀ e ∈ es, e.length = s

theorem OR.of_fl {fz : Nat → Prop} {H : Array Obj} {es : List (List AV)} {s cap : Nat} {c : Array Value} {T : TypeId} {fr : Nat × Nat} (hcap : es.length ≤ cap) (hs : Sized s es) (hc : c.size = cap * s) (hsoft : Soft c fr)
    (h : Fl fz H es s 0 (cf c)) : OR fz H (.row s es cap) (.cells c T fr) := by
  refine .row _ _ _ _ _ _ hcap (fun i hi => hs _ (List.getElem_mem hi)) hc hsoft fun i h1 k h2 h3 => ?_
  obtain ⟨cv, h4, h5⟩ := h i k es[i] es[i][k] (List.getElem?_eq_getElem h1) (List.getElem?_eq_getElem h2)
  rw [Nat.zero_add, cf, Array.getElem?_eq_getElem h3] at h4
  rw [Option.some.inj h4]; exact h5

theorem Rel.row_fl {fz : Nat → Prop} {h : Hp} {w : World} (r : Rel fz h w) {b s cap : Nat} {es : List (List AV)} (hb : h b = some (.row s es cap)) :
    ∃ c T fr, w.heap[b]? = some (.cells c T fr) ∧ es.length ≤ cap ∧ Sized s es ∧ c.size = cap * s ∧ Soft c fr ∧ Fl fz w.heap es s 0 (cf c) := by
  obtain ⟨_, c, T, fr, h1, h2, h3, h4, h5, h6⟩ := r.row hb
  refine ⟨c, T, fr, h1, h2, fun e he => ?_, h4, h5, fun i k e v hi hk => ?_⟩
  · obtain ⟨i, hi, rfl⟩ := List.getElem_of_mem he
    exact h3 i hi
  · have hlt : i < es.length := (List.getElem?_eq_some_iff.1 hi).1
    have hel : es[i] = e := (List.getElem?_eq_some_iff.1 hi).2
    subst hel
    have hk' : k < es[i].length := (List.getElem?_eq_some_iff.1 hk).1
    have hkv : es[i][k] = v := (List.getElem?_eq_some_iff.1 hk).2
    subst hkv
    have := h3 i hlt
    have := mul_le_of (s := s) (Nat.lt_of_lt_of_le hlt h2)
    have hb' : i * s + k < c.size := by omega
    exact ⟨c[i * s + k], by rw [Nat.zero_add, cf, Array.getElem?_eq_getElem hb'], h6 i hlt k hk' hb'⟩

theorem VR.lst_fl {fz : Nat → Prop} {w : World} {es : List (List AV)} {cv : Value} (h : VR fz w.heap (.lst es) cv) (hne : es ≠ []) :
    ∃ b o s cap c T fr, cv = .slice (some ⟨b, o, none⟩) es.length cap ∧ w.heap[b]? = some (.cells c T fr) ∧ Sized s es ∧ o + es.length * s ≤ c.size ∧ Fl fz w.heap es s o (cf c) := by
  cases h with
  | lst0 => exact absurd rfl hne
  | lst _ b o s cap c T fr hf hb hl hs hc h =>
    refine ⟨b, o, s, cap, c, T, fr, rfl, hb, fun e he => ?_, hc, fun i k e v hi hk => ?_⟩
    · obtain ⟨i, hi, rfl⟩ := List.getElem_of_mem he
      exact hs i hi
    · have hlt : i < es.length := (List.getElem?_eq_some_iff.1 hi).1
      have hel : es[i] = e := (List.getElem?_eq_some_iff.1 hi).2
      subst hel
      have hk' : k < es[i].length := (List.getElem?_eq_some_iff.1 hk).1
      have hkv : es[i][k] = v := (List.getElem?_eq_some_iff.1 hk).2
      subst hkv
      have := hs i hlt
      have := mul_le_of (s := s) hlt
      have hb' : o + i * s + k < c.size := by omega
      exact ⟨c[o + i * s + k], by rw [cf, Array.getElem?_eq_getElem hb'], h i hlt k hk' hb'⟩

theorem Fl.take {fz : Nat → Prop} {H : Array Obj} {es : List (List AV)} {s off n : Nat} {c : Nat → Option Value} (h : Fl fz H es s off c) : Fl fz H (es.take n) s off c := by
  intro i k e v hi hk
  rw [List.getElem?_take] at hi
  split at hi
  · exact h i k e v hi hk
  · cases hi

theorem Fl.drop {fz : Nat → Prop} {H : Array Obj} {es : List (List AV)} {s off n : Nat} {c : Nat → Option Value} (h : Fl fz H es s off c) : Fl fz H (es.drop n) s (off + n * s) c := by
  intro i k e v hi hk
  rw [List.getElem?_drop] at hi
  obtain ⟨cv, h1, h2⟩ := h _ k e v hi hk
  exact ⟨cv, by rw [show off + n * s + i * s + k = off + (n + i) * s + k from by rw [Nat.add_mul]; omega]; exact h1, h2⟩

theorem Fl.congr {fz : Nat → Prop} {H : Array Obj} {es : List (List AV)} {s off off' : Nat} {c c' : Nat → Option Value} (h : Fl fz H es s off c) (hs : Sized s es)
    (hc : ∀ x, x < es.length * s → c' (off' + x) = c (off + x)) : Fl fz H es s off' c' := by
  intro i k e v hi hk
  obtain ⟨cv, h1, h2⟩ := h i k e v hi hk
  have hlt : i < es.length := (List.getElem?_eq_some_iff.1 hi).1
  have hk' : k < e.length := (List.getElem?_eq_some_iff.1 hk).1
  rw [hs e (List.mem_of_getElem? hi)] at hk'
  have := mul_le_of (s := s) hlt
  refine ⟨cv, ?_, h2⟩
  rw [Nat.add_assoc, hc _ (by omega), ← Nat.add_assoc]; exact h1

theorem Fl.append {fz : Nat → Prop} {H : Array Obj} {es es' : List (List AV)} {s off : Nat} {c : Nat → Option Value} (h : Fl fz H es s off c) (h' : Fl fz H es' s (off + es.length * s) c) : Fl fz H (es ++ es') s off c := by
  intro i k e v hi hk
  rw [List.getElem?_append] at hi
  split at hi
  · exact h i k e v hi hk
  · rename_i hlt
    obtain ⟨cv, h1, h2⟩ := h' _ k e v hi hk
    refine ⟨cv, ?_, h2⟩
    rw [show off + i * s + k = off + es.length * s + (i - es.length) * s + k from by
      rw [show i = es.length + (i - es.length) from by omega, Nat.add_mul]
      simp [Nat.add_assoc]]
    exact h1

/-- The elements of a slice or a string. -/
def srcA (s : Nat) (h : Hp) : AV → Option (List (List AV))
  | .nils => some []
  | .emp => some []
  | .lst es => if (∀ e ∈ es, e.length = s) then some es else none
  | .arr b s' off len _ => match h b with
    | some (.row s'' es _) => if s' = s ∧ s'' = s ∧ off + len ≤ es.length then some ((es.drop off).take len) else none
    | _ => none
  | .str l => if s = 1 then some (l.map fun b => [.int .u8 b.toNat]) else none
  | _ => none

theorem loadCells_run {w : World} {b o' : Nat} {c : Array Value} {T : TypeId} {fr : Nat × Nat} (hb : w.heap[b]? = some (.cells c T fr)) {n : Nat} (hn : o' + n ≤ c.size) :
    (loadCells ⟨b, o', none⟩ n).run P w = .ok (c.extract o' (o' + n)) w := by
  have : ∀ (n i : Nat) (acc : Array Value), o' + i + n ≤ c.size → (loadCellsFrom ⟨b, o', none⟩ i n acc).run P w = .ok (acc ++ c.extract (o' + i) (o' + i + n)) w := by
    intro n
    induction n with
    | zero => intro i acc _; simp [loadCellsFrom]; omega
    | succ n ih =>
      intro i acc h
      unfold loadCellsFrom
      have hlt : o' + i < c.size := by omega
      have h1 : w.cell? (Addr.add ⟨b, o', none⟩ i) = some c[o' + i] := by rw [Addr.add_none, cell_of hb, Array.getElem?_eq_getElem hlt]
      rw [run_bind, run_load, h1]
      simp only [Result.andThen_ok]
      rw [ih (i + 1) (acc.push c[o' + i]) (by omega)]
      congr 1
      apply Array.ext_getElem?
      intro j
      simp only [Array.getElem?_append, Array.size_push, Array.getElem?_push, Array.getElem?_extract]
      by_cases hj : j < acc.size
      · simp [hj, show j < acc.size + 1 from by omega, show j ≠ acc.size from by omega]
      · by_cases hj2 : j = acc.size
        · subst hj2
          simp [hlt]
          omega
        · have e1 : ¬ j < acc.size + 1 := by omega
          simp only [e1, hj, if_false]
          have e2 : j - acc.size = (j - (acc.size + 1)) + 1 := by omega
          rw [e2]
          have e3 : o' + (i + 1) + (j - (acc.size + 1)) = o' + i + (j - (acc.size + 1) + 1) := by omega
          rw [e3, show o' + (i + 1) + n = o' + i + (n + 1) from by omega]
          have e4 : (j - (acc.size + 1) < min (o' + i + (n + 1)) c.size - (o' + (i + 1))) = (j - (acc.size + 1) + 1 < min (o' + i + (n + 1)) c.size - (o' + i)) := by
            apply propext; omega
          simp only [e4]
  have := this n 0 #[] (by omega)
  simpa [loadCells] using this

theorem srcA_run {fz : Nat → Prop} {h : Hp} {w : World} (r : Rel fz h w) {v : AV} {cv : Value} {s : Nat} {es : List (List AV)} (hv : VR fz w.heap v cv) (hs : srcA s h v = some es) :
    Sized s es ∧ (Builtin.lenOf cv).run P w = .ok es.length w ∧ ∀ n, n ≤ es.length → ∃ vs : Array Value, (Builtin.firstCells s n cv).run P w = .ok vs w ∧ vs.size = n * s ∧ Fl fz w.heap (es.take n) s 0 (cf vs) := by
  unfold srcA at hs
  split at hs <;> first | (cases hs; done) | skip
  · cases hs
    cases hv.nils_inv
    refine ⟨fun e he => by simp at he, rfl, fun n hn => ⟨#[], rfl, ?_, ?_⟩⟩
    · simp at hn; subst hn; simp
    · intro i k e v hi; simp at hi
  · cases hs
    obtain ⟨ad, cap, rfl⟩ := hv.emp_inv
    refine ⟨fun e he => by simp at he, rfl, fun n hn => ⟨#[], ?_, ?_, ?_⟩⟩
    · simp at hn; subst hn; simp [Builtin.firstCells, loadCells, loadCellsFrom]
    · simp at hn; subst hn; simp
    · intro i k e v hi; simp at hi
  · rename_i es0
    split at hs <;> first | (cases hs; done) | skip
    rename_i hsz
    cases hs
    refine ⟨hsz, ?_, fun n hn => ?_⟩
    · obtain ⟨ad, cap, rfl⟩ := hv.lst_inv; rfl
    · by_cases hne : es = []
      · subst hne
        simp at hn; subst hn
        obtain ⟨ad, cap, rfl⟩ := hv.lst_inv
        refine ⟨#[], ?_, by simp, fun i k e v hi => by simp at hi⟩
        cases ad with
        | none => rfl
        | some a => simp [Builtin.firstCells, loadCells, loadCellsFrom]
      · obtain ⟨b, o', s', cap, c, T, fr, rfl, hb, hs', hc, hfl⟩ := hv.lst_fl hne
        have hss : s' = s := by
          obtain ⟨e, es', rfl⟩ := List.exists_cons_of_ne_nil hne
          rw [← hs' e (by simp)]; exact hsz e (by simp)
        subst hss
        have hle := Nat.mul_le_mul_right s' hn
        refine ⟨c.extract o' (o' + n * s'), ?_, by simp; omega, ?_⟩
        · unfold Builtin.firstCells
          exact loadCells_run hb (by omega)
        · refine hfl.take.congr (fun e he => hsz e (List.mem_of_mem_take he)) fun x hx => ?_
          rw [List.length_take, Nat.min_eq_left hn] at hx
          simp only [Nat.zero_add, cf, Array.getElem?_extract]
          rw [if_pos (by omega)]
  · rename_i b s' off len cap
    split at hs <;> first | (cases hs; done) | skip
    rename_i s'' es0 rcap hb
    split at hs <;> first | (cases hs; done) | skip
    rename_i hc
    obtain ⟨rfl, rfl, hle⟩ := hc
    cases hs
    obtain ⟨c, T, fr, hw, g1, g2, g3, g4, g5⟩ := r.row_fl hb
    have hlen : ((es0.drop off).take len).length = len := by simp; omega
    have hsub : Sized s'' ((es0.drop off).take len) := fun e he => g2 e (List.mem_of_mem_drop (List.mem_of_mem_take he))
    refine ⟨hsub, ?_, fun n hn => ?_⟩
    · obtain ⟨ad, rfl⟩ := hv.arr_some
      rw [hlen]; rfl
    · rw [hlen] at hn
      have hmul := Nat.mul_le_mul_right s'' (show off + n ≤ rcap by omega)
      rw [Nat.add_mul] at hmul
      have hfl : Fl fz w.heap (((es0.drop off).take len).take n) s'' (off * s'') (cf c) := by
        have := (g5.drop (n := off)).take (n := len) |>.take (n := n)
        rwa [Nat.zero_add] at this
      have hsz : Sized s'' (((es0.drop off).take len).take n) := fun e he => hsub e (List.mem_of_mem_take he)
      by_cases h0 : n = 0
      · subst h0
        refine ⟨#[], ?_, by simp, fun i k e v hi => by simp at hi⟩
        obtain ⟨ad, rfl⟩ := hv.arr_some
        simp [Builtin.firstCells, loadCells, loadCellsFrom]
      · cases hv with
        | arr0 => omega
        | arr =>
          refine ⟨c.extract (off * s'') (off * s'' + n * s''), ?_, by simp; omega, ?_⟩
          · unfold Builtin.firstCells
            exact loadCells_run hw (by omega)
          · refine hfl.congr hsz fun x hx => ?_
            have hl2 : (((es0.drop off).take len).take n).length = n := by rw [List.length_take, hlen]; omega
            rw [hl2] at hx
            simp only [Nat.zero_add, cf, Array.getElem?_extract]
            rw [if_pos (by omega)]
  · rename_i l
    split at hs <;> first | (cases hs; done) | skip
    rename_i h1
    subst h1
    cases hs
    cases hv.str_inv
    have hsz : (ByteArray.mk l.toArray).size = l.length := by simp [ByteArray.size]
    refine ⟨fun e he => ?_, ?_, fun n hn => ?_⟩
    · obtain ⟨x, _, rfl⟩ := List.mem_map.1 he; rfl
    · rw [List.length_map, ← hsz]; rfl
    · simp only [List.length_map] at hn
      refine ⟨((l.take n).map fun b => Value.int .u8 b.toNat).toArray, ?_, by simp; omega, ?_⟩
      · unfold Builtin.firstCells
        show Result.ok (Array.map (fun b => Value.int IntKind.u8 ↑b.toNat) ((ByteArray.mk l.toArray).extract 0 n).data) w = _
        rw [byteArray_extract]
        simp
      · intro i k e v hi hk
        simp only [List.getElem?_take, List.getElem?_map] at hi
        split at hi <;> first | (cases hi; done) | skip
        rename_i hin
        cases hb : l[i]? with
        | none => rw [hb] at hi; cases hi
        | some b =>
          rw [hb] at hi
          cases hi
          cases k with
          | succ k => simp at hk
          | zero =>
            simp at hk
            subst hk
            refine ⟨.int .u8 b.toNat, ?_, .int _ _⟩
            simp [cf, hin, hb]

/-- How long a slice, or a string, is. -/
def lenN : AV → Option Nat
  | .nils => some 0
  | .emp => some 0
  | .lst es => some es.length
  | .arr _ _ _ len _ => some len
  | .str l => some l.length
  | _ => none

/-- The first n elements of a slice; what stands behind them need not be known. -/
def srcN (s : Nat) (h : Hp) (v : AV) (n : Nat) : Option (List (List AV)) :=
  match v with
  | .arr b s' off len _ => match h b with
    | some (.row s'' es _) => if s' = s ∧ s'' = s ∧ n ≤ len ∧ off + n ≤ es.length then some ((es.drop off).take n) else none
    | _ => none
  | v => match srcA s h v with
    | some es => if n ≤ es.length then some (es.take n) else none
    | none => none

theorem lenN_run {fz : Nat → Prop} {w : World} {v : AV} {cv : Value} {n : Nat} (hv : VR fz w.heap v cv) (hn : lenN v = some n) : (Builtin.lenOf cv).run P w = .ok n w := by
  unfold lenN at hn
  split at hn <;> first | (cases hn; done) | skip
  · cases hn; cases hv.nils_inv; rfl
  · cases hn; obtain ⟨ad, cap, rfl⟩ := hv.emp_inv; rfl
  · cases hn; obtain ⟨ad, cap, rfl⟩ := hv.lst_inv; rfl
  · cases hn; obtain ⟨ad, rfl⟩ := hv.arr_some; rfl
  · cases hn; cases hv.str_inv; simp [Builtin.lenOf, ByteArray.size]

theorem srcN_run {fz : Nat → Prop} {h : Hp} {w : World} (r : Rel fz h w) {v : AV} {cv : Value} {s n : Nat} {es : List (List AV)} (hv : VR fz w.heap v cv) (hs : srcN s h v n = some es) :
    Sized s es ∧ es.length = n ∧ ∃ vs : Array Value, (Builtin.firstCells s n cv).run P w = .ok vs w ∧ vs.size = n * s ∧ Fl fz w.heap es s 0 (cf vs) := by
  unfold srcN at hs
  split at hs
  · rename_i b s' off len cap
    split at hs <;> first | (cases hs; done) | skip
    rename_i s'' es0 rcap hb
    split at hs <;> first | (cases hs; done) | skip
    rename_i hc
    obtain ⟨rfl, rfl, hnl, hle⟩ := hc
    cases hs
    obtain ⟨c, T, fr, hw, g1, g2, g3, g4, g5⟩ := r.row_fl hb
    have hlen : ((es0.drop off).take n).length = n := by simp; omega
    have hsub : Sized s'' ((es0.drop off).take n) := fun e he => g2 e (List.mem_of_mem_drop (List.mem_of_mem_take he))
    refine ⟨hsub, hlen, ?_⟩
    have hmul := Nat.mul_le_mul_right s'' (show off + n ≤ rcap by omega)
    rw [Nat.add_mul] at hmul
    have hfl : Fl fz w.heap ((es0.drop off).take n) s'' (off * s'') (cf c) := by
      have := (g5.drop (n := off)).take (n := n)
      rwa [Nat.zero_add] at this
    by_cases h0 : n = 0
    · subst h0
      refine ⟨#[], ?_, by simp, fun i k e v hi => by simp at hi⟩
      obtain ⟨ad, rfl⟩ := hv.arr_some
      simp [Builtin.firstCells, loadCells, loadCellsFrom]
    · cases hv with
      | arr0 => omega
      | arr =>
        refine ⟨c.extract (off * s'') (off * s'' + n * s''), ?_, by simp; omega, ?_⟩
        · unfold Builtin.firstCells
          exact loadCells_run hw (by omega)
        · refine hfl.congr hsub fun x hx => ?_
          rw [hlen] at hx
          simp only [Nat.zero_add, cf, Array.getElem?_extract]
          rw [if_pos (by omega)]
  · split at hs <;> first | (cases hs; done) | skip
    rename_i es0 he
    split at hs <;> first | (cases hs; done) | skip
    rename_i hle
    cases hs
    obtain ⟨a1, a2, a3⟩ := srcA_run (P := P) r hv he
    exact ⟨fun e he => a1 e (List.mem_of_mem_take he), by simp; omega, a3 n hle⟩

/-- What is known whole. -/
theorem srcN_of {s : Nat} {h : Hp} {v : AV} {es : List (List AV)} {n : Nat} (hs : srcA s h v = some es) (hn : n ≤ es.length) : srcN s h v n = some (es.take n) := by
  unfold srcN
  split
  · simp only [srcA] at hs
    split at hs <;> first | (cases hs; done) | skip
    rename_i s'' es0 rc hb
    split at hs <;> first | (cases hs; done) | skip
    rename_i hc
    cases hs
    have hl := List.length_take (l := es0.drop _) ▸ hn
    rw [List.length_drop] at hl
    rw [if_pos ⟨hc.1, hc.2.1, by omega, by omega⟩, List.take_take, Nat.min_eq_left (by omega)]
  · rw [hs]
    simp only []
    rw [if_pos hn]

end
end Go.Hz
