/- What comes in: the arguments of a call as values of the logic, by their types. -/
import Derived.Test.YtfbflmiipepmiaaHzByt
import Derived.ChangeArms
import Derived.DataReads
import Derived.WideShapes
import Derived.Below
set_option linter.unusedSimpArgs false
set_option linter.unusedVariables false
namespace Go.Hz
open Go.RowKit Go.ChangeShapes Go.WideShapes

/-- The types of arguments: fields stand as a chain. -/
inductive Ty where
  | bool | str
  | int (k : IntKind)
  | sl (e : Ty)
  | st (c : Ty)
  | fnil
  | fcons (a b : Ty)
  deriving DecidableEq

def Ty.size : Ty → Nat
  | .bool | .str | .int _ | .sl _ => 1
  | .st c => c.size
  | .fnil => 0
  | .fcons a b => a.size + b.size

def Ty.fits (P : Program) : Ty → TypeId ⊕ (List Field × Nat) → Bool
  | .bool, .inl t => match P.underlying t with | some .bool => true | _ => false
  | .str, .inl t => match P.underlying t with | some .string => true | _ => false
  | .int k, .inl t => match P.underlying t with | some (.int k') => decide (k' = k) | _ => false
  | .sl e, .inl t => match P.underlying t with | some (.slice el) => e.fits P (.inl el) && decide (P.cellsOf el = e.size) && decide (0 < e.size) | _ => false
  | .st c, .inl t => match P.underlying t with | some (.struct fs) => c.fits P (.inr (fs.toList, 0)) && decide (P.cellsOf t = c.size) | _ => false
  | .fnil, .inr ([], _) => true
  | .fcons a b, .inr (f :: fs, off) => a.fits P (.inl f.type) && decide (f.offset = off) && decide (P.cellsOf f.type = a.size) && b.fits P (.inr (fs, off + a.size))
  | _, _ => false

def Ty.shape : Ty → List AV → Prop
  | .bool, cs => ∃ b, cs = [.bool b]
  | .str, cs => ∃ l, cs = [.str l] ∧ l.length ≤ maxLen
  | .int k, cs => ∃ n, cs = [.int k n] ∧ (Lit.int k n).wf = true
  | .sl e, cs => ∃ es, cs = [.lst es] ∧ es.length ≤ maxLen ∧ ∀ x ∈ es, e.shape x
  | .st c, cs => c.shape cs
  | .fnil, cs => cs = []
  | .fcons a b, cs => ∃ x y, cs = x ++ y ∧ a.shape x ∧ b.shape y

/-- How much there is: each value, each letter. -/
def Ty.bulk : Ty → List AV → Nat
  | .bool, _ => 1
  | .int _, _ => 1
  | .str, cs => match cs with | [.str l] => l.length + 1 | _ => 1
  | .sl e, cs => match cs with | [.lst es] => (es.map e.bulk).sum + 1 | _ => 1
  | .st c, cs => c.bulk cs + 1
  | .fnil, _ => 0
  | .fcons a b, cs => a.bulk (cs.take a.size) + b.bulk (cs.drop a.size)

/-- A measure of what is read. -/
structure Bulk (H : Type) where
  b : DataW H → Nat
  ba : List (DataW H) → Nat
  one : ∀ d, 1 ≤ b d
  str : ∀ l, l.length + 1 ≤ b (.lit (.string l))
  slice : ∀ l r, ba l + 1 ≤ b (.slice l r)
  agg : ∀ l, ba l + 1 ≤ b (.agg l)
  cons : ∀ d l, b d + ba l ≤ ba (d :: l)

theorem Bulk.sum {H : Type} (B : Bulk H) {α : Type} (f : α → Nat) : ∀ (l : List α) (ds : List (DataW H)), l.length = ds.length → (∀ i (h1 : i < l.length) (h2 : i < ds.length), f l[i] ≤ B.b ds[i]) → (l.map f).sum ≤ B.ba ds
  | [], _, _, _ => by simp
  | x :: l, [], h, _ => by simp at h
  | x :: l, d :: ds, h, hh => by
    have h0 := hh 0 (by simp) (by simp)
    have h1 := B.sum f l ds (by simpa using h) fun i a b => hh (i + 1) (by simpa using a) (by simpa using b)
    have h2 := B.cons d ds
    simp only [List.getElem_cons_zero] at h0
    simp only [List.map_cons, List.sum_cons]
    omega

theorem list_of {α : Type} {p : Nat → α → Prop} : ∀ (n : Nat), (∀ i, i < n → ∃ x, p i x) → ∃ l : List α, l.length = n ∧ ∀ i (h : i < l.length), p i l[i]
  | 0, _ => ⟨[], rfl, fun i h => by simp at h⟩
  | n + 1, h => by
    obtain ⟨l, h1, h2⟩ := list_of n fun i hi => h i (by omega)
    obtain ⟨x, hx⟩ := h n (by omega)
    refine ⟨l ++ [x], by simp [h1], fun i hi => ?_⟩
    by_cases hin : i < l.length
    · rw [List.getElem_append_left hin]; exact h2 i hin
    · have : i = n := by simp at hi; omega
      subst this
      simpa [List.getElem_append_right (Nat.le_of_eq h1), h1] using hx

theorem VRs.one {fz : Nat → Prop} {H : Array Obj} {a : AV} {v : Value} (h : VR fz H a v) : VRs fz H [a] [v] := VRs.cons h VRs.nil

theorem add_add (a : Addr) (x k : Nat) : a.add (x + k) = (a.add x).add k := by
  unfold Addr.add
  by_cases hx : x = 0
  · subst hx; simp
  · by_cases hk : k = 0
    · subst hk; simp
    · simp [hx, hk, Nat.add_assoc]

theorem cell_some {w : World} {a : Addr} {v : Value} (h : w.cell? a = some v) : a.spot = none ∧ ∃ c T fr, w.heap[a.block]? = some (.cells c T fr) ∧ c[a.off]? = some v := by
  unfold World.cell? at h
  split at h
  · rename_i c T fr hb
    split at h
    · cases h
    · rename_i hs
      refine ⟨by simpa using hs, c, T, fr, hb, h⟩
  · cases h

section
variable {H : Type} {enc : TypeId × Value → H} {P : Program} {w : World} {base : Nat} {spare : Nat → Bool} {held : Bool}

theorem Ty.read (B : Bulk H) (τ : Ty) :
    (∀ fuel t cs x, τ.fits P (.inl t) = true → DataW.trod enc P w base spare held fuel t cs = some x → ∃ as, τ.shape as ∧ as.length = τ.size ∧ VRs (fun b => b < w.heap.size) w.heap as cs ∧ τ.bulk as ≤ B.b x.1) ∧
    (∀ fs off n (cs : List Value) (xs : List (DataW H × List MemPlace)), τ.fits P (.inr (fs, off)) = true → xs.length = fs.length → (∀ (i : Nat) f, fs[i]? = some f → DataW.trod enc P w base spare held n f.type ((cs.drop f.offset).take (P.cellsOf f.type)) = xs[i]?) → off + τ.size ≤ cs.length →
      ∃ as, τ.shape as ∧ as.length = τ.size ∧ VRs (fun b => b < w.heap.size) w.heap as ((cs.drop off).take τ.size) ∧ τ.bulk as ≤ B.ba (xs.map (·.1))) := by
  induction τ with
  | bool =>
    refine ⟨fun fuel t cs x hf h => ?_, fun fs off n cs xs hf _ _ => by simp [Ty.fits] at hf⟩
    simp only [Ty.fits] at hf
    split at hf
    · rename_i ht
      obtain ⟨b, rfl, _⟩ := DataW.trod_bool ht h
      exact ⟨[.bool b], ⟨b, rfl⟩, rfl, VRs.one (.bool b), B.one _⟩
    · cases hf
  | str =>
    refine ⟨fun fuel t cs x hf h => ?_, fun fs off n cs xs hf _ _ => by simp [Ty.fits] at hf⟩
    simp only [Ty.fits] at hf
    split at hf
    · rename_i ht
      obtain ⟨s, rfl, rfl, hs⟩ := DataW.trod_string ht h
      refine ⟨[.str s.data.toList], ⟨_, rfl, by simpa using hs⟩, rfl, VRs.one ?_, B.str _⟩
      have := VR.str (fz := fun b => b < w.heap.size) (H := w.heap) s.data.toList
      simpa using this
    · cases hf
  | int k =>
    refine ⟨fun fuel t cs x hf h => ?_, fun fs off n cs xs hf _ _ => by simp [Ty.fits] at hf⟩
    simp only [Ty.fits] at hf
    split at hf
    · rename_i k' ht
      have hk : k' = k := of_decide_eq_true hf
      subst hk
      obtain ⟨n, rfl, _, hw⟩ := DataW.trod_int ht h
      exact ⟨[.int k' n], ⟨n, rfl, hw⟩, rfl, VRs.one (.int k' n), B.one _⟩
    · cases hf
  | sl e ih =>
    refine ⟨fun fuel t cs x hf h => ?_, fun fs off n cs xs hf _ _ => by simp [Ty.fits] at hf⟩
    simp only [Ty.fits] at hf
    split at hf
    · rename_i el ht
      simp only [Bool.and_eq_true, decide_eq_true_eq] at hf
      obtain ⟨⟨hf, hs⟩, hpos⟩ := hf
      rcases DataW.trod_slice ht h with ⟨rfl, _⟩ | ⟨a, len, cap, elems, rest, n, _, rfl, rfl, hb, hl, hm, hlen, hel, _⟩
      · exact ⟨[.lst []], ⟨[], rfl, Nat.zero_le _, by simp⟩, rfl, VRs.one (.lst0 none 0 (fun _ => rfl)), B.one _⟩
      · have key : ∀ i, i < len → ∃ as, e.shape as ∧ as.length = e.size ∧ (∀ k (hk : k < as.length), ∃ v, w.cell? (a.add (i * e.size + k)) = some v ∧ VR (fun b => b < w.heap.size) w.heap as[k] v) ∧
            ∀ (h2 : i < elems.length), e.bulk as ≤ B.b elems[i].1 := by
          intro i hi
          have h1 := hel i hi
          have h2 : ∃ y, elems[i]? = some y := ⟨elems[i], List.getElem?_eq_getElem (by omega)⟩
          obtain ⟨y, hy⟩ := h2
          rw [hy, Option.bind_eq_some_iff] at h1
          obtain ⟨ci, hci, hti⟩ := h1
          obtain ⟨as, g1, g2, g3, g4⟩ := ih.1 _ _ _ _ hf hti
          obtain ⟨_, k2, k3⟩ := World.cells?_some hci
          rw [hs] at k2 k3
          refine ⟨as, g1, g2, fun k hk => ?_, fun h2 => ?_⟩
          · have hk2 : k < ci.length := by rw [← g3.1]; exact hk
            refine ⟨ci[k], ?_, g3.2 k hk hk2⟩
            have := k3 k (by omega)
            rw [List.getElem?_eq_getElem hk2] at this
            rw [← this]
            rw [add_add]
          · rw [List.getElem?_eq_getElem h2] at hy
            rw [Option.some.inj hy]
            exact g4
        obtain ⟨es, e1, e2⟩ := list_of len key
        have hshape : ∀ x ∈ es, e.shape x := by
          intro x hx
          obtain ⟨i, hi, rfl⟩ := List.mem_iff_getElem.1 hx
          exact (e2 i hi).1
        have hbulk : (es.map e.bulk).sum + 1 ≤ B.b (.slice (elems.map (·.1)) (rest.map (·.1))) := by
          refine Nat.le_trans (Nat.succ_le_succ (B.sum e.bulk es (elems.map (·.1)) (by simp; omega) fun i h1 h2 => ?_)) (B.slice _ _)
          have := (e2 i h1).2.2.2 (by simpa using h2)
          simpa using this
        refine ⟨[.lst es], ⟨es, rfl, by omega, hshape⟩, rfl, VRs.one ?_, hbulk⟩
        by_cases hl0 : len = 0
        · subst hl0
          have : es = [] := List.length_eq_zero_iff.1 e1
          subst this
          exact .lst0 _ _ (by simp)
        · obtain ⟨bl, off, spot⟩ := a
          obtain ⟨v0, hv0, _⟩ := (e2 0 (by omega)).2.2.1 0 (by rw [(e2 0 (by omega)).2.1]; exact hpos)
          obtain ⟨hspot, c, T, fr, hc, hc0⟩ := cell_some hv0
          have hspot' : spot = none := by simpa [Addr.add] using hspot
          subst hspot'
          rw [Addr.add_none] at hc hc0
          have hcell : ∀ i (hi : i < es.length) k (hk : k < es[i].length), ∃ v, c[off + i * e.size + k]? = some v ∧ VR (fun b => b < w.heap.size) w.heap es[i][k] v := by
            intro i hi k hk
            obtain ⟨v, hv, hvr⟩ := (e2 i hi).2.2.1 k hk
            obtain ⟨_, c', T', fr', hc', hcv⟩ := cell_some hv
            rw [Addr.add_none] at hc' hcv
            simp only [] at hc' hc
            rw [hc] at hc'
            cases hc'
            exact ⟨v, by rw [← hcv, Nat.add_assoc], hvr⟩
          have hlast : off + es.length * e.size ≤ c.size := by
            have hi : es.length - 1 < es.length := by omega
            obtain ⟨v, hv, _⟩ := hcell (es.length - 1) hi (e.size - 1) (by rw [(e2 _ hi).2.1]; omega)
            have := (Array.getElem?_eq_some_iff.1 hv).1
            have e3 : (es.length - 1) * e.size + e.size = es.length * e.size := by
              rw [← Nat.succ_mul]; congr 1; omega
            omega
          rw [← e1]
          refine .lst es bl off e.size cap c T fr ?_ hc (by omega) (fun i h => (e2 i h).2.1) hlast fun i h1 k h2 h3 => ?_
          · exact (Array.getElem?_eq_some_iff.1 hc).1
          · obtain ⟨v, hv, hvr⟩ := hcell i h1 k h2
            rw [Array.getElem?_eq_getElem h3] at hv
            cases hv
            exact hvr
    · cases hf
  | st c ih =>
    refine ⟨fun fuel t cs x hf h => ?_, fun fs off n cs xs hf _ _ => by simp [Ty.fits] at hf⟩
    simp only [Ty.fits] at hf
    split at hf
    · rename_i fs ht
      simp only [Bool.and_eq_true, decide_eq_true_eq] at hf
      obtain ⟨hf, hs⟩ := hf
      obtain ⟨xs, n, _, rfl, hlen, hxs, hall⟩ := DataW.trod_struct ht h
      obtain ⟨as, g1, g2, g3, g4⟩ := ih.2 fs.toList 0 n cs xs hf (by simpa using hxs) (fun i f hi => hall i f (by simpa using hi)) (by omega)
      refine ⟨as, g1, g2, ?_, ?_⟩
      · rw [List.drop_zero, List.take_of_length_le (by omega)] at g3
        exact g3
      · exact Nat.le_trans (Nat.succ_le_succ g4) (B.agg _)
    · cases hf
  | fnil =>
    refine ⟨fun fuel t cs x hf h => by simp [Ty.fits] at hf, fun fs off n cs xs hf _ _ => fun _ => ⟨[], rfl, rfl, by simpa [Ty.size] using VRs.nil, Nat.zero_le _⟩⟩
  | fcons a b iha ihb =>
    refine ⟨fun fuel t cs x hf h => by simp [Ty.fits] at hf, fun fs off n cs xs hf hxl hall hle => ?_⟩
    cases fs with
    | nil => simp [Ty.fits] at hf
    | cons f fs =>
      cases xs with
      | nil => simp at hxl
      | cons x xs =>
        simp only [Ty.fits, Bool.and_eq_true, decide_eq_true_eq] at hf
        obtain ⟨⟨⟨h1, h2⟩, h3⟩, h4⟩ := hf
        have hx : DataW.trod enc P w base spare held n f.type ((cs.drop f.offset).take (P.cellsOf f.type)) = some x := hall 0 f rfl
        rw [h2, h3] at hx
        simp only [Ty.size] at hle ⊢
        obtain ⟨as, g1, g2, g3, g4⟩ := iha.1 _ _ _ _ h1 hx
        obtain ⟨bs, k1, k2, k3, k4⟩ := ihb.2 fs (off + a.size) n cs xs h4 (by simpa using hxl) (fun i f' hf => hall (i + 1) f' (by simpa using hf)) (by omega)
        refine ⟨as ++ bs, ⟨as, bs, rfl, g1, k1⟩, by simp [g2, k2], ?_, ?_⟩
        · have e1 : (cs.drop off).take (a.size + b.size) = (cs.drop off).take a.size ++ (cs.drop (off + a.size)).take b.size := by
            rw [List.take_add, List.drop_drop]
          rw [e1]
          exact g3.append k3
        · simp only [Ty.bulk]
          rw [List.take_left' g2, List.drop_left' g2]
          have := B.cons x.1 (xs.map (·.1))
          simp only [List.map_cons]
          omega
end

/-- One argument, read. -/
theorem Ty.arg {H : Type} (B : Bulk H) {enc : TypeId × Value → H} {P : Program} {w : World} {base : Nat} {spare : Nat → Bool} {held : Bool} (τ : Ty) {t : TypeId} {v : Value} {d : DataW H} {ps : List MemPlace}
    (hf : τ.fits P (.inl t) = true) (h : DataW.Trod enc P w base spare held t v d ps) (hv : v.cells = #[v]) (h1 : τ.size = 1) :
    ∃ a, τ.shape [a] ∧ VR (fun b => b < w.heap.size) w.heap a v ∧ τ.bulk [a] ≤ B.b d := by
  obtain ⟨fuel, h⟩ := h
  obtain ⟨as, g1, g2, g3, g4⟩ := (τ.read (enc := enc) (base := base) (spare := spare) (held := held) B).1 fuel t _ _ hf h
  rw [hv] at g3
  obtain ⟨a, rfl⟩ := List.length_eq_one_iff.1 (g2.trans h1)
  exact ⟨a, g1, g3.2 0 (by simp) (by simp), g4⟩

/-- A law that answers true over nothing that is owned answers true, and leaves what was there. -/
theorem entry {P : Program} {f : Nat} {as : List AV} {args : Array Value} {w : World} (t : Triple P f as Hp.emp fun r _ => r = .bool true) (h : VRs (fun b => b < w.heap.size) w.heap as args.toList) :
    Calls P f args w fun e w' => e = .returned (.bool true) ∧ Below w.heap.size w w' := by
  refine (t (fun b => b < w.heap.size) w args ⟨fun b hb => hb, fun b o ho => by simp [Hp.emp] at ho⟩ h).mono fun e w' ⟨cv, r, h', fz', e1, e2, e3, e4, e5⟩ => ?_
  subst e5
  subst e1
  cases e2
  exact ⟨rfl, e4.os, e4.tape, e4.output, e4.size, fun k hk => (e4.keep k hk rfl).1⟩
end Go.Hz
