/- Bytes that are read: a slice of bytes, wherever it lies. -/
import Derived.Test.YtfbflmiipepmiaaHzStep
set_option linter.unusedSimpArgs false
set_option linter.unusedVariables false
namespace Go.Hz

/-- A slice (no string) with these elements. -/
def Els (h : Hp) (s : Nat) (v : AV) (es : List (List AV)) : Prop := srcA s h v = some es ∧ ∀ l, v ≠ .str l
def Bts (h : Hp) (v : AV) (bs : List UInt8) : Prop := Els h 1 v (bs.map eb)

theorem Els.cases {h : Hp} {s : Nat} {v : AV} {es : List (List AV)} (e : Els h s v es) :
    (v = .nils ∧ es = []) ∨ (v = .emp ∧ es = []) ∨ (v = .lst es ∧ ∀ e ∈ es, e.length = s) ∨
    ∃ b off cap es0 rc, v = .arr b s off es.length cap ∧ h b = some (.row s es0 rc) ∧ off + es.length ≤ es0.length ∧ es = (es0.drop off).take es.length := by
  obtain ⟨h1, h2⟩ := e
  unfold srcA at h1
  split at h1
  · cases h1; exact .inl ⟨rfl, rfl⟩
  · cases h1; exact .inr (.inl ⟨rfl, rfl⟩)
  · split at h1
    · cases h1; exact .inr (.inr (.inl ⟨rfl, by assumption⟩))
    · cases h1
  · split at h1
    · split at h1
      · rename_i hb hc
        rename_i b s' off len cap _ s'' es0 rc
        obtain ⟨rfl, rfl, hc⟩ := hc
        cases h1
        have hl : ((es0.drop off).take len).length = len := by simp; omega
        exact .inr (.inr (.inr ⟨b, off, cap, es0, rc, by rw [hl], hb, by rw [hl]; exact hc, by rw [hl]⟩))
      · cases h1
    · cases h1
  · exact absurd rfl (h2 _)
  · cases h1

theorem Els.len {h : Hp} {s : Nat} {v : AV} {es : List (List AV)} (e : Els h s v es) : lenL v = some (.int .i64 es.length) := by
  rcases e.cases with ⟨rfl, rfl⟩ | ⟨rfl, rfl⟩ | ⟨rfl, _⟩ | ⟨b, off, cap, es0, rc, rfl, _, _, _⟩ <;> rfl

theorem Els.atom {h : Hp} {s : Nat} {v : AV} {es : List (List AV)} (e : Els h s v es) : v.isAtom = true := by
  rcases e.cases with ⟨rfl, rfl⟩ | ⟨rfl, rfl⟩ | ⟨rfl, _⟩ | ⟨b, off, cap, es0, rc, rfl, _, _, _⟩ <;> rfl
theorem Els.cells {h : Hp} {s : Nat} {v : AV} {es : List (List AV)} (e : Els h s v es) : v.cells = [v] := by
  rcases e.cases with ⟨rfl, rfl⟩ | ⟨rfl, rfl⟩ | ⟨rfl, _⟩ | ⟨b, off, cap, es0, rc, rfl, _, _, _⟩ <;> rfl

theorem Els.at {h : Hp} {s : Nat} {v : AV} {es : List (List AV)} (e : Els h s v es) {k : IntKind} {i : Nat} (hi : i < es.length) (hs : ∀ e ∈ es, e.length = s) :
    ∃ p, iaA s v (.int k i) = some p ∧ cellsAt h p = some es[i] := by
  rcases e.cases with ⟨rfl, rfl⟩ | ⟨rfl, rfl⟩ | ⟨rfl, _⟩ | ⟨b, off, cap, es0, rc, rfl, hb, hl, he⟩
  · simp at hi
  · simp at hi
  · exact ⟨.ro es[i], by simp [iaA, hi, hs], rfl⟩
  · refine ⟨.ptr b s (off + i) 0, by simp [iaA]; omega, ?_⟩
    have : es0[off + i]? = some es[i] := by
      rw [List.getElem?_eq_some_iff]
      refine ⟨by omega, ?_⟩
      have h3 : es[i]? = ((es0.drop off).take es.length)[i]? := by rw [← he]
      rw [List.getElem?_take, if_pos hi, List.getElem?_drop] at h3
      rw [List.getElem?_eq_getElem hi] at h3
      rw [List.getElem?_eq_getElem (by omega)] at h3
      exact (Option.some.inj h3).symm
    simp [cellsAt, hb, this]

theorem Els.kept {h h' : Hp} {s : Nat} {v : AV} {es : List (List AV)} {S S' : List Nat} (e : Els h s v es) (m : Mod S S' h h') (hn : ∀ b s o l c, v = .arr b s o l c → b ∉ S) : Els h' s v es := by
  rcases e.cases with ⟨rfl, rfl⟩ | ⟨rfl, rfl⟩ | ⟨rfl, _⟩ | ⟨b, off, cap, es0, rc, rfl, hb, hl, he⟩
  · exact ⟨rfl, e.2⟩
  · exact ⟨rfl, e.2⟩
  · refine ⟨?_, e.2⟩
    have := e.1
    simpa [srcA] using this
  · refine ⟨?_, e.2⟩
    have := e.1
    simp only [srcA] at this ⊢
    rw [m.keep b (by rw [hb]; simp) (hn _ _ _ _ _ rfl)]
    exact this
theorem Els.same {h h' : Hp} {s : Nat} {v : AV} {es : List (List AV)} (e : Els h s v es) (hh : ∀ x, h x ≠ none → h' x = h x) : Els h' s v es := by
  rcases e.cases with ⟨rfl, rfl⟩ | ⟨rfl, rfl⟩ | ⟨rfl, _⟩ | ⟨b, off, cap, es0, rc, rfl, hb, hl, he⟩
  · exact ⟨rfl, e.2⟩
  · exact ⟨rfl, e.2⟩
  · refine ⟨?_, e.2⟩
    have := e.1
    simpa [srcA] using this
  · refine ⟨?_, e.2⟩
    have := e.1
    simp only [srcA] at this ⊢
    rw [hh b (by rw [hb]; simp)]
    exact this
theorem Els.fresh {h : Hp} {s n : Nat} {v : AV} {es : List (List AV)} (e : Els h s v es) (hn : h n = none) (o : AObj) : Els (h.set n o) s v es :=
  e.same fun x hx => Hp.set_ne _ _ fun hh => hx (hh ▸ hn)
theorem Els.set_ne {h : Hp} {s n : Nat} {v : AV} {es : List (List AV)} (e : Els h s v es) (hn : ∀ b t o l c, v = .arr b t o l c → b ≠ n) (o : AObj) : Els (h.set n o) s v es := by
  rcases e.cases with ⟨rfl, rfl⟩ | ⟨rfl, rfl⟩ | ⟨rfl, _⟩ | ⟨b, off, cap, es0, rc, rfl, hb, hl, he⟩
  · exact ⟨rfl, e.2⟩
  · exact ⟨rfl, e.2⟩
  · refine ⟨?_, e.2⟩
    have := e.1
    simpa [srcA] using this
  · refine ⟨?_, e.2⟩
    have := e.1
    simp only [srcA] at this ⊢
    rw [Hp.set_ne _ _ (hn _ _ _ _ _ rfl)]
    exact this
theorem Els.slc {h : Hp} {s : Nat} {v : AV} {es : List (List AV)} (o : Els h s v es) {k k' : IntKind} {lo hi : Nat} (h1 : lo ≤ hi) (h2 : hi ≤ es.length) (hcap : ∀ b t o l c, v = .arr b t o l c → l ≤ c) :
    ∃ x, slcL s v (some (.int k lo)) (some (.int k' hi)) = some x ∧ Els h s x ((es.drop lo).take (hi - lo)) ∧ x.cells = [x] ∧ ∀ b t o l c, x = .arr b t o l c → ∃ o' l' c', v = .arr b t o' l' c' := by
  rcases o.cases with ⟨rfl, rfl⟩ | ⟨rfl, rfl⟩ | ⟨rfl, hs⟩ | ⟨b, off, cap, es0, rc, rfl, hb, hl, he⟩
  · have : hi = 0 := by simpa using h2
    subst this
    have : lo = 0 := by omega
    subst this
    exact ⟨.nils, rfl, ⟨by simp [srcA], by simp⟩, rfl, by simp⟩
  · have : hi = 0 := by simpa using h2
    subst this
    have : lo = 0 := by omega
    subst this
    exact ⟨.emp, rfl, ⟨by simp [srcA], by simp⟩, rfl, by simp⟩
  · have e1 : (es.take hi).drop lo = (es.drop lo).take (hi - lo) := by rw [List.drop_take]
    refine ⟨.lst ((es.take hi).drop lo), ?_, ⟨?_, by simp⟩, rfl, by simp⟩
    · simp only [slcL, boundA]
      simp
      exact ⟨h1, h2, hs⟩
    · simp only [srcA, e1]
      rw [if_pos]
      intro e he
      exact hs e (List.mem_of_mem_drop (List.mem_of_mem_take he))
  · have hc := hcap _ _ _ _ _ rfl
    refine ⟨.arr b s (off + lo) (hi - lo) (cap - lo), ?_, ⟨?_, by simp⟩, rfl, ?_⟩
    · simp only [slcL, boundA]
      simp
      omega
    · simp only [srcA, hb]
      rw [if_pos ⟨trivial, trivial, by omega⟩, he]
      congr 1
      rw [List.drop_take, List.take_take, List.drop_drop]
      congr 1
      omega
    · intro b' t o l c hh
      cases hh
      exact ⟨_, _, _, rfl⟩
theorem OwnV.els {h : Hp} {s : Nat} {v : AV} {es : List (List AV)} {S : List Nat} (o : OwnV h s v es S) : Els h s v es := by
  refine ⟨o.src, ?_⟩
  rcases o with ⟨rfl, _, _⟩ | ⟨b, cap, rfl, _, _⟩ <;> (intro l hl; cases hl)

theorem Els.nil {h : Hp} {s : Nat} {v : AV} {es : List (List AV)} (e : Els h s v es) (hn : v ≠ .lst []) : (v = .nils ∧ es = []) ∨ (v ≠ .nils ∧ eqN .sl v .nils = some false) := by
  rcases e.cases with ⟨rfl, rfl⟩ | ⟨rfl, rfl⟩ | ⟨rfl, _⟩ | ⟨b, off, cap, es0, rc, rfl, _, _, _⟩
  · exact .inl ⟨rfl, rfl⟩
  · exact .inr ⟨by simp, rfl⟩
  · cases es with
    | nil => exact absurd rfl hn
    | cons x y => exact .inr ⟨by simp, rfl⟩
  · exact .inr ⟨by simp, rfl⟩

theorem OwnV.slc {h : Hp} {s : Nat} {v : AV} {es : List (List AV)} {S : List Nat} (o : OwnV h s v es S) {k k' : IntKind} {lo hi : Nat} (h1 : lo ≤ hi) (h2 : hi ≤ es.length) :
    ∃ x, slcL s v (some (.int k lo)) (some (.int k' hi)) = some x ∧ Els h s x ((es.drop lo).take (hi - lo)) ∧ x.cells = [x] ∧ ∀ b t o l c, x = .arr b t o l c → b ∈ S := by
  rcases o with ⟨rfl, rfl, _⟩ | ⟨b, cap, rfl, hb, hc, rfl⟩
  · have : hi = 0 := by simpa using h2
    subst this
    have : lo = 0 := by omega
    subst this
    exact ⟨.nils, rfl, ⟨by simp [srcA], by simp⟩, rfl, by simp⟩
  · refine ⟨.arr b s (0 + lo) (hi - lo) (cap - lo), ?_, ⟨?_, by simp⟩, rfl, ?_⟩
    · simp only [slcL, boundA]
      simp
      omega
    · simp only [srcA, hb]
      rw [if_pos ⟨trivial, trivial, by omega⟩]
      simp
    · intro b' t o l c hh
      cases hh
      simp

theorem eb_one (bs : List UInt8) : ∀ e ∈ bs.map eb, e.length = 1 := by
  intro e he
  obtain ⟨b, _, rfl⟩ := List.mem_map.1 he
  rfl
theorem Bts.at {h : Hp} {v : AV} {bs : List UInt8} (e : Bts h v bs) {k : IntKind} {i : Nat} (hi : i < bs.length) :
    ∃ p, iaA 1 v (.int k i) = some p ∧ cellsAt h p = some [.int .u8 bs[i].toNat] := by
  obtain ⟨p, h1, h2⟩ := Els.at e (i := i) (k := k) (by simpa using hi) (eb_one bs)
  exact ⟨p, h1, by rw [h2]; simp [eb]⟩
theorem Bts.len {h : Hp} {v : AV} {bs : List UInt8} (e : Bts h v bs) : lenL v = some (.int .i64 bs.length) := by
  have := Els.len e
  simpa using this
theorem Bts.bstr {h : Hp} {v : AV} {bs : List UInt8} (e : Bts h v bs) : bstrA h v = some (.str bs) := by
  unfold bstrA
  rw [e.1]
  split
  · exact absurd rfl (e.2 _)
  · rename_i h1 _
    cases h1
    simp [bytesOf_map]
  · rename_i h1 _; cases h1

theorem bstrA_nils (h : Hp) : bstrA h .nils = some (.str []) := rfl

theorem Triple.lst0 {P : Program} {f : Nat} {pre suf : List AV} {h : Hp} {post : AV → Hp → Prop} (t1 : Triple P f (pre ++ .nils :: suf) h post) (t2 : Triple P f (pre ++ .emp :: suf) h post) :
    Triple P f (pre ++ .lst [] :: suf) h post := by
  intro fz w cargs r a
  have hlt : pre.length < cargs.toList.length := by rw [← a.1]; simp
  have h0 := a.2 pre.length (by simp) hlt
  simp only [List.getElem_append_right (Nat.le_refl _), Nat.sub_self, List.getElem_cons_zero] at h0
  have key : ∀ x, VR fz w.heap x (cargs.toList[pre.length]) → VRs fz w.heap (pre ++ x :: suf) cargs.toList := by
    intro x hx
    refine ⟨by rw [← a.1]; simp, fun i h1 h2 => ?_⟩
    have h3 := a.2 i (by simpa using h1) h2
    by_cases hi : i < pre.length
    · rw [List.getElem_append_left hi] at h3 ⊢; exact h3
    · by_cases hi2 : i = pre.length
      · subst hi2
        simpa [List.getElem_append_right (Nat.le_refl _)] using hx
      · rw [List.getElem_append_right (by omega)] at h3 ⊢
        obtain ⟨j, hj⟩ : ∃ j, i - pre.length = j + 1 := ⟨i - pre.length - 1, by omega⟩
        simp only [hj, List.getElem_cons_succ] at h3 ⊢
        exact h3
  generalize cargs.toList[pre.length] = cv at *
  have hc : cv = .slice none 0 0 ∨ ∃ a c, cv = .slice (some a) 0 c := by
    cases h0 with
    | lst => exact .inr ⟨_, _, rfl⟩
    | lst0 a c h0 =>
      cases a with
      | none => rw [h0 rfl]; exact .inl rfl
      | some a => exact .inr ⟨_, _, rfl⟩
  rcases hc with rfl | ⟨ad, c, rfl⟩
  · exact t1 fz w cargs r (key _ .nils)
  · exact t2 fz w cargs r (key _ (.emp _ _))
end Go.Hz
