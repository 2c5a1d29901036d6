/- Slices that are owned: appended to, read. -/
import Derived.Test.YtfbflmiipepmiaaHzUse
set_option linter.unusedVariables false
set_option linter.unusedSimpArgs false
namespace Go.Hz

/-- A slice of one's own: nil and empty, or all that its block holds. -/
def OwnV (h : Hp) (s : Nat) (v : AV) (es : List (List AV)) (S : List Nat) : Prop :=
  (v = .nils ∧ es = [] ∧ S = []) ∨ ∃ b cap, v = .arr b s 0 es.length cap ∧ h b = some (.row s es cap) ∧ es.length ≤ cap ∧ S = [b]

theorem OwnV.cells {h : Hp} {s : Nat} {v : AV} {es : List (List AV)} {S : List Nat} (o : OwnV h s v es S) : v.cells = [v] := by
  rcases o with ⟨rfl, _, _⟩ | ⟨b, cap, rfl, _, _, _⟩ <;> rfl
theorem OwnV.atom {h : Hp} {s : Nat} {v : AV} {es : List (List AV)} {S : List Nat} (o : OwnV h s v es S) : v.isAtom = true := by
  rcases o with ⟨rfl, _, _⟩ | ⟨b, cap, rfl, _, _, _⟩ <;> rfl
theorem OwnV.dom {h : Hp} {s : Nat} {v : AV} {es : List (List AV)} {S : List Nat} (o : OwnV h s v es S) : ∀ x ∈ S, h x ≠ none := by
  rcases o with ⟨_, _, rfl⟩ | ⟨b, cap, _, hb, _, rfl⟩
  · intro x hx; simp at hx
  · intro x hx; simp at hx; subst hx; rw [hb]; simp
theorem OwnV.same {h h' : Hp} {s : Nat} {v : AV} {es : List (List AV)} {S : List Nat} (o : OwnV h s v es S) (hh : ∀ x ∈ S, h' x = h x) : OwnV h' s v es S := by
  rcases o with ⟨h1, h2, h3⟩ | ⟨b, cap, h1, hb, hle, h3⟩
  · exact .inl ⟨h1, h2, h3⟩
  · exact .inr ⟨b, cap, h1, by rw [hh b (by rw [h3]; simp)]; exact hb, hle, h3⟩
theorem OwnV.src {h : Hp} {s : Nat} {v : AV} {es : List (List AV)} {S : List Nat} (o : OwnV h s v es S) : srcA s h v = some es := by
  rcases o with ⟨rfl, rfl, _⟩ | ⟨b, cap, rfl, hb, _, _⟩
  · rfl
  · simp [srcA, hb]
theorem OwnV.len {h : Hp} {s : Nat} {v : AV} {es : List (List AV)} {S : List Nat} (o : OwnV h s v es S) : lenL v = some (.int .i64 es.length) := by
  rcases o with ⟨rfl, rfl, _⟩ | ⟨b, cap, rfl, hb, _, _⟩ <;> rfl

theorem own_app {s bytes : Nat} {h : Hp} {v y : AV} {es ys : List (List AV)} {S : List Nat} {K : AV → Hp → Prop} (o : OwnV h s v es S) (hy : srcA s h y = some ys) (ha : AtomsL ys)
    (hb : (es.length + ys.length) * bytes ≤ 70368744177664) (hk : ∀ v' h' S', OwnV h' s v' (es ++ ys) S' → Mod S S' h h' → K v' h') : appE s bytes v y h K := by
  refine ⟨ys, hy, ha, ?_⟩
  rcases o with ⟨rfl, rfl, rfl⟩ | ⟨b, cap, rfl, hbb, hle, rfl⟩
  · refine ⟨fun h0 => hk _ _ [] (.inl ⟨rfl, by simp [h0], rfl⟩) (Mod.refl (fun x hx => by simp at hx)), fun h0 => ⟨by simpa using hb, fun n c hn hc => ?_⟩⟩
    refine hk _ _ [n] (.inr ⟨n, c, rfl, by simp, by simpa using hc, rfl⟩) ⟨fun x hx hxn => ?_, fun x hx => ?_, fun x hx => ?_⟩
    · exact Hp.set_ne _ _ (fun hh => hx (by rw [hh]; exact hn))
    · simp at hx; subst hx; exact .inr hn
    · simp at hx; subst hx; simp
  · simp only [hbb]
    refine ⟨trivial, trivial, trivial, Nat.le_refl _, trivial, hb, fun n c hn hc _ => ?_⟩
    rw [List.take_length]
    refine hk _ _ [n] (.inr ⟨n, c, by simp, by simp, by simpa using hc, rfl⟩) ⟨fun x hx hxn => ?_, fun x hx => ?_, fun x hx => ?_⟩
    · have hxb : x ≠ b := by simpa using hxn
      have hxn' : x ≠ n := fun hh => by subst hh; rw [Hp.del_ne _ hxb] at hn; exact hx hn
      rw [Hp.set_ne _ _ hxn', Hp.del_ne _ hxb]
    · simp at hx; subst hx
      by_cases hxb : x = b
      · exact .inl (by simp [hxb])
      · right; rwa [Hp.del_ne _ hxb] at hn
    · simp at hx; subst hx; simp

theorem OwnV.fresh {h : Hp} {s b : Nat} {v : AV} {es : List (List AV)} {S : List Nat} (o : OwnV h s v es S) (hb : h b = none) (x : AObj) : OwnV (h.set b x) s v es S :=
  o.same fun y hy => Hp.set_ne _ _ fun hh => o.dom y hy (hh ▸ hb)
theorem OwnV.other {h : Hp} {s b : Nat} {v : AV} {es : List (List AV)} {S : List Nat} (o : OwnV h s v es S) (hb : b ∉ S) (x : AObj) : OwnV (h.set b x) s v es S :=
  o.same fun y hy => Hp.set_ne _ _ fun hh => hb (hh ▸ hy)
theorem OwnV.kept {h h' : Hp} {s : Nat} {v : AV} {es : List (List AV)} {S A B : List Nat} (o : OwnV h s v es S) (m : Mod A B h h') (hA : ∀ x ∈ S, x ∉ A) : OwnV h' s v es S :=
  o.same fun y hy => m.keep y (o.dom y hy) (hA y hy)
theorem Mod.fresh {S S' : List Nat} {h h' : Hp} (m : Mod S S' h h') {b : Nat} (hb : h' b = none) (x : AObj) : Mod S S' h (h'.set b x) :=
  ⟨fun y hy hn => by
    have e1 := m.keep y hy hn
    rw [Hp.set_ne _ _ (fun hh => hy (by rw [← e1, hh, hb])), e1], m.new, fun y hy => by
    rw [Hp.set_ne _ _ (fun hh => m.dom y hy (by rw [hh]; exact hb))]; exact m.dom y hy⟩
theorem Mod.store {S S' : List Nat} {h h' : Hp} (m : Mod S S' h h') {b : Nat} (hb : b ∈ S') (x : AObj) : Mod S S' h (h'.set b x) :=
  ⟨fun y hy hn => by
    have hyb : y ≠ b := fun hh => by
      rcases m.new b hb with h1 | h1
      · exact hn (hh ▸ h1)
      · exact hy (hh ▸ h1)
    rw [Hp.set_ne _ _ hyb, m.keep y hy hn], m.new, fun y hy => by
    by_cases hyb : y = b
    · subst hyb; simp
    · rw [Hp.set_ne _ _ hyb]; exact m.dom y hy⟩
theorem Mod.more {S S' : List Nat} {h h' : Hp} (m : Mod S S' h h') {b : Nat} (hb : h' b = none) (x : AObj) : Mod S (b :: S') h (h'.set b x) :=
  ⟨(m.fresh hb x).keep, fun y hy => by
    rcases List.mem_cons.1 hy with rfl | hy
    · by_cases hs : y ∈ S
      · exact .inl hs
      · right
        cases hh : h y with
        | none => rfl
        | some o => have := m.keep y (by rw [hh]; simp) hs; rw [hb, hh] at this; cases this
    · exact m.new y hy, fun y hy => by
    rcases List.mem_cons.1 hy with rfl | hy
    · simp
    · exact (m.fresh hb x).dom y hy⟩
theorem Mod.cons {S S' : List Nat} {h h' : Hp} (m : Mod S S' h h') {p : Nat} (hp : h p ≠ none) (hn : p ∉ S) : Mod (p :: S) (p :: S') h h' :=
  ⟨fun y hy hm => m.keep y hy fun hh => hm (List.mem_cons_of_mem _ hh), fun y hy => by
    rcases List.mem_cons.1 hy with rfl | hy
    · exact .inl (by simp)
    · rcases m.new y hy with h1 | h1
      · exact .inl (List.mem_cons_of_mem _ h1)
      · exact .inr h1, fun y hy => by
    rcases List.mem_cons.1 hy with rfl | hy
    · rw [m.keep _ hp hn]; exact hp
    · exact m.dom y hy⟩
theorem Mod.notin {S S' : List Nat} {h h' : Hp} (m : Mod S S' h h') {p : Nat} (hp : h p ≠ none) (hn : p ∉ S) : p ∉ S' := fun hh => by
  rcases m.new p hh with h1 | h1
  · exact hn h1
  · exact hp h1

theorem Mod.shrink {S S' S'' : List Nat} {h h' : Hp} (m : Mod S S' h h') (hs : ∀ x ∈ S'', x ∈ S') : Mod S S'' h h' :=
  ⟨m.keep, fun x hx => m.new x (hs x hx), fun x hx => m.dom x (hs x hx)⟩
theorem Mod.frame {S S' X : List Nat} {h h' : Hp} (m : Mod S S' h h') (h1 : ∀ x ∈ X, h x ≠ none) (h2 : ∀ x ∈ X, x ∉ S) : Mod (X ++ S) (X ++ S') h h' :=
  ⟨fun y hy hn => m.keep y hy fun hh => hn (List.mem_append_right _ hh), fun y hy => by
    rcases List.mem_append.1 hy with hy | hy
    · exact .inl (List.mem_append_left _ hy)
    · rcases m.new y hy with g | g
      · exact .inl (List.mem_append_right _ g)
      · exact .inr g, fun y hy => by
    rcases List.mem_append.1 hy with hy | hy
    · rw [m.keep y (h1 y hy) (h2 y hy)]; exact h1 y hy
    · exact m.dom y hy⟩
theorem Mod.comp0 {A B D : List Nat} {h h' h'' : Hp} (a : Mod A B h h') (b : Mod [] D h' h'') : Mod A (B ++ D) h h'' := by
  have := b.frame (X := B) a.dom (by simp)
  rw [List.append_nil] at this
  exact a.trans this

theorem atoms_eb (bs : List UInt8) : AtomsL (bs.map eb) := by
  intro e he v hv
  obtain ⟨b, _, rfl⟩ := List.mem_map.1 he
  simp [eb] at hv
  subst hv; rfl

end Go.Hz
