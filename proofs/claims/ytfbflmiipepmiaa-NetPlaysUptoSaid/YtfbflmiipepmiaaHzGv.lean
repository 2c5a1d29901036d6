/- Views: what is not written again. -/
import Derived.Test.YtfbflmiipepmiaaHzCore
set_option linter.unusedVariables false
set_option linter.unusedSimpArgs false
namespace Go.Hz
/-- Another view of a value and of the owned blocks: each world of the one is one of the other. -/
def GV (v : AV) (h : Hp) (v' : AV) (h' : Hp) : Prop :=
  ∀ (fz : Nat → Prop) (w : World) (cv : Value), VR fz w.heap v cv → Rel fz h w → ∃ fz', VR fz' w.heap v' cv ∧ Rel fz' h' w ∧ Ext fz h w fz' h' w

theorem GV.refl (v : AV) (h : Hp) : GV v h v h := fun fz w cv a b => ⟨fz, a, b, Ext.refl _ _ _⟩
theorem GV.trans {v v' v'' : AV} {h h' h'' : Hp} (a : GV v h v' h') (b : GV v' h' v'' h'') : GV v h v'' h'' := fun fz w cv x y => by
  obtain ⟨f1, a1, a2, a3⟩ := a fz w cv x y
  obtain ⟨f2, b1, b2, b3⟩ := b f1 w cv a1 a2
  exact ⟨f2, b1, b2, a3.trans b3⟩
/-- A slice of one's own that is not written again. -/
theorem GV.arr {h : Hp} {b s len cap rc : Nat} {es : List (List AV)} (hb : h b = some (.row s es rc)) (hl : es.length = len) (hc : len ≤ cap) : GV (.arr b s 0 len cap) h (.lst es) (h.del b) := by
  intro fz w cv hv hr
  obtain ⟨hnf, c, hw, ho⟩ := hr.own b _ hb
  have hlt : b < w.heap.size := (Array.getElem?_eq_some_iff.1 hw).1
  refine ⟨fun x => fz x ∨ x = b, ?_, ?_, ?_⟩
  · have hm : ∀ x, fz x → (fun x => fz x ∨ x = b) x := fun x hx => .inl hx
    cases ho with
    | row _ _ _ c T fr hcap hs hcs hsoft hel =>
      have h0 : ∃ o, cv = .slice (some ⟨b, o, none⟩) len cap ∧ (o = 0 ∨ len = 0) := by
        cases hv with
        | arr => exact ⟨0 * s, rfl, .inl (by simp)⟩
        | arr0 _ _ _ o => exact ⟨o, rfl, .inr rfl⟩
      obtain ⟨o, rfl, ho⟩ := h0
      rcases ho with rfl | rfl
      · subst hl
        refine .lst es b 0 s cap c T fr (.inr rfl) hw hc (fun i h => hs i h) (by rw [hcs]; have := Nat.mul_le_mul_right s hcap; omega) fun i h1 k h2 h3 => ?_
        have := hel i h1 k h2 (by omega)
        simp only [Nat.zero_add] at h3 ⊢
        exact this.mono hm fun _ _ => rfl
      · have : es = [] := List.length_eq_zero_iff.1 hl
        subst this
        exact .lst0 _ _ (by simp)
  · refine ⟨fun x hx => hx.elim (hr.lt x) (fun e => e ▸ hlt), fun x o hx => ?_⟩
    have hxb : x ≠ b := fun e => by subst e; simp at hx
    rw [Hp.del_ne _ hxb] at hx
    obtain ⟨g1, c', g2, g3⟩ := hr.own x o hx
    exact ⟨fun e => e.elim g1 hxb, c', g2, g3.mono (fun _ e => .inl e) fun _ _ => rfl⟩
  · refine ⟨rfl, rfl, rfl, Nat.le_refl _, fun _ h => .inl h, fun x hx hn => ⟨rfl, ?_⟩, fun x hx => hx.elim .inl fun e => .inr (.inl ⟨_, e ▸ hb⟩)⟩
    by_cases hxb : x = b
    · subst hxb; simp
    · rwa [Hp.del_ne _ hxb]
/-- What stands behind the first k elements is forgotten. -/
theorem GV.trim (v : AV) {h : Hp} {b s cap : Nat} {es : List (List AV)} (k : Nat) (hb : h b = some (.row s es cap)) : GV v h v (h.set b (.row s (es.take k) cap)) := by
  intro fz w cv hv hr
  obtain ⟨hnf, c, hw, ho⟩ := hr.own b _ hb
  refine ⟨fz, hv, ⟨hr.lt, fun x o hx => ?_⟩, ⟨rfl, rfl, rfl, Nat.le_refl _, fun _ h => h, fun x hx hn => ⟨rfl, ?_⟩, fun _ h => .inl h⟩⟩
  · by_cases hxb : x = b
    · subst hxb
      rw [Hp.set_same] at hx
      cases hx
      cases ho with
      | row _ _ _ c T fr hcap hs hcs hsoft hel =>
        refine ⟨hnf, _, hw, .row _ _ _ _ _ _ (by rw [List.length_take]; omega) (fun i hi => ?_) hcs hsoft fun i h1 k' h2 h3 => ?_⟩
        · rw [List.getElem_take]; exact hs _ _
        · simp only [List.getElem_take] at h2 ⊢
          exact hel i (by rw [List.length_take] at h1; omega) k' h2 h3
    · rw [Hp.set_ne _ _ hxb] at hx
      exact hr.own x o hx
  · have hxb : x ≠ b := fun e => by subst e; rw [hb] at hn; cases hn
    rw [Hp.set_ne _ _ hxb]; exact hn
theorem getElem_mid {α : Type} {pre suf : List α} {v v' : α} {i : Nat} (h1 : i < (pre ++ v' :: suf).length) (h2 : i < (pre ++ v :: suf).length) (hi : i ≠ pre.length) : (pre ++ v' :: suf)[i] = (pre ++ v :: suf)[i] := by
  by_cases hl : i < pre.length
  · simp [List.getElem_append_left hl]
  · have : 0 < i - pre.length := by omega
    obtain ⟨j, hj⟩ : ∃ j, i - pre.length = j + 1 := ⟨i - pre.length - 1, by omega⟩
    simp [List.getElem_append_right (Nat.le_of_not_lt hl), hj]
theorem GV.tup {v v' : AV} {h h' : Hp} (pre suf : List AV) (g : GV v h v' h') : GV (.tup (pre ++ v :: suf)) h (.tup (pre ++ v' :: suf)) h' := by
  intro fz w cv hv hr
  cases hv with
  | tup cs vs hl hvs =>
    have hp : pre.length < vs.size := by rw [← hl]; simp
    have h0 := hvs pre.length (by simp) hp
    simp only [List.getElem_append_right (Nat.le_refl _), Nat.sub_self, List.getElem_cons_zero] at h0
    obtain ⟨fz', g1, g2, g3⟩ := g fz w _ h0 hr
    refine ⟨fz', .tup _ _ (by rw [← hl]; simp) fun i h1 h2 => ?_, g2, g3⟩
    by_cases hi : i = pre.length
    · subst hi
      simpa only [List.getElem_append_right (Nat.le_refl _), Nat.sub_self, List.getElem_cons_zero] using g1
    · have h3 := hvs i (by simp at h1 ⊢; omega) h2
      rw [getElem_mid h1 (v := v) (by simp at h1 ⊢; omega) hi]
      exact h3.ext hr g3
theorem GV.agg {v v' : AV} {h h' : Hp} (pre suf : List AV) (g : GV v h v' h') : GV (.agg (pre ++ v :: suf)) h (.agg (pre ++ v' :: suf)) h' := by
  intro fz w cv hv hr
  cases hv with
  | agg cs vs hl hvs =>
    have hp : pre.length < vs.size := by rw [← hl]; simp
    have h0 := hvs pre.length (by simp) hp
    simp only [List.getElem_append_right (Nat.le_refl _), Nat.sub_self, List.getElem_cons_zero] at h0
    obtain ⟨fz', g1, g2, g3⟩ := g fz w _ h0 hr
    refine ⟨fz', .agg _ _ (by rw [← hl]; simp) fun i h1 h2 => ?_, g2, g3⟩
    by_cases hi : i = pre.length
    · subst hi
      simpa only [List.getElem_append_right (Nat.le_refl _), Nat.sub_self, List.getElem_cons_zero] using g1
    · have h3 := hvs i (by simp at h1 ⊢; omega) h2
      rw [getElem_mid h1 (v := v) (by simp at h1 ⊢; omega) hi]
      exact h3.ext hr g3
theorem GV.nils {h : Hp} : GV .nils h (.lst []) h := fun fz w cv hv hr => ⟨fz, by cases hv; exact .lst0 none 0 (fun _ => rfl), hr, Ext.refl _ _ _⟩
end Go.Hz
