/- Steps over the proofs' values; a region's operations may be carried out in any order that its edges allow. -/
import Derived.Test.YtfbflmiipepmiaaHzCore
namespace Go.Hz

abbrev Env := Nat → AV
def Env.upd (e : Env) (d : Nat) (v : AV) : Env := fun t => if t = d then v else e t
def Env.put (e : Env) (d : Option Nat) (v : AV) : Env := match d with | some t => e.upd t v | none => e

theorem Env.upd_apply (e : Env) (d : Nat) (v : AV) (t : Nat) : e.upd d v t = if t = d then v else e t := rfl
theorem Env.put_some (e : Env) (d : Nat) (v : AV) : e.put (some d) v = e.upd d v := rfl
theorem Env.put_none (e : Env) (v : AV) : e.put none v = e := rfl
theorem Env.put_apply (e : Env) {d : Option Nat} (v : AV) {t : Nat} (h : d ≠ some t) : e.put d v t = e t := by
  cases d with
  | none => rfl
  | some d => simp only [Env.put, Env.upd]; rw [if_neg]; intro hh; exact h (by rw [hh])
theorem Env.put_comm (e : Env) {c d : Option Nat} (u v : AV) (h : ∀ t, c = some t → d ≠ some t) : (e.put c u).put d v = (e.put d v).put c u := by
  cases c with
  | none => rfl
  | some c =>
    cases d with
    | none => rfl
    | some d =>
      have hne : c ≠ d := fun hh => h c rfl (by rw [hh])
      funext t
      simp only [Env.put, Env.upd]
      split <;> split <;> simp_all

/-- What an operation does: it computes, it reads memory, it makes a block, or it does something. -/
inductive Sm where
  | pure (f : Env → Option AV)
  | load (f : Env → Hp → Option AV)
  | mk (f : Env → Option (AV ⊕ (AObj × (Nat → AV))))
  | eff (f : Env → Hp → (AV → Hp → Prop) → Prop)

structure Item where
  d : Option Nat
  s : Sm
  looks : List Nat

/-- The load named by a number still reads what its slot holds. -/
def stable (S : Nat → Item) (l : Nat) (e : Env) (h : Hp) : Prop :=
  match (S l).s, (S l).d with
  | .load f, some d => f e h = some (e d)
  | _, _ => False

def stepI (S : Nat → Item) (obl : List Nat) (x : Item) (e : Env) (h : Hp) (K : Env → Hp → Prop) : Prop :=
  match x.s with
  | .pure f => ∃ v, f e = some v ∧ K (e.put x.d v) h
  | .load f => ∃ v, f e h = some v ∧ K (e.put x.d v) h
  | .mk f => ∃ r, f e = some r ∧ match r with
    | .inl v => K (e.put x.d v) h
    | .inr (o, g) => ∀ n, h n = none → K (e.put x.d (g n)) (h.set n o)
  | .eff f => f e h fun v h' => (∀ l ∈ obl, stable S l (e.put x.d v) h') ∧ K (e.put x.d v) h'

/-- What is asked of an operation's meaning. -/
def Sm.good (looks : List Nat) : Sm → Prop
  | .pure f => ∀ e e' : Env, (∀ t ∈ looks, e t = e' t) → f e = f e'
  | .load f => (∀ (e e' : Env) h, (∀ t ∈ looks, e t = e' t) → f e h = f e' h) ∧ (∀ e h v n o, f e h = some v → h n = none → f e (h.set n o) = some v) ∧
      (∀ e, ∃ R : List Nat, ∀ h h' : Hp, (∀ b ∈ R, h b = h' b) → f e h = f e h')
  | .mk f => ∀ e e' : Env, (∀ t ∈ looks, e t = e' t) → f e = f e'
  | .eff f => (∀ (e e' : Env) h K, (∀ t ∈ looks, e t = e' t) → f e h K → f e' h K) ∧ (∀ e h K K', (∀ v h', K v h' → K' v h') → f e h K → f e h K') ∧
      (∀ e h K n o, h n = none → f e h K → f e (h.set n o) fun v h'' => ∃ h', h' n = none ∧ h'' = h'.set n o ∧ K v h')

theorem stepI_mono {S : Nat → Item} {obl : List Nat} {x : Item} (hx : x.s.good x.looks) {e : Env} {h : Hp} {K K' : Env → Hp → Prop} (hk : ∀ e h, K e h → K' e h)
    (hh : stepI S obl x e h K) : stepI S obl x e h K' := by
  unfold stepI at *
  split <;> simp only [*] at hh hx
  · obtain ⟨v, h1, h2⟩ := hh; exact ⟨v, h1, hk _ _ h2⟩
  · obtain ⟨v, h1, h2⟩ := hh; exact ⟨v, h1, hk _ _ h2⟩
  · obtain ⟨r, h1, h2⟩ := hh
    refine ⟨r, h1, ?_⟩
    cases r with
    | inl v => exact hk _ _ h2
    | inr og => exact fun n hn => hk _ _ (h2 n hn)
  · exact hx.2.1 _ _ _ _ (fun v h' ⟨a, b⟩ => ⟨a, hk _ _ b⟩) hh

theorem stepI_drop {S : Nat → Item} {obl obl' : List Nat} {x : Item} (hx : x.s.good x.looks) (ho : ∀ l ∈ obl', l ∈ obl) {e : Env} {h : Hp} {K : Env → Hp → Prop}
    (hh : stepI S obl x e h K) : stepI S obl' x e h K := by
  unfold stepI at *
  split <;> simp only [*] at hh hx
  · exact hh
  · exact hh
  · exact hh
  · exact hx.2.1 _ _ _ _ (fun v h' ⟨a, b⟩ => ⟨fun l hl => a l (ho l hl), b⟩) hh

def Sm.isPure : Sm → Bool | .pure _ => true | _ => false
def Sm.isLoad : Sm → Bool | .load _ => true | _ => false
def Sm.isMk : Sm → Bool | .mk _ => true | _ => false
def Sm.isEff : Sm → Bool | .eff _ => true | _ => false

def apartI (x y : Item) : Prop := (∀ t, x.d = some t → t ∉ y.looks) ∧ (∀ t, y.d = some t → t ∉ x.looks) ∧ (∀ t, x.d = some t → y.d ≠ some t)

/-- y may go ahead of x. -/
structure Compat (S : Nat → Item) (obl : Nat → List Nat) (ix iy : Nat) : Prop where
  apart : apartI (S ix) (S iy)
  self : ∀ t, (S ix).d = some t → t ∉ (S ix).looks
  ob : ∀ l ∈ obl ix, (∀ t, (S iy).d = some t → t ∉ (S l).looks ∧ (S l).d ≠ some t)
  kinds : (S ix).s.isPure = true ∨ (S iy).s.isPure = true ∨ ((S ix).s.isLoad = true ∧ ((S iy).s.isLoad = true ∨ (S iy).s.isMk = true)) ∨
    ((S ix).s.isMk = true ∧ (S iy).s.isMk = true) ∨ ((S ix).s.isLoad = true ∧ (S iy).s.isEff = true ∧ ix ∈ obl iy) ∨
    ((S ix).s.isEff = true ∧ (S iy).s.isMk = true)

/-- The operation can be carried out, as far as its operands go. -/
def yOK (y : Item) (e : Env) : Prop :=
  match y.s with
  | .pure f => ∃ v, f e = some v
  | .mk f => ∃ r, f e = some r
  | _ => True

theorem stable_put {S : Nat → Item} {l : Nat} (hg : (S l).s.good (S l).looks) {e : Env} {h : Hp} {d : Option Nat} {v : AV}
    (hd : ∀ t, d = some t → t ∉ (S l).looks ∧ (S l).d ≠ some t) : stable S l (e.put d v) h ↔ stable S l e h := by
  unfold stable
  cases hs : (S l).s with
  | load f =>
    cases hdl : (S l).d with
    | none => simp
    | some dl =>
      simp only
      rw [hs] at hg
      have h1 : f (e.put d v) h = f e h := hg.1 _ _ _ fun t ht => Env.put_apply _ _ fun hh => (hd t hh).1 ht
      have h2 : e.put d v dl = e dl := Env.put_apply _ _ fun hh => (hd dl hh).2 hdl
      rw [h1, h2]
  | _ => simp

theorem stable_set {S : Nat → Item} {l : Nat} (hg : (S l).s.good (S l).looks) {e : Env} {h : Hp} {n : Nat} {o : AObj} (hn : h n = none)
    (hh : stable S l e h) : stable S l e (h.set n o) := by
  unfold stable at *
  cases hs : (S l).s with
  | load f =>
    cases hdl : (S l).d with
    | none => simp [hs, hdl] at hh
    | some dl =>
      simp only [hs, hdl] at hh ⊢
      rw [hs] at hg
      exact hg.2.1 _ _ _ _ _ hh hn
  | _ => simp [hs] at hh

theorem swap {S : Nat → Item} {obl : Nat → List Nat} (hgood : ∀ i, (S i).s.good (S i).looks) {ix iy : Nat} (hc : Compat S obl ix iy) {e : Env} {h : Hp}
    (hl : yOK (S iy) e) {O1 O2 : List Nat} (hO1 : ix ∈ obl iy → ix ∈ O1) (hO2 : ∀ l ∈ O2, l ∈ O1 ∧ ∀ t, (S ix).d = some t → t ∉ (S l).looks ∧ (S l).d ≠ some t)
    {K : Env → Hp → Prop} (hh : stepI S (obl ix) (S ix) e h fun e' h' => stepI S O1 (S iy) e' h' K) :
    stepI S O2 (S iy) e h fun e' h' => stepI S (obl ix) (S ix) e' h' K := by
  obtain ⟨⟨a1, a2, a3⟩, hself, ho, hk⟩ := hc
  have keepO : ∀ (e : Env) (h' : Hp) (u v : AV), (∀ l ∈ O1, stable S l ((e.put (S ix).d v).put (S iy).d u) h') → ∀ l ∈ O2, stable S l (e.put (S iy).d u) h' := fun e h' u v hs l hl => by
    obtain ⟨x1, x2⟩ := hO2 l hl
    have := hs l x1
    rwa [Env.put_comm _ _ _ a3, stable_put (hgood l) x2] at this
  have gx := hgood ix
  have gy := hgood iy
  have a3' : ∀ t, (S iy).d = some t → (S ix).d ≠ some t := fun t ht hx => a3 t hx ht
  have cx : ∀ (v : AV) (e : Env) (t), t ∈ (S ix).looks → e.put (S iy).d v t = e t := fun v e t ht => Env.put_apply _ _ fun hh => a2 t hh ht
  have cy : ∀ (v : AV) (e : Env) (t), t ∈ (S iy).looks → e.put (S ix).d v t = e t := fun v e t ht => Env.put_apply _ _ fun hh => a1 t hh ht
  have pc : ∀ (e : Env) (u v : AV), (e.put (S ix).d u).put (S iy).d v = (e.put (S iy).d v).put (S ix).d u := fun e u v => Env.put_comm e u v a3
  generalize hX : S ix = X at *
  generalize hY : S iy = Y at *
  obtain ⟨dx, sx, lx⟩ := X
  obtain ⟨dy, sy, ly⟩ := Y
  simp only at *
  have swapO : ∀ (v u : AV) (h' : Hp), (∀ l ∈ obl ix, stable S l (e.put dx v) h') → ∀ l ∈ obl ix, stable S l ((e.put dy u).put dx v) h' := fun v u h' hs l hl => by
    rw [← pc e v u, stable_put (hgood l) (ho l hl)]
    exact hs l hl
  cases sy with
  | pure fy =>
    -- y's value does not hang on x
    have key : ∀ v, fy (e.put dx v) = fy e := fun v => gy _ _ fun t ht => cy v e t ht
    obtain ⟨vy, hvy⟩ := hl
    refine ⟨vy, hvy, ?_⟩
    unfold stepI at hh ⊢
    cases sx with
    | pure f =>
      obtain ⟨v, h1, v2, h2, h3⟩ := hh
      rw [key, hvy] at h2
      cases h2
      exact ⟨v, (gx _ _ fun t ht => cx vy e t ht).trans h1, by rw [← pc]; exact h3⟩
    | load f =>
      obtain ⟨v, h1, v2, h2, h3⟩ := hh
      rw [key, hvy] at h2
      cases h2
      exact ⟨v, (gx.1 _ _ _ fun t ht => cx vy e t ht).trans h1, by rw [← pc]; exact h3⟩
    | mk f =>
      obtain ⟨r, h1, h2⟩ := hh
      refine ⟨r, (gx _ _ fun t ht => cx vy e t ht).trans h1, ?_⟩
      cases r with
      | inl v =>
        obtain ⟨v2, h2, h3⟩ := h2
        rw [key, hvy] at h2
        cases h2
        simp only
        rw [← pc]; exact h3
      | inr og =>
        intro n hn
        obtain ⟨v2, h2, h3⟩ := h2 n hn
        rw [key, hvy] at h2
        cases h2
        rw [← pc]; exact h3
    | eff f =>
      refine gx.1 _ _ _ _ (fun t ht => (cx vy e t ht).symm) (gx.2.1 _ _ _ _ ?_ hh)
      rintro v h' ⟨hs, v2, h2, h3⟩
      rw [key, hvy] at h2
      cases h2
      exact ⟨swapO _ _ _ hs, by rw [← pc]; exact h3⟩
  | load fy =>
    have key : ∀ v h, fy (e.put dx v) h = fy e h := fun v h => gy.1 _ _ _ fun t ht => cy v e t ht
    unfold stepI at hh ⊢
    cases sx with
    | pure f =>
      obtain ⟨v, h1, v2, h2, h3⟩ := hh
      rw [key] at h2
      exact ⟨v2, h2, v, (gx _ _ fun t ht => cx v2 e t ht).trans h1, by rw [← pc]; exact h3⟩
    | load f =>
      obtain ⟨v, h1, v2, h2, h3⟩ := hh
      rw [key] at h2
      exact ⟨v2, h2, v, (gx.1 _ _ _ fun t ht => cx v2 e t ht).trans h1, by rw [← pc]; exact h3⟩
    | mk f => simp [Sm.isPure, Sm.isLoad, Sm.isMk, Sm.isEff] at hk
    | eff f => simp [Sm.isPure, Sm.isLoad, Sm.isMk, Sm.isEff] at hk
  | mk fy =>
    have key : ∀ v, fy (e.put dx v) = fy e := fun v => gy _ _ fun t ht => cy v e t ht
    obtain ⟨ry, hry⟩ := hl
    refine ⟨ry, hry, ?_⟩
    unfold stepI at hh ⊢
    cases sx with
    | pure f =>
      obtain ⟨v, h1, r2, h2, h3⟩ := hh
      rw [key, hry] at h2
      cases h2
      cases ry with
      | inl vy => exact ⟨v, (gx _ _ fun t ht => cx vy e t ht).trans h1, by rw [← pc]; exact h3⟩
      | inr og => exact fun n hn => ⟨v, (gx _ _ fun t ht => cx _ e t ht).trans h1, by rw [← pc]; exact h3 n hn⟩
    | load f =>
      obtain ⟨v, h1, r2, h2, h3⟩ := hh
      rw [key, hry] at h2
      cases h2
      cases ry with
      | inl vy => exact ⟨v, (gx.1 _ _ _ fun t ht => cx vy e t ht).trans h1, by rw [← pc]; exact h3⟩
      | inr og => exact fun n hn => ⟨v, (gx.1 _ _ _ fun t ht => cx _ e t ht).trans (gx.2.1 _ _ _ _ _ h1 hn), by rw [← pc]; exact h3 n hn⟩
    | mk f =>
      obtain ⟨r, h1, h2⟩ := hh
      cases r with
      | inl v =>
        obtain ⟨r2, h2, h3⟩ := h2
        rw [key, hry] at h2
        cases h2
        cases ry with
        | inl vy => exact ⟨.inl v, (gx _ _ fun t ht => cx vy e t ht).trans h1, by simp only; rw [← pc]; exact h3⟩
        | inr og => exact fun n hn => ⟨.inl v, (gx _ _ fun t ht => cx _ e t ht).trans h1, by simp only; rw [← pc]; exact h3 n hn⟩
      | inr og =>
        cases ry with
        | inl vy =>
          refine ⟨.inr og, (gx _ _ fun t ht => cx vy e t ht).trans h1, fun n hn => ?_⟩
          obtain ⟨r2, h2, h3⟩ := h2 n hn
          rw [key, hry] at h2
          cases h2
          rw [← pc]; exact h3
        | inr og2 =>
          refine fun n hn => ⟨.inr og, (gx _ _ fun t ht => cx _ e t ht).trans h1, fun m hm => ?_⟩
          have hmn : m ≠ n := fun hh => by rw [hh, Hp.set_same] at hm; cases hm
          have hm' : h m = none := by rwa [Hp.set_ne _ _ hmn] at hm
          obtain ⟨r2, h2, h3⟩ := h2 m hm'
          rw [key, hry] at h2
          cases h2
          have h4 := h3 n (by rw [Hp.set_ne _ _ (Ne.symm hmn)]; exact hn)
          rw [← pc, Hp.set_comm _ _ _ (Ne.symm hmn)]; exact h4
    | eff f =>
      cases ry with
      | inl vy =>
        refine gx.1 _ _ _ _ (fun t ht => (cx vy e t ht).symm) (gx.2.1 _ _ _ _ ?_ hh)
        rintro v h' ⟨hs, r2, h2, h3⟩
        rw [key, hry] at h2
        cases h2
        exact ⟨swapO _ _ _ hs, by rw [← pc]; exact h3⟩
      | inr og =>
        intro n hn
        refine gx.1 _ _ _ _ (fun t ht => (cx _ e t ht).symm) (gx.2.1 _ _ _ _ ?_ (gx.2.2 _ _ _ _ og.1 hn hh))
        rintro v h'' ⟨h', hn', rfl, hs, r2, h2, h3⟩
        rw [key, hry] at h2
        cases h2
        exact ⟨fun l hl => stable_set (hgood l) hn' (swapO _ _ _ hs l hl), by rw [← pc]; exact h3 n hn'⟩
  | eff fy =>
    unfold stepI at hh ⊢
    cases sx with
    | pure f =>
      obtain ⟨v, h1, h2⟩ := hh
      refine gy.2.1 _ _ _ _ ?_ (gy.1 _ _ _ _ (fun t ht => cy v e t ht) h2)
      rintro u h' ⟨hs, h3⟩
      exact ⟨keepO _ _ _ _ hs, v, (gx _ _ fun t ht => cx u e t ht).trans h1, by rw [← pc]; exact h3⟩
    | load f =>
      have hin : ix ∈ obl iy := by simpa [Sm.isPure, Sm.isLoad, Sm.isMk, Sm.isEff] using hk
      obtain ⟨v, h1, h2⟩ := hh
      refine gy.2.1 _ _ _ _ ?_ (gy.1 _ _ _ _ (fun t ht => cy v e t ht) h2)
      rintro u h' ⟨hs, h3⟩
      have h4 := hs ix (hO1 hin)
      unfold stable at h4
      rw [hX] at h4
      simp only at h4
      cases dx with
      | none => simp at h4
      | some d =>
        simp only at h4
        rw [pc] at h4
        have hs1 : ((e.put dy u).put (some d) v) d = v := by simp [Env.put, Env.upd]
        have hs2 : f ((e.put dy u).put (some d) v) h' = f (e.put dy u) h' :=
          gx.1 _ _ _ fun t ht => Env.put_apply _ _ fun hh => hself d rfl (by cases hh; exact ht)
        rw [hs1, hs2] at h4
        exact ⟨keepO _ _ _ _ hs, v, h4, by rw [← pc]; exact h3⟩
    | mk f => simp [Sm.isPure, Sm.isLoad, Sm.isMk, Sm.isEff] at hk
    | eff f => simp [Sm.isPure, Sm.isLoad, Sm.isMk, Sm.isEff] at hk

/-- The operations one behind the other. -/
def wpI (S : Nat → Item) (obl : Nat → List Nat) : List Nat → Env → Hp → (Env → Hp → Prop) → Prop
  | [], e, h, K => K e h
  | i :: l, e, h, K => stepI S (obl i) (S i) e h fun e' h' => wpI S obl l e' h' K

theorem wpI_mono {S : Nat → Item} {obl : Nat → List Nat} (hg : ∀ i, (S i).s.good (S i).looks) {K K' : Env → Hp → Prop} (hk : ∀ e h, K e h → K' e h) :
    ∀ (l : List Nat) (e : Env) (h : Hp), wpI S obl l e h K → wpI S obl l e h K'
  | [], _, _, hh => hk _ _ hh
  | i :: l, _, _, hh => stepI_mono (hg i) (fun e h => wpI_mono hg hk l e h) hh

/-- Of the loads that must stand behind iy those that are not still to come ahead of it look at nothing that is. -/
def Clear (S : Nat → Item) (ob : List Nat) : List Nat → Prop
  | [] => True
  | ix :: pre => (∀ l ∈ ob, l ≠ ix → l ∉ pre → ∀ t, (S ix).d = some t → t ∉ (S l).looks ∧ (S l).d ≠ some t) ∧ Clear S ob pre

theorem move_front {S : Nat → Item} {obl : Nat → List Nat} (hgood : ∀ i, (S i).s.good (S i).looks) {iy : Nat} {post : List Nat} {K : Env → Hp → Prop} :
    ∀ (pre : List Nat) (e : Env) (h : Hp), pre.Nodup → (∀ ix ∈ pre, Compat S obl ix iy) → Clear S (obl iy) pre → yOK (S iy) e → wpI S obl (pre ++ iy :: post) e h K →
      stepI S ((obl iy).filter fun l => !pre.contains l) (S iy) e h fun e' h' => wpI S obl (pre ++ post) e' h' K
  | [], e, h, _, _, _, _, hh => stepI_drop (hgood iy) (fun l h => by simpa using h) hh
  | ix :: pre, e, h, hnd, hc, hcl, hl, hh => by
    have hap := (hc ix (by simp)).apart
    have keep : ∀ v, yOK (S iy) (e.put (S ix).d v) := fun v => by
      unfold yOK at *
      have hg := hgood iy
      cases hs : (S iy).s with
      | pure f =>
        rw [hs] at hg hl
        obtain ⟨v', h'⟩ := hl
        exact ⟨v', (hg _ _ fun t ht => Env.put_apply _ _ fun hh => hap.1 t hh ht).trans h'⟩
      | mk f =>
        rw [hs] at hg hl
        obtain ⟨v', h'⟩ := hl
        exact ⟨v', (hg _ _ fun t ht => Env.put_apply _ _ fun hh => hap.1 t hh ht).trans h'⟩
      | load f => trivial
      | eff f => trivial
    have ih := fun v h' => move_front hgood (iy := iy) (post := post) (K := K) pre (e.put (S ix).d v) h' (List.nodup_cons.1 hnd).2 (fun i hi => hc i (by simp [hi])) hcl.2 (keep v)
    have hh' : stepI S (obl ix) (S ix) e h fun e' h' => wpI S obl (pre ++ iy :: post) e' h' K := hh
    refine swap hgood (hc ix (by simp)) hl (O1 := (obl iy).filter fun l => !pre.contains l) (fun hx => by simpa using ⟨hx, (List.nodup_cons.1 hnd).1⟩)
      (fun l hl => by
        simp at hl
        exact ⟨by simp [hl], hcl.1 l hl.1 hl.2.1 hl.2.2⟩) (K := fun e' h' => wpI S obl (pre ++ post) e' h' K) ?_
    unfold stepI at hh' ⊢
    have hg := hgood ix
    cases hs : (S ix).s with
    | pure f => rw [hs] at hh'; obtain ⟨v, h1, h2⟩ := hh'; exact ⟨v, h1, ih v h h2⟩
    | load f => rw [hs] at hh'; obtain ⟨v, h1, h2⟩ := hh'; exact ⟨v, h1, ih v h h2⟩
    | mk f =>
      rw [hs] at hh'
      obtain ⟨r, h1, h2⟩ := hh'
      refine ⟨r, h1, ?_⟩
      cases r with
      | inl v => exact ih v h h2
      | inr og => exact fun n hn => ih _ _ (h2 n hn)
    | eff f =>
      rw [hs] at hh' hg
      exact hg.2.1 _ _ _ _ (fun v h' ⟨a, b⟩ => ⟨a, ih v h' b⟩) hh'

/-- The states that stand for some state of the model: each step that holds leads on to one. -/
structure LiveP (S : Nat → Item) (obl : Nat → List Nat) (Live : Env → Hp → Prop) : Prop where
  prog : ∀ i e h K, Live e h → stepI S (obl i) (S i) e h K → ∃ e' h', K e' h' ∧ Live e' h' ∧ ∃ v, e' = e.put (S i).d v

theorem yOK_of {S : Nat → Item} {obl : Nat → List Nat} {Live : Env → Hp → Prop} (hgood : ∀ i, (S i).s.good (S i).looks) (hp : LiveP S obl Live) {iy : Nat} {post : List Nat} {K : Env → Hp → Prop} :
    ∀ (pre : List Nat) (e : Env) (h : Hp), (∀ ix ∈ pre, Compat S obl ix iy) → Live e h → wpI S obl (pre ++ iy :: post) e h K → yOK (S iy) e
  | [], e, h, _, _, hh => by
    have hh' : stepI S (obl iy) (S iy) e h fun e' h' => wpI S obl post e' h' K := hh
    unfold yOK
    unfold stepI at hh'
    cases hs : (S iy).s with
    | pure f => rw [hs] at hh'; obtain ⟨v, h1, _⟩ := hh'; exact ⟨v, h1⟩
    | mk f => rw [hs] at hh'; obtain ⟨v, h1, _⟩ := hh'; exact ⟨v, h1⟩
    | load f => trivial
    | eff f => trivial
  | ix :: pre, e, h, hc, hl, hh => by
    have hh' : stepI S (obl ix) (S ix) e h fun e' h' => wpI S obl (pre ++ iy :: post) e' h' K := hh
    obtain ⟨e', h', h1, h2, v, rfl⟩ := hp.prog ix e h _ hl hh'
    have ih := yOK_of hgood hp pre _ h' (fun i hi => hc i (by simp [hi])) h2 h1
    have hap := (hc ix (by simp)).apart
    have hg := hgood iy
    unfold yOK at *
    cases hs : (S iy).s with
    | pure f =>
      rw [hs] at hg ih
      obtain ⟨v', h'⟩ := ih
      exact ⟨v', (hg _ _ fun t ht => (Env.put_apply _ _ fun hh => hap.1 t hh ht).symm).trans h'⟩
    | mk f =>
      rw [hs] at hg ih
      obtain ⟨v', h'⟩ := ih
      exact ⟨v', (hg _ _ fun t ht => (Env.put_apply _ _ fun hh => hap.1 t hh ht).symm).trans h'⟩
    | load f => trivial
    | eff f => trivial

end Go.Hz
