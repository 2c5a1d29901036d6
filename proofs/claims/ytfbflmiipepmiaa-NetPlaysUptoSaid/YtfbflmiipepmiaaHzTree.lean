/- Guarded operations as branches. -/
import Derived.Test.YtfbflmiipepmiaaHzDraw
namespace Go.Hz

abbrev It := AItem × List AItem

def unG (g : Nat) (w : Bool) (l : List It) : List It := l.map fun x => if x.1.g = some (g, w) then ({ x.1 with g := none }, x.2) else x

def inSk (sk : List Nat) (gd : Option (Nat × Bool)) : Bool := match gd with | some (g2, _) => sk.contains g2 | none => false
def addSk (d : Option Nat) (sk : List Nat) : List Nat := match d with | some d => d :: sk | none => sk

def skG (g : Nat) (w : Bool) : List Nat → List It → List It
  | _, [] => []
  | sk, x :: l => if x.1.g = some (g, w) ∨ inSk sk x.1.g = true then (⟨x.1.d, (if x.2.isEmpty = true then .mv (.cs (.tup [])) else .nop), none⟩, x.2) :: skG g w (addSk x.1.d sk) l else x :: skG g w sk l

/-- No operation of the list writes these slots. -/
def noW (g : Nat) (l : List It) : Bool := l.all fun x => x.1.d != some g
def nodupD : List It → Bool
  | [] => true
  | x :: l => (match x.1.d with | some d => noW d l | none => true) && nodupD l

section
variable {P : Program}

theorem stepA_put {x : AItem} {obl : List AItem} {e : Env} {h : Hp} {K : Env → Hp → Prop} (hh : stepA P x obl e h K) : stepA P x obl e h fun e' h' => K e' h' ∧ ∃ v, e' = e.put x.d v := by
  have hg := x.good P
  unfold stepA at *
  split <;> rename_i heq <;> simp only [heq] at hh hg
  · obtain ⟨v, h1, h2⟩ := hh; exact ⟨v, h1, h2, v, rfl⟩
  · obtain ⟨v, h1, h2⟩ := hh; exact ⟨v, h1, h2, v, rfl⟩
  · obtain ⟨r, h1, h2⟩ := hh
    refine ⟨r, h1, ?_⟩
    cases r with
    | inl v => exact ⟨h2, v, rfl⟩
    | inr og => exact fun n hn => ⟨h2 n hn, _, rfl⟩
  · exact hg.2.1 _ _ _ _ (fun v h' ⟨a, b⟩ => ⟨a, b, v, rfl⟩) hh

theorem stepA_un {d : Option Nat} {op : AOp} {g : Nat} {w : Bool} {obl : List AItem} {e : Env} {h : Hp} {K : Env → Hp → Prop} (hb : e g = .bool w) (hh : stepA P ⟨d, op, none⟩ obl e h K) :
    stepA P ⟨d, op, some (g, w)⟩ obl e h K := by
  unfold stepA at *
  simp only [AItem.item] at hh ⊢
  cases hs : op.sm P with
  | pure f => rw [hs] at hh; simpa only [Sm.guard, hb, if_true] using hh
  | load f => rw [hs] at hh; simpa only [Sm.guard, hb, if_true] using hh
  | mk f => rw [hs] at hh; simpa only [Sm.guard, hb, if_true] using hh
  | eff f => rw [hs] at hh; simpa only [Sm.guard, hb, if_true] using hh

theorem stepA_sk {d : Option Nat} {op : AOp} {g : Nat} {w : Bool} {obl : List AItem} {e : Env} {h : Hp} {K : Env → Hp → Prop} (hb : e g = .bool (!w) ∨ e g = .tup []) (ho : ∀ l ∈ obl, stab P l (e.put d (.tup [])) h) (hh : K (e.put d (.tup [])) h) :
    stepA P ⟨d, op, some (g, w)⟩ obl e h K := by
  have hne : (!w) ≠ w := by cases w <;> simp
  unfold stepA
  simp only [AItem.item]
  cases hs : op.sm P with
  | pure f => rcases hb with hb | hb <;> simp only [Sm.guard, hb, hne, if_false] <;> exact ⟨_, rfl, hh⟩
  | load f => rcases hb with hb | hb <;> simp only [Sm.guard, hb, hne, if_false] <;> exact ⟨_, rfl, hh⟩
  | mk f => rcases hb with hb | hb <;> simp only [Sm.guard, hb, hne, if_false] <;> exact ⟨_, rfl, hh⟩
  | eff f => rcases hb with hb | hb <;> simp only [Sm.guard, hb, hne, if_false] <;> exact ⟨ho, hh⟩

theorem wpS_append : ∀ (l l' : List It) (e : Env) (h : Hp) (K : Env → Hp → Prop), wpS P l e h (fun e h => wpS P l' e h K) → wpS P (l ++ l') e h K
  | [], _, _, _, _, hh => hh
  | (_, _) :: l, l', _, _, K, hh => stepA_mono (fun e h => wpS_append l l' e h K) hh

theorem wpS_un {g : Nat} {w : Bool} {K : Env → Hp → Prop} : ∀ (l : List It) (e : Env) (h : Hp), noW g l = true → e g = .bool w → wpS P (unG g w l) e h K → wpS P l e h K
  | [], _, _, _, _, hh => hh
  | (⟨d, op, gd⟩, obl) :: l, e, h, hn, hb, hh => by
    simp only [noW, List.all_cons, Bool.and_eq_true, bne_iff_ne, ne_eq] at hn
    have ih := fun e' h' => wpS_un (w := w) (K := K) l e' h' hn.2
    have keep : ∀ v, (e.put d v) g = .bool w := fun v => by rw [Env.put_apply _ _ hn.1]; exact hb
    simp only [unG, List.map_cons, wpS] at hh
    simp only [wpS]
    split at hh
    · rename_i hg
      subst hg
      refine stepA_un hb (stepA_mono ?_ (stepA_put hh))
      rintro e' h' ⟨h1, v, rfl⟩
      exact ih _ _ (keep v) h1
    · refine stepA_mono ?_ (stepA_put hh)
      rintro e' h' ⟨h1, v, rfl⟩
      exact ih _ _ (keep v) h1

theorem wpS_sk {g : Nat} {w : Bool} {K : Env → Hp → Prop} : ∀ (l : List It) (sk : List Nat) (e : Env) (h : Hp), noW g l = true → nodupD l = true → (∀ s ∈ sk, noW s l = true) → e g = .bool (!w) → (∀ s ∈ sk, e s = .tup []) →
    wpS P (skG g w sk l) e h K → wpS P l e h K
  | [], _, _, _, _, _, _, _, _, hh => hh
  | (⟨d, op, gd⟩, obl) :: l, sk, e, h, hn, hnd, hns, hb, hsk, hh => by
    simp only [noW, List.all_cons, Bool.and_eq_true, bne_iff_ne, ne_eq] at hn
    have hdl : ∀ t, d = some t → noW t l = true := fun t ht => by
      subst ht
      simp only [nodupD, Bool.and_eq_true] at hnd; exact hnd.1
    have hnd2 : nodupD l = true := by simp only [nodupD, Bool.and_eq_true] at hnd; exact hnd.2
    have hns1 : ∀ s ∈ sk, d ≠ some s := fun s hs => by
      have := hns s hs
      simp only [noW, List.all_cons, Bool.and_eq_true, bne_iff_ne, ne_eq] at this
      exact this.1
    have hns2 : ∀ s ∈ sk, noW s l = true := fun s hs => by
      have := hns s hs
      simp only [noW, List.all_cons, Bool.and_eq_true] at this
      exact this.2
    have keep : ∀ v, (e.put d v) g = .bool (!w) := fun v => by rw [Env.put_apply _ _ hn.1]; exact hb
    have keeps : ∀ v, ∀ s ∈ sk, (e.put d v) s = .tup [] := fun v s hs => by rw [Env.put_apply _ _ (hns1 s hs)]; exact hsk s hs
    simp only [skG] at hh
    simp only [wpS]
    split at hh
    · rename_i hc
      have hgd : ∃ g2 w2, gd = some (g2, w2) ∧ (e g2 = .bool (!w2) ∨ e g2 = .tup []) := by
        rcases hc with hc | hc
        · exact ⟨g, w, hc, .inl hb⟩
        · cases gd with
          | none => simp [inSk] at hc
          | some gw => exact ⟨gw.1, gw.2, rfl, .inr (hsk _ (by simpa [inSk] using hc))⟩
      obtain ⟨g2, w2, rfl, hb2⟩ := hgd
      simp only [wpS] at hh
      have hh' : (∀ l ∈ obl, stab P l (e.put d (.tup [])) h) ∧ wpS P (skG g w (addSk d sk) l) (e.put d (.tup [])) h K := by
        cases obl with
        | nil =>
          obtain ⟨v, h1, h2⟩ := hh
          have : v = .tup [] := (Option.some.inj h1).symm
          subst this; exact ⟨fun l hl => by simp at hl, h2⟩
        | cons y ys => exact hh
      obtain ⟨hob, hh'⟩ := hh'
      refine stepA_sk hb2 hob ?_
      refine wpS_sk l (addSk d sk) _ h hn.2 hnd2 (fun s hs => ?_) (keep _) (fun s hs => ?_) hh'
      · cases d with
        | none => exact hns2 s hs
        | some t =>
          rcases List.mem_cons.1 hs with rfl | hs
          · exact hdl _ rfl
          · exact hns2 s hs
      · cases d with
        | none => exact keeps _ s hs
        | some t =>
          rcases List.mem_cons.1 hs with rfl | hs
          · simp [Env.put, Env.upd]
          · exact keeps _ s hs
    · simp only [wpS] at hh
      refine stepA_mono ?_ (stepA_put hh)
      rintro e' h' ⟨h1, v, rfl⟩
      exact wpS_sk l sk _ h' hn.2 hnd2 hns2 (keep v) (keeps v) h1

end

def lastG (g : Nat) (w : Bool) : List It → Nat
  | [] => 0
  | x :: l => let k := lastG g w l
    if k = 0 then (if x.1.g = some (g, w) then 1 else 0) else k + 1

def sq (a b : ACode) : ACode := match a, b with
  | .skip, b => b
  | a, .skip => a
  | a, b => .seq a b

def rg (l : List It) : ACode := match l with | [] => .skip | l => .reg l

def treeR : Nat → List It → Option ACode
  | 0, _ => none
  | n + 1, l =>
    let pre := l.takeWhile fun x => x.1.g.isNone
    let rest := l.dropWhile fun x => x.1.g.isNone
    match rest with
    | [] => some (rg pre)
    | x :: _ => match x.1.g with
      | none => none
      | some (g, w) =>
        let k := lastG g w rest
        let blk := rest.take k
        if (noW g blk && nodupD blk) = true then
          match treeR n (unG g w blk), treeR n (skG g w [] blk), treeR n (rest.drop k) with
          | some a, some b, some r => some (sq (rg pre) (sq (.cond (.tm g) (if w then a else b) (if w then b else a)) r))
          | _, _, _ => none
        else none

section
variable {P : Program} {kn kr : Env → Hp → Prop} {kx : Nat → Env → Hp → Prop}

theorem wpA_sq {a b : ACode} {e : Env} {h : Hp} (hh : wpA P (sq a b) e h kn kr kx) (ha : ∀ (e h) (kn kn' : Env → Hp → Prop), (∀ e h, kn e h → kn' e h) → wpA P a e h kn kr kx → wpA P a e h kn' kr kx) : wpA P a e h (fun e h => wpA P b e h kn kr kx) kr kx := by
  unfold sq at hh
  split at hh
  · exact hh
  · exact ha _ _ _ _ (fun e h hk => hk) hh
  · exact hh

theorem rg_wp {l : List It} {e : Env} {h : Hp} (hh : wpA P (rg l) e h kn kr kx) : wpS P l e h kn := by
  unfold rg at hh
  split at hh
  · exact hh
  · exact hh

theorem treeR_ok : ∀ (n : Nat) (l : List It) (ac : ACode) (e : Env) (h : Hp) (kn : Env → Hp → Prop), treeR n l = some ac → wpA P ac e h kn kr kx → wpS P l e h kn
  | 0, _, _, _, _, _, ht, _ => by cases ht
  | n + 1, l, ac, e, h, kn, ht, hh => by
    have hsplit : l.takeWhile (fun x => x.1.g.isNone) ++ l.dropWhile (fun x => x.1.g.isNone) = l := List.takeWhile_append_dropWhile
    unfold treeR at ht
    simp only at ht
    generalize l.takeWhile (fun x => x.1.g.isNone) = pre at *
    generalize l.dropWhile (fun x => x.1.g.isNone) = rest at *
    subst hsplit
    refine wpS_append pre rest e h kn ?_
    split at ht
    · cases ht
      exact rg_wp hh
    · rename_i x tl
      split at ht <;> first | (cases ht; done) | skip
      rename_i g w hg
      split at ht <;> first | (cases ht; done) | skip
      rename_i hc
      split at ht <;> first | (cases ht; done) | skip
      rename_i a b r h1 h2 h3
      cases ht
      simp only [Bool.and_eq_true] at hc
      obtain ⟨c1, c2⟩ := hc
      have hm : ∀ (ll : List It) (e h) (kn kn' : Env → Hp → Prop), (∀ e h, kn e h → kn' e h) → wpA P (rg ll) e h kn kr kx → wpA P (rg ll) e h kn' kr kx := by
        intro ll e h kn kn' hk hw
        cases ll with
        | nil => exact hk _ _ hw
        | cons y ys => exact wpS_mono hk _ _ _ hw
      have hh1 := rg_wp (wpA_sq hh (hm pre))
      refine wpS_mono ?_ _ _ _ hh1
      intro e h hh
      -- a branch, and what lies behind it
      have hcond : ∃ bv, e g = .bool bv ∧ (bv = true → wpA P (if w then a else b) e h (fun e h => wpA P r e h kn kr kx) kr kx) ∧ (bv = false → wpA P (if w then b else a) e h (fun e h => wpA P r e h kn kr kx) kr kx) := by
        have key : wpA P (.cond (.tm g) (if w then a else b) (if w then b else a)) e h (fun e h => wpA P r e h kn kr kx) kr kx := by
          cases r <;> exact hh
        obtain ⟨bv, hb, ht, hf⟩ := key
        exact ⟨bv, hb, ht, hf⟩
      obtain ⟨bv, hb, ht, hf⟩ := hcond
      rw [← List.take_append_drop (lastG g w (x :: tl)) (x :: tl)]
      refine wpS_append _ _ e h kn ?_
      have hr : ∀ e h, wpA P r e h kn kr kx → wpS P ((x :: tl).drop (lastG g w (x :: tl))) e h kn := fun e h hw => treeR_ok n _ r e h kn h3 hw
      have goA : e g = .bool w → wpA P a e h (fun e h => wpA P r e h kn kr kx) kr kx → wpS P ((x :: tl).take (lastG g w (x :: tl))) e h fun e h => wpS P ((x :: tl).drop (lastG g w (x :: tl))) e h kn :=
        fun hb hw => wpS_un _ e h c1 hb (wpS_mono hr _ _ _ (treeR_ok n _ a e h _ h1 hw))
      have goB : e g = .bool (!w) → wpA P b e h (fun e h => wpA P r e h kn kr kx) kr kx → wpS P ((x :: tl).take (lastG g w (x :: tl))) e h fun e h => wpS P ((x :: tl).drop (lastG g w (x :: tl))) e h kn :=
        fun hb hw => wpS_sk _ [] e h c1 c2 (fun s hs => by simp at hs) hb (fun s hs => by simp at hs) (wpS_mono hr _ _ _ (treeR_ok n _ b e h _ h2 hw))
      cases bv <;> cases w
      · exact goA hb (hf rfl)
      · exact goB hb (hf rfl)
      · exact goB hb (ht rfl)
      · exact goA hb (ht rfl)

end
end Go.Hz
