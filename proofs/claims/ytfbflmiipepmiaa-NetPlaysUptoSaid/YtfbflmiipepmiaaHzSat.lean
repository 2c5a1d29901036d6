/- Owned blocks side by side: what a heap holds, as a list of parts. -/
import Derived.Test.YtfbflmiipepmiaaHzByt
set_option linter.unusedSimpArgs false
set_option linter.unusedVariables false
namespace Go.Hz

abbrev Asr := Hp → Prop
/-- The blocks of a set. -/
def res (h : Hp) (S : Nat → Bool) : Hp := fun b => if S b then h b else none
/-- Each part holds of blocks of its own; what is left over does not matter. -/
def sat : Hp → List Asr → Prop
  | _, [] => True
  | h, A :: l => ∃ S : Nat → Bool, A (res h S) ∧ sat (res h fun b => !S b) l

theorem res_res (h : Hp) (S T : Nat → Bool) : res (res h S) T = res h fun b => S b && T b := by
  funext b; unfold res; cases hS : S b <;> cases hT : T b <;> simp [hS, hT]
theorem res_congr {h : Hp} {S T : Nat → Bool} (hh : ∀ b, S b = T b) : res h S = res h T := by
  have : S = T := funext hh
  rw [this]
theorem res_some {h : Hp} {S : Nat → Bool} {b : Nat} {o : AObj} (hb : res h S b = some o) : S b = true ∧ h b = some o := by
  unfold res at hb
  split at hb
  · exact ⟨‹_›, hb⟩
  · cases hb

variable {h : Hp} {l l' F : List Asr} {A B : Asr}

theorem sat.grow {T : Nat → Bool} : ∀ {l : List Asr} {h : Hp}, sat (res h T) l → sat h l
  | [], _, _ => trivial
  | A :: l, h, ⟨S, a, b⟩ => by
    refine ⟨fun b => T b && S b, by rw [res_res] at a; exact a, ?_⟩
    refine sat.grow (T := T) ?_
    rw [res_res] at b ⊢
    rwa [show (res h fun b => (!(T b && S b)) && T b) = res h fun b => T b && !S b from res_congr fun b => by cases T b <;> cases S b <;> rfl]

theorem sat.drop (hs : sat h (A :: l)) : sat h l := by
  obtain ⟨S, a, b⟩ := hs
  exact b.grow
theorem sat.imp (hs : sat h (A :: l)) (hi : ∀ h, A h → B h) : sat h (B :: l) := by
  obtain ⟨S, a, b⟩ := hs
  exact ⟨S, hi _ a, b⟩
theorem sat.tl (hs : sat h (A :: l)) (hi : ∀ h, sat h l → sat h l') : sat h (A :: l') := by
  obtain ⟨S, a, b⟩ := hs
  exact ⟨S, a, hi _ b⟩
theorem sat.add (hs : sat h l) (ha : A Hp.emp) : sat h (A :: l) :=
  ⟨fun _ => false, by
    have : res h (fun _ => false) = Hp.emp := funext fun b => rfl
    rwa [this], by
    have : (res h fun _ => !false) = h := funext fun b => rfl
    rwa [this]⟩
theorem sat_ex {α : Type} {A : α → Asr} : sat h ((fun h => ∃ x, A x h) :: l) ↔ ∃ x, sat h (A x :: l) := by
  constructor
  · rintro ⟨S, ⟨x, a⟩, b⟩; exact ⟨x, S, a, b⟩
  · rintro ⟨x, S, a, b⟩; exact ⟨S, ⟨x, a⟩, b⟩
theorem sat_and {p : Prop} : sat h ((fun h => p ∧ A h) :: l) ↔ p ∧ sat h (A :: l) := by
  constructor
  · rintro ⟨S, ⟨x, a⟩, b⟩; exact ⟨x, S, a, b⟩
  · rintro ⟨x, S, a, b⟩; exact ⟨S, ⟨x, a⟩, b⟩
theorem sat_or : sat h ((fun h => A h ∨ B h) :: l) ↔ sat h (A :: l) ∨ sat h (B :: l) := by
  constructor
  · rintro ⟨S, a | a, b⟩
    · exact .inl ⟨S, a, b⟩
    · exact .inr ⟨S, a, b⟩
  · rintro (⟨S, a, b⟩ | ⟨S, a, b⟩)
    · exact ⟨S, .inl a, b⟩
    · exact ⟨S, .inr a, b⟩
theorem sat_pure {p : Prop} : sat h ((fun _ => p) :: l) ↔ p ∧ sat h l :=
  ⟨fun hs => ⟨hs.choose_spec.1, hs.drop⟩, fun hs => hs.2.add hs.1⟩
theorem sat.swap (hs : sat h (A :: B :: l)) : sat h (B :: A :: l) := by
  obtain ⟨S, a, T, b, c⟩ := hs
  refine ⟨fun x => !S x && T x, by rw [res_res] at b; exact b, S, ?_, ?_⟩
  · rw [res_res]
    rwa [show (res h fun x => (!(!S x && T x)) && S x) = res h S from res_congr fun x => by cases S x <;> cases T x <;> rfl]
  · rw [res_res] at c ⊢
    rwa [show (res h fun x => (!(!S x && T x)) && !S x) = res h fun x => !S x && !T x from res_congr fun x => by cases S x <;> cases T x <;> rfl]
theorem sat_sl {l1 : List Asr} : sat h ((fun h => sat h l1) :: l) ↔ sat h (l1 ++ l) := by
  induction l1 generalizing h with
  | nil => exact ⟨fun hs => hs.drop, fun hs => hs.add trivial⟩
  | cons A l1 ih =>
    constructor
    · rintro ⟨S, ⟨T, a, b⟩, c⟩
      refine ⟨fun x => S x && T x, by rw [res_res] at a; exact a, ?_⟩
      refine ih.1 ⟨S, ?_, ?_⟩
      · rw [res_res] at b ⊢
        rwa [show (res h fun x => (!(S x && T x)) && S x) = res h fun x => S x && !T x from res_congr fun x => by cases S x <;> cases T x <;> rfl]
      · rw [res_res]
        rwa [show (res h fun x => (!(S x && T x)) && !S x) = res h fun x => !S x from res_congr fun x => by cases S x <;> cases T x <;> rfl]
    · rintro ⟨T, a, b⟩
      obtain ⟨S, c, d⟩ := ih.2 b
      refine ⟨fun x => T x || S x, ⟨T, ?_, ?_⟩, ?_⟩
      · rw [res_res]
        rwa [show (res h fun x => (T x || S x) && T x) = res h T from res_congr fun x => by cases S x <;> cases T x <;> rfl]
      · refine sat.grow (T := fun x => !T x && S x) ?_
        rw [res_res] at c
        rw [res_res, res_res]
        rwa [show (res h fun x => (T x || S x) && (!T x && (!T x && S x))) = res h fun x => !T x && S x from res_congr fun x => by cases S x <;> cases T x <;> rfl]
      · rw [res_res] at d
        rwa [show (res h fun x => !(T x || S x)) = res h fun x => !T x && !S x from res_congr fun x => by cases S x <;> cases T x <;> rfl]

theorem sat.p1 {A1 : Asr} (hs : sat h (A1 :: A :: l)) : sat h (A :: A1 :: l) := hs.swap
theorem sat.p2 {A1 A2 : Asr} (hs : sat h (A1 :: A2 :: A :: l)) : sat h (A :: A1 :: A2 :: l) := (hs.tl fun _ h => h.p1).swap
theorem sat.p3 {A1 A2 A3 : Asr} (hs : sat h (A1 :: A2 :: A3 :: A :: l)) : sat h (A :: A1 :: A2 :: A3 :: l) := (hs.tl fun _ h => h.p2).swap
theorem sat.p4 {A1 A2 A3 A4 : Asr} (hs : sat h (A1 :: A2 :: A3 :: A4 :: A :: l)) : sat h (A :: A1 :: A2 :: A3 :: A4 :: l) := (hs.tl fun _ h => h.p3).swap
theorem sat.p5 {A1 A2 A3 A4 A5 : Asr} (hs : sat h (A1 :: A2 :: A3 :: A4 :: A5 :: A :: l)) : sat h (A :: A1 :: A2 :: A3 :: A4 :: A5 :: l) := (hs.tl fun _ h => h.p4).swap
theorem sat.p6 {A1 A2 A3 A4 A5 A6 : Asr} (hs : sat h (A1 :: A2 :: A3 :: A4 :: A5 :: A6 :: A :: l)) : sat h (A :: A1 :: A2 :: A3 :: A4 :: A5 :: A6 :: l) := (hs.tl fun _ h => h.p5).swap
theorem sat.p7 {A1 A2 A3 A4 A5 A6 A7 : Asr} (hs : sat h (A1 :: A2 :: A3 :: A4 :: A5 :: A6 :: A7 :: A :: l)) : sat h (A :: A1 :: A2 :: A3 :: A4 :: A5 :: A6 :: A7 :: l) := (hs.tl fun _ h => h.p6).swap
theorem sat.d1 {A1 : Asr} (hs : sat h (A :: A1 :: l)) : sat h (A :: l) := hs.tl fun _ h => h.drop
theorem sat.d2 {A1 A2 : Asr} (hs : sat h (A :: A1 :: A2 :: l)) : sat h (A :: A1 :: l) := hs.tl fun _ h => h.d1

theorem sat.d3 {A1 A2 A3 : Asr} (hs : sat h (A :: A1 :: A2 :: A3 :: l)) : sat h (A :: A1 :: A2 :: l) := hs.tl fun _ h => h.d2
theorem sat.d4 {A1 A2 A3 A4 : Asr} (hs : sat h (A :: A1 :: A2 :: A3 :: A4 :: l)) : sat h (A :: A1 :: A2 :: A3 :: l) := hs.tl fun _ h => h.d3
theorem sat.q1 {A1 A2 : Asr} (hs : sat h (A :: A1 :: A2 :: l)) : sat h (A :: A2 :: A1 :: l) := hs.tl fun _ h => h.p1
theorem sat.q2 {A1 A2 A3 : Asr} (hs : sat h (A :: A1 :: A2 :: A3 :: l)) : sat h (A :: A3 :: A1 :: A2 :: l) := hs.tl fun _ h => h.p2
theorem sat.q3 {A1 A2 A3 A4 : Asr} (hs : sat h (A :: A1 :: A2 :: A3 :: A4 :: l)) : sat h (A :: A4 :: A1 :: A2 :: A3 :: l) := hs.tl fun _ h => h.p3

/-! ### blocks -/

def pto (b : Nat) (o : AObj) : Asr := fun h => h b = some o
theorem sat.at {b : Nat} {o : AObj} (hs : sat h (pto b o :: l)) : h b = some o := by
  obtain ⟨S, a, _⟩ := hs
  exact (res_some a).2
theorem sat.set {b : Nat} {o o' : AObj} (hs : sat h (pto b o :: l)) : sat (h.set b o') (pto b o' :: l) := by
  obtain ⟨S, a, c⟩ := hs
  have hS := (res_some a).1
  refine ⟨S, ?_, ?_⟩
  · unfold pto res; rw [if_pos hS]; simp
  · have : (res (h.set b o') fun x => !S x) = res h fun x => !S x := by
      funext x
      unfold res
      by_cases hx : x = b
      · subst hx; simp [hS]
      · simp [Hp.set_ne _ _ hx]
    rwa [this]
theorem sat.new {n : Nat} {o : AObj} (hs : sat h l) (hn : h n = none) : sat (h.set n o) (pto n o :: l) := by
  refine ⟨fun x => x == n, ?_, ?_⟩
  · unfold pto res; simp
  · have : (res (h.set n o) fun x => !(x == n)) = h := by
      funext x
      unfold res
      by_cases hx : x = n
      · subst hx; simp [hn]
      · simp [hx, Hp.set_ne]
    rwa [this]
theorem sat.del {b : Nat} {o : AObj} (hs : sat h (pto b o :: l)) : sat (h.del b) l := by
  obtain ⟨S, a, c⟩ := hs
  have hS := (res_some a).1
  refine sat.grow (T := fun x => !S x) ?_
  have : (res (h.del b) fun x => !S x) = res h fun x => !S x := by
    funext x
    unfold res
    by_cases hx : x = b
    · subst hx; simp [hS]
    · simp [Hp.del_ne _ hx]
  rwa [this]
theorem sat.ne {a b : Nat} {o o' : AObj} (hs : sat h (pto a o :: pto b o' :: l)) : a ≠ b := by
  obtain ⟨S, x, T, y, _⟩ := hs
  have h1 := (res_some x).1
  have h2 := (res_some (res_some y).2).1
  intro hh; subst hh; simp [h1] at h2

/-- What reads the same in more memory. -/
def Mono (A : Asr) : Prop := ∀ h S, A (res h S) → A h
theorem sat.hd (hs : sat h (A :: l)) (hm : Mono B) (hi : ∀ h, A h → B h) : B h := by
  obtain ⟨S, a, _⟩ := hs
  exact hm _ _ (hi _ a)
theorem srcA_mono {s : Nat} {v : AV} {es : List (List AV)} {S : Nat → Bool} (e : srcA s (res h S) v = some es) : srcA s h v = some es := by
  unfold srcA at *
  split at e <;> first | exact e | skip
  split at e <;> first | cases e | skip
  rename_i hb
  rw [(res_some hb).2]
  exact e
theorem Els.mono {s : Nat} {v : AV} {es : List (List AV)} : Mono fun h => Els h s v es := fun h S e => ⟨srcA_mono e.1, e.2⟩
theorem Els.lst {s : Nat} {es : List (List AV)} (hs : ∀ e ∈ es, e.length = s) : Els h s (.lst es) es := ⟨by simp only [srcA]; rw [if_pos hs], by simp⟩

theorem ia_lst {α : Type} {f : α → List AV} {l : List α} {s i : Nat} {k : IntKind} (hi : i < l.length) (hs : ∀ x, (f x).length = s) : iaA s (.lst (l.map f)) (.int k (i : Int)) = some (.ro (f l[i])) := by
  simp [iaA, hi, hs]

/-! ### slices of one's own -/

def Ow (s : Nat) (v : AV) (es : List (List AV)) : Asr := fun h =>
  (v = .nils ∧ es = []) ∨ ∃ b cap, v = .arr b s 0 es.length cap ∧ h b = some (.row s es cap) ∧ es.length ≤ cap

theorem ow_nil {s : Nat} : Ow s .nils [] h := .inl ⟨rfl, rfl⟩
theorem Ow.els {s : Nat} {v : AV} {es : List (List AV)} (o : Ow s v es h) : Els h s v es := by
  rcases o with ⟨rfl, rfl⟩ | ⟨b, cap, rfl, hb, hc⟩
  · exact ⟨rfl, by simp⟩
  · exact ⟨by simp [srcA, hb], by simp⟩
theorem sat.els {s : Nat} {v : AV} {es : List (List AV)} (hs : sat h (Ow s v es :: l)) : Els h s v es := hs.hd Els.mono fun _ o => o.els
theorem sat.bts {v : AV} {bs : List UInt8} (hs : sat h (Ow 1 v (bs.map eb) :: l)) : Bts h v bs := hs.els
theorem sat.arr {s b len cap : Nat} {es : List (List AV)} (hs : sat h (Ow s (.arr b s 0 len cap) es :: l)) : sat h (pto b (.row s es cap) :: l) ∧ len = es.length ∧ es.length ≤ cap := by
  obtain ⟨S, ⟨h1, _⟩ | ⟨b', cap', h1, h2, h3⟩, c⟩ := hs
  · cases h1
  · cases h1; exact ⟨⟨S, h2, c⟩, rfl, h3⟩
theorem sat.ow {s b cap : Nat} {es : List (List AV)} (hs : sat h (pto b (.row s es cap) :: l)) (hc : es.length ≤ cap) : sat h (Ow s (.arr b s 0 es.length cap) es :: l) :=
  hs.imp fun _ hb => .inr ⟨b, cap, rfl, hb, hc⟩
theorem sat.cases {s : Nat} {v : AV} {es : List (List AV)} (hs : sat h (Ow s v es :: l)) :
    (v = .nils ∧ es = [] ∧ sat h l) ∨ ∃ b cap, v = .arr b s 0 es.length cap ∧ sat h (pto b (.row s es cap) :: l) ∧ es.length ≤ cap := by
  obtain ⟨S, ⟨h1, h2⟩ | ⟨b', cap', h1, h2, h3⟩, c⟩ := hs
  · exact .inl ⟨h1, h2, c.grow⟩
  · exact .inr ⟨b', cap', h1, ⟨S, h2, c⟩, h3⟩

theorem wpA_imp {P : Program} : ∀ (c : ACode) {e : Env} {h : Hp} {kn kn' kr kr' : Env → Hp → Prop} {kx kx' : Nat → Env → Hp → Prop}, wpA P c e h kn kr kx → (∀ e h, kn e h → kn' e h) → (∀ e h, kr e h → kr' e h) → (∀ i e h, kx i e h → kx' i e h) → wpA P c e h kn' kr' kx'
  | .skip, _, _, _, _, _, _, _, _, hw, h1, _, _ => h1 _ _ hw
  | .reg l, _, _, _, _, _, _, _, _, hw, h1, _, _ => wpS_mono h1 l _ _ hw
  | .seq a b, _, _, _, _, _, _, _, _, hw, h1, h2, h3 => wpA_imp a hw (fun e h hb => wpA_imp b hb h1 h2 h3) h2 h3
  | .cond c t f, _, _, _, _, _, _, _, _, ⟨b, hb, ht, hf⟩, h1, h2, h3 => ⟨b, hb, fun q => wpA_imp t (ht q) h1 h2 h3, fun q => wpA_imp f (hf q) h1 h2 h3⟩
  | .block id b, _, _, kn, kn', _, _, kx, kx', hw, h1, h2, h3 => wpA_imp b hw h1 h2 fun i e h hx => by
    by_cases hi : i = id
    · rw [if_pos hi] at hx ⊢; exact h1 _ _ hx
    · rw [if_neg hi] at hx ⊢; exact h3 _ _ _ hx
  | .loop b, _, _, _, _, _, _, _, _, ⟨I, μ, h0, hr⟩, h1, h2, h3 => ⟨I, μ, h0, fun e h hi => wpA_imp b (hr e h hi) (fun _ _ x => x) h2 h3⟩
  | .exit id, _, _, _, _, _, _, _, _, hw, _, _, h3 => h3 _ _ _ hw
  | .ret, _, _, _, _, _, _, _, _, hw, _, h2, _ => h2 _ _ hw
theorem run_imp {P : Program} {b : ACode} {st : List Fr} {e : Env} {k : Kt} {J J' : Env → Hp → Prop} (hw : run P b (.lp J :: st) e h k) (hi : ∀ e h, J e h → J' e h) : run P b (.lp J' :: st) e h k :=
  wpA_imp b hw hi (fun _ _ x => x) (fun _ _ _ x => x)

/-- A new block. -/
theorem new_sat {P : Program} {st : List Fr} {e : Env} {k : Kt} {d : Option Nat} {r : List (AItem × List AItem)} {o : AObj} {g : Nat → AV} (hs : sat h F)
    (hk : ∀ n, h n = none → sat (h.set n o) (pto n o :: F) → runS P r st (e.put d (g n)) (h.set n o) k) : newR P o g d r st e h k := fun n hn => hk n hn (hs.new hn)

theorem least {p : Nat → Prop} (h : ∃ n, p n) : ∃ n, p n ∧ ∀ m, p m → n ≤ m := by
  obtain ⟨n, hn⟩ := h
  induction n using Nat.strongRecOn with
  | _ n ih =>
    by_cases hm : ∃ m, m < n ∧ p m
    · obtain ⟨m, h1, h2⟩ := hm
      exact ih m h1 h2
    · exact ⟨n, hn, fun m hm' => Nat.le_of_not_lt fun hlt => hm ⟨m, hlt, hm'⟩⟩
/-- A loop with a number that falls. -/
theorem run_loopN {P : Program} {b : ACode} {st : List Fr} {e : Env} {k : Kt} (I : Nat → Env → Hp → Prop) (n : Nat) (h0 : I n e h)
    (hr : ∀ n e h, I n e h → run P b (.lp (fun e' h' => ∃ m, m < n ∧ I m e' h') :: st) e h k) : run P (.loop b) st e h k := by
  classical
  refine run_loop (fun e h => ∃ n, I n e h) (fun e h => if hh : ∃ n, I n e h then Classical.choose (least hh) else 0) ⟨n, h0⟩ fun e h hi => ?_
  have hn := (Classical.choose_spec (least hi)).1
  have e0 : (if hh : ∃ n, I n e h then Classical.choose (least hh) else 0) = Classical.choose (least hi) := dif_pos hi
  rw [e0]
  refine run_imp (hr _ e h hn) ?_
  rintro e' h' ⟨m, hm, hi'⟩
  have hx : ∃ n, I n e' h' := ⟨m, hi'⟩
  refine ⟨hx, ?_⟩
  rw [dif_pos hx]
  exact Nat.lt_of_le_of_lt ((Classical.choose_spec (least hx)).2 m hi') hm
/-- A new block, and what the heap holds then. -/
theorem new_opq {P : Program} {st : List Fr} {e : Env} {k : Kt} {d : Option Nat} {r : List (AItem × List AItem)} {o : AObj} {g : Nat → AV} (hs : sat h F)
    (hk : ∀ n h', sat h' (pto n o :: F) → runS P r st (e.put d (g n)) h' k) : newR P o g d r st e h k := fun n hn => hk n _ (hs.new hn)
/-- A loop that counts up. -/
theorem run_up {P : Program} {b : ACode} {st : List Fr} {e : Env} {k : Kt} {N : Nat} (I : Nat → Env → Hp → Prop) (h0 : I 0 e h)
    (hr : ∀ i e h, i ≤ N → I i e h → run P b (.lp (fun e' h' => i < N ∧ I (i + 1) e' h') :: st) e h k) : run P (.loop b) st e h k := by
  refine run_loopN (fun n e h => ∃ i, i ≤ N ∧ n = N - i ∧ I i e h) N ⟨0, Nat.zero_le _, rfl, h0⟩ ?_
  rintro n e h ⟨i, hi, rfl, hI⟩
  refine run_imp (hr i e h hi hI) ?_
  rintro e' h' ⟨hlt, hI'⟩
  exact ⟨N - (i + 1), by omega, i + 1, by omega, rfl, hI'⟩

/-- append to a slice of one's own. -/
theorem app_sat {P : Program} {st : List Fr} {e : Env} {k : Kt} {d : Option Nat} {r : List (AItem × List AItem)} {s bytes : Nat} {v y : AV} {es ys : List (List AV)}
    (hs : sat h (Ow s v es :: F)) (hy : srcA s h y = some ys) (ha : AtomsL ys)
    (hb : (es.length + ys.length) * bytes ≤ 70368744177664) (hk : ∀ v' h', sat h' (Ow s v' (es ++ ys) :: F) → v'.cells = [v'] → v'.isAtom = true → runS P r st (e.put d v') h' k) :
    effR P (appE s bytes v y h) [] d r st e k := by
  have fin : ∀ v' h', sat h' (Ow s v' (es ++ ys) :: F) → obls P [] (e.put d v') h' ∧ runS P r st (e.put d v') h' k := fun v' h' g =>
    ⟨fun _ hm => by simp at hm, hk v' h' g g.els.cells g.els.atom⟩
  refine ⟨ys, hy, ha, ?_⟩
  rcases hs.cases with ⟨rfl, rfl, g⟩ | ⟨b, cap, rfl, g, hle⟩
  · refine ⟨fun h0 => fin _ _ (g.add (.inl ⟨rfl, by simp [h0]⟩)), fun h0 => ⟨by simpa using hb, fun n c hn hc => fin _ _ ?_⟩⟩
    simpa using (g.new (o := .row s ys c) hn).ow hc
  · have hbb := g.at
    simp only [hbb]
    refine ⟨trivial, trivial, trivial, Nat.le_refl _, trivial, hb, fun n c hn hc _ => fin _ _ ?_⟩
    rw [List.take_length]
    have := ((g.del).new (o := .row s (es ++ ys) c) hn).ow (by simpa using hc)
    simpa using this

theorem atoms_one {x : List AV} (hx : x.all AV.isAtom = true) : AtomsL [x] := by
  intro e he v hv
  simp only [List.mem_cons, List.not_mem_nil, or_false] at he
  subst he
  exact List.all_eq_true.1 hx v hv
theorem src_one {s b n c : Nat} {x : List AV} (hn : h b = some (.row s [x] n)) : srcA s h (.arr b s 0 1 c) = some [x] := by simp [srcA, hn]

theorem ow_slc {s : Nat} {v : AV} {es : List (List AV)} {k k' : IntKind} {lo hi : Nat} (h1 : lo ≤ hi) (h2 : hi ≤ es.length) (hs : sat h (Ow s v es :: F)) :
    ∃ x, slcL s v (some (.int k lo)) (some (.int k' hi)) = some x ∧ (∀ h (G : List Asr), sat h (Ow s v es :: G) → Els h s x ((es.drop lo).take (hi - lo))) ∧ x.cells = [x] := by
  rcases hs.cases with ⟨rfl, rfl, _⟩ | ⟨b, cap, rfl, g, hc⟩
  · have : hi = 0 := by simpa using h2
    subst this
    have : lo = 0 := by omega
    subst this
    exact ⟨.nils, rfl, fun _ _ _ => ⟨by simp [srcA], by simp⟩, rfl⟩
  · refine ⟨.arr b s (0 + lo) (hi - lo) (cap - lo), ?_, fun h G hs => ⟨?_, by simp⟩, rfl⟩
    · simp only [slcL, boundA]
      simp
      omega
    · have hb := (hs.arr).1.at
      simp only [srcA, hb]
      rw [if_pos ⟨trivial, trivial, by omega⟩]
      simp

/-- A slice that ends within its room. -/
def CapOK (v : AV) : Prop := ∀ q s o l c, v = .arr q s o l c → l ≤ c
theorem capOK_lst {es : List (List AV)} : CapOK (.lst es) := fun _ _ _ _ _ h => by cases h
theorem sat.cap {s : Nat} {v : AV} {es : List (List AV)} (hs : sat h (Ow s v es :: l)) : CapOK v := by
  rcases hs.cases with ⟨rfl, _⟩ | ⟨b, cap, rfl, _, hc⟩
  · intro _ _ _ _ _ h; cases h
  · intro _ _ _ _ _ h; cases h; exact hc
theorem capOK_slc {s : Nat} {v x : AV} {lo hi : Option AV} (hc : CapOK v) (hx : slcL s v lo hi = some x) : CapOK x := by
  unfold slcL at hx
  split at hx <;> first | (cases hx; done) | skip
  all_goals
    split at hx <;> first | (cases hx; done) | skip
    split at hx <;> first | (cases hx; done) | skip
    cases hx
    intro q s o l c h
    cases h
    try omega
/-- A part of a slice that is read through what the heap holds. -/
theorem slc_E {A : Hp → Prop} {s : Nat} {v : AV} {es : List (List AV)} (h0 : A h) (hE : ∀ h, A h → Els h s v es) (hc : CapOK v) (k k' : IntKind) {lo hi : Nat} (h1 : lo ≤ hi) (h2 : hi ≤ es.length) :
    ∃ x, slcL s v (some (.int k lo)) (some (.int k' hi)) = some x ∧ (∀ h, A h → Els h s x ((es.drop lo).take (hi - lo))) ∧ CapOK x := by
  obtain ⟨x, a, _⟩ := Els.slc (k := k) (k' := k') (hE h h0) h1 h2 hc
  refine ⟨x, a, fun h' h0' => ?_, capOK_slc hc a⟩
  obtain ⟨x', a', b', _⟩ := Els.slc (k := k) (k' := k') (hE h' h0') h1 h2 hc
  rw [a] at a'
  cases a'
  exact b'
theorem slc_lo {s : Nat} {v : AV} {hi : Option AV} : slcL s v none hi = slcL s v (some (.int .i64 0)) hi := by
  unfold slcL
  split <;> rfl
theorem slc_hi {s n : Nat} {v : AV} {lo : Option AV} (hl : lenL v = some (.int .i64 n)) : slcL s v lo none = slcL s v lo (some (.int .i64 n)) := by
  unfold lenL at hl
  unfold slcL
  split <;> simp at hl <;> first | (have h2 := Int.ofNat_inj.1 hl; subst h2; simp [boundA]) | (have h2 := Int.ofNat_inj.1 hl; subst h2; rfl) | (subst hl; rfl) | rfl | skip

/-- A function value that is called. -/
theorem callv_use {P : Program} {st : List Fr} {e : Env} {k : Kt} {d : Option Nat} {r : List (AItem × List AItem)} {f : Nat} {caps args : List AV} {Q : AV → Hp → Prop} (hf : okFn P f = true) (c : Triple P f (args ++ caps) h Q)
    (hk : ∀ v h', Q v h' → runS P r st (e.put d v) h' k) : effR P (callvE P (.fn f caps) args h) [] d r st e k :=
  ⟨okFn_ok hf, c.mono fun v h' q => ⟨fun _ hm => by simp at hm, hk v h' q⟩⟩
/-- The bytes of a string, only read from then on. -/
theorem strb_ro {P : Program} {st : List Fr} {e : Env} {k : Kt} {d : Option Nat} {r : List (AItem × List AItem)} {l : List UInt8} (hk : runS P r st (e.put d (.lst (l.map eb))) h k) : effR P (strbE (.str l) h) [] d r st e k :=
  .inr ⟨l, rfl, fun _ hm => by simp at hm, hk⟩

/-! ### what is not written again -/

theorem Triple.view {P : Program} {f : Nat} {args : List AV} {post : AV → Hp → Prop} (t : Triple P f args h fun r h' => ∃ r' h'', GV r h' r' h'' ∧ post r' h'') : Triple P f args h post :=
  fun fz w cargs r a => (t fz w cargs r a).mono fun _ w' ⟨cv, x, h', fz', e1, e2, e3, e4, r', h'', g, p⟩ => by
    obtain ⟨f2, g1, g2, g3⟩ := g fz' w' cv e2 e3
    exact ⟨cv, r', h'', f2, e1, g1, g2, e4.trans g3, p⟩

/-- The slice that a call answers, as one that is only read. -/
theorem sat.view {s : Nat} {v : AV} {es : List (List AV)} (hs : sat h (Ow s v es :: l)) : ∃ h', GV v h (.lst es) h' ∧ sat h' l := by
  rcases hs.cases with ⟨rfl, rfl, g⟩ | ⟨b, cap, rfl, g, hle⟩
  · exact ⟨h, GV.nils, g⟩
  · exact ⟨_, GV.arr g.at rfl hle, g.del⟩
/-- A call that answers a slice of one's own answers one that is only read. -/
theorem Triple.lst {P : Program} {f : Nat} {args : List AV} (s : Nat) {post : AV → Hp → Prop}
    (t : Triple P f args h fun r h' => ∃ es F, sat h' (Ow s r es :: F) ∧ ∀ h'', sat h'' F → post (.lst es) h'') : Triple P f args h post :=
  Triple.view (t.mono fun r h' ⟨es, F, hs, hp⟩ => by
    obtain ⟨h'', g, hs'⟩ := hs.view
    exact ⟨_, h'', g, hp _ hs'⟩)
/-- A call that answers a tuple whose first is a slice of one's own. -/
theorem Triple.lst1 {P : Program} {f : Nat} {args : List AV} (s : Nat) {post : AV → Hp → Prop}
    (t : Triple P f args h fun r h' => ∃ v rest es F, r = .tup (v :: rest) ∧ sat h' (Ow s v es :: F) ∧ ∀ h'', sat h'' F → post (.tup (.lst es :: rest)) h'') : Triple P f args h post :=
  Triple.view (t.mono fun r h' ⟨v, rest, es, F, hr, hs, hp⟩ => by
    obtain ⟨h'', g, hs'⟩ := hs.view
    subst hr
    exact ⟨_, h'', GV.tup [] rest g, hp _ hs'⟩)

/-! ### what says less of an argument -/

/-- Each value of the one is a value of the other. -/
def VI (a b : AV) : Prop := ∀ (fz : Nat → Prop) (H : Array Obj) (cv : Value), VR fz H a cv → VR fz H b cv
def VIs : List AV → List AV → Prop
  | [], [] => True
  | a :: as, b :: bs => VI a b ∧ VIs as bs
  | _, _ => False
theorem VI.refl (a : AV) : VI a a := fun _ _ _ h => h
theorem VI.nils : VI .nils (.lst []) := fun fz H cv h => by cases h; exact .lst0 none 0 (fun _ => rfl)
theorem VIs.get : ∀ {as bs : List AV}, VIs as bs → as.length = bs.length ∧ ∀ i (h1 : i < as.length) (h2 : i < bs.length), VI as[i] bs[i]
  | [], [], _ => ⟨rfl, fun i h => by simp at h⟩
  | [], _ :: _, h => h.elim
  | _ :: _, [], h => h.elim
  | a :: as, b :: bs, h => by
    obtain ⟨h1, h2⟩ := VIs.get h.2
    refine ⟨by simp [h1], fun i a b => ?_⟩
    cases i with
    | zero => exact h.1
    | succ i => exact h2 i (by simpa using a) (by simpa using b)
theorem VI.agg {as bs : List AV} (h : VIs as bs) : VI (.agg as) (.agg bs) := fun fz H cv hv => by
  obtain ⟨h1, h2⟩ := h.get
  cases hv with
  | agg cs vs hl hvs => exact .agg bs vs (by rw [← h1, hl]) fun i a b => h2 i (by omega) a fz H _ (hvs i (by omega) b)
theorem Triple.vi {P : Program} {f : Nat} {as bs : List AV} {post : AV → Hp → Prop} (hv : VIs as bs) (t : Triple P f bs h post) : Triple P f as h post := fun fz w cargs r a => by
  obtain ⟨h1, h2⟩ := hv.get
  exact t fz w cargs r ⟨by rw [← h1]; exact a.1, fun i x y => h2 i (by omega) x fz _ _ (a.2 i (by omega) y)⟩
end Go.Hz
