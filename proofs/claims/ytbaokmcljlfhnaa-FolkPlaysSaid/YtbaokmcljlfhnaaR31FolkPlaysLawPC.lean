/- Owned blocks side by side: what a heap holds, as a list of parts. -/
import Derived.Test.YtbaokmcljlfhnaaR31FolkPlaysLawPB
import Derived.ProofKit
import Derived.WalkKit
import Derived.OpenShut
import Derived.ShutString
import Derived.ChangeOld
import Derived.Carry
import Derived.RowKit
import Derived.Handed
import Derived.Sort.AssemblyPlain
set_option linter.unusedSimpArgs false
set_option linter.unusedVariables false
namespace Go.Hz

abbrev Asr := Hp → Prop
/-- The blocks of a set. -/
def res (h : Hp) (S : Nat → Bool) : Hp := fun b => if S b then h b else none
/-- Each part holds of blocks of its own; what is left over does not matter. -/
def sat : Hp → List Asr → Prop
  | _, [] => True
  | h, A :: l => ∃ S : Nat → Bool, A (res h S) ∧ sat (res h fun b => !S b) l

theorem res_res (h : Hp) (S T : Nat → Bool) : res (res h S) T = res h fun b => S b && T b := by
  funext b; unfold res; cases hS : S b <;> cases hT : T b <;> simp [hS, hT]
theorem res_congr {h : Hp} {S T : Nat → Bool} (hh : ∀ b, S b = T b) : res h S = res h T := by
  have : S = T := funext hh
  rw [this]
theorem res_some {h : Hp} {S : Nat → Bool} {b : Nat} {o : AObj} (hb : res h S b = some o) : S b = true ∧ h b = some o := by
  unfold res at hb
  split at hb
  · exact ⟨‹_›, hb⟩
  · cases hb

variable {h : Hp} {l l' F : List Asr} {A B : Asr}

theorem sat.grow {T : Nat → Bool} : ∀ {l : List Asr} {h : Hp}, sat (res h T) l → sat h l
  | [], _, _ => trivial
  | A :: l, h, ⟨S, a, b⟩ => by
    refine ⟨fun b => T b && S b, by rw [res_res] at a; exact a, ?_⟩
    refine sat.grow (T := T) ?_
    rw [res_res] at b ⊢
    rwa [show (res h fun b => (!(T b && S b)) && T b) = res h fun b => T b && !S b from res_congr fun b => by cases T b <;> cases S b <;> rfl]

theorem sat.drop (hs : sat h (A :: l)) : sat h l := by
  obtain ⟨S, a, b⟩ := hs
  exact b.grow
theorem sat.imp (hs : sat h (A :: l)) (hi : ∀ h, A h → B h) : sat h (B :: l) := by
  obtain ⟨S, a, b⟩ := hs
  exact ⟨S, hi _ a, b⟩
theorem sat.tl (hs : sat h (A :: l)) (hi : ∀ h, sat h l → sat h l') : sat h (A :: l') := by
  obtain ⟨S, a, b⟩ := hs
  exact ⟨S, a, hi _ b⟩
theorem sat.add (hs : sat h l) (ha : A Hp.emp) : sat h (A :: l) :=
  ⟨fun _ => false, by
    have : res h (fun _ => false) = Hp.emp := funext fun b => rfl
    rwa [this], by
    have : (res h fun _ => !false) = h := funext fun b => rfl
    rwa [this]⟩
theorem sat_ex {α : Type} {A : α → Asr} : sat h ((fun h => ∃ x, A x h) :: l) ↔ ∃ x, sat h (A x :: l) := by
  constructor
  · rintro ⟨S, ⟨x, a⟩, b⟩; exact ⟨x, S, a, b⟩
  · rintro ⟨x, S, a, b⟩; exact ⟨S, ⟨x, a⟩, b⟩
theorem sat_and {p : Prop} : sat h ((fun h => p ∧ A h) :: l) ↔ p ∧ sat h (A :: l) := by
  constructor
  · rintro ⟨S, ⟨x, a⟩, b⟩; exact ⟨x, S, a, b⟩
  · rintro ⟨x, S, a, b⟩; exact ⟨S, ⟨x, a⟩, b⟩
theorem sat_or : sat h ((fun h => A h ∨ B h) :: l) ↔ sat h (A :: l) ∨ sat h (B :: l) := by
  constructor
  · rintro ⟨S, a | a, b⟩
    · exact .inl ⟨S, a, b⟩
    · exact .inr ⟨S, a, b⟩
  · rintro (⟨S, a, b⟩ | ⟨S, a, b⟩)
    · exact ⟨S, .inl a, b⟩
    · exact ⟨S, .inr a, b⟩
theorem sat_pure {p : Prop} : sat h ((fun _ => p) :: l) ↔ p ∧ sat h l :=
  ⟨fun hs => ⟨hs.choose_spec.1, hs.drop⟩, fun hs => hs.2.add hs.1⟩
theorem sat.swap (hs : sat h (A :: B :: l)) : sat h (B :: A :: l) := by
  obtain ⟨S, a, T, b, c⟩ := hs
  refine ⟨fun x => !S x && T x, by rw [res_res] at b; exact b, S, ?_, ?_⟩
  · rw [res_res]
    rwa [show (res h fun x => (!(!S x && T x)) && S x) = res h S from res_congr fun x => by cases S x <;> cases T x <;> rfl]
  · rw [res_res] at c ⊢
    rwa [show (res h fun x => (!(!S x && T x)) && !S x) = res h fun x => !S x && !T x from res_congr fun x => by cases S x <;> cases T x <;> rfl]
theorem sat_sl {l1 : List Asr} : sat h ((fun h => sat h l1) :: l) ↔ sat h (l1 ++ l) := by
  induction l1 generalizing h with
  | nil => exact ⟨fun hs => hs.drop, fun hs => hs.add trivial⟩
  | cons A l1 ih =>
    constructor
    · rintro ⟨S, ⟨T, a, b⟩, c⟩
      refine ⟨fun x => S x && T x, by rw [res_res] at a; exact a, ?_⟩
      refine ih.1 ⟨S, ?_, ?_⟩
      · rw [res_res] at b ⊢
        rwa [show (res h fun x => (!(S x && T x)) && S x) = res h fun x => S x && !T x from res_congr fun x => by cases S x <;> cases T x <;> rfl]
      · rw [res_res]
        rwa [show (res h fun x => (!(S x && T x)) && !S x) = res h fun x => !S x from res_congr fun x => by cases S x <;> cases T x <;> rfl]
    · rintro ⟨T, a, b⟩
      obtain ⟨S, c, d⟩ := ih.2 b
      refine ⟨fun x => T x || S x, ⟨T, ?_, ?_⟩, ?_⟩
      · rw [res_res]
        rwa [show (res h fun x => (T x || S x) && T x) = res h T from res_congr fun x => by cases S x <;> cases T x <;> rfl]
      · refine sat.grow (T := fun x => !T x && S x) ?_
        rw [res_res] at c
        rw [res_res, res_res]
        rwa [show (res h fun x => (T x || S x) && (!T x && (!T x && S x))) = res h fun x => !T x && S x from res_congr fun x => by cases S x <;> cases T x <;> rfl]
      · rw [res_res] at d
        rwa [show (res h fun x => !(T x || S x)) = res h fun x => !T x && !S x from res_congr fun x => by cases S x <;> cases T x <;> rfl]

theorem sat.p1 {A1 : Asr} (hs : sat h (A1 :: A :: l)) : sat h (A :: A1 :: l) := hs.swap
theorem sat.p2 {A1 A2 : Asr} (hs : sat h (A1 :: A2 :: A :: l)) : sat h (A :: A1 :: A2 :: l) := (hs.tl fun _ h => h.p1).swap
theorem sat.p3 {A1 A2 A3 : Asr} (hs : sat h (A1 :: A2 :: A3 :: A :: l)) : sat h (A :: A1 :: A2 :: A3 :: l) := (hs.tl fun _ h => h.p2).swap
theorem sat.p4 {A1 A2 A3 A4 : Asr} (hs : sat h (A1 :: A2 :: A3 :: A4 :: A :: l)) : sat h (A :: A1 :: A2 :: A3 :: A4 :: l) := (hs.tl fun _ h => h.p3).swap
theorem sat.p5 {A1 A2 A3 A4 A5 : Asr} (hs : sat h (A1 :: A2 :: A3 :: A4 :: A5 :: A :: l)) : sat h (A :: A1 :: A2 :: A3 :: A4 :: A5 :: l) := (hs.tl fun _ h => h.p4).swap
theorem sat.p6 {A1 A2 A3 A4 A5 A6 : Asr} (hs : sat h (A1 :: A2 :: A3 :: A4 :: A5 :: A6 :: A :: l)) : sat h (A :: A1 :: A2 :: A3 :: A4 :: A5 :: A6 :: l) := (hs.tl fun _ h => h.p5).swap
theorem sat.p7 {A1 A2 A3 A4 A5 A6 A7 : Asr} (hs : sat h (A1 :: A2 :: A3 :: A4 :: A5 :: A6 :: A7 :: A :: l)) : sat h (A :: A1 :: A2 :: A3 :: A4 :: A5 :: A6 :: A7 :: l) := (hs.tl fun _ h => h.p6).swap
theorem sat.d1 {A1 : Asr} (hs : sat h (A :: A1 :: l)) : sat h (A :: l) := hs.tl fun _ h => h.drop
theorem sat.d2 {A1 A2 : Asr} (hs : sat h (A :: A1 :: A2 :: l)) : sat h (A :: A1 :: l) := hs.tl fun _ h => h.d1

theorem sat.d3 {A1 A2 A3 : Asr} (hs : sat h (A :: A1 :: A2 :: A3 :: l)) : sat h (A :: A1 :: A2 :: l) := hs.tl fun _ h => h.d2
theorem sat.d4 {A1 A2 A3 A4 : Asr} (hs : sat h (A :: A1 :: A2 :: A3 :: A4 :: l)) : sat h (A :: A1 :: A2 :: A3 :: l) := hs.tl fun _ h => h.d3
theorem sat.q1 {A1 A2 : Asr} (hs : sat h (A :: A1 :: A2 :: l)) : sat h (A :: A2 :: A1 :: l) := hs.tl fun _ h => h.p1
theorem sat.q2 {A1 A2 A3 : Asr} (hs : sat h (A :: A1 :: A2 :: A3 :: l)) : sat h (A :: A3 :: A1 :: A2 :: l) := hs.tl fun _ h => h.p2
theorem sat.q3 {A1 A2 A3 A4 : Asr} (hs : sat h (A :: A1 :: A2 :: A3 :: A4 :: l)) : sat h (A :: A4 :: A1 :: A2 :: A3 :: l) := hs.tl fun _ h => h.p3

/-! ### blocks -/

def pto (b : Nat) (o : AObj) : Asr := fun h => h b = some o
theorem sat.at {b : Nat} {o : AObj} (hs : sat h (pto b o :: l)) : h b = some o := by
  obtain ⟨S, a, _⟩ := hs
  exact (res_some a).2
theorem sat.set {b : Nat} {o o' : AObj} (hs : sat h (pto b o :: l)) : sat (h.set b o') (pto b o' :: l) := by
  obtain ⟨S, a, c⟩ := hs
  have hS := (res_some a).1
  refine ⟨S, ?_, ?_⟩
  · unfold pto res; rw [if_pos hS]; simp
  · have : (res (h.set b o') fun x => !S x) = res h fun x => !S x := by
      funext x
      unfold res
      by_cases hx : x = b
      · subst hx; simp [hS]
      · simp [Hp.set_ne _ _ hx]
    rwa [this]
theorem sat.new {n : Nat} {o : AObj} (hs : sat h l) (hn : h n = none) : sat (h.set n o) (pto n o :: l) := by
  refine ⟨fun x => x == n, ?_, ?_⟩
  · unfold pto res; simp
  · have : (res (h.set n o) fun x => !(x == n)) = h := by
      funext x
      unfold res
      by_cases hx : x = n
      · subst hx; simp [hn]
      · simp [hx, Hp.set_ne]
    rwa [this]
theorem sat.del {b : Nat} {o : AObj} (hs : sat h (pto b o :: l)) : sat (h.del b) l := by
  obtain ⟨S, a, c⟩ := hs
  have hS := (res_some a).1
  refine sat.grow (T := fun x => !S x) ?_
  have : (res (h.del b) fun x => !S x) = res h fun x => !S x := by
    funext x
    unfold res
    by_cases hx : x = b
    · subst hx; simp [hS]
    · simp [Hp.del_ne _ hx]
  rwa [this]
theorem sat.ne {a b : Nat} {o o' : AObj} (hs : sat h (pto a o :: pto b o' :: l)) : a ≠ b := by
  obtain ⟨S, x, T, y, _⟩ := hs
  have h1 := (res_some x).1
  have h2 := (res_some (res_some y).2).1
  intro hh; subst hh; simp [h1] at h2

/-- What reads the same in more memory. -/
def Mono (A : Asr) : Prop := ∀ h S, A (res h S) → A h
theorem sat.hd (hs : sat h (A :: l)) (hm : Mono B) (hi : ∀ h, A h → B h) : B h := by
  obtain ⟨S, a, _⟩ := hs
  exact hm _ _ (hi _ a)
theorem srcA_mono {s : Nat} {v : AV} {es : List (List AV)} {S : Nat → Bool} (e : srcA s (res h S) v = some es) : srcA s h v = some es := by
  unfold srcA at *
  split at e <;> first | exact e | skip
  split at e <;> first | cases e | skip
  rename_i hb
  rw [(res_some hb).2]
  exact e
theorem Els.mono {s : Nat} {v : AV} {es : List (List AV)} : Mono fun h => Els h s v es := fun h S e => ⟨srcA_mono e.1, e.2⟩
theorem Els.lst {s : Nat} {es : List (List AV)} (hs : ∀ e ∈ es, e.length = s) : Els h s (.lst es) es := ⟨by simp only [srcA]; rw [if_pos hs], by simp⟩

theorem ia_lst {α : Type} {f : α → List AV} {l : List α} {s i : Nat} {k : IntKind} (hi : i < l.length) (hs : ∀ x, (f x).length = s) : iaA s (.lst (l.map f)) (.int k (i : Int)) = some (.ro (f l[i])) := by
  simp [iaA, hi, hs]

/-! ### slices of one's own -/

def Ow (s : Nat) (v : AV) (es : List (List AV)) : Asr := fun h =>
  (v = .nils ∧ es = []) ∨ ∃ b cap, v = .arr b s 0 es.length cap ∧ h b = some (.row s es cap) ∧ es.length ≤ cap

theorem ow_nil {s : Nat} : Ow s .nils [] h := .inl ⟨rfl, rfl⟩
theorem Ow.els {s : Nat} {v : AV} {es : List (List AV)} (o : Ow s v es h) : Els h s v es := by
  rcases o with ⟨rfl, rfl⟩ | ⟨b, cap, rfl, hb, hc⟩
  · exact ⟨rfl, by simp⟩
  · exact ⟨by simp [srcA, hb], by simp⟩
theorem sat.els {s : Nat} {v : AV} {es : List (List AV)} (hs : sat h (Ow s v es :: l)) : Els h s v es := hs.hd Els.mono fun _ o => o.els
theorem sat.bts {v : AV} {bs : List UInt8} (hs : sat h (Ow 1 v (bs.map eb) :: l)) : Bts h v bs := hs.els
theorem sat.arr {s b len cap : Nat} {es : List (List AV)} (hs : sat h (Ow s (.arr b s 0 len cap) es :: l)) : sat h (pto b (.row s es cap) :: l) ∧ len = es.length ∧ es.length ≤ cap := by
  obtain ⟨S, ⟨h1, _⟩ | ⟨b', cap', h1, h2, h3⟩, c⟩ := hs
  · cases h1
  · cases h1; exact ⟨⟨S, h2, c⟩, rfl, h3⟩
theorem sat.ow {s b cap : Nat} {es : List (List AV)} (hs : sat h (pto b (.row s es cap) :: l)) (hc : es.length ≤ cap) : sat h (Ow s (.arr b s 0 es.length cap) es :: l) :=
  hs.imp fun _ hb => .inr ⟨b, cap, rfl, hb, hc⟩
theorem sat.cases {s : Nat} {v : AV} {es : List (List AV)} (hs : sat h (Ow s v es :: l)) :
    (v = .nils ∧ es = [] ∧ sat h l) ∨ ∃ b cap, v = .arr b s 0 es.length cap ∧ sat h (pto b (.row s es cap) :: l) ∧ es.length ≤ cap := by
  obtain ⟨S, ⟨h1, h2⟩ | ⟨b', cap', h1, h2, h3⟩, c⟩ := hs
  · exact .inl ⟨h1, h2, c.grow⟩
  · exact .inr ⟨b', cap', h1, ⟨S, h2, c⟩, h3⟩

theorem wpA_imp {P : Program} : ∀ (c : ACode) {e : Env} {h : Hp} {kn kn' kr kr' : Env → Hp → Prop} {kx kx' : Nat → Env → Hp → Prop}, wpA P c e h kn kr kx → (∀ e h, kn e h → kn' e h) → (∀ e h, kr e h → kr' e h) → (∀ i e h, kx i e h → kx' i e h) → wpA P c e h kn' kr' kx'
  | .skip, _, _, _, _, _, _, _, _, hw, h1, _, _ => h1 _ _ hw
  | .reg l, _, _, _, _, _, _, _, _, hw, h1, _, _ => wpS_mono h1 l _ _ hw
  | .seq a b, _, _, _, _, _, _, _, _, hw, h1, h2, h3 => wpA_imp a hw (fun e h hb => wpA_imp b hb h1 h2 h3) h2 h3
  | .cond c t f, _, _, _, _, _, _, _, _, ⟨b, hb, ht, hf⟩, h1, h2, h3 => ⟨b, hb, fun q => wpA_imp t (ht q) h1 h2 h3, fun q => wpA_imp f (hf q) h1 h2 h3⟩
  | .block id b, _, _, kn, kn', _, _, kx, kx', hw, h1, h2, h3 => wpA_imp b hw h1 h2 fun i e h hx => by
    by_cases hi : i = id
    · rw [if_pos hi] at hx ⊢; exact h1 _ _ hx
    · rw [if_neg hi] at hx ⊢; exact h3 _ _ _ hx
  | .loop b, _, _, _, _, _, _, _, _, ⟨I, μ, h0, hr⟩, h1, h2, h3 => ⟨I, μ, h0, fun e h hi => wpA_imp b (hr e h hi) (fun _ _ x => x) h2 h3⟩
  | .exit id, _, _, _, _, _, _, _, _, hw, _, _, h3 => h3 _ _ _ hw
  | .ret, _, _, _, _, _, _, _, _, hw, _, h2, _ => h2 _ _ hw
  | .rangeF n g ps asg bd, e, h, kn, kn', kr, kr', kx, kx', hw, h1, h2, h3 => by
    obtain ⟨f, caps, a1, a2, a3⟩ := hw
    exact ⟨f, caps, a1, a2, fun l hl => (a3 l hl).mono fun _ _ ⟨b1, b2⟩ => ⟨b1, h1 _ _ b2⟩⟩
theorem run_imp {P : Program} {b : ACode} {st : List Fr} {e : Env} {k : Kt} {J J' : Env → Hp → Prop} (hw : run P b (.lp J :: st) e h k) (hi : ∀ e h, J e h → J' e h) : run P b (.lp J' :: st) e h k :=
  wpA_imp b hw hi (fun _ _ x => x) (fun _ _ _ x => x)

/-- A new block. -/
theorem new_sat {P : Program} {st : List Fr} {e : Env} {k : Kt} {d : Option Nat} {r : List (AItem × List AItem)} {o : AObj} {g : Nat → AV} (hs : sat h F)
    (hk : ∀ n, h n = none → sat (h.set n o) (pto n o :: F) → runS P r st (e.put d (g n)) (h.set n o) k) : newR P o g d r st e h k := fun n hn => hk n hn (hs.new hn)

theorem least {p : Nat → Prop} (h : ∃ n, p n) : ∃ n, p n ∧ ∀ m, p m → n ≤ m := by
  obtain ⟨n, hn⟩ := h
  induction n using Nat.strongRecOn with
  | _ n ih =>
    by_cases hm : ∃ m, m < n ∧ p m
    · obtain ⟨m, h1, h2⟩ := hm
      exact ih m h1 h2
    · exact ⟨n, hn, fun m hm' => Nat.le_of_not_lt fun hlt => hm ⟨m, hlt, hm'⟩⟩
/-- A loop with a number that falls. -/
theorem run_loopN {P : Program} {b : ACode} {st : List Fr} {e : Env} {k : Kt} (I : Nat → Env → Hp → Prop) (n : Nat) (h0 : I n e h)
    (hr : ∀ n e h, I n e h → run P b (.lp (fun e' h' => ∃ m, m < n ∧ I m e' h') :: st) e h k) : run P (.loop b) st e h k := by
  classical
  refine run_loop (fun e h => ∃ n, I n e h) (fun e h => if hh : ∃ n, I n e h then Classical.choose (least hh) else 0) ⟨n, h0⟩ fun e h hi => ?_
  have hn := (Classical.choose_spec (least hi)).1
  have e0 : (if hh : ∃ n, I n e h then Classical.choose (least hh) else 0) = Classical.choose (least hi) := dif_pos hi
  rw [e0]
  refine run_imp (hr _ e h hn) ?_
  rintro e' h' ⟨m, hm, hi'⟩
  have hx : ∃ n, I n e' h' := ⟨m, hi'⟩
  refine ⟨hx, ?_⟩
  rw [dif_pos hx]
  exact Nat.lt_of_le_of_lt ((Classical.choose_spec (least hx)).2 m hi') hm
/-- A new block, and what the heap holds then. -/
theorem new_opq {P : Program} {st : List Fr} {e : Env} {k : Kt} {d : Option Nat} {r : List (AItem × List AItem)} {o : AObj} {g : Nat → AV} (hs : sat h F)
    (hk : ∀ n h', sat h' (pto n o :: F) → runS P r st (e.put d (g n)) h' k) : newR P o g d r st e h k := fun n hn => hk n _ (hs.new hn)
/-- A loop that counts up. -/
theorem run_up {P : Program} {b : ACode} {st : List Fr} {e : Env} {k : Kt} {N : Nat} (I : Nat → Env → Hp → Prop) (h0 : I 0 e h)
    (hr : ∀ i e h, i ≤ N → I i e h → run P b (.lp (fun e' h' => i < N ∧ I (i + 1) e' h') :: st) e h k) : run P (.loop b) st e h k := by
  refine run_loopN (fun n e h => ∃ i, i ≤ N ∧ n = N - i ∧ I i e h) N ⟨0, Nat.zero_le _, rfl, h0⟩ ?_
  rintro n e h ⟨i, hi, rfl, hI⟩
  refine run_imp (hr i e h hi hI) ?_
  rintro e' h' ⟨hlt, hI'⟩
  exact ⟨N - (i + 1), by omega, i + 1, by omega, rfl, hI'⟩

/-- append to a slice of one's own. -/
theorem app_sat {P : Program} {st : List Fr} {e : Env} {k : Kt} {d : Option Nat} {r : List (AItem × List AItem)} {s bytes : Nat} {v y : AV} {es ys : List (List AV)}
    (hs : sat h (Ow s v es :: F)) (hy : srcA s h y = some ys) (ha : AtomsL ys)
    (hb : (es.length + ys.length) * bytes ≤ 70368744177664) (hk : ∀ v' h', sat h' (Ow s v' (es ++ ys) :: F) → v'.cells = [v'] → v'.isAtom = true → runS P r st (e.put d v') h' k) :
    effR P (appE s bytes v y h) [] d r st e k := by
  have fin : ∀ v' h', sat h' (Ow s v' (es ++ ys) :: F) → obls P [] (e.put d v') h' ∧ runS P r st (e.put d v') h' k := fun v' h' g =>
    ⟨fun _ hm => by simp at hm, hk v' h' g g.els.cells g.els.atom⟩
  refine ⟨ys, hy, ha, ?_⟩
  rcases hs.cases with ⟨rfl, rfl, g⟩ | ⟨b, cap, rfl, g, hle⟩
  · refine ⟨fun h0 => fin _ _ (g.add (.inl ⟨rfl, by simp [h0]⟩)), fun h0 => ⟨Nat.le_trans (by simpa using hb) (show 70368744177664 ≤ 140737488355328 by decide), fun n c hn hc => fin _ _ ?_⟩⟩
    simpa using (g.new (o := .row s ys c) hn).ow hc
  · have hbb := g.at
    simp only [hbb]
    refine ⟨trivial, trivial, trivial, Nat.le_refl _, trivial, .inl hb, fun n c hn hc _ => fin _ _ ?_⟩
    rw [List.take_length]
    have := ((g.del).new (o := .row s (es ++ ys) c) hn).ow (by simpa using hc)
    simpa using this

/-- append to a slice that has no room at all. -/
theorem app_new {P : Program} {st : List Fr} {e : Env} {k : Kt} {d : Option Nat} {r : List (AItem × List AItem)} {s bytes b : Nat} {y : AV} {ys : List (List AV)} (hs : sat h (pto b (.row s [] 0) :: F)) (hy : srcA s h y = some ys) (ha : AtomsL ys)
    (hb : ys.length * bytes ≤ 140737488355328) (hk : ∀ v' h', sat h' (Ow s v' ys :: F) → v'.cells = [v'] → v'.isAtom = true → runS P r st (e.put d v') h' k) :
    effR P (appE s bytes (.arr b s 0 0 0) y h) [] d r st e k := by
  have hbb := hs.at
  refine ⟨ys, hy, ha, ?_⟩
  simp only [hbb]
  refine ⟨trivial, trivial, trivial, Nat.le_refl _, trivial, .inr ⟨rfl, by simpa using hb⟩, fun n c hn hc _ => ?_⟩
  have g := ((hs.del).new (o := .row s ys c) hn).ow (by simpa using hc)
  have := hk (.arr n s 0 ys.length c) _ g g.els.cells g.els.atom
  refine ⟨fun _ hm => by simp at hm, ?_⟩
  simpa using this

theorem atoms_one {x : List AV} (hx : x.all AV.isAtom = true) : AtomsL [x] := by
  intro e he v hv
  simp only [List.mem_cons, List.not_mem_nil, or_false] at he
  subst he
  exact List.all_eq_true.1 hx v hv
theorem src_one {s b n c : Nat} {x : List AV} (hn : h b = some (.row s [x] n)) : srcA s h (.arr b s 0 1 c) = some [x] := by simp [srcA, hn]

theorem ow_slc {s : Nat} {v : AV} {es : List (List AV)} {k k' : IntKind} {lo hi : Nat} (h1 : lo ≤ hi) (h2 : hi ≤ es.length) (hs : sat h (Ow s v es :: F)) :
    ∃ x, slcL s v (some (.int k lo)) (some (.int k' hi)) = some x ∧ (∀ h (G : List Asr), sat h (Ow s v es :: G) → Els h s x ((es.drop lo).take (hi - lo))) ∧ x.cells = [x] := by
  rcases hs.cases with ⟨rfl, rfl, _⟩ | ⟨b, cap, rfl, g, hc⟩
  · have : hi = 0 := by simpa using h2
    subst this
    have : lo = 0 := by omega
    subst this
    exact ⟨.nils, rfl, fun _ _ _ => ⟨by simp [srcA], by simp⟩, rfl⟩
  · refine ⟨.arr b s (0 + lo) (hi - lo) (cap - lo), ?_, fun h G hs => ⟨?_, by simp⟩, rfl⟩
    · simp only [slcL, boundA]
      simp
      omega
    · have hb := (hs.arr).1.at
      simp only [srcA, hb]
      rw [if_pos ⟨trivial, trivial, by omega⟩]
      simp

/-- A slice that ends within its room. -/
def CapOK (v : AV) : Prop := ∀ q s o l c, v = .arr q s o l c → l ≤ c
theorem capOK_lst {es : List (List AV)} : CapOK (.lst es) := fun _ _ _ _ _ h => by cases h
theorem sat.cap {s : Nat} {v : AV} {es : List (List AV)} (hs : sat h (Ow s v es :: l)) : CapOK v := by
  rcases hs.cases with ⟨rfl, _⟩ | ⟨b, cap, rfl, _, hc⟩
  · intro _ _ _ _ _ h; cases h
  · intro _ _ _ _ _ h; cases h; exact hc
theorem capOK_slc {s : Nat} {v x : AV} {lo hi : Option AV} (hc : CapOK v) (hx : slcL s v lo hi = some x) : CapOK x := by
  unfold slcL at hx
  split at hx <;> first | (cases hx; done) | skip
  all_goals
    split at hx <;> first | (cases hx; done) | skip
    split at hx <;> first | (cases hx; done) | skip
    cases hx
    intro q s o l c h
    cases h
    try omega
/-- A part of a slice that is read through what the heap holds. -/
theorem slc_E {A : Hp → Prop} {s : Nat} {v : AV} {es : List (List AV)} (h0 : A h) (hE : ∀ h, A h → Els h s v es) (hc : CapOK v) (k k' : IntKind) {lo hi : Nat} (h1 : lo ≤ hi) (h2 : hi ≤ es.length) :
    ∃ x, slcL s v (some (.int k lo)) (some (.int k' hi)) = some x ∧ (∀ h, A h → Els h s x ((es.drop lo).take (hi - lo))) ∧ CapOK x := by
  obtain ⟨x, a, _⟩ := Els.slc (k := k) (k' := k') (hE h h0) h1 h2 hc
  refine ⟨x, a, fun h' h0' => ?_, capOK_slc hc a⟩
  obtain ⟨x', a', b', _⟩ := Els.slc (k := k) (k' := k') (hE h' h0') h1 h2 hc
  rw [a] at a'
  cases a'
  exact b'
theorem slc_lo {s : Nat} {v : AV} {hi : Option AV} : slcL s v none hi = slcL s v (some (.int .i64 0)) hi := by
  unfold slcL
  split <;> rfl
theorem slc_hi {s n : Nat} {v : AV} {lo : Option AV} (hl : lenL v = some (.int .i64 n)) : slcL s v lo none = slcL s v lo (some (.int .i64 n)) := by
  unfold lenL at hl
  unfold slcL
  split <;> simp at hl <;> first | (have h2 := Int.ofNat_inj.1 hl; subst h2; simp [boundA]) | (have h2 := Int.ofNat_inj.1 hl; subst h2; rfl) | (subst hl; rfl) | rfl | skip

/-- A function value that is called. -/
theorem callv_use {P : Program} {st : List Fr} {e : Env} {k : Kt} {d : Option Nat} {r : List (AItem × List AItem)} {f : Nat} {caps args : List AV} {Q : AV → Hp → Prop} (hf : okFn P f = true) (c : Triple P f (args ++ caps) h Q)
    (hk : ∀ v h', Q v h' → runS P r st (e.put d v) h' k) : effR P (callvE P (.fn f caps) args h) [] d r st e k :=
  ⟨okFn_ok hf, c.mono fun v h' q => ⟨fun _ hm => by simp at hm, hk v h' q⟩⟩
/-- A loop over a function. -/
theorem rngF_use {P : Program} {st : List Fr} {e : Env} {k : Kt} {f n : Nat} {caps : List AV} {ps : List Nat} {asg bd : Code} (hf : okFn P f = true) (hs : sat h F)
    (c : ∀ l h0, sat h0 (pto l (.lp n e ps asg bd) :: F) → Triple P f (.yl l :: caps) h0 fun _ h' => ∃ F', sat h' (pto l (.lp n e ps asg bd) :: F') ∧ ∀ h'', sat h'' F' → fall P st e h'' k) :
    rngF P (.fn f caps) n ps asg bd st e h k :=
  ⟨f, caps, rfl, okFn_ok hf, fun l hl => (c l _ (hs.new hl)).mono fun _ _ ⟨_, g1, g2⟩ => ⟨g1.at, g2 _ g1.del⟩⟩
/-- yield, called: the round. -/
theorem yl_use {P : Program} {st : List Fr} {e : Env} {k : Kt} {d : Option Nat} {r : List (AItem × List AItem)} {l n : Nat} {e0 : Env} {ps : List Nat} {asg bd : Code} {args : List AV} (hs : sat h (pto l (.lp n e0 ps asg bd) :: F))
    (hl : args.length = ps.length) (hp : ps.all (fun t => decide (t < n)) = true)
    (c : ∀ h0, sat h0 F → CodeT P n asg (putPs e0 ps args) h0 fun e1 h1 => CodeT P n bd e1 h1 fun _ h2 => ∃ F', sat h2 F' ∧ ∀ h3, sat h3 (pto l (.lp n e0 ps asg bd) :: F') → runS P r st (e.put d (.bool true)) h3 k) :
    effR P (callvE P (.yl l) args h) [] d r st e k := by
  have h0 := hs.at
  unfold effR callvE
  simp only [h0]
  refine ⟨hl, fun t ht => by simpa using List.all_eq_true.1 hp t ht, (c _ hs.del).mono fun e1 h1 q => q.mono ?_⟩
  rintro e2 h2 ⟨F', g1, g2⟩ hn
  exact ⟨fun _ hm => by simp at hm, g2 _ (g1.new hn)⟩
/-- The bytes of a string, only read from then on. -/
theorem strb_ro {P : Program} {st : List Fr} {e : Env} {k : Kt} {d : Option Nat} {r : List (AItem × List AItem)} {l : List UInt8} (hk : runS P r st (e.put d (.lst (l.map eb))) h k) : effR P (strbE (.str l) h) [] d r st e k :=
  .inr ⟨l, rfl, fun _ hm => by simp at hm, hk⟩

/-! ### what is not written again -/

theorem Triple.view {P : Program} {f : Nat} {args : List AV} {post : AV → Hp → Prop} (t : Triple P f args h fun r h' => ∃ r' h'', GV r h' r' h'' ∧ post r' h'') : Triple P f args h post :=
  fun fz w cargs r a => (t fz w cargs r a).mono fun _ w' ⟨cv, x, h', fz', e1, e2, e3, e4, r', h'', g, p⟩ => by
    obtain ⟨f2, g1, g2, g3⟩ := g fz' w' cv e2 e3
    exact ⟨cv, r', h'', f2, e1, g1, g2, e4.trans g3, p⟩

/-- The slice that a call answers, as one that is only read. -/
theorem sat.view {s : Nat} {v : AV} {es : List (List AV)} (hs : sat h (Ow s v es :: l)) : ∃ h', GV v h (.lst es) h' ∧ sat h' l := by
  rcases hs.cases with ⟨rfl, rfl, g⟩ | ⟨b, cap, rfl, g, hle⟩
  · exact ⟨h, GV.nils, g⟩
  · exact ⟨_, GV.arr g.at rfl hle, g.del⟩
/-- A call that answers a slice of one's own answers one that is only read. -/
theorem Triple.lst {P : Program} {f : Nat} {args : List AV} (s : Nat) {post : AV → Hp → Prop}
    (t : Triple P f args h fun r h' => ∃ es F, sat h' (Ow s r es :: F) ∧ ∀ h'', sat h'' F → post (.lst es) h'') : Triple P f args h post :=
  Triple.view (t.mono fun r h' ⟨es, F, hs, hp⟩ => by
    obtain ⟨h'', g, hs'⟩ := hs.view
    exact ⟨_, h'', g, hp _ hs'⟩)
/-- A call that answers a tuple whose first is a slice of one's own. -/
theorem Triple.lst1 {P : Program} {f : Nat} {args : List AV} (s : Nat) {post : AV → Hp → Prop}
    (t : Triple P f args h fun r h' => ∃ v rest es F, r = .tup (v :: rest) ∧ sat h' (Ow s v es :: F) ∧ ∀ h'', sat h'' F → post (.tup (.lst es :: rest)) h'') : Triple P f args h post :=
  Triple.view (t.mono fun r h' ⟨v, rest, es, F, hr, hs, hp⟩ => by
    obtain ⟨h'', g, hs'⟩ := hs.view
    subst hr
    exact ⟨_, h'', GV.tup [] rest g, hp _ hs'⟩)

/-! ### what says less of an argument -/

/-- Each value of the one is a value of the other. -/
def VI (a b : AV) : Prop := ∀ (fz : Nat → Prop) (H : Array Obj) (cv : Value), VR fz H a cv → VR fz H b cv
def VIs : List AV → List AV → Prop
  | [], [] => True
  | a :: as, b :: bs => VI a b ∧ VIs as bs
  | _, _ => False
theorem VI.refl (a : AV) : VI a a := fun _ _ _ h => h
theorem VI.nils : VI .nils (.lst []) := fun fz H cv h => by cases h; exact .lst0 none 0 (fun _ => rfl)
theorem VIs.get : ∀ {as bs : List AV}, VIs as bs → as.length = bs.length ∧ ∀ i (h1 : i < as.length) (h2 : i < bs.length), VI as[i] bs[i]
  | [], [], _ => ⟨rfl, fun i h => by simp at h⟩
  | [], _ :: _, h => h.elim
  | _ :: _, [], h => h.elim
  | a :: as, b :: bs, h => by
    obtain ⟨h1, h2⟩ := VIs.get h.2
    refine ⟨by simp [h1], fun i a b => ?_⟩
    cases i with
    | zero => exact h.1
    | succ i => exact h2 i (by simpa using a) (by simpa using b)
theorem VI.agg {as bs : List AV} (h : VIs as bs) : VI (.agg as) (.agg bs) := fun fz H cv hv => by
  obtain ⟨h1, h2⟩ := h.get
  cases hv with
  | agg cs vs hl hvs => exact .agg bs vs (by rw [← h1, hl]) fun i a b => h2 i (by omega) a fz H _ (hvs i (by omega) b)
theorem Triple.vi {P : Program} {f : Nat} {as bs : List AV} {post : AV → Hp → Prop} (hv : VIs as bs) (t : Triple P f bs h post) : Triple P f as h post := fun fz w cargs r a => by
  obtain ⟨h1, h2⟩ := hv.get
  exact t fz w cargs r ⟨by rw [← h1]; exact a.1, fun i x y => h2 i (by omega) x fz _ _ (a.2 i (by omega) y)⟩
end Go.Hz
/- A law: what comes in is read by its types; it answers true, and what came in reads as before. -/
set_option linter.unusedSimpArgs false
set_option linter.unusedVariables false
namespace Go.Hz
open Go.RowKit Go.ChangeShapes Go.WideShapes Go.ChangeAt

def Ty.one : Ty → AV → Prop
  | .st c, a => ∃ cs, a = .agg cs ∧ c.shape cs
  | τ, a => τ.shape [a]
def Ty.ones : List Ty → List AV → Prop
  | [], [] => True
  | τ :: ts, a :: as => τ.one a ∧ Ty.ones ts as
  | _, _ => False
def Ty.bulk1 : Ty → AV → Nat
  | .st c, .agg cs => c.bulk cs + 1
  | τ, a => τ.bulk [a]
def Ty.small1 (M : Nat) : Ty → AV → Prop
  | .st c, .agg cs => c.small M cs
  | τ, a => τ.small M [a]
def Ty.smalls (M : Nat) : List Ty → List AV → Prop
  | τ :: ts, a :: as => τ.small1 M a ∧ Ty.smalls M ts as
  | _, _ => True
def Ty.bulks : List Ty → List AV → Nat
  | τ :: ts, a :: as => τ.bulk1 a + Ty.bulks ts as
  | _, _ => 0
def fitsAll (P : Program) : List Ty → List TypeId → Bool
  | [], [] => true
  | τ :: τs, t :: ts => τ.fits P (.inl t) && fitsAll P τs ts
  | _, _ => false

section
variable {H : Type} {enc : TypeId × Value → H} {P : Program} {w : World} {base : Nat} {spare : Nat → Bool} {held : Bool}

theorem Ty.arg1 (B : Bulk H) (τ : Ty) {t : TypeId} {v : Value} {d : DataW H} {ps : List MemPlace} {r : Reach} {b0 : Nat}
    (hf : τ.fits P (.inl t) = true) (h : DataW.Trod enc P w base spare held t v d ps) (hw : Value.okWide P w r b0 t v) :
    ∃ a, τ.one a ∧ VR (fun b => b < w.heap.size) w.heap a v ∧ τ.bulk1 a ≤ B.b d ∧ ∀ M, (∀ n ∈ d.weights P t, n ≤ M) → τ.small1 M a := by
  have key : v.cells = #[v] → τ.size = 1 → ∃ a, τ.shape [a] ∧ VR (fun b => b < w.heap.size) w.heap a v ∧ τ.bulk [a] ≤ B.b d ∧ ∀ M, (∀ n ∈ d.weights P t, n ≤ M) → τ.small M [a] := fun h1 h2 => Ty.arg B τ hf h h1 h2
  cases τ with
  | bool =>
    have hf' := hf
    simp only [Ty.fits] at hf'
    split at hf'
    · rename_i ht; obtain ⟨b, rfl⟩ := okWide_bool ht hw; exact key rfl rfl
    · cases hf'
  | str =>
    have hf' := hf
    simp only [Ty.fits] at hf'
    split at hf'
    · rename_i ht; obtain ⟨b, rfl⟩ := okWide_string ht hw; exact key rfl rfl
    · cases hf'
  | int k =>
    have hf' := hf
    simp only [Ty.fits] at hf'
    split at hf'
    · rename_i ht; obtain ⟨b, rfl⟩ := okWide_int ht hw; exact key rfl rfl
    · cases hf'
  | sl e =>
    have hf' := hf
    simp only [Ty.fits] at hf'
    split at hf'
    · rename_i ht; obtain ⟨b, _, _, rfl⟩ := okWide_slice ht hw; exact key rfl rfl
    · cases hf'
  | st c =>
    have hf' := hf
    simp only [Ty.fits] at hf'
    split at hf'
    · rename_i ht
      obtain ⟨cs, rfl, hcs⟩ := okWide_struct ht hw
      obtain ⟨fuel, h⟩ := h
      obtain ⟨as, g1, g2, g3, g4, g5⟩ := ((Ty.st c).read (enc := enc) (base := base) (spare := spare) (held := held) B).1 fuel t _ _ hf h
      refine ⟨.agg as, ⟨as, rfl, g1⟩, ?_, g4, g5⟩
      exact .agg as cs (by simpa [Value.cells] using g3.1) fun i h1 h2 => by simpa [Value.cells] using g3.2 i h1 (by simpa [Value.cells] using h2)
    · cases hf'
  | fnil => simp [Ty.fits] at hf
  | fcons a b => simp [Ty.fits] at hf

theorem args_read (B : Bulk H) {r : Reach} {b0 : Nat} : ∀ (τs : List Ty) (ts : List TypeId) (vs : List Value) (ds : List (DataW H)) (ps : List MemPlace), fitsAll P τs ts = true → DataW.TrodAll enc P w base spare held ts vs ds ps →
    (∀ (j : Nat) t v, ts[j]? = some t → vs[j]? = some v → Value.okWide P w r b0 t v) → ∃ as, Ty.ones τs as ∧ VRs (fun b => b < w.heap.size) w.heap as vs ∧ ds.length = ts.length ∧ Ty.bulks τs as ≤ B.ba ds ∧ ∀ M, (∀ n ∈ DataW.weightsEach P ts ds, n ≤ M) → Ty.smalls M τs as
  | [], [], vs, ds, ps, _, h, _ => by
    obtain ⟨rfl, rfl, _⟩ := trodAll_nil h
    exact ⟨[], trivial, VRs.nil, rfl, Nat.zero_le _, fun _ _ => trivial⟩
  | [], _ :: _, _, _, _, hf, _, _ => by simp [fitsAll] at hf
  | _ :: _, [], _, _, _, hf, _, _ => by simp [fitsAll] at hf
  | τ :: τs, t :: ts, vs, ds, ps, hf, h, hw => by
    obtain ⟨v, vs', d, ds', p, q, rfl, rfl, rfl, h1, h2⟩ := trodAll_cons h
    simp only [fitsAll, Bool.and_eq_true] at hf
    obtain ⟨a, g1, g2, g3, g4⟩ := Ty.arg1 B τ hf.1 h1 (hw 0 t v rfl rfl)
    obtain ⟨as, k1, k2, k3, k4, k5⟩ := args_read B τs ts vs' ds' q hf.2 h2 fun j t v a b => hw (j + 1) t v (by simpa using a) (by simpa using b)
    refine ⟨a :: as, ⟨g1, k1⟩, VRs.cons g2 k2, by simp [k3], ?_, fun M hM => ⟨g4 M fun n hn => hM n (by simp [DataW.weightsEach, hn]), k5 M fun n hn => hM n (by simp [DataW.weightsEach, hn])⟩⟩
    have := B.cons d ds'
    simp only [Ty.bulks]
    omega

theorem args_back {W W' : World} (hl : laidOutB P = true) (hb : Below W.heap.size W W') : ∀ (ts : List TypeId) (vs : List Value) (ds : List (DataW H)) (ps : List MemPlace), (ts.all fun t => P.readableRec t && decide (t < P.types.size)) = true →
    DataW.TrodAll enc P W 0 (fun _ => true) true ts vs ds ps → DataW.TrodAll enc P W' 0 (fun b => decide (b < W.heap.size)) true ts vs ds ps
  | [], vs, ds, ps, _, h => by
    obtain ⟨rfl, rfl, rfl⟩ := trodAll_nil h
    exact trodAll_mk0
  | t :: ts, vs, ds, ps, ht, h => by
    obtain ⟨v, vs', d, ds', p, q, rfl, rfl, rfl, h1, h2⟩ := trodAll_cons h
    simp only [List.all_cons, Bool.and_eq_true, decide_eq_true_eq] at ht
    have lt : ∀ x ∈ p, x.block < W.heap.size := by obtain ⟨m, hm⟩ := h1; exact DataW.trod_lt m _ _ _ hm
    exact trodAll_cons_mk (Below.trod hl ht.1.1 ht.1.2 h1 hb lt) (args_back hl hb ts vs' ds' q (by simpa using ht.2) h2)

theorem le_sum : ∀ {l : List Nat} {n : Nat}, n ∈ l → n ≤ l.sum
  | x :: l, n, h => by
    rw [List.sum_cons]
    rcases List.mem_cons.1 h with rfl | h
    · omega
    · have := le_sum h; omega
theorem weightsEach_app : ∀ {ts us : List TypeId} {ds : List (DataW H)} {n : Nat}, ds.length = ts.length → n ∈ DataW.weightsEach P ts ds → n ∈ DataW.weightsEach P (ts ++ us) ds
  | [], us, ds, n, _, h => by simp [DataW.weightsEach] at h
  | t :: ts, us, [], n, hl, h => by simp at hl
  | t :: ts, us, d :: ds, n, hl, h => by
    simp only [DataW.weightsEach, List.mem_append, List.cons_append] at h ⊢
    rcases h with h | h
    · exact .inl h
    · exact .inr (weightsEach_app (by simpa using hl) h)
/-- What a row asks of a law's call, where no text and no slice is too great. -/
theorem law_contract_sized (B : Bulk H) {N : Nat} {f : FuncId} {fn : Func} {s : ChangeSpec} {ts : List TypeId} {rt : TypeId} (τs : List Ty) (hv : s.vars = []) (hts : fn.params.toList = ts) (hrt : fn.resultTypes.toList = [rt]) (hrs : fn.resultTypes.size = 1) (hb : P.underlying rt = some .bool)
    (hfit : fitsAll P τs ts = true) (hlaid : laidOutB P = true) (hread : (ts.all fun t => P.readableRec t && decide (t < P.types.size)) = true)
    (hs : ∀ ds : List (DataW H), ds.length = ts.length → s.fn H ds = { results := [.lit (.bool true)], args := ds })
    {W : World} {base : Nat} {args : Array Value} {ds gs : List (DataW H)} {before : List MemPlace}
    (hval : ∀ (j : Nat) t v, fn.params[j]? = some t → args[j]? = some v → Value.okWide P W .any base t v)
    (hW : DataW.Whole enc P fn.params.toList s.vars false W args.toList ds gs before)
    (hN : B.ba ds ≤ N) {M : Nat} (hM : ∀ n ∈ DataW.weightsEach P (fn.params.toList ++ s.plain.varTypes P) (ds ++ gs), n ≤ M) (law : ∀ as, Ty.ones τs as → Ty.bulks τs as ≤ N → Ty.smalls M τs as → Triple P f as Hp.emp fun r _ => r = .bool true) :
    Calls P f args W fun e W' => ∃ v, e = .returned v ∧ s.post enc P fn false true false false W args v W' := by
  have hW' := hW
  obtain ⟨p, q, hA, hV, rfl, hfz, hnd⟩ := hW
  rw [hts] at hA
  rw [hv] at hV
  obtain ⟨rfl, rfl⟩ := trodVars_none hV
  obtain ⟨as, h1, h2, h3, h4, h5⟩ := args_read B τs ts args.toList ds p hfit hA fun j t v a b => hval j t v (by rw [← a, ← hts]; simp) (by rw [← b]; simp)
  refine (entry (law as h1 (Nat.le_trans h4 hN) (h5 M fun n hn => hM n (by rw [hts, List.append_nil]; exact weightsEach_app h3 hn))) h2).mono fun e W' ⟨he, bel⟩ => ?_
  subst he
  refine ⟨_, rfl, ds, [], p ++ [], [], p, [], hW', ?_, ?_, ?_, bel.frame _, fun h => by cases h⟩
  · rw [List.append_nil, hs ds h3, hrt, hrs]
    exact trodAll_mk1 (shut_bool hb _)
  · rw [List.append_nil, hs ds h3, hts]
    exact args_back hlaid bel ts _ ds p hread hA
  · rw [hv, List.append_nil, hs ds h3]; rfl
/-- What a row asks of a law's call. -/
theorem law_contract (B : Bulk H) {N : Nat} {f : FuncId} {fn : Func} {s : ChangeSpec} {ts : List TypeId} {rt : TypeId} (τs : List Ty) (hv : s.vars = []) (hts : fn.params.toList = ts) (hrt : fn.resultTypes.toList = [rt]) (hrs : fn.resultTypes.size = 1) (hb : P.underlying rt = some .bool)
    (hfit : fitsAll P τs ts = true) (hlaid : laidOutB P = true) (hread : (ts.all fun t => P.readableRec t && decide (t < P.types.size)) = true)
    (hs : ∀ ds : List (DataW H), ds.length = ts.length → s.fn H ds = { results := [.lit (.bool true)], args := ds })
    {W : World} {base : Nat} {args : Array Value} {ds gs : List (DataW H)} {before : List MemPlace}
    (hval : ∀ (j : Nat) t v, fn.params[j]? = some t → args[j]? = some v → Value.okWide P W .any base t v)
    (hW : DataW.Whole enc P fn.params.toList s.vars false W args.toList ds gs before)
    (hN : B.ba ds ≤ N) (law : ∀ as, Ty.ones τs as → Ty.bulks τs as ≤ N → Triple P f as Hp.emp fun r _ => r = .bool true) :
    Calls P f args W fun e W' => ∃ v, e = .returned v ∧ s.post enc P fn false true false false W args v W' :=
  law_contract_sized B τs hv hts hrt hrs hb hfit hlaid hread hs hval hW hN (M := (DataW.weightsEach P (fn.params.toList ++ s.plain.varTypes P) (ds ++ gs)).sum)
    (fun n hn => le_sum hn) fun as h1 h2 _ => law as h1 h2
end

def nums (l : List Int) : AV := .lst (l.map fun k => [AV.int .i64 k])
theorem num_at {l : List Int} {i : Nat} (hi : i < l.length) : iaA 1 (nums l) (.int .i64 (i : Int)) = some (.ro [.int .i64 l[i]]) := ia_lst (f := fun k => [AV.int .i64 k]) hi fun _ => rfl
theorem num_len {l : List Int} : lenL (nums l) = some (.int .i64 l.length) := by simp [nums, lenL]

theorem bytes_of {a : AV} (h : (Ty.sl (.int .u8)).one a) : ∃ b : List UInt8, a = .lst (b.map eb) ∧ b.length ≤ 9223372036854775807 := by
  obtain ⟨es, rfl', h2, h3⟩ := h
  cases rfl'
  have : ∃ b : List UInt8, es = b.map eb := by
    clear h2
    induction es with
    | nil => exact ⟨[], rfl⟩
    | cons x es ih =>
      obtain ⟨b, rfl⟩ := ih fun y hy => h3 y (List.mem_cons_of_mem _ hy)
      obtain ⟨n, rfl, hw⟩ := h3 x (List.mem_cons_self ..)
      simp only [Lit.wf, Bool.and_eq_true, decide_eq_true_eq] at hw
      have h1 : 0 ≤ n := hw.1
      have h2 : n ≤ 255 := hw.2
      refine ⟨UInt8.ofNat n.toNat :: b, ?_⟩
      have e : ((UInt8.ofNat n.toNat).toNat : Int) = n := by
        rw [UInt8.toNat_ofNat']
        omega
      have e2 : eb (UInt8.ofNat n.toNat) = [AV.int .u8 n] := by unfold eb; rw [e]
      rw [List.map_cons, e2]
  obtain ⟨b, rfl⟩ := this
  exact ⟨b, rfl, by have : (b.map eb).length ≤ 9223372036854775807 := Nat.le_trans h2 (by decide); simpa using this⟩
theorem nums_of {a : AV} (h : (Ty.sl (.int .i64)).one a) : ∃ l : List Int, a = nums l ∧ l.length ≤ 9223372036854775807 ∧ ∀ k ∈ l, -9223372036854775808 ≤ k ∧ k ≤ 9223372036854775807 := by
  obtain ⟨es, rfl', h2, h3⟩ := h
  cases rfl'
  have : ∃ l : List Int, es = l.map (fun k => [AV.int .i64 k]) ∧ ∀ k ∈ l, -9223372036854775808 ≤ k ∧ k ≤ 9223372036854775807 := by
    clear h2
    induction es with
    | nil => exact ⟨[], rfl, by simp⟩
    | cons x es ih =>
      obtain ⟨b, rfl, hb⟩ := ih fun y hy => h3 y (List.mem_cons_of_mem _ hy)
      obtain ⟨n, rfl, hw⟩ := h3 x (List.mem_cons_self ..)
      simp only [Lit.wf, Bool.and_eq_true, decide_eq_true_eq] at hw
      refine ⟨n :: b, rfl, fun k hk => ?_⟩
      rcases List.mem_cons.1 hk with rfl | hk
      · exact hw
      · exact hb k hk
  obtain ⟨b, rfl, hb⟩ := this
  exact ⟨b, rfl, by have : (b.map fun k => [AV.int .i64 k]).length ≤ 9223372036854775807 := Nat.le_trans h2 (by decide); simpa using this, hb⟩

theorem int_of {a : AV} (h : (Ty.int .i64).one a) : ∃ n : Int, a = .int .i64 n ∧ -9223372036854775808 ≤ n ∧ n ≤ 9223372036854775807 := by
  obtain ⟨n, hn, hw⟩ := h
  cases hn
  simp only [Lit.wf, Bool.and_eq_true, decide_eq_true_eq] at hw
  exact ⟨n, rfl, hw⟩
theorem str_of {a : AV} (h : Ty.str.one a) : ∃ l : List UInt8, a = .str l ∧ l.length ≤ 9223372036854775807 := by
  obtain ⟨l, hl, hw⟩ := h
  cases hl
  exact ⟨l, rfl, Nat.le_trans hw (by decide)⟩
theorem bool_of {a : AV} (h : Ty.bool.one a) : ∃ b : Bool, a = .bool b := by
  obtain ⟨l, hl⟩ := h
  cases hl
  exact ⟨l, rfl⟩
theorem ones_nil {vs : List AV} (h : Ty.ones [] vs) : vs = [] := by
  cases vs with
  | nil => rfl
  | cons a l => exact h.elim
theorem ones_cons {τ : Ty} {τs : List Ty} {vs : List AV} (h : Ty.ones (τ :: τs) vs) : ∃ a l, vs = a :: l ∧ τ.one a ∧ Ty.ones τs l := by
  cases vs with
  | nil => exact h.elim
  | cons a l => exact ⟨a, l, rfl, h.1, h.2⟩
end Go.Hz
/- The rules of a walk, as one set of the simplifier. -/
set_option linter.unusedVariables false
namespace Go.Hz
theorem wrap_i64_go {x : Int} (h1 : -9223372036854775808 ≤ x) (h2 : x ≤ 9223372036854775807) : IntKind.i64.wrap x = x := by
  simp only [IntKind.wrap, IntKind.signed, IntKind.bits]
  simp
  omega
attribute [go_sem] run_skip run_reg run_seq run_cond run_block run_exit run_ret run_rangeF fall_nil fall_code fall_blk fall_lp out_nil out_code out_blk out_lp runS_nil cnd_true cnd_false nx_some nx_if nxh_some nxh_obl obls_nil obls_cons stab_ld stab_ldg stab_bs stab_bsg gd_bool gd_tup msl_inl msl_inr bsl_some runS_op opR ent_some ev_tm ev_cs evs_nil evs_cons evIdx_nil evIdx_cons evParts_nil evParts_cons oev_none oev_some Env.put_some Env.put_none true_and and_true List.getD_cons_zero List.getD_cons_succ initE binA pickA eqN_b eqN_pnn eqN_ppn eqN_pnp eqN_prn eqN_snn eqN_san eqN_sen eqN_sln eqN_mnn eqN_mmn eqN_fnn eqN_ffn eqN_iin eqN_inn unA cviA strA ckA faA fldA ixsA iaA_arr lenS lenL_lst lenL_arr lenL_nils lenL_emp bstrA_nils capL extA mmA ldA cellsAt_ptr cellsAt_ro partA stA cells_bool atom_bool cells_int atom_int cells_str atom_str cells_nilp atom_nilp cells_ptr atom_ptr cells_ro atom_ro cells_nils atom_nils cells_lst atom_lst cells_arr atom_arr cells_nilm atom_nilm cells_map atom_map cells_fn atom_fn cells_nilf atom_nilf cells_yl atom_yl cells_nili atom_nili cells_iface atom_iface cells_agg List.map_cons List.map_nil List.getElem?_cons_zero List.drop_zero Option.map_some Option.map_none List.length_cons List.length_nil Hp.set_same forall_const implies_true List.not_mem_nil false_implies Bool.true_eq_false Bool.false_eq_true resK_nil resK_tmp resK_cell resK_more resL_nil resL_tmp resL_cell Option.bind_some ex_some true_implies setL List.replicate List.all_cons List.all_nil Bool.and_true Bool.true_and Bool.and_self IntKind.bits splice List.length_append List.drop_succ_cons List.take_succ_cons List.take_zero List.getElem?_cons_succ List.getElem?_nil List.set_cons_zero List.set_cons_succ List.cons_append List.nil_append List.append_nil Nat.zero_add Nat.add_zero decide_true decide_false Bool.not_true Bool.not_false ne_eq not_true_eq_false not_false_eq_true
attribute [go_sem ↓] Env.upd_apply
theorem bstr_lst {h : Hp} {bs : List UInt8} : bstrA h (.lst (bs.map eb)) = some (.str bs) := Bts.bstr (Els.lst (eb_one _))
theorem iaA_go {s b off len c : Nat} {k : IntKind} {n : Int} (h1 : 0 ≤ n) (h2 : n < len) : iaA s (.arr b s off len c) (.int k n) = some (.ptr b s (off + n.toNat) 0) := by
  simp [iaA, h1, h2]
attribute [go_sem] eq_self Int.cast_ofNat_Int List.length_map bstr_lst wrap_i64_go beq_self_eq_true bne_self_eq_false Hp.set_set fillA boxR iapA ixaA
attribute [go_sem high] iaA_go Int.toNat_natCast
end Go.Hz
/- Slices of one's own: made, copied into. -/
set_option linter.unusedVariables false
set_option linter.unusedSimpArgs false
namespace Go.Hz
section
variable {P : Program} {st : List Fr} {e : Env} {k : Kt} {d : Option Nat} {r : List (AItem × List AItem)} {h : Hp} {F : List Asr}

/-- make of so many elements. -/
theorem msl_use {s bytes n : Nat} {zs : List AV} {k1 k2 : IntKind} (hs : sat h F) (hn : n ≤ 140737488355328) (hb : n * bytes ≤ 140737488355328)
    (hk : ∀ b h', sat h' (pto b (.row s (List.replicate n zs) n) :: F) → runS P r st (e.put d (.arr b s 0 n n)) h' k) :
    mslR P (mslA s bytes zs (.int k1 n) (.int k2 n)) d r st e h k := by
  have e1 : mslA s bytes zs (.int k1 (n : Int)) (.int k2 (n : Int)) = some (.inr (.row s (List.replicate n zs) n, fun b => .arr b s 0 n n)) := by
    simp only [mslA]
    rw [if_pos ⟨by omega, by omega, by omega, by
      have : ((n * bytes : Nat) : Int) = (n : Int) * (bytes : Int) := by push_cast; rfl
      omega⟩]
    simp
  rw [e1]
  exact msl_inr.2 fun b hb => hk b _ (hs.new hb)

/-- copy into a row of one's own. -/
theorem cp_use {s b off len cap rc n : Nat} {es ys : List (List AV)} {src : AV} (hs : sat h (pto b (.row s es rc) :: F)) (h1 : off ≤ es.length) (h2 : off + len ≤ rc) (h3 : len ≤ cap) (hl : lenN src = some n)
    (hy : srcN s h src (min n len) = some ys) (ha : AtomsL ys)
    (hk : ∀ h', sat h' (pto b (.row s (es.take off ++ ys ++ es.drop (off + min n len)) rc) :: F) → runS P r st (e.put d (.int .i64 (min n len : Nat))) h' k) :
    effR P (cpE s (.arr b s off len cap) src h) [] d r st e k := by
  refine ⟨n, len, ys, hl, rfl, hy, ha, ?_⟩
  have hb := hs.at
  simp only [hb]
  exact ⟨trivial, trivial, h1, h2, h3, fun _ hm => by simp at hm, hk _ hs.set⟩

theorem slcM_go {s b off len cap : Nat} {k1 k2 k3 : IntKind} {x y z : Int} (h0 : 0 ≤ x) (h1 : x ≤ y) (h2 : y ≤ z) (h3 : z ≤ cap) :
    slcM s (.arr b s off len cap) (some (.int k1 x)) (.int k2 y) (.int k3 z) = some (.arr b s (off + x.toNat) (y.toNat - x.toNat) (z.toNat - x.toNat)) := by
  simp only [slcM, boundA]
  rw [if_pos h0, if_pos (Int.le_trans h0 h1), if_pos (Int.le_trans h0 (Int.le_trans h1 h2))]
  dsimp only
  rw [if_pos ⟨by omega, by omega, by omega, trivial⟩]
theorem slcL_hi {s b off len cap : Nat} {k2 : IntKind} {y : Int} (h1 : 0 ≤ y) (h2 : y ≤ cap) (hl : len ≤ cap) :
    slcL s (.arr b s off len cap) none (some (.int k2 y)) = some (.arr b s off y.toNat cap) := by
  simp only [slcL, boundA]
  rw [if_pos h1]
  dsimp only
  rw [if_pos ⟨by omega, by omega, hl, trivial⟩]
  simp
theorem slcL_lo {s b off len cap : Nat} {k1 : IntKind} {x : Int} (h0 : 0 ≤ x) (h1 : x ≤ len) (hl : len ≤ cap) :
    slcL s (.arr b s off len cap) (some (.int k1 x)) none = some (.arr b s (off + x.toNat) (len - x.toNat) (cap - x.toNat)) := by
  simp only [slcL, boundA]
  rw [if_pos h0]
  dsimp only
  rw [if_pos ⟨by omega, hl, hl, trivial⟩]
theorem slcL_lohi {s b off len cap : Nat} {k1 k2 : IntKind} {x y : Int} (h0 : 0 ≤ x) (h1 : x ≤ y) (h2 : y ≤ cap) (hl : len ≤ cap) :
    slcL s (.arr b s off len cap) (some (.int k1 x)) (some (.int k2 y)) = some (.arr b s (off + x.toNat) (y.toNat - x.toNat) (cap - x.toNat)) := by
  simp only [slcL, boundA]
  rw [if_pos h0, if_pos (Int.le_trans h0 h1)]
  dsimp only
  rw [if_pos ⟨by omega, by omega, hl, trivial⟩]

/-- append of the end of a slice to its front. -/
theorem app_del {s bytes b i j n cap c2 : Nat} {es : List (List AV)} (hs : sat h (pto b (.row s es cap) :: F)) (hn : n = es.length) (hi : i ≤ j) (hj : j ≤ n) (hc : n ≤ cap) (ha : AtomsL es) (hb : n * bytes ≤ 70368744177664)
    (hk : ∀ h', sat h' (pto b (.row s (es.take i ++ es.drop j) cap) :: F) → runS P r st (e.put d (.arr b s 0 (i + (n - j)) cap)) h' k) :
    effR P (appE s bytes (.arr b s 0 i cap) (.arr b s j (n - j) c2) h) [] d r st e k := by
  subst hn
  have hbb := hs.at
  have hl : (es.drop j).length = es.length - j := by simp
  have hsrc : srcA s h (.arr b s j (es.length - j) c2) = some (es.drop j) := by
    simp only [srcA, hbb]
    rw [if_pos ⟨trivial, trivial, by omega⟩]
    rw [List.take_of_length_le (by omega)]
  refine ⟨es.drop j, hsrc, fun e he => ha e (List.mem_of_mem_drop he), ?_⟩
  simp only [hbb]
  refine ⟨trivial, trivial, trivial, by omega, trivial, .inl ?_, fun m c hm hcc hf => ?_⟩
  · refine Nat.le_trans (Nat.mul_le_mul_right _ ?_) hb
    omega
  · obtain ⟨rfl, rfl⟩ := hf (by omega)
    have := (hs.del).new (o := .row s (es.take i ++ es.drop j) c) hm
    rw [hl]
    exact ⟨fun _ hm => by simp at hm, hk _ this⟩

/-- clear. -/
theorem clr_use {s b off len cap rc : Nat} {zs : List AV} {es : List (List AV)} (hs : sat h (pto b (.row s es rc) :: F)) (h1 : off ≤ es.length) (h2 : off + len ≤ rc)
    (hk : ∀ h', sat h' (pto b (.row s (es.take off ++ List.replicate len zs ++ es.drop (off + len)) rc) :: F) → runS P r st (e.put d (.tup [])) h' k) :
    effR P (clrE s zs (.arr b s off len cap) h) [] d r st e k := by
  unfold effR clrE
  dsimp only
  split
  · rename_i h0
    subst h0
    have := hk h (by simpa using hs)
    exact ⟨fun _ hm => by simp at hm, this⟩
  · have hbb := hs.at
    simp only [hbb]
    exact ⟨trivial, trivial, h1, h2, fun _ hm => by simp at hm, hk _ hs.set⟩

/-- A row of which less is said. -/
theorem Rel.rowvi {fz : Nat → Prop} {w : World} {b s cap : Nat} {es es' : List (List AV)} (hr : Rel fz h w) (hb : h b = some (.row s es cap)) (hl : es.length = es'.length) (hv : ∀ i (h1 : i < es.length) (h2 : i < es'.length), VIs es[i] es'[i]) :
    Rel fz (h.set b (.row s es' cap)) w := by
  refine ⟨hr.lt, fun x o hx => ?_⟩
  by_cases hxb : x = b
  · subst hxb
    rw [Hp.set_same] at hx
    cases hx
    obtain ⟨hnf, c, hw, ho⟩ := hr.own x _ hb
    cases ho with
    | row _ _ _ c T fr hcap hs hcs hsoft hel =>
      refine ⟨hnf, _, hw, .row _ _ _ _ _ _ (by omega) (fun i hi => ?_) hcs hsoft fun i h1 k h2 h3 => ?_⟩
      · rw [← (hv i (by omega) hi).get.1]; exact hs i (by omega)
      · have g := (hv i (by omega) h1).get
        exact g.2 k (by rw [g.1]; exact h2) h2 _ _ _ (hel i (by omega) k (by rw [g.1]; exact h2) h3)
  · rw [Hp.set_ne _ _ hxb] at hx
    exact hr.own x o hx
theorem Triple.rowvi {f : Nat} {args : List AV} {post : AV → Hp → Prop} {b s cap : Nat} {es es' : List (List AV)} (hb : h b = some (.row s es cap)) (hl : es.length = es'.length) (hv : ∀ i (h1 : i < es.length) (h2 : i < es'.length), VIs es[i] es'[i])
    (t : Triple P f args (h.set b (.row s es' cap)) post) : Triple P f args h post := fun fz w cargs r a =>
  (t fz w cargs (r.rowvi hb hl hv) a).mono fun _ w' ⟨cv, x, h', fz', e1, e2, e3, e4, p⟩ => by
    refine ⟨cv, x, h', fz', e1, e2, e3, ⟨e4.os, e4.tape, e4.output, e4.size, e4.grow, fun y hy hn => ?_, fun y hy => ?_⟩, p⟩
    · refine e4.keep y hy ?_
      have : y ≠ b := fun hh => by rw [hh, hb] at hn; cases hn
      rw [Hp.set_ne _ _ this]; exact hn
    · rcases e4.new y hy with g | ⟨o, g⟩ | g
      · exact .inl g
      · by_cases hyb : y = b
        · subst hyb; exact .inr (.inl ⟨_, hb⟩)
        · rw [Hp.set_ne _ _ hyb] at g; exact .inr (.inl ⟨o, g⟩)
      · exact .inr (.inr g)

/-- A part of a row. -/
theorem src_part {s b off len c rc : Nat} {es : List (List AV)} (hs : sat h (pto b (.row s es rc) :: F)) (h1 : off + len ≤ es.length) : srcA s h (.arr b s off len c) = some ((es.drop off).take len) := by
  have hb := hs.at
  simp only [srcA, hb]
  rw [if_pos ⟨trivial, trivial, h1⟩]

/-- append to a slice of one's own, where a load has to stand. -/
theorem app_satO {s bytes : Nat} {v y : AV} {es ys : List (List AV)} {obl : List AItem}
    (hs : sat h (Ow s v es :: F)) (hy : srcA s h y = some ys) (ha : AtomsL ys)
    (hb : (es.length + ys.length) * bytes ≤ 70368744177664) (hk : ∀ v' h', sat h' (Ow s v' (es ++ ys) :: F) → v'.cells = [v'] → v'.isAtom = true → obls P obl (e.put d v') h' ∧ runS P r st (e.put d v') h' k) :
    effR P (appE s bytes v y h) obl d r st e k := by
  refine ⟨ys, hy, ha, ?_⟩
  rcases hs.cases with ⟨rfl, rfl, g⟩ | ⟨b, cap, rfl, g, hle⟩
  · refine ⟨fun h0 => ?_, fun h0 => ⟨Nat.le_trans (by simpa using hb) (show 70368744177664 ≤ 140737488355328 by decide), fun n c hn hc => ?_⟩⟩
    · have := g.add (A := Ow s .nils ([] ++ ys)) (.inl ⟨rfl, by simp [h0]⟩)
      exact hk _ _ this this.els.cells this.els.atom
    · have := (g.new (o := .row s ys c) hn).ow hc
      have t : sat (h.set n (.row s ys c)) (Ow s (.arr n s 0 ys.length c) ([] ++ ys) :: F) := by simpa using this
      exact hk _ _ t t.els.cells t.els.atom
  · have hbb := g.at
    simp only [hbb]
    refine ⟨trivial, trivial, trivial, Nat.le_refl _, trivial, .inl hb, fun n c hn hc _ => ?_⟩
    rw [List.take_length]
    have := ((g.del).new (o := .row s (es ++ ys) c) hn).ow (by simpa using hc)
    have t : sat ((h.del b).set n (.row s (es ++ ys) c)) (Ow s (.arr n s 0 (es.length + ys.length) c) (es ++ ys) :: F) := by simpa using this
    exact hk _ _ t t.els.cells t.els.atom
end
end Go.Hz
/- A row that is sorted: its elements, their loads and stores, what a comparing function must do; the plain laws of the sort are the kit's (Go.Sort). -/
set_option linter.unusedSimpArgs false
set_option linter.unusedVariables false
namespace Go.Hz
open Go.Sort

/-- An element as a value: an aggregate (ag) or its one cell. -/
def vl (ag : Bool) (x : List AV) : AV := if ag then .agg x else x.headD .undef

/-- What holds of each element. -/
structure GoodE (s : Nat) (ag : Bool) (G : List AV → Prop) : Prop where
  len : ∀ x, G x → x.length = s
  atoms : ∀ x, G x → x.all AV.isAtom = true
  cells : ∀ x, G x → (vl ag x).cells = x
  pos : 1 ≤ s
  one : ag = false → s = 1

def GA (G : List AV → Prop) (d : Array (List AV)) : Prop := ∀ i, i < d.size → G d[i]!

section
variable {s : Nat} {ag : Bool} {G : List AV → Prop} {d : Array (List AV)} {h : Hp} {b cap : Nat}

theorem row_get {i : Nat} (hi : i < d.size) : d.toList[i]? = some d[i]! := by
  simp [hi]

theorem ld_row (E : GoodE s ag G) (hg : GA G d) {i : Nat} (hi : i < d.size) (hb : h b = some (.row s d.toList cap)) : ldA s ag h (.ptr b s i 0) = some (vl ag d[i]!) := by
  have h1 := E.len _ (hg i hi)
  simp only [ldA, cellsAt, hb, if_true, row_get hi, Option.map_some, List.drop_zero, partA, Nat.zero_add, h1, Nat.le_refl]
  cases ag with
  | true => simp [vl, ← h1]
  | false =>
    have hp := E.pos
    simp only [vl, Bool.false_eq_true, if_false]
    generalize d[i]! = x at h1
    cases x with
    | nil => simp at h1; omega
    | cons y ys => simp

theorem st_row (E : GoodE s ag G) (hg : GA G d) {x : List AV} (hx : G x) {i : Nat} (hi : i < d.size) (hb : h b = some (.row s d.toList cap)) :
    stA s h (.ptr b s i 0) (vl ag x) = some (h.set b (.row s (d.setIfInBounds i x).toList cap)) := by
  have h1 := E.len _ (hg i hi)
  have h2 := E.len _ hx
  have e : splice d[i]! 0 x = x := by
    simp only [splice, List.take_zero, List.nil_append, Nat.zero_add]
    rw [List.drop_eq_nil_of_le (by omega), List.append_nil]
  simp only [stA, hb, row_get hi, E.cells x hx, h2, h1, E.atoms x hx, true_and, Nat.zero_add, Nat.le_refl, if_true, e, Array.toList_setIfInBounds]

theorem GA.set (hg : GA G d) {i : Nat} {x : List AV} (hx : G x) : GA G (d.setIfInBounds i x) := by
  intro k hk
  simp only [Array.size_setIfInBounds] at hk
  by_cases e : i = k
  · subst e; simp [hk]; exact hx
  · have : (d.setIfInBounds i x)[k]! = d[k]! := by simp [Array.getElem!_eq_getD, Array.getD_eq_getD_getElem?, Array.getElem?_setIfInBounds, e]
    rw [this]; exact hg k hk

theorem GA.swp (hg : GA G d) {i j : Nat} (hi : i < d.size) (hj : j < d.size) : GA G (swp d i j) := (hg.set (hg j hj)).set (hg i hi)

theorem GA.perm (hg : GA G d) {d' : Array (List AV)} (hp : PermIn 0 d.size d d') : GA G d' := by
  intro i hi
  have := permIn_all d d' 0 d.size G (Nat.le_refl _) hp (fun i _ h => hg i h) i (Nat.zero_le _) (by rw [← hp.1]; exact hi)
  exact this

end

section
variable {s : Nat} {G : List AV → Prop} {d : Array (List AV)}
/-- What is read at a place (aggregates). -/
theorem rd_c (E : GoodE s true G) (hg : GA G d) {i : Nat} (hi : i < d.size) : d.toList[i]? = some d[i]! ∧ s ≤ (d[i]!).length ∧ List.take s d[i]! = d[i]! := by
  have h1 := E.len _ (hg i hi)
  exact ⟨row_get hi, by omega, List.take_of_length_le (by omega)⟩
/-- .. (elements of one cell). -/
theorem rd_o (E : GoodE s false G) (hg : GA G d) {i : Nat} (hi : i < d.size) : d.toList[i]? = some d[i]! ∧ (d[i]!)[0]? = some (vl false d[i]!) := by
  have h1 := E.len _ (hg i hi)
  refine ⟨row_get hi, ?_⟩
  have hp := E.pos
  generalize d[i]! = x at h1
  cases x with
  | nil => simp at h1; omega
  | cons y ys => simp [vl]
/-- What an exchange reads and writes. -/
theorem sw_c (E : GoodE s true G) (hg : GA G d) {i j : Nat} (hi : i < d.size) (hj : j < d.size) :
    d.toList[i]? = some d[i]! ∧ s ≤ (d[i]!).length ∧ List.take s d[i]! = d[i]! ∧ d.toList[j]? = some d[j]! ∧ s ≤ (d[j]!).length ∧ List.take s d[j]! = d[j]! ∧
    (d[i]!).length = s ∧ (d[j]!).length = s ∧ (d[i]!).all AV.isAtom = true ∧ (d[j]!).all AV.isAtom = true ∧ List.drop s d[i]! = [] ∧
    (∃ y : List AV, (d.toList.set i d[j]!)[j]? = some y ∧ y.length = s ∧ s ≤ y.length ∧ List.drop s y = []) ∧ (d.toList.set i d[j]!).set j d[i]! = (swp d i j).toList := by
  obtain ⟨a1, a2, a3⟩ := rd_c E hg hi
  obtain ⟨b1, b2, b3⟩ := rd_c E hg hj
  have g := hg.set (i := i) (hg j hj)
  obtain ⟨c1, c2, c3⟩ := rd_c E g (i := j) (by simpa using hj)
  have hl := E.len _ (g j (by simpa using hj))
  refine ⟨a1, a2, a3, b1, b2, b3, E.len _ (hg i hi), E.len _ (hg j hj), E.atoms _ (hg i hi), E.atoms _ (hg j hj), List.drop_eq_nil_of_le (by have := E.len _ (hg i hi); omega), ⟨_, by simpa using c1, hl, c2, List.drop_eq_nil_of_le (by omega)⟩, by simp [swp]⟩
theorem sw_o (E : GoodE s false G) (hg : GA G d) {i j : Nat} (hi : i < d.size) (hj : j < d.size) :
    d.toList[i]? = some d[i]! ∧ (d[i]!)[0]? = some (vl false d[i]!) ∧ d.toList[j]? = some d[j]! ∧ (d[j]!)[0]? = some (vl false d[j]!) ∧
    (d[i]!).length = s ∧ (d[j]!).length = s ∧ (d[i]!).all AV.isAtom = true ∧ (d[j]!).all AV.isAtom = true ∧ List.drop s d[i]! = [] ∧ (vl false d[i]!).cells = d[i]! ∧ (vl false d[j]!).cells = d[j]! ∧
    (∃ y : List AV, (d.toList.set i d[j]!)[j]? = some y ∧ y.length = s ∧ s ≤ y.length ∧ List.drop s y = []) ∧ (d.toList.set i d[j]!).set j d[i]! = (swp d i j).toList := by
  obtain ⟨a1, a2⟩ := rd_o E hg hi
  obtain ⟨b1, b2⟩ := rd_o E hg hj
  have g := hg.set (i := i) (hg j hj)
  obtain ⟨c1, c2⟩ := rd_o E g (i := j) (by simpa using hj)
  have hl := E.len _ (g j (by simpa using hj))
  refine ⟨a1, a2, b1, b2, E.len _ (hg i hi), E.len _ (hg j hj), E.atoms _ (hg i hi), E.atoms _ (hg j hj), List.drop_eq_nil_of_le (by have := E.len _ (hg i hi); omega), E.cells _ (hg i hi), E.cells _ (hg j hj), ⟨_, by simpa using c1, hl, by omega, List.drop_eq_nil_of_le (by omega)⟩, by simp [swp]⟩
end

theorem wu64 {n : Nat} (h : n < 18446744073709551616) : IntKind.u64.wrap (n : Int) = (n : Int) := by simp [IntKind.wrap, IntKind.signed, IntKind.bits]; omega
theorem wi64 {n : Nat} (h : n < 9223372036854775808) : IntKind.i64.wrap (n : Int) = (n : Int) := by simp [IntKind.wrap, IntKind.signed, IntKind.bits]; omega
theorem wlt {z : Int} : ∃ n : Nat, IntKind.u64.wrap z = (n : Int) ∧ n < 18446744073709551616 := by
  refine ⟨(IntKind.u64.wrap z).toNat, ?_, ?_⟩ <;> (simp [IntKind.wrap, IntKind.signed, IntKind.bits]; omega)
/-- A mask. -/
theorem and_lt (x : Int) {m : Nat} (hm : m < 18446744073709551616) : ∃ n : Nat, bitsA .and .u64 x (m : Int) = (n : Int) ∧ n ≤ m := by
  refine ⟨(BitVec.ofInt 64 x &&& BitVec.ofInt 64 (m : Int)).toNat, ?_, ?_⟩
  · show IntKind.u64.wrap _ = _
    exact wu64 (BitVec.isLt _)
  · rw [BitVec.toNat_and]
    refine Nat.le_trans Nat.and_le_right ?_
    rw [BitVec.toNat_ofInt]
    omega
/-- A table of the lengths of the bytes. -/
def tabOK (l : List UInt8) : Bool := (List.range 256).all fun k => match l[k]? with
  | some b => decide (k < 2 ^ b.toNat) && (k == 0 || decide (2 ^ b.toNat ≤ 2 * k)) && decide (b.toNat ≤ 8)
  | none => false
theorem ixs_use {P : Program} {st : List Fr} {e : Env} {h : Hp} {kt : Kt} {dd : Option Nat} {r : List (AItem × List AItem)} {l : List UInt8} (hl : tabOK l = true) {k : Nat} (hk : k < 256)
    (hc : ∀ t : Nat, k < 2 ^ t → (1 ≤ k → 2 ^ t ≤ 2 * k) → t ≤ 8 → runS P r st (e.put dd (.int .u8 t)) h kt) :
    nx P (if (0 : Int) ≤ (k : Int) then Option.map (fun b : UInt8 => AV.int .u8 (b.toNat : Int)) l[((k : Int)).toNat]? else none) dd r st e h kt := by
  have h1 := List.all_eq_true.1 hl k (by simpa using hk)
  rw [if_pos (by omega), Int.toNat_natCast]
  cases hb : l[k]? with
  | none => rw [hb] at h1; cases h1
  | some b =>
    rw [hb] at h1
    simp only [Bool.and_eq_true, Bool.or_eq_true, decide_eq_true_eq, beq_iff_eq] at h1
    exact ⟨_, rfl, hc _ h1.1.1 (fun h => h1.1.2.resolve_left (by omega)) h1.2⟩

/-- To go on from less than is known of the slots. -/
theorem run_cut {P : Program} {c : ACode} {st : List Fr} {e : Env} {h : Hp} {k : Kt} (Q : Env → Hp → Prop) (hq : Q e h) (hk : ∀ e h, Q e h → run P c st e h k) : run P c st e h k := hk e h hq

/-- A comparing function (as slices.SortFunc takes it). -/
def CmpT (P : Program) (ag : Bool) (G : List AV → Prop) (lt : List AV → List AV → Bool) (f : Nat) (caps : List AV) : Prop :=
  ∀ (x y : List AV) (L : List Asr) (h : Hp), G x → G y → sat h L → Triple P f ([vl ag x, vl ag y] ++ caps) h (fun r h => ∃ c : Int, r = .int .i64 c ∧ decide (c < 0) = lt x y ∧ sat h L)
/-- A function that tells whether one is less. -/
def LessT (P : Program) (ag : Bool) (G : List AV → Prop) (lt : List AV → List AV → Bool) (f : Nat) : Prop :=
  ∀ (x y : List AV) (L : List Asr) (h : Hp), G x → G y → sat h L → Triple P f [vl ag x, vl ag y] h (fun r h => r = .bool (lt x y) ∧ sat h L)

end Go.Hz
/- Keys in order; lists that are woven; parts of a heap in another order; slices.Insert's steps. -/
set_option linter.unusedVariables false
set_option linter.unusedSimpArgs false
namespace Go.Hz
section
variable {h : Hp} {l l' F : List Asr} {A B : Asr}
theorem sat.perm (p : l.Perm l') : ∀ {h : Hp}, sat h l → sat h l' := by
  induction p with
  | nil => exact fun hs => hs
  | cons A _ ih => exact fun hs => hs.tl fun _ g => ih g
  | swap A B l => exact fun hs => hs.swap
  | trans _ _ ih1 ih2 => exact fun hs => ih2 (ih1 hs)
theorem sat.mid {l1 l2 : List Asr} (hs : sat h (l1 ++ A :: l2)) : sat h (A :: (l1 ++ l2)) := hs.perm List.perm_middle
theorem sat.unmid {l1 l2 : List Asr} (hs : sat h (A :: (l1 ++ l2))) : sat h (l1 ++ A :: l2) := hs.perm List.perm_middle.symm
theorem sat.comm {l1 l2 : List Asr} (hs : sat h (l1 ++ l2)) : sat h (l2 ++ l1) := hs.perm List.perm_append_comm
theorem sat.left {l1 l2 : List Asr} (hs : sat h (l1 ++ l2)) : sat h l1 := by
  induction l1 generalizing h with
  | nil => trivial
  | cons A l1 ih => exact hs.tl fun _ g => ih g
theorem sat.right {l1 l2 : List Asr} (hs : sat h (l1 ++ l2)) : sat h l2 := hs.comm.left
end

/-! ### keys -/
abbrev Key := List UInt8
def ltK (a b : Key) : Bool := Op.bytesLess a b
theorem ltK_nn : ltK [] [] = false := rfl
theorem ltK_irrefl : ∀ a : Key, ltK a a = false
  | [] => rfl
  | x :: a => by
    have := ltK_irrefl a
    simp only [ltK, Op.bytesLess] at this ⊢
    simp [this]
theorem ltK_eq : ∀ (x y : Key), ltK x y = decide (x < y)
  | [], [] => by simp [ltK, Op.bytesLess]
  | [], y :: ys => by simp [ltK, Op.bytesLess]
  | x :: xs, [] => by simp [ltK, Op.bytesLess]
  | x :: xs, y :: ys => by
    have ih := ltK_eq xs ys
    simp only [ltK] at ih
    simp only [ltK, Op.bytesLess, ih]
    by_cases h1 : x < y
    · simp [h1, List.cons_lt_cons_iff]
    · by_cases h2 : x = y
      · subst h2; simp [List.cons_lt_cons_iff]
      · simp [h1, h2, List.cons_lt_cons_iff]
theorem ltK_lt {a b : Key} : ltK a b = true ↔ a < b := by rw [ltK_eq]; simp
theorem ltK_ge {a b : Key} : ltK a b = false ↔ ¬ a < b := by rw [ltK_eq]; simp
theorem ltK_trans {a b c : Key} (h1 : ltK a b = true) (h2 : ltK b c = true) : ltK a c = true := ltK_lt.2 (List.lt_trans (ltK_lt.1 h1) (ltK_lt.1 h2))
theorem ltK_asymm {a b : Key} (h1 : ltK a b = true) : ltK b a = false := by
  cases h : ltK b a with
  | false => rfl
  | true => have := ltK_trans h1 h; rw [ltK_irrefl] at this; cases this
theorem ltK_total {a b : Key} (h1 : ltK a b = false) (h2 : ltK b a = false) : a = b := by
  have h1 := ltK_ge.1 h1
  have h2 := ltK_ge.1 h2
  exact List.le_antisymm (List.not_lt.1 h2) (List.not_lt.1 h1)
theorem ltK_lt_of_lt_of_ge {a b c : Key} (h1 : ltK a b = true) (h2 : ltK c b = false) : ltK a c = true := by
  by_cases h : ltK b c = true
  · exact ltK_trans h1 h
  · have := ltK_total (by simpa using h) h2
    subst this; exact h1
theorem ltK_ge_trans {a b c : Key} (h1 : ltK b a = false) (h2 : ltK b c = true) : ltK a c = true := by
  by_cases h : ltK a b = true
  · exact ltK_trans h h2
  · have := ltK_total (by simpa using h) h1
    subst this; exact h2

/-- An item as a node has it: where it lies, its key. -/
abbrev Kp := Nat × Key
def kpt (x : Kp) : List AV := [.ptr x.1 2 0 0]
def Srt (l : List Kp) : Prop := l.Pairwise fun x y => ltK x.2 y.2 = true
theorem Srt.app {l1 l2 : List Kp} : Srt (l1 ++ l2) ↔ Srt l1 ∧ Srt l2 ∧ ∀ x ∈ l1, ∀ y ∈ l2, ltK x.2 y.2 = true := List.pairwise_append

/-- An item among others, by its key. -/
def insK (x : Kp) (l : List Kp) : List Kp := l.takeWhile (fun y => ltK y.2 x.2) ++ x :: l.dropWhile (fun y => ltK y.2 x.2)
def findKp (k : Key) (l : List Kp) : Option Kp := l.find? fun y => y.2 == k
theorem takeWhile_all {α : Type} {p : α → Bool} {A l : List α} (h : ∀ x ∈ A, p x = true) : (A ++ l).takeWhile p = A ++ l.takeWhile p := by
  induction A with
  | nil => rfl
  | cons x A ih => simp [h x (by simp), ih fun y hy => h y (by simp [hy])]
theorem dropWhile_all {α : Type} {p : α → Bool} {A l : List α} (h : ∀ x ∈ A, p x = true) : (A ++ l).dropWhile p = l.dropWhile p := by
  induction A with
  | nil => rfl
  | cons x A ih => simp [h x (by simp), ih fun y hy => h y (by simp [hy])]
theorem takeWhile_stop {α : Type} {p : α → Bool} {M C : List α} (h : ∀ x ∈ C.head?, p x = false) : (M ++ C).takeWhile p = M.takeWhile p := by
  induction M with
  | nil => cases C with
    | nil => rfl
    | cons x C => simp [h x (by simp)]
  | cons x M ih => simp only [List.cons_append, List.takeWhile_cons, ih]
theorem dropWhile_stop {α : Type} {p : α → Bool} {M C : List α} (h : ∀ x ∈ C.head?, p x = false) : (M ++ C).dropWhile p = M.dropWhile p ++ C := by
  induction M with
  | nil => cases C with
    | nil => rfl
    | cons x C => simp [h x (by simp)]
  | cons x M ih => simp only [List.cons_append, List.dropWhile_cons, ih]; split <;> rfl
theorem insK_mid {x : Kp} {A M C : List Kp} (h1 : ∀ y ∈ A, ltK y.2 x.2 = true) (h2 : ∀ y ∈ C.head?, ltK y.2 x.2 = false) : insK x (A ++ M ++ C) = A ++ insK x M ++ C := by
  unfold insK
  rw [List.append_assoc, takeWhile_all h1, dropWhile_all h1, takeWhile_stop h2, dropWhile_stop h2]
  simp
theorem insK_split {x : Kp} {A C : List Kp} (h1 : ∀ y ∈ A, ltK y.2 x.2 = true) (h2 : ∀ y ∈ C.head?, ltK y.2 x.2 = false) : insK x (A ++ C) = A ++ x :: C := by
  have := insK_mid (M := []) h1 h2
  simpa [insK] using this
theorem insK_mem {x y : Kp} {l : List Kp} : y ∈ insK x l ↔ y = x ∨ y ∈ l := by
  unfold insK
  have : l.takeWhile (fun y => ltK y.2 x.2) ++ l.dropWhile (fun y => ltK y.2 x.2) = l := List.takeWhile_append_dropWhile
  constructor
  · intro h
    simp only [List.mem_append, List.mem_cons] at h
    rcases h with h | h | h
    · right; rw [← this]; exact List.mem_append_left _ h
    · exact .inl h
    · right; rw [← this]; exact List.mem_append_right _ h
  · rintro (h | h)
    · simp [h]
    · rw [← this] at h
      simp only [List.mem_append, List.mem_cons] at h ⊢
      rcases h with h | h
      · exact .inl h
      · exact .inr (.inr h)
theorem insK_perm {x : Kp} {l : List Kp} : (insK x l).Perm (x :: l) := by
  unfold insK
  refine List.perm_middle.trans ?_
  rw [List.takeWhile_append_dropWhile]
theorem insK_len {x : Kp} {l : List Kp} : (insK x l).length = l.length + 1 := by
  have : l.takeWhile (fun y => ltK y.2 x.2) ++ l.dropWhile (fun y => ltK y.2 x.2) = l := List.takeWhile_append_dropWhile
  unfold insK
  have h2 := congrArg List.length this
  simp only [List.length_append, List.length_cons] at h2 ⊢
  omega
/-- What lies ahead of a place and behind it, in order. -/
theorem Srt.cut {l : List Kp} (hs : Srt l) (k : Key) : ∃ A C, l = A ++ C ∧ (∀ y ∈ A, ltK y.2 k = true) ∧ (∀ y ∈ C, ltK y.2 k = false) := by
  refine ⟨l.takeWhile (fun y => ltK y.2 k), l.dropWhile (fun y => ltK y.2 k), List.takeWhile_append_dropWhile.symm, fun y hy => (List.all_takeWhile (p := fun y : Kp => ltK y.2 k) (l := l) |> fun h => List.all_eq_true.1 h y hy), ?_⟩
  induction l with
  | nil => intro y hy; simp at hy
  | cons x l ih =>
    have h1 := List.pairwise_cons.1 hs
    intro y hy
    simp only [List.dropWhile_cons] at hy
    split at hy
    · exact ih h1.2 y hy
    · rename_i hx
      rcases List.mem_cons.1 hy with rfl | hy
      · simpa using hx
      · cases hyk : ltK y.2 k with
        | false => rfl
        | true => exact absurd (ltK_trans (h1.1 y hy) hyk) (by simpa using hx)
theorem Srt.ins {x : Kp} {l : List Kp} (hs : Srt l) (hx : ∀ y ∈ l, y.2 ≠ x.2) : Srt (insK x l) := by
  obtain ⟨A, C, rfl, h1, h2⟩ := hs.cut x.2
  rw [insK_split h1 fun y hy => h2 y (List.mem_of_mem_head? hy)]
  obtain ⟨a, b, c⟩ := Srt.app.1 hs
  refine Srt.app.2 ⟨a, List.pairwise_cons.2 ⟨fun y hy => ?_, b⟩, fun y hy z hz => ?_⟩
  · cases h : ltK x.2 y.2 with
    | true => rfl
    | false => exact absurd (ltK_total (h2 y hy) h) (hx y (by simp [hy]))
  · rcases List.mem_cons.1 hz with rfl | hz
    · exact h1 y hy
    · exact c y hy z hz

/-! ### lists woven with what lies between -/
def weave {α : Type} : List (List α) → List α → List α
  | [], is => is
  | l :: ls, [] => l ++ ls.flatten
  | l :: ls, i :: is => l ++ i :: weave ls is
theorem weave_cut {α : Type} : ∀ (ls1 ls2 : List (List α)) (is1 is2 : List α) (m : α), ls1.length = is1.length + 1 → weave (ls1 ++ ls2) (is1 ++ m :: is2) = weave ls1 is1 ++ m :: weave ls2 is2
  | [], _, _, _, _, h => by simp at h
  | [l], ls2, [], is2, m, _ => by simp [weave]
  | l :: l' :: ls, _, [], _, _, h => by simp at h
  | l :: ls1, ls2, i :: is1, is2, m, h => by
    have := weave_cut ls1 ls2 is1 is2 m (by simpa using h)
    simp [weave, this]
theorem weave_split {α : Type} : ∀ (ls : List (List α)) (is : List α) (j : Nat), ls.length = is.length + 1 → (hj : j ≤ is.length) →
    ∃ A C, weave ls is = A ++ ls.getD j [] ++ C ∧ (∀ m, weave (ls.set j m) is = A ++ m ++ C) ∧ (∀ m1 x m2, weave (ls.take j ++ m1 :: m2 :: ls.drop (j + 1)) (is.take j ++ x :: is.drop j) = A ++ m1 ++ x :: m2 ++ C) ∧
      (j = 0 ∧ A = [] ∨ 0 < j ∧ ∃ y, A.getLast? = some y ∧ is[j - 1]? = some y) ∧ C.head? = is[j]?
  | [], _, _, h, _ => by simp at h
  | l :: ls, [], j, h, hj => by
    have h0 : ls = [] := by simpa using h
    have h1 : j = 0 := by simpa using hj
    subst h0; subst h1
    exact ⟨[], [], by simp [weave], fun m => by simp [weave], fun m1 x m2 => by simp [weave], by simp, by simp⟩
  | l :: ls, i :: is, 0, h, _ => by
    refine ⟨[], i :: weave ls is, by simp [weave], fun m => by simp [weave], fun m1 x m2 => by simp [weave], by simp, by simp⟩
  | l :: ls, i :: is, j + 1, h, hj => by
    obtain ⟨A, C, h1, h2, h3, h4, h5⟩ := weave_split ls is j (by simpa using h) (by simpa using hj)
    refine ⟨l ++ i :: A, C, by simp [weave, h1], fun m => by simp [weave, h2], fun m1 x m2 => by simp [weave, h3], .inr ⟨Nat.succ_pos _, ?_⟩, by simpa using h5⟩
    rw [Nat.add_sub_cancel]
    rcases h4 with ⟨rfl, rfl⟩ | ⟨h4, y, g1, g2⟩
    · exact ⟨i, by simp, by simp⟩
    · obtain ⟨j', rfl⟩ : ∃ j', j = j' + 1 := ⟨j - 1, by omega⟩
      exact ⟨y, by simp [List.getLast?_cons, g1], by simpa using g2⟩

/-! ### slices.Insert's steps -/
section
variable {P : Program} {st : List Fr} {e : Env} {k : Kt} {d : Option Nat} {r : List (AItem × List AItem)} {h : Hp} {F : List Asr}
theorem appz_use {s bytes b i m cap rc : Nat} {ki : IntKind} {zs : List AV} {es : List (List AV)} (hs : sat h (pto b (.row s es rc) :: F)) (h1 : i ≤ es.length) (h2 : cap < i + m) (h3 : (i + m) * bytes ≤ 70368744177664)
    (hk : ∀ b2 c h', i + m ≤ c → sat h' (pto b2 (.row s (es.take i ++ List.replicate m zs) c) :: pto b (.row s es rc) :: F) → runS P r st (e.put d (.arr b2 s 0 (i + m) c)) h' k) :
    effR P (appzE s bytes zs (.arr b s 0 i cap) (.int ki m) h) [] d r st e k := by
  refine ⟨by omega, ?_⟩
  have hb := hs.at
  simp only [hb, Int.toNat_natCast]
  exact ⟨trivial, trivial, trivial, h1, h2, h3, fun n c hn hc => ⟨fun _ hm => by simp at hm, hk n c _ hc (hs.new hn)⟩⟩
theorem ovl_use {s b b2 off len cap off2 len2 cap2 rc rc2 : Nat} {es es2 : List (List AV)} (hs : sat h (pto b (.row s es rc) :: pto b2 (.row s es2 rc2) :: F)) (h1 : off + len ≤ rc) (h2 : 0 < len) (h3 : 0 < len2)
    (hk : ∀ q : Bool, runS P r st (e.put d (.bool q)) h k) : effR P (ovlE s (.arr b s off len cap) (.arr b2 s off2 len2 cap2) h) [] d r st e k := by
  refine ⟨hs.ne, ?_, ?_, h2, h3, ⟨fun _ hm => by simp at hm, hk false⟩, ⟨fun _ hm => by simp at hm, hk true⟩⟩
  · have hb := hs.at
    simp only [hb]
    exact ⟨trivial, trivial, h1⟩
  · have hb := hs.p1.at
    simp only [hb]
/-- A part of a row, the first elements of it. -/
theorem srcN_part {s b off len c rc n : Nat} {es : List (List AV)} (hs : sat h (pto b (.row s es rc) :: F)) (h0 : n ≤ len) (h1 : off + n ≤ es.length) : srcN s h (.arr b s off len c) n = some ((es.drop off).take n) := by
  have hb := hs.at
  simp only [srcN, hb]
  rw [if_pos ⟨trivial, trivial, h0, h1⟩]
end
theorem AtomsL.take {es : List (List AV)} {n : Nat} (h : AtomsL es) : AtomsL (es.take n) := fun e he => h e (List.mem_of_mem_take he)
theorem AtomsL.drop {es : List (List AV)} {n : Nat} (h : AtomsL es) : AtomsL (es.drop n) := fun e he => h e (List.mem_of_mem_drop he)
theorem AtomsL.app {es es2 : List (List AV)} (h : AtomsL es) (h2 : AtomsL es2) : AtomsL (es ++ es2) := fun e he => (List.mem_append.1 he).elim (h e) (h2 e)
/-- A row of pointers. -/
def pt (p : Nat) : List AV := [.ptr p 2 0 0]
theorem atoms_kpt (l : List Kp) : AtomsL (l.map kpt) := by
  intro e he v hv
  obtain ⟨k, _, rfl⟩ := List.mem_map.1 he
  simp only [kpt, List.mem_cons, List.not_mem_nil, or_false] at hv
  subst hv; rfl

/-! ### what 'place' tells -/
/-- What 'place' tells of a key among items. -/
structure PlaceR (is : List Kp) (key : Key) (j : Nat) (q : Bool) : Prop where
  le : j ≤ is.length
  lo : ∀ i x, is[i]? = some x → i < j → ltK x.2 key = true
  hi : ∀ i x, is[i]? = some x → j ≤ i → ltK x.2 key = false
  yes : q = true → ∃ a, is[j]? = some (a, key)
  no : q = false → ∀ x, is[j]? = some x → ltK key x.2 = true
theorem Srt.le_last {A : List Kp} {y : Kp} {k : Key} (hs : Srt A) (hl : A.getLast? = some y) (hy : ltK y.2 k = true) : ∀ z ∈ A, ltK z.2 k = true := by
  intro z hz
  have hne : A ≠ [] := fun h => by subst h; cases hz
  have e : A.dropLast ++ [y] = A := by
    have := List.dropLast_concat_getLast hne
    rw [List.getLast?_eq_some_getLast hne] at hl
    cases hl; exact this
  rw [← e] at hz hs
  rcases List.mem_append.1 hz with h | h
  · exact ltK_trans ((Srt.app.1 hs).2.2 z h y (by simp)) hy
  · simp at h; subst h; exact hy
theorem Srt.ge_head {C : List Kp} {k : Key} (hs : Srt C) (hy : ∀ y ∈ C.head?, ltK y.2 k = false) : ∀ z ∈ C, ltK z.2 k = false := by
  cases C with
  | nil => intro z hz; cases hz
  | cons c C =>
    have h0 := hy c (by simp)
    intro z hz
    rcases List.mem_cons.1 hz with rfl | hz
    · exact h0
    · have := (List.pairwise_cons.1 hs).1 z hz
      cases h : ltK z.2 k with
      | false => rfl
      | true => rw [ltK_trans this h] at h0; cases h0
theorem Srt.gt_head {C : List Kp} {k : Key} (hs : Srt C) (hy : ∀ y ∈ C.head?, ltK k y.2 = true) : ∀ z ∈ C, ltK k z.2 = true := by
  cases C with
  | nil => intro z hz; cases hz
  | cons c C =>
    have h0 := hy c (by simp)
    intro z hz
    rcases List.mem_cons.1 hz with rfl | hz
    · exact h0
    · exact ltK_trans h0 ((List.pairwise_cons.1 hs).1 z hz)
theorem PlaceR.cut {ls : List (List Kp)} {is : List Kp} {key : Key} {j : Nat} {q : Bool} (hp : PlaceR is key j q) (hl : ls.length = is.length + 1) (hs : Srt (weave ls is)) :
    ∃ A C, weave ls is = A ++ ls.getD j [] ++ C ∧ (∀ m, weave (ls.set j m) is = A ++ m ++ C) ∧ (∀ m1 x m2, weave (ls.take j ++ m1 :: m2 :: ls.drop (j + 1)) (is.take j ++ x :: is.drop j) = A ++ m1 ++ x :: m2 ++ C) ∧
      (∀ y ∈ A, ltK y.2 key = true) ∧ (∀ y ∈ C, ltK y.2 key = false) ∧ (q = false → ∀ y ∈ C, ltK key y.2 = true) ∧ C.head? = is[j]? := by
  obtain ⟨A, C, h1, h2, h3, h4, h5⟩ := weave_split ls is j hl hp.le
  rw [h1] at hs
  have sA := (Srt.app.1 (Srt.app.1 hs).1).1
  have sC := (Srt.app.1 hs).2.1
  refine ⟨A, C, h1, h2, h3, ?_, sC.ge_head fun y hy => hp.hi j y (by rw [← h5]; exact hy) (Nat.le_refl _), fun hq => sC.gt_head fun y hy => hp.no hq y (by rw [← h5]; exact hy), h5⟩
  rcases h4 with ⟨_, rfl⟩ | ⟨hj, y, g1, g2⟩
  · intro y hy; cases hy
  · exact sA.le_last g1 (hp.lo (j - 1) y g2 (by omega))

theorem findKp_mem {l : List Kp} {x : Kp} (hs : Srt l) (hx : x ∈ l) : findKp x.2 l = some x := by
  induction l with
  | nil => cases hx
  | cons y l ih =>
    have h1 := List.pairwise_cons.1 hs
    unfold findKp
    rw [List.find?_cons]
    rcases List.mem_cons.1 hx with rfl | hx
    · simp
    · have := h1.1 x hx
      have hne : (y.2 == x.2) = false := by
        rw [beq_eq_false_iff_ne]; intro h; rw [h, ltK_irrefl] at this; cases this
      rw [hne]; exact ih h1.2 hx
theorem findKp_none {l : List Kp} {k : Key} (h : ∀ x ∈ l, x.2 ≠ k) : findKp k l = none := List.find?_eq_none.2 fun x hx => by simpa using h x hx
theorem findKp_mid {A M C : List Kp} {k : Key} (h1 : ∀ y ∈ A, ltK y.2 k = true) (h2 : ∀ y ∈ C, ltK k y.2 = true) : findKp k (A ++ M ++ C) = findKp k M := by
  have hA : findKp k A = none := findKp_none fun x hx h => by have := h1 x hx; rw [h, ltK_irrefl] at this; cases this
  have hC : findKp k C = none := findKp_none fun x hx h => by have := h2 x hx; rw [h, ltK_irrefl] at this; cases this
  unfold findKp at *
  rw [List.find?_append, List.find?_append, hA, hC]
  simp
theorem mem_weave {α : Type} {x : α} : ∀ (ls : List (List α)) (is : List α), x ∈ is → x ∈ weave ls is
  | [], is, h => h
  | l :: ls, [], h => by cases h
  | l :: ls, i :: is, h => by
    rcases List.mem_cons.1 h with rfl | h
    · simp [weave]
    · simp [weave, mem_weave ls is h]
theorem mem_weave2 {α : Type} {x : α} : ∀ (ls : List (List α)) (is : List α) (l : List α), ls.length = is.length + 1 → l ∈ ls → x ∈ l → x ∈ weave ls is
  | [], is, l, h, h2, _ => by cases h2
  | l' :: ls, [], l, h, h2, h3 => by
    have : ls = [] := by simpa using h
    subst this
    simp at h2; subst h2; simpa [weave] using h3
  | l' :: ls, i :: is, l, h, h2, h3 => by
    rcases List.mem_cons.1 h2 with rfl | h2
    · simp [weave, h3]
    · simp [weave, mem_weave2 ls is l (by simpa using h) h2 h3]
theorem weave_srt : ∀ (ls : List (List Kp)) (is : List Kp), Srt (weave ls is) → Srt is
  | [], is, h => h
  | l :: ls, [], _ => List.Pairwise.nil
  | l :: ls, i :: is, h => by
    have h1 := (Srt.app.1 h).2.1
    have h2 := List.pairwise_cons.1 h1
    exact List.pairwise_cons.2 ⟨fun y hy => h2.1 y (mem_weave ls is hy), weave_srt ls is h2.2⟩
theorem weave_len {α : Type} : ∀ (ls : List (List α)) (is : List α), ls.length = is.length + 1 → (weave ls is).length = (ls.map List.length).sum + is.length
  | [], is, h => by simp at h
  | l :: ls, [], h => by
    have : ls = [] := by simpa using h
    subst this; simp [weave]
  | l :: ls, i :: is, h => by
    have := weave_len ls is (by simpa using h)
    simp [weave, this]; omega

/-! ### the tree as it lies -/
inductive Tr where
  | nd (p : Nat) (iv kv : AV) (is : List Kp) (ks : List Tr)
def Tr.root : Tr → Nat
  | .nd p _ _ _ _ => p
mutual
def Tr.flat : Tr → List Kp
  | .nd _ _ _ is ks => weave (Tr.flats ks) is
def Tr.flats : List Tr → List (List Kp)
  | [] => []
  | k :: ks => k.flat :: Tr.flats ks
end
theorem Tr.flats_map : ∀ ks : List Tr, Tr.flats ks = ks.map Tr.flat
  | [] => by simp [Tr.flats]
  | k :: ks => by simp [Tr.flats, Tr.flats_map ks]
theorem Tr.flat_nd {p : Nat} {iv kv : AV} {is : List Kp} {ks : List Tr} : (Tr.nd p iv kv is ks).flat = weave (ks.map Tr.flat) is := by rw [Tr.flat, Tr.flats_map]
mutual
def Tr.asr : Tr → Asr
  | .nd p iv kv is ks => fun h => sat h (pto p (.row 2 [[iv, kv]] 1) :: Ow 1 iv (is.map kpt) :: Ow 1 kv (ks.map fun k => pt k.root) :: Tr.asrs ks)
def Tr.asrs : List Tr → List Asr
  | [] => []
  | k :: ks => k.asr :: Tr.asrs ks
end
theorem Tr.asrs_map : ∀ ks : List Tr, Tr.asrs ks = ks.map Tr.asr
  | [] => by simp [Tr.asrs]
  | k :: ks => by simp [Tr.asrs, Tr.asrs_map ks]
def Tr.parts (p : Nat) (iv kv : AV) (is : List Kp) (ks : List Tr) : List Asr := pto p (.row 2 [[iv, kv]] 1) :: Ow 1 iv (is.map kpt) :: Ow 1 kv (ks.map fun k => pt k.root) :: ks.map Tr.asr
theorem Tr.asr_nd {p : Nat} {iv kv : AV} {is : List Kp} {ks : List Tr} {h : Hp} : (Tr.nd p iv kv is ks).asr h ↔ sat h (Tr.parts p iv kv is ks) := by rw [Tr.asr, Tr.asrs_map]; exact Iff.rfl
theorem sat_nd {p : Nat} {iv kv : AV} {is : List Kp} {ks : List Tr} {h : Hp} {F : List Asr} : sat h ((Tr.nd p iv kv is ks).asr :: F) ↔ sat h (Tr.parts p iv kv is ks ++ F) := by
  rw [← sat_sl]
  exact ⟨fun hs => hs.imp fun _ g => Tr.asr_nd.1 g, fun hs => hs.imp fun _ g => Tr.asr_nd.2 g⟩
/-- A tree of so many storeys below its root. -/
def OKd : Nat → Tr → Prop
  | 0, .nd _ _ _ is ks => is.length ≤ 5 ∧ ks = []
  | d + 1, .nd _ _ _ is ks => 1 ≤ is.length ∧ is.length ≤ 5 ∧ ks.length = is.length + 1 ∧ ∀ k ∈ ks, OKd d k ∧ k.flat ≠ []
/-- What is read of a node. -/
structure NR (p : Nat) (iv kv : AV) (is : List Kp) (h : Hp) : Prop where
  nd : h p = some (.row 2 [[iv, kv]] 1)
  it : Ow 1 iv (is.map kpt) h
  ks : ∀ x ∈ is, ∃ mv, h x.1 = some (.row 2 [[.str x.2, mv]] 1)
/-- What is read of a tree. -/
def RT : Nat → Tr → Hp → Prop
  | 0, .nd p iv kv is ks, h => NR p iv kv is h ∧ Ow 1 kv (ks.map fun k => pt k.root) h
  | d + 1, .nd p iv kv is ks, h => NR p iv kv is h ∧ Ow 1 kv (ks.map fun k => pt k.root) h ∧ ∀ k ∈ ks, RT d k h
theorem Ow.mono {s : Nat} {v : AV} {es : List (List AV)} : Mono (Ow s v es) := fun h S o => by
  rcases o with o | ⟨b, cap, h1, h2, h3⟩
  · exact .inl o
  · exact .inr ⟨b, cap, h1, (res_some h2).2, h3⟩
theorem sat.owr {s : Nat} {v : AV} {es : List (List AV)} {h : Hp} {F : List Asr} (hs : sat h (Ow s v es :: F)) : Ow s v es h := hs.hd Ow.mono fun _ o => o
/-- The items' keys can be read. -/
def IR (l : List Kp) (h : Hp) : Prop := ∀ x ∈ l, ∃ mv, h x.1 = some (.row 2 [[.str x.2, mv]] 1)
theorem RT.of : ∀ (d : Nat) (t : Tr) {h : Hp} {F : List Asr}, OKd d t → sat h (t.asr :: F) → IR t.flat h → RT d t h
  | 0, .nd p iv kv is ks, h, F, ok, hs, hi => by
    have hs := sat_nd.1 hs
    rw [Tr.flat_nd] at hi
    exact ⟨⟨hs.at, hs.drop.owr, fun x hx => hi x (mem_weave _ _ hx)⟩, hs.drop.drop.owr⟩
  | d + 1, .nd p iv kv is ks, h, F, ok, hs, hi => by
    have hs := sat_nd.1 hs
    obtain ⟨o1, o2, o3, o4⟩ := ok
    rw [Tr.flat_nd] at hi
    refine ⟨⟨hs.at, hs.drop.owr, fun x hx => hi x (mem_weave _ _ hx)⟩, hs.drop.drop.owr, fun k hk => ?_⟩
    obtain ⟨k1, k2, rfl⟩ := List.append_of_mem hk
    have g : sat h ((k1 ++ k :: k2).map Tr.asr ++ F) := hs.drop.drop.drop
    rw [List.map_append, List.map_cons, List.append_assoc, List.cons_append] at g
    exact RT.of d k (o4 k hk).1 g.mid fun x hx => hi x (mem_weave2 _ _ k.flat (by simpa using o3) (List.mem_map_of_mem hk) hx)
theorem RT.nr {d : Nat} {p : Nat} {iv kv : AV} {is : List Kp} {ks : List Tr} {h : Hp} (r : RT d (.nd p iv kv is ks) h) : NR p iv kv is h := by
  cases d with
  | zero => exact r.1
  | succ d => exact r.1
theorem RT.kv {d : Nat} {p : Nat} {iv kv : AV} {is : List Kp} {ks : List Tr} {h : Hp} (r : RT d (.nd p iv kv is ks) h) : Ow 1 kv (ks.map fun k => pt k.root) h := by
  cases d with
  | zero => exact r.2
  | succ d => exact r.2.1
theorem Ow.len {s : Nat} {v : AV} {es : List (List AV)} {h : Hp} (o : Ow s v es h) : lenL v = some (.int .i64 es.length) := by
  rcases o with ⟨rfl, rfl⟩ | ⟨b, cap, rfl, h2, h3⟩ <;> rfl
theorem Ow.row {s : Nat} {v : AV} {es : List (List AV)} {h : Hp} (o : Ow s v es h) {i : Nat} {x : List AV} (hi : es[i]? = some x) : ∃ b cap, v = .arr b s 0 es.length cap ∧ h b = some (.row s es cap) ∧ es.length ≤ cap := by
  rcases o with ⟨rfl, rfl⟩ | ⟨b, cap, rfl, h2, h3⟩
  · simp at hi
  · exact ⟨b, cap, rfl, h2, h3⟩
section
variable {h : Hp}
theorem NR.arr {p : Nat} {iv kv : AV} {is : List Kp} (r : NR p iv kv is h) {i : Nat} {x : Kp} (hi : is[i]? = some x) : ∃ b cap, iv = .arr b 1 0 is.length cap ∧ h b = some (.row 1 (is.map kpt) cap) := by
  rcases r.it with ⟨_, h0⟩ | ⟨b, cap, h1, h2, h3⟩
  · have : is = [] := by simpa using h0
    subst this; simp at hi
  · rw [List.length_map] at h1
    exact ⟨b, cap, h1, h2⟩
theorem NR.len {p : Nat} {iv kv : AV} {is : List Kp} (r : NR p iv kv is h) : lenL iv = some (.int .i64 is.length) := by
  rcases r.it with ⟨h1, h0⟩ | ⟨b, cap, h1, h2, h3⟩
  · have : is = [] := by simpa using h0
    subst this; subst h1; rfl
  · rw [h1, List.length_map]; rfl
theorem kpt_get {is : List Kp} {i : Nat} {x : Kp} (hi : is[i]? = some x) : (is.map kpt)[i]? = some [.ptr x.1 2 0 0] := by simp [hi, kpt]
theorem ia_go {b off len c i : Nat} (hi : i < len) : iaA 1 (.arr b 1 off len c) (.int .i64 i) = some (.ptr b 1 (off + i) 0) := by rw [iaA_go (by omega) (by omega)]; simp

end
theorem PlaceR.none {is : List Kp} {key : Key} {j : Nat} {q : Bool} (hp : PlaceR is key j q) (hq : q = false) (hs : Srt is) : ∀ x ∈ is, x.2 ≠ key := by
  intro x hx hk
  obtain ⟨i, hi⟩ := List.getElem?_of_mem hx
  by_cases hij : i < j
  · have := hp.lo i x hi hij
    rw [hk, ltK_irrefl] at this; cases this
  · have hi' := (List.getElem?_eq_some_iff.1 hi).1
    have hj := List.getElem?_eq_getElem (l := is) (i := j) (by omega)
    have h1 := hp.no hq _ hj
    by_cases hij2 : i = j
    · subst hij2
      rw [hi] at hj
      rw [← Option.some.inj hj, hk, ltK_irrefl] at h1; cases h1
    · have h2 := List.pairwise_iff_getElem.1 hs j i (by omega) hi' (by omega)
      have h3 := (List.getElem?_eq_some_iff.1 hi).2
      rw [h3] at h2
      have := ltK_trans h1 h2
      rw [hk, ltK_irrefl] at this; cases this
theorem weave_srt2 : ∀ (ls : List (List Kp)) (is l : List Kp), ls.length = is.length + 1 → l ∈ ls → Srt (weave ls is) → Srt l
  | [], is, l, h, h2, _ => by cases h2
  | l' :: ls, [], l, h, h2, h3 => by
    have : ls = [] := by simpa using h
    subst this
    simp at h2; subst h2; simpa [weave] using h3
  | l' :: ls, i :: is, l, h, h2, h3 => by
    have h4 := Srt.app.1 h3
    rcases List.mem_cons.1 h2 with rfl | h2
    · exact h4.1
    · exact weave_srt2 ls is l (by simpa using h) h2 (List.pairwise_cons.1 h4.2.1).2
/-- What lies ahead of a kid. -/
def ahd {α : Type} (ls : List (List α)) (is : List α) : Nat → List α
  | 0 => []
  | i + 1 => ahd ls is i ++ ls.getD i [] ++ (is[i]?).toList
theorem ahd_weave {α : Type} {ls : List (List α)} {is : List α} (hl : ls = [] ∨ ls.length = is.length + 1) : ∀ i, i ≤ is.length → weave ls is = ahd ls is i ++ weave (ls.drop i) (is.drop i)
  | 0, _ => by simp [ahd]
  | i + 1, h => by
    have ih := ahd_weave hl i (by omega)
    rw [ih, ahd, List.append_assoc, List.append_assoc]
    congr 1
    have e1 : is.drop i = is[i] :: is.drop (i + 1) := List.drop_eq_getElem_cons (by omega)
    rw [e1]
    rcases hl with rfl | hl
    · simp [weave, List.getElem?_eq_getElem (show i < is.length by omega)]
    · have e2 : ls.drop i = ls[i] :: ls.drop (i + 1) := List.drop_eq_getElem_cons (by omega)
      rw [e2]
      simp [weave, List.getElem?_eq_getElem (show i < is.length by omega), List.getElem?_eq_getElem (show i < ls.length by omega)]
theorem ahd_cut {α : Type} {ls : List (List α)} {is : List α} (hl : ls = [] ∨ ls.length = is.length + 1) {i : Nat} (hi : i ≤ is.length) : ∃ C, weave ls is = ahd ls is i ++ ls.getD i [] ++ C ∧ C.head? = is[i]? := by
  rw [ahd_weave hl i hi]
  by_cases h : i = is.length
  · subst h
    rw [List.drop_length]
    refine ⟨[], ?_, by simp⟩
    rcases hl with rfl | hl
    · simp [weave]
    · have e2 : ls.drop is.length = [ls[is.length]] := by
        rw [List.drop_eq_getElem_cons (by omega), List.drop_eq_nil_of_le (by omega)]
      rw [e2]
      simp [weave, List.getElem?_eq_getElem (show is.length < ls.length by omega)]
  · have e1 : is.drop i = is[i] :: is.drop (i + 1) := List.drop_eq_getElem_cons (by omega)
    rw [e1]
    refine ⟨is[i] :: weave (ls.drop (i + 1)) (is.drop (i + 1)), ?_, by simp [List.getElem?_eq_getElem (show i < is.length by omega)]⟩
    rcases hl with rfl | hl
    · simp [weave]
    · have e2 : ls.drop i = ls[i] :: ls.drop (i + 1) := List.drop_eq_getElem_cons (by omega)
      rw [e2]
      simp [weave, List.getElem?_eq_getElem (show i < ls.length by omega)]
def rngK (lo hi : Key) (x : Kp) : Bool := !(ltK x.2 lo) && (hi == [] || ltK x.2 hi)
theorem ahd_lo {ls : List (List Kp)} {is : List Kp} {lo : Key} {j : Nat} {q : Bool} (hp : PlaceR is lo j q) (hl : ls = [] ∨ ls.length = is.length + 1) (hs : Srt (weave ls is)) (hi : Key) : (ahd ls is j).filter (rngK lo hi) = [] := by
  have h1 := ahd_weave hl j hp.le
  rw [h1] at hs
  have sA := (Srt.app.1 hs).1
  refine List.filter_eq_nil_iff.2 fun x hx => ?_
  have : ltK x.2 lo = true := by
    cases j with
    | zero => simp [ahd] at hx
    | succ j =>
      have hj := hp.le
      have e := List.getElem?_eq_getElem (l := is) (i := j) (by omega)
      refine sA.le_last (y := is[j]) ?_ (hp.lo j _ e (by omega)) x hx
      simp [ahd, e]
  simp [rngK, this]
theorem rng_hi {C : List Kp} {lo hi : Key} {x : Kp} (hs : Srt C) (hx : C.head? = some x) (h0 : hi ≠ []) (h1 : ltK x.2 hi = false) : C.filter (rngK lo hi) = [] := by
  refine List.filter_eq_nil_iff.2 fun y hy => ?_
  have := hs.ge_head (fun y hy => by rw [hx] at hy; cases hy; exact h1) y hy
  simp [rngK, this, h0]
/-- Both branches of a test end in what is said, and from there it goes on. -/
theorem cnd_join {P : Program} {st : List Fr} {e : Env} {h : Hp} {k : Kt} {v : AV} {t f : ACode} {Q : Env → Hp → Prop} (hh : cndR P v t f (.lp Q :: st) e h k) (hq : ∀ e h, Q e h → fall P st e h k) : cndR P v t f st e h k := by
  obtain ⟨b, hb, ht, hf⟩ := hh
  exact ⟨b, hb, fun q => wpA_imp t (ht q) hq (fun _ _ x => x) (fun _ _ _ x => x), fun q => wpA_imp f (hf q) hq (fun _ _ x => x) (fun _ _ _ x => x)⟩
section
variable {h : Hp} {l : List Asr} {A : Asr}
theorem sat.p8 {A1 A2 A3 A4 A5 A6 A7 A8 : Asr} (hs : sat h (A1 :: A2 :: A3 :: A4 :: A5 :: A6 :: A7 :: A8 :: A :: l)) : sat h (A :: A1 :: A2 :: A3 :: A4 :: A5 :: A6 :: A7 :: A8 :: l) := (hs.tl fun _ h => h.p7).swap
theorem sat.p9 {A1 A2 A3 A4 A5 A6 A7 A8 A9 : Asr} (hs : sat h (A1 :: A2 :: A3 :: A4 :: A5 :: A6 :: A7 :: A8 :: A9 :: A :: l)) : sat h (A :: A1 :: A2 :: A3 :: A4 :: A5 :: A6 :: A7 :: A8 :: A9 :: l) := (hs.tl fun _ h => h.p8).swap
theorem sat.p10 {A1 A2 A3 A4 A5 A6 A7 A8 A9 A10 : Asr} (hs : sat h (A1 :: A2 :: A3 :: A4 :: A5 :: A6 :: A7 :: A8 :: A9 :: A10 :: A :: l)) : sat h (A :: A1 :: A2 :: A3 :: A4 :: A5 :: A6 :: A7 :: A8 :: A9 :: A10 :: l) := (hs.tl fun _ h => h.p9).swap
theorem sat.p11 {A1 A2 A3 A4 A5 A6 A7 A8 A9 A10 A11 : Asr} (hs : sat h (A1 :: A2 :: A3 :: A4 :: A5 :: A6 :: A7 :: A8 :: A9 :: A10 :: A11 :: A :: l)) : sat h (A :: A1 :: A2 :: A3 :: A4 :: A5 :: A6 :: A7 :: A8 :: A9 :: A10 :: A11 :: l) := (hs.tl fun _ h => h.p10).swap
theorem sat.p12 {A1 A2 A3 A4 A5 A6 A7 A8 A9 A10 A11 A12 : Asr} (hs : sat h (A1 :: A2 :: A3 :: A4 :: A5 :: A6 :: A7 :: A8 :: A9 :: A10 :: A11 :: A12 :: A :: l)) : sat h (A :: A1 :: A2 :: A3 :: A4 :: A5 :: A6 :: A7 :: A8 :: A9 :: A10 :: A11 :: A12 :: l) := (hs.tl fun _ h => h.p11).swap
end
theorem sat.tls {l1 l l' : List Asr} : ∀ {h : Hp}, sat h (l1 ++ l) → (∀ h, sat h l → sat h l') → sat h (l1 ++ l') := by
  induction l1 with
  | nil => exact fun hs hi => hi _ hs
  | cons A l1 ih => exact fun hs hi => hs.tl fun _ g => ih g hi
theorem sat.swapl {l1 l2 l : List Asr} {h : Hp} (hs : sat h (l1 ++ (l2 ++ l))) : sat h (l2 ++ (l1 ++ l)) := hs.perm (List.perm_append_comm_assoc l1 l2 l)
theorem kpt_pt (is : List Kp) : is.map kpt = (is.map fun x => x.1).map pt := by simp [kpt, pt]
theorem rt_pt (ks : List Tr) : (ks.map fun k => pt k.root) = (ks.map Tr.root).map pt := by simp
def OKs : Nat → List Kp → List Tr → Prop
  | 0, _, ks => ks = []
  | d + 1, is, ks => 1 ≤ is.length ∧ ks.length = is.length + 1 ∧ ∀ k ∈ ks, OKd d k ∧ k.flat ≠ []
theorem okd_nd {d p : Nat} {iv kv : AV} {is : List Kp} {ks : List Tr} : OKd d (.nd p iv kv is ks) ↔ is.length ≤ 5 ∧ OKs d is ks := by
  cases d with
  | zero => exact Iff.rfl
  | succ d => exact ⟨fun ⟨a, b, c, e⟩ => ⟨b, a, c, e⟩, fun ⟨b, a, c, e⟩ => ⟨a, b, c, e⟩⟩
theorem weave_nil {α : Type} (is : List α) : weave [] is = is := rfl
theorem weave_ne {α : Type} {ls : List (List α)} {is : List α} (h : 1 ≤ is.length) : weave ls is ≠ [] := by
  intro hh
  cases is with
  | nil => simp at h
  | cons i is =>
    have := mem_weave ls (i :: is) (List.mem_cons_self)
    rw [hh] at this; cases this
/-- A block ends in what is said, and from there it goes on. -/
theorem blk_join {P : Program} {st : List Fr} {e : Env} {h : Hp} {k : Kt} {id : Nat} {c : ACode} {Q : Env → Hp → Prop} (hh : run P c (.blk id :: .lp Q :: st) e h k) (hq : ∀ e h, Q e h → fall P st e h k) : run P c (.blk id :: st) e h k := by
  refine wpA_imp c hh (fun e h x => hq e h x) (fun _ _ x => x) (fun i e h x => ?_)
  show if i = id then _ else _
  have x : if i = id then Q e h else (kk P k st).2 i e h := x
  by_cases hi : i = id
  · rw [if_pos hi] at x ⊢; exact hq e h x
  · rw [if_neg hi] at x ⊢; exact x
end Go.Hz
/- A range over a map, in the walk. -/
set_option linter.unusedSimpArgs false
set_option linter.unusedVariables false
namespace Go.Hz

section
variable {h : Hp} {F : List Asr} {P : Program} {st : List Fr} {e : Env} {k : Kt} {d : Option Nat} {r : List (AItem × List AItem)}

theorem rng_use {m c : Nat} {kvs : List (AV × AV × Nat)} (hs : sat h (pto m (.mp kvs c) :: F)) (hk : ∀ n h', sat h' (pto n (.itr (some m) c [] c) :: pto m (.mp kvs c) :: F) → runS P r st (e.put d (.ptr n 1 0 0)) h' k) :
    effR P (rngE (.map m) h) [] d r st e k := by
  have h0 := hs.at
  unfold effR rngE
  simp only [h0]
  intro n hn
  exact ⟨fun _ hm => by simp at hm, hk n _ (hs.new hn)⟩
theorem rng_nil (hs : sat h F) (hk : ∀ n h', sat h' (pto n (.itr none 0 [] 0) :: F) → runS P r st (e.put d (.ptr n 1 0 0)) h' k) :
    effR P (rngE .nilm h) [] d r st e k := by
  unfold effR rngE
  intro n hn
  exact ⟨fun _ hm => by simp at hm, hk n _ (hs.new hn)⟩
theorem nxt_use {m q since stp c : Nat} {seen : List Nat} {kvs : List (AV × AV × Nat)} (hs : sat h (pto q (.itr (some m) since seen stp) :: pto m (.mp kvs c) :: F)) (h1 : since ≤ stp) (h2 : ∀ x ∈ kvs, x.2.2 < since)
    (hk1 : ∀ x ∈ kvs, x.2.2 ∉ seen → ∀ h', sat h' (pto q (.itr (some m) since (seen ++ [x.2.2]) c) :: pto m (.mp kvs c) :: F) → runS P r st (e.put d (.tup [.bool true, x.1, x.2.1])) h' k)
    (hk2 : (∀ x ∈ kvs, x.2.2 ∈ seen) → runS P r st (e.put d (.tup [.bool false])) h k) :
    effR P (nxtE (.ptr q 1 0 0) h) [] d r st e k := by
  have a1 := hs.at
  have a2 := hs.p1.at
  unfold effR nxtE
  simp only [a1, a2]
  exact ⟨h1, h2, fun x hx hns => ⟨fun _ hm => by simp at hm, hk1 x hx hns _ hs.set⟩, fun hall => ⟨fun _ hm => by simp at hm, hk2 hall⟩⟩
theorem nxt_nil {q : Nat} (hs : sat h (pto q (.itr none 0 [] 0) :: F)) (hk : runS P r st (e.put d (.tup [.bool false])) h k) : effR P (nxtE (.ptr q 1 0 0) h) [] d r st e k := by
  have a1 := hs.at
  unfold effR nxtE
  simp only [a1]
  exact ⟨fun _ hm => by simp at hm, hk⟩
/-- What the iterator stands at. -/
theorem ent_at {m q since c : Nat} {seen : List Nat} {kvs : List (AV × AV × Nat)} {x : AV × AV × Nat} (hs : sat h (pto q (.itr (some m) since (seen ++ [x.2.2]) c) :: pto m (.mp kvs c) :: F)) (hx : x ∈ kvs) (hn : (kvs.map (·.2.2)).Nodup) :
    entE (.ptr q 1 0 0) h = some (.tup [x.1, x.2.1]) := by
  have a1 := hs.at
  have a2 := hs.p1.at
  unfold entE
  simp only [a1, a2, List.getLast?_append, List.getLast?_singleton, Option.some_or, if_true]
  have : ∀ l : List (AV × AV × Nat), (l.map (·.2.2)).Nodup → x ∈ l → l.find? (fun e => e.2.2 == x.2.2) = some x := by
    intro l
    induction l with
    | nil => intro _ h; cases h
    | cons y l ih =>
      intro hn hx
      rw [List.map_cons, List.nodup_cons] at hn
      rw [List.find?_cons]
      rcases List.mem_cons.1 hx with rfl | hx
      · simp
      · have : y.2.2 ≠ x.2.2 := fun e => hn.1 (e ▸ List.mem_map_of_mem hx)
        simp only [beq_eq_false_iff_ne.2 this]
        exact ih hn.2 hx
  rw [this kvs hn hx]
  rfl

/-- What has come of a map, and what is still to come. -/
theorem rng_step {kvs es rest : List (AV × AV × Nat)} {x : AV × AV × Nat} (hp : (es ++ rest).Perm kvs) (hx : x ∈ kvs) (hns : x.2.2 ∉ es.map (·.2.2)) : ∃ rest', (es ++ [x] ++ rest').Perm kvs ∧ rest.length = rest'.length + 1 := by
  have hxr : x ∈ rest := by
    rcases List.mem_append.1 (hp.mem_iff.2 hx) with h | h
    · exact absurd (List.mem_map_of_mem h) hns
    · exact h
  obtain ⟨a, b, rfl⟩ := List.append_of_mem hxr
  refine ⟨a ++ b, ?_, by simp; omega⟩
  refine List.Perm.trans ?_ hp
  rw [List.append_assoc]
  exact List.Perm.append_left es (by simpa using List.perm_middle.symm)
theorem rng_end {kvs es rest : List (AV × AV × Nat)} (hp : (es ++ rest).Perm kvs) (hn : (kvs.map (·.2.2)).Nodup) (hall : ∀ x ∈ kvs, x.2.2 ∈ es.map (·.2.2)) : es.Perm kvs := by
  cases rest with
  | nil => simpa using hp
  | cons y ys =>
    exfalso
    have h1 := hall y (hp.mem_iff.1 (by simp))
    have h2 : ((es ++ y :: ys).map (·.2.2)).Nodup := (hp.map _).nodup_iff.2 hn
    rw [List.map_append, List.map_cons] at h2
    exact (List.nodup_append.1 h2).2.2 _ h1 _ (by simp) rfl
end
end Go.Hz
/- A map as a list of what it holds, in any order. -/
set_option linter.unusedSimpArgs false
set_option linter.unusedVariables false
set_option linter.unusedSectionVars false
namespace Go.Hz

structure KeyOK {κ : Type} [DecidableEq κ] (str : Bool) (K : κ → AV) : Prop where
  eq : ∀ a b, keyEq str (K a) (K b) = some (decide (a = b))
  av : ∀ a, keyAV str (K a) = true

theorem keyOK_int : KeyOK false (fun n : Int => AV.int .i64 n) := ⟨fun a b => by
  simp only [keyEq, and_self, if_true]
  by_cases h : a = b <;> simp [h], fun _ => rfl⟩
theorem keyOK_str : KeyOK true (fun s : List UInt8 => AV.str s) := ⟨fun a b => by
  simp only [keyEq, if_true]
  by_cases h : a = b <;> simp [h], fun _ => rfl⟩

section
variable {α κ : Type} [DecidableEq κ] {str : Bool} {K : κ → AV} {key : α → κ} {v : α → AV} {m : Nat} {X : List α} {h : Hp} {F : List Asr}

def kvOf (K : κ → AV) (key : α → κ) (v : α → AV) (pl : List (α × Nat)) : List KV := pl.map fun p => (K (key p.1), v p.1, p.2)

/-- The map m holds X. -/
def MpA (K : κ → AV) (key : α → κ) (v : α → AV) (m : Nat) (X : List α) : Asr := fun h => ∃ (pl : List (α × Nat)) (c : Nat), ((pl.map (·.1)).Perm X ∧ (pl.map (·.2)).Nodup ∧ (∀ p ∈ pl, p.2 < c)) ∧ pto m (.mp (kvOf K key v pl) c) h

theorem mpA : sat h (MpA K key v m X :: F) ↔ ∃ (pl : List (α × Nat)) (c : Nat), ((pl.map (·.1)).Perm X ∧ (pl.map (·.2)).Nodup ∧ (∀ p ∈ pl, p.2 < c)) ∧ sat h (pto m (.mp (kvOf K key v pl) c) :: F) := by
  unfold MpA
  rw [sat_ex]
  refine exists_congr fun pl => ?_
  rw [sat_ex]
  exact exists_congr fun c => sat_and

theorem modify_mid {β : Type} {f : β → β} {x : β} {b : List β} : ∀ a : List β, (a ++ x :: b).modify a.length f = a ++ f x :: b
  | [] => by simp
  | y :: a => by
    have := modify_mid (f := f) (x := x) (b := b) a
    simp [List.modify_succ_cons, this]
theorem mpA_new (hs : sat h (pto m (.mp [] 0) :: F)) : sat h (MpA K key v m [] :: F) :=
  mpA.2 ⟨[], 0, ⟨.refl _, .nil, fun _ h => by cases h⟩, hs⟩
theorem mpA_perm {Y : List α} (hs : sat h (MpA K key v m X :: F)) (hp : X.Perm Y) : sat h (MpA K key v m Y :: F) := by
  obtain ⟨pl, c, ⟨h1, h2, h3⟩, hs⟩ := mpA.1 hs
  exact mpA.2 ⟨pl, c, ⟨h1.trans hp, h2, h3⟩, hs⟩

theorem findK_miss (hK : KeyOK str K) {q : κ} : ∀ {pl : List (α × Nat)} {i : Nat}, (∀ p ∈ pl, key p.1 ≠ q) → findK str (K q) (kvOf K key v pl) i = some none
  | [], _, _ => rfl
  | p :: pl, i, hn => by
    have h1 : decide (q = key p.1) = false := by simpa using fun e => hn p (by simp) e.symm
    have := findK_miss hK (q := q) (pl := pl) (i := i + 1) fun p hp => hn p (by simp [hp])
    simp only [kvOf] at this
    simp only [kvOf, List.map_cons, findK, hK.eq, h1, this]
theorem findK_hit (hK : KeyOK str K) {q : κ} {p : α × Nat} {b : List (α × Nat)} (hq : key p.1 = q) : ∀ {a : List (α × Nat)} {i : Nat}, (∀ p ∈ a, key p.1 ≠ q) → findK str (K q) (kvOf K key v (a ++ p :: b)) i = some (some (i + a.length, v p.1))
  | [], i, _ => by
    have h1 : decide (q = key p.1) = true := by simpa using hq.symm
    simp [kvOf, findK, hK.eq, h1]
  | x :: a, i, hn => by
    have h1 : decide (q = key x.1) = false := by simpa using fun e => hn x (by simp) e.symm
    have := findK_hit hK (b := b) hq (a := a) (i := i + 1) fun p hp => hn p (by simp [hp])
    simp only [kvOf] at this
    simp only [kvOf, List.cons_append, List.map_cons, findK, hK.eq, h1, this, List.length_cons]
    simp only [Option.some.injEq, Prod.mk.injEq, and_true]; omega

theorem pl_split {pl : List (α × Nat)} (hp : (pl.map (·.1)).Perm X) (hn : (X.map key).Nodup) {x : α} (hx : x ∈ X) : ∃ a b n, pl = a ++ (x, n) :: b ∧ (∀ p ∈ a, key p.1 ≠ key x) ∧ ∀ p ∈ b, key p.1 ≠ key x := by
  obtain ⟨p, hp1, rfl⟩ := List.mem_map.1 (hp.mem_iff.2 hx)
  obtain ⟨a, b, rfl⟩ := List.append_of_mem hp1
  have h2 : ((a ++ p :: b).map fun p => key p.1).Nodup := by
    have := (hp.map key).nodup_iff.2 hn
    simpa [Function.comp_def] using this
  rw [List.map_append, List.map_cons] at h2
  have h3 := List.nodup_append.1 h2
  refine ⟨a, b, p.2, rfl, fun y hy e => h3.2.2 _ (List.mem_map_of_mem (f := fun p => key p.1) hy) _ (by simp) e, fun y hy e => ?_⟩
  have := (List.nodup_cons.1 h3.2.1).1
  exact this (List.mem_map.2 ⟨y, hy, e⟩)
theorem pl_miss {pl : List (α × Nat)} (hp : (pl.map (·.1)).Perm X) {q : κ} (hq : ∀ x ∈ X, key x ≠ q) : ∀ p ∈ pl, key p.1 ≠ q :=
  fun p h => hq _ (hp.mem_iff.1 (List.mem_map_of_mem h))

theorem lk_hit (hK : KeyOK str K) (hs : sat h (MpA K key v m X :: F)) (hn : (X.map key).Nodup) {x : α} (hx : x ∈ X) {ok : Bool} {z : AV} : lkA str ok z h (.map m) (K (key x)) = some (if ok then .tup [v x, .bool true] else v x) := by
  obtain ⟨pl, c, ⟨h1, h2, h3⟩, hs⟩ := mpA.1 hs
  obtain ⟨a, b, n, rfl, h4, h5⟩ := pl_split h1 hn hx
  have h0 := hs.at
  unfold lkA
  simp only [hK.av, if_true, h0, findK_hit hK (v := v) (p := (x, n)) rfl h4]
theorem lk_miss (hK : KeyOK str K) (hs : sat h (MpA K key v m X :: F)) {q : κ} (hq : ∀ x ∈ X, key x ≠ q) {ok : Bool} {z : AV} : lkA str ok z h (.map m) (K q) = some (if ok then .tup [z, .bool false] else z) := by
  obtain ⟨pl, c, ⟨h1, h2, h3⟩, hs⟩ := mpA.1 hs
  have h0 := hs.at
  unfold lkA
  simp only [hK.av, if_true, h0, findK_miss hK (v := v) (pl_miss h1 hq)]
theorem len_mp (hs : sat h (MpA K key v m X :: F)) : lenM h (.map m) = some (.int .i64 X.length) := by
  obtain ⟨pl, c, ⟨h1, h2, h3⟩, hs⟩ := mpA.1 hs
  have h0 := hs.at
  unfold lenM
  simp only [h0, kvOf, List.length_map]
  rw [← h1.length_eq, List.length_map]

variable {P : Program} {st : List Fr} {e : Env} {k : Kt} {d : Option Nat} {r : List (AItem × List AItem)}
theorem mup_new (hK : KeyOK str K) (hs : sat h (MpA K key v m X :: F)) {y : α} (hq : ∀ x ∈ X, key x ≠ key y) (hk : ∀ h', sat h' (MpA K key v m (X ++ [y]) :: F) → runS P r st (e.put d (.tup [])) h' k) :
    effR P (mupE str (.map m) (K (key y)) (v y) h) [] d r st e k := by
  obtain ⟨pl, c, ⟨h1, h2, h3⟩, hs⟩ := mpA.1 hs
  have h0 := hs.at
  unfold effR mupE
  simp only [hK.av, h0, findK_miss hK (v := v) (pl_miss h1 hq), true_and]
  refine ⟨fun _ hm => by simp at hm, hk _ (mpA.2 ⟨pl ++ [(y, c)], c + 1, ⟨?_, ?_, ?_⟩, ?_⟩)⟩
  · simpa using h1.append_right [y]
  · rw [List.map_append, List.nodup_append]
    refine ⟨h2, by simp, ?_⟩
    intro a ha b hb
    simp only [List.map_cons, List.map_nil, List.mem_cons, List.not_mem_nil, or_false] at hb
    subst hb
    obtain ⟨p, hp, rfl⟩ := List.mem_map.1 ha
    have := h3 p hp
    omega
  · intro p hp
    rcases List.mem_append.1 hp with hp | hp
    · have := h3 p hp; omega
    · simp at hp; subst hp; simp
  · simpa [kvOf] using hs.set (o' := .mp (kvOf K key v (pl ++ [(y, c)])) (c + 1))
theorem mup_set (hK : KeyOK str K) (hs : sat h (MpA K key v m X :: F)) (hn : (X.map key).Nodup) {x y : α} (hx : x ∈ X) (hy : key y = key x) (hk : ∀ h', sat h' (MpA K key v m (X.map fun z => if key z = key x then y else z) :: F) → runS P r st (e.put d (.tup [])) h' k) :
    effR P (mupE str (.map m) (K (key x)) (v y) h) [] d r st e k := by
  obtain ⟨pl, c, ⟨h1, h2, h3⟩, hs⟩ := mpA.1 hs
  obtain ⟨a, b, n, rfl, h4, h5⟩ := pl_split h1 hn hx
  have h0 := hs.at
  unfold effR mupE
  simp only [hK.av, h0, findK_hit hK (v := v) (p := (x, n)) rfl h4, true_and]
  refine ⟨fun _ hm => by simp at hm, hk _ (mpA.2 ⟨a ++ (y, n) :: b, c, ⟨?_, ?_, ?_⟩, ?_⟩)⟩
  · have h6 := h1.map fun z => if key z = key x then y else z
    refine List.Perm.trans ?_ h6
    have : ∀ l : List (α × Nat), (∀ p ∈ l, key p.1 ≠ key x) → (l.map (·.1)).map (fun z => if key z = key x then y else z) = l.map (·.1) := by
      intro l hl
      rw [List.map_map]
      exact List.map_congr_left fun p hp => if_neg (hl p hp)
    rw [List.map_append, List.map_cons, List.map_append, List.map_cons, List.map_append, List.map_cons, this a h4, this b h5, if_pos rfl]
  · simpa using h2
  · intro p hp
    rcases List.mem_append.1 hp with hp | hp
    · exact h3 p (by simp [hp])
    · rcases List.mem_cons.1 hp with rfl | hp
      · exact h3 (x, n) (by simp)
      · exact h3 p (by simp [hp])
  · have h6 := hs.set (o' := .mp (kvOf K key v (a ++ (y, n) :: b)) c)
    have h7 : ((kvOf K key v (a ++ (x, n) :: b)).modify (0 + a.length) fun e => (K (key x), v y, e.2.2)) = kvOf K key v (a ++ (y, n) :: b) := by
      rw [Nat.zero_add, show a.length = (kvOf K key v a).length by simp [kvOf]]
      simp only [kvOf, List.map_append, List.map_cons]
      rw [modify_mid, hy]
    rwa [h7]
theorem del_hit (hK : KeyOK str K) (hs : sat h (MpA K key v m X :: F)) (hn : (X.map key).Nodup) {x : α} (hx : x ∈ X) (hk : ∀ h', sat h' (MpA K key v m (X.filter fun z => decide (key z ≠ key x)) :: F) → runS P r st (e.put d (.tup [])) h' k) :
    effR P (delE str (.map m) (K (key x)) h) [] d r st e k := by
  obtain ⟨pl, c, ⟨h1, h2, h3⟩, hs⟩ := mpA.1 hs
  obtain ⟨a, b, n, rfl, h4, h5⟩ := pl_split h1 hn hx
  have h0 := hs.at
  unfold effR delE
  simp only [hK.av, h0, findK_hit hK (v := v) (p := (x, n)) rfl h4, true_and]
  refine ⟨fun _ hm => by simp at hm, hk _ (mpA.2 ⟨a ++ b, c, ⟨?_, ?_, ?_⟩, ?_⟩)⟩
  · have h6 := h1.filter fun z => decide (key z ≠ key x)
    refine List.Perm.trans ?_ h6
    have : ∀ l : List (α × Nat), (∀ p ∈ l, key p.1 ≠ key x) → (l.map (·.1)).filter (fun z => decide (key z ≠ key x)) = l.map (·.1) := by
      intro l hl
      rw [List.filter_eq_self]
      intro z hz
      obtain ⟨p, hp, rfl⟩ := List.mem_map.1 hz
      simpa using hl p hp
    rw [List.map_append, List.map_append, List.map_cons, List.filter_append, List.filter_cons, this a h4, this b h5]
    simp
  · rw [List.map_append]
    rw [List.map_append, List.map_cons] at h2
    exact h2.sublist (List.Sublist.append_left (List.sublist_cons_self _ _) _)
  · intro p hp
    exact h3 p (by rcases List.mem_append.1 hp with hp | hp <;> simp [hp])
  · have h6 := hs.set (o' := .mp (kvOf K key v (a ++ b)) c)
    have h7 : (kvOf K key v (a ++ (x, n) :: b)).eraseIdx (0 + a.length) = kvOf K key v (a ++ b) := by
      rw [Nat.zero_add, show a.length = (kvOf K key v a).length by simp [kvOf]]
      simp [kvOf, List.eraseIdx_append]
    rwa [h7]
theorem del_miss (hK : KeyOK str K) (hs : sat h (MpA K key v m X :: F)) {q : κ} (hq : ∀ x ∈ X, key x ≠ q) (hk : ∀ h', sat h' (MpA K key v m X :: F) → runS P r st (e.put d (.tup [])) h' k) :
    effR P (delE str (.map m) (K q) h) [] d r st e k := by
  obtain ⟨pl, c, ⟨h1, h2, h3⟩, hs⟩ := mpA.1 hs
  have h0 := hs.at
  unfold effR delE
  simp only [hK.av, h0, findK_miss hK (v := v) (pl_miss h1 hq), true_and]
  exact ⟨fun _ hm => by simp at hm, hk _ (mpA.2 ⟨pl, c, ⟨h1, h2, h3⟩, hs.set⟩)⟩
end
end Go.Hz
/- Leases: a book as the list of its leases, by their ids. -/
set_option linter.unusedSimpArgs false
set_option linter.unusedVariables false
set_option linter.unusedSectionVars false
namespace Go.Hz
open Go.Sort

structure Lz where
  id : Int
  ttl : Int
  til : Int
deriving DecidableEq

def lzC (x : Lz) : List AV := [.int .i64 x.id, .int .i64 x.ttl, .int .i64 x.til]
/-- The number that stands in a row's first cell. -/
def hdI : List AV → Int
  | .int _ i :: _ => i
  | _ => 0
theorem hdI_lz (x : Lz) : hdI (lzC x) = x.id := rfl
def ltI (a b : List AV) : Bool := decide (hdI a < hdI b)
theorem ltI_f {a b : List AV} : ltI a b = false ↔ ¬ hdI a < hdI b := by simp [ltI]
theorem swo_ltI : SWO ltI := ⟨fun x => by simp [ltI], fun x y z => by simp only [ltI, decide_eq_true_eq]; omega, fun x y z => by simp only [ltI, decide_eq_false_iff_not]; omega⟩
def GLz (c : List AV) : Prop := ∃ x : Lz, c = lzC x
theorem goodE_lz : GoodE 3 true GLz where
  len := by rintro _ ⟨x, rfl⟩; rfl
  atoms := by rintro _ ⟨x, rfl⟩; rfl
  cells := by rintro _ ⟨x, rfl⟩; rfl
  pos := by omega
  one := by intro h; cases h

theorem nodup_map_inj {α β : Type} {f : α → β} : ∀ {X : List α}, (X.map f).Nodup → ∀ {x y : α}, x ∈ X → y ∈ X → f x = f y → x = y
  | [], _, _, _, hx, _, _ => by cases hx
  | z :: X, hn, x, y, hx, hy, he => by
    rw [List.map_cons, List.nodup_cons] at hn
    rcases List.mem_cons.1 hx with rfl | hx' <;> rcases List.mem_cons.1 hy with rfl | hy'
    · rfl
    · exact absurd (he ▸ List.mem_map_of_mem hy') hn.1
    · exact absurd (he ▸ List.mem_map_of_mem hx') hn.1
    · exact nodup_map_inj hn.2 hx' hy' he
/-- In order, and such as may be. -/
def LzOK (X : List Lz) : Prop := X.Pairwise (fun a b => a.id < b.id) ∧ (∀ x ∈ X, 1 ≤ x.id ∧ x.id ≤ 2147483647 ∧ 1 ≤ x.ttl ∧ x.ttl ≤ 2147483647) ∧ X.length ≤ 1024

theorem LzOK.nodup {X : List Lz} (h : LzOK X) : (X.map Lz.id).Nodup := by
  rw [List.nodup_iff_pairwise_ne, List.pairwise_map]
  exact h.1.imp fun h => by omega

def LsP (p : Nat) (X : List Lz) : Asr := fun h => ∃ m, LzOK X ∧ sat h [pto p (.row 1 [[.map m]] 1), MpA (fun n : Int => AV.int .i64 n) Lz.id (fun x => AV.agg (lzC x)) m X]
section
variable {h : Hp} {F : List Asr} {X : List Lz} {p : Nat}
theorem lsP : sat h (LsP p X :: F) ↔ ∃ m, LzOK X ∧ sat h (pto p (.row 1 [[.map m]] 1) :: MpA (fun n : Int => AV.int .i64 n) Lz.id (fun x => AV.agg (lzC x)) m X :: F) := by
  unfold LsP
  rw [sat_ex]
  refine exists_congr fun m => ?_
  rw [sat_and]
  exact and_congr_right fun _ => sat_sl (l1 := [_, _]) (l := F)

/-- What the sort makes of the map's values. -/
theorem lz_sorted {R : List (List AV)} (hX : LzOK X) (h1 : R.Perm (X.map lzC)) (h2 : R.Pairwise (fun a b => ltI b a = false)) : R = X.map lzC := by
  refine List.Perm.eq_of_pairwise ?_ h2 ?_ h1
  · intro a b ha hb h3 h4
    obtain ⟨x, hx, rfl⟩ := List.mem_map.1 (h1.mem_iff.1 ha)
    obtain ⟨y, hy, rfl⟩ := List.mem_map.1 hb
    have : x.id = y.id := by
      simp only [ltI_f, hdI_lz] at h3 h4
      omega
    have hn := hX.nodup
    have : x = y := by
      exact nodup_map_inj hn hx hy ‹_›
    rw [this]
  · rw [List.pairwise_map]
    exact hX.1.imp fun h => by simp only [ltI_f, hdI_lz]; omega
end

/-- A lease goes to its place. -/
def lzIns (X : List Lz) (y : Lz) : List Lz := X.takeWhile (fun x => decide (x.id < y.id)) ++ y :: X.dropWhile (fun x => decide (x.id < y.id))
theorem lzIns_perm {X : List Lz} {y : Lz} : (X ++ [y]).Perm (lzIns X y) := by
  unfold lzIns
  refine List.Perm.trans ?_ List.perm_middle.symm
  rw [List.takeWhile_append_dropWhile]
  exact List.perm_append_singleton _ _
theorem lzIns_ok {X : List Lz} {y : Lz} (hX : LzOK X) (hl : X.length < 1024) (hy : 1 ≤ y.id ∧ y.id ≤ 2147483647 ∧ 1 ≤ y.ttl ∧ y.ttl ≤ 2147483647) (hn : ∀ x ∈ X, x.id ≠ y.id) : LzOK (lzIns X y) := by
  refine ⟨?_, ?_, ?_⟩
  · have h1 := hX.1
    clear hX hl
    induction X with
    | nil => exact List.pairwise_singleton _ _
    | cons x X ih =>
      rw [List.pairwise_cons] at h1
      have hne := hn x (by simp)
      have ih := ih (fun z hz => hn z (by simp [hz])) h1.2
      unfold lzIns at ih ⊢
      by_cases h2 : x.id < y.id
      · rw [List.takeWhile_cons_of_pos (by simpa using h2), List.dropWhile_cons_of_pos (by simpa using h2), List.cons_append, List.pairwise_cons]
        refine ⟨fun z hz => ?_, ih⟩
        have : z = y ∨ z ∈ X := by
          have := (lzIns_perm (X := X) (y := y)).mem_iff.2 hz
          simpa [or_comm] using this
        rcases this with rfl | hz
        · exact h2
        · exact h1.1 z hz
      · rw [List.takeWhile_cons_of_neg (by simpa using h2), List.dropWhile_cons_of_neg (by simpa using h2), List.nil_append, List.pairwise_cons]
        refine ⟨fun z hz => ?_, List.pairwise_cons.2 h1⟩
        rcases List.mem_cons.1 hz with rfl | hz
        · omega
        · have := h1.1 z hz; omega
  · intro x hx
    have := (lzIns_perm (X := X) (y := y)).mem_iff.2 hx
    rcases List.mem_append.1 this with h | h
    · exact hX.2.1 x h
    · simp at h; subst h; exact hy
  · have := (lzIns_perm (X := X) (y := y)).length_eq
    simp at this; omega
/-- A lease holds anew. -/
def lzRen (X : List Lz) (id now : Int) : List Lz := X.map fun x => if x.id = id then ⟨x.id, x.ttl, now + x.ttl⟩ else x
theorem lzRen_ok {X : List Lz} {id now : Int} (hX : LzOK X) : LzOK (lzRen X id now) := by
  unfold lzRen
  refine ⟨?_, ?_, by simpa using hX.2.2⟩
  · rw [List.pairwise_map]
    refine hX.1.imp fun {a b} h => ?_
    split <;> split <;> simpa using h
  · intro x hx
    obtain ⟨y, hy, rfl⟩ := List.mem_map.1 hx
    have := hX.2.1 y hy
    split <;> simpa using this
def lzDel (X : List Lz) (id : Int) : List Lz := X.filter fun x => decide (x.id ≠ id)
theorem lzDel_ok {X : List Lz} {id : Int} (hX : LzOK X) : LzOK (lzDel X id) :=
  ⟨hX.1.filter _, fun x hx => hX.2.1 x (List.mem_filter.1 hx).1, Nat.le_trans (List.length_filter_le _ _) hX.2.2⟩
def lzHas (X : List Lz) (id : Int) : Bool := X.any fun x => decide (x.id = id)
def lzOver (X : List Lz) (now : Int) : List Lz := X.filter fun x => decide (x.til ≤ now)
theorem lzHas_t {X : List Lz} {id : Int} (h : lzHas X id = true) : ∃ x ∈ X, x.id = id := by simpa [lzHas] using h
theorem lzHas_f {X : List Lz} {id : Int} (h : lzHas X id = false) : ∀ x ∈ X, x.id ≠ id := by simpa [lzHas] using h
/-- A number that may be an id, or a length. -/
def lzNum (n : Int) : Bool := decide (1 ≤ n ∧ n ≤ 2147483647)
/-- Grant: the answer, and what there is then. -/
def lzGrant (X : List Lz) (id ttl now : Int) : Int × List Lz :=
  if lzNum id = false ∨ lzNum ttl = false then (1, X) else if lzHas X id = true then (7, X) else if 1024 ≤ X.length then (4, X) else (0, lzIns X ⟨id, ttl, now + ttl⟩)
def lzRenew (X : List Lz) (id now : Int) : Int × List Lz := if lzHas X id = true then (0, lzRen X id now) else (2, X)
def lzRevoke (X : List Lz) (id : Int) : Int × List Lz := if lzHas X id = true then (0, lzDel X id) else (2, X)
theorem lzGrant_ok {X : List Lz} {id ttl now : Int} (hX : LzOK X) : LzOK (lzGrant X id ttl now).2 := by
  unfold lzGrant
  split
  · exact hX
  rename_i h1
  split
  · exact hX
  rename_i h2
  split
  · exact hX
  rename_i h3
  simp only [lzNum, decide_eq_false_iff_not, not_or, Decidable.not_not] at h1
  exact lzIns_ok hX (by omega) ⟨h1.1.1, h1.1.2, h1.2.1, h1.2.2⟩ (lzHas_f (by simpa using h2))
theorem lzRenew_ok {X : List Lz} {id now : Int} (hX : LzOK X) : LzOK (lzRenew X id now).2 := by
  unfold lzRenew; split
  · exact lzRen_ok hX
  · exact hX
theorem lzRevoke_ok {X : List Lz} {id : Int} (hX : LzOK X) : LzOK (lzRevoke X id).2 := by
  unfold lzRevoke; split
  · exact lzDel_ok hX
  · exact hX
end Go.Hz
/- Bytes of numbers and texts, a reader over bytes, the sums of frames: as plain data. -/
set_option linter.unusedSimpArgs false
set_option linter.unusedVariables false
namespace Go.Hz

/-- One byte of a number, the k-th from the end. -/
def bz (n : Int) (k : Nat) : UInt8 := UInt8.ofNat (IntKind.u8.wrap ((IntKind.u64.wrap n).fdiv (2 ^ (8 * k)))).toNat
/-- So many bytes of a number, the highest first. -/
def beB : Nat → Int → List UInt8
  | 0, _ => []
  | k + 1, n => bz n k :: beB k n
/-- A text as it is written. -/
def txB (s : List UInt8) : List UInt8 := beB 4 s.length ++ s

theorem beB_length (k : Nat) (n : Int) : (beB k n).length = k := by induction k with
  | zero => rfl
  | succ k ih => simp [beB, ih]
theorem txB_length (s : List UInt8) : (txB s).length = 4 + s.length := by simp [txB, beB_length]

theorem eb_wrap (x : Int) : [AV.int .u8 (IntKind.u8.wrap x)] = eb (UInt8.ofNat (IntKind.u8.wrap x).toNat) := by
  have h1 : 0 ≤ IntKind.u8.wrap x ∧ IntKind.u8.wrap x < 256 := by
    simp only [IntKind.wrap, IntKind.signed, IntKind.bits]
    constructor <;> simp <;> omega
  have h2 : ((UInt8.ofNat (IntKind.u8.wrap x).toNat).toNat : Int) = IntKind.u8.wrap x := by
    rw [UInt8.toNat_ofNat']
    omega
  simp only [eb]
  rw [h2]
theorem bz_cell (n : Int) (j : Nat) (h0 : 1 ≤ j) (h8 : j ≤ 8) : [[AV.int .u8 (IntKind.u8.wrap ((IntKind.u64.wrap n).fdiv (2 ^ min (8 * ((j : Int) - 1)).toNat 64)))]] = [bz n (j - 1)].map eb := by
  have e1 : (8 * ((j : Int) - 1)).toNat = 8 * (j - 1) := by omega
  have e2 : min (8 * (j - 1)) 64 = 8 * (j - 1) := by omega
  rw [eb_wrap, e1, e2]
  rfl
theorem beB1 (n : Int) : [[AV.int .u8 (IntKind.u8.wrap n)]] = (beB 1 n).map eb := by
  have e1 : IntKind.u8.wrap ((IntKind.u64.wrap n).fdiv (2 ^ (8 * 0))) = IntKind.u8.wrap n := by
    simp only [IntKind.wrap, IntKind.signed, IntKind.bits]
    simp
  rw [eb_wrap, ← e1]
  rfl
theorem src_row1 {h : Hp} {b n : Nat} {x : AV} (hn : h b = some (.row 1 [[x]] n)) (c : Nat) : srcA 1 h (.arr b 1 0 1 c) = some [[x]] := by simp [srcA, hn]
theorem eb_str {h : Hp} {s : List UInt8} : srcA 1 h (.str s) = some (s.map eb) := by simp [srcA, eb]

/-! ### a reader -/

/-- One byte more of a number. -/
def nstep (n : Int) (x : UInt8) : Int := bitsA .or .u64 (IntKind.u64.wrap (n * 2 ^ 8)) (IntKind.u64.wrap x.toNat)
def rawN (l : List UInt8) : Int := l.foldl nstep 0
theorem rawN_succ (l : List UInt8) (i : Nat) (hi : i < l.length) : rawN (l.take (i + 1)) = nstep (rawN (l.take i)) l[i] := by
  unfold rawN
  rw [List.take_succ_eq_append_getElem hi, List.foldl_append]
  rfl

structure RS where
  b : List UInt8
  a : Nat
  err : Int

/-- There are so many bytes. -/
def RS.ok (s : RS) (n : Nat) : Bool := decide (s.err = 0) && decide (n ≤ s.b.length - s.a)
/-- Behind so many bytes, if there are. -/
def RS.adv (s : RS) (n : Nat) : RS := ⟨s.b, if s.ok n then s.a + n else s.a, if s.ok n then s.err else 8⟩
/-- A number of so many bytes. -/
def RS.val (s : RS) (n : Nat) : Int := if s.ok n then IntKind.i64.wrap (rawN ((s.b.drop s.a).take n)) else 0
/-- A text, and where the reader then stands. -/
def RS.txk (s : RS) : Nat := (s.val 4).toNat
def RS.tx (s : RS) : List UInt8 := if (s.adv 4).ok s.txk then ((s.b.drop (s.adv 4).a).take s.txk) else []
def RS.atx (s : RS) : RS := if (s.adv 4).ok s.txk then (s.adv 4).adv s.txk else ⟨s.b, s.a, 8⟩
def RS.good (s : RS) : Prop := s.a ≤ s.b.length ∧ s.b.length ≤ 1000000000000 ∧ (s.err = 0 ∨ s.err = 8)

theorem RS.e0 {s : RS} (h : s.err = 0) : (s.err != 0) = false := by simp [h]
theorem RS.e8 {s : RS} (h : s.err = 8) : (s.err != 0) = true := by simp [h]
theorem RS.adv_b (s : RS) (n : Nat) : (s.adv n).b = s.b := rfl
theorem RS.atx_b (s : RS) : s.atx.b = s.b := by unfold RS.atx; split <;> rfl
theorem RS.ok_le {s : RS} {n : Nat} (h : s.ok n = true) : s.err = 0 ∧ n ≤ s.b.length - s.a := by simpa [RS.ok] using h
theorem RS.good.adv {s : RS} (g : s.good) (n : Nat) : (s.adv n).good := by
  obtain ⟨g1, g2, g3⟩ := g
  unfold RS.adv
  cases hk : s.ok n
  · exact ⟨g1, g2, .inr rfl⟩
  · have := RS.ok_le hk
    exact ⟨by simp; omega, g2, by simpa using g3⟩
theorem RS.good.atx {s : RS} (g : s.good) : s.atx.good := by
  unfold RS.atx
  split
  · exact (g.adv 4).adv _
  · exact ⟨g.1, g.2.1, .inr rfl⟩

/-- Where bytes lacked nothing is read. -/
theorem RS.dead {s : RS} (h : s.err = 8) : (∀ n, s.val n = 0) ∧ (∀ n, s.adv n = s) ∧ s.tx = [] ∧ s.atx = s := by
  obtain ⟨b, a, err⟩ := s
  simp only at h
  subst h
  have h0 : ∀ n, (RS.mk b a 8).ok n = false := fun n => by simp [RS.ok]
  have h1 : ∀ n, (RS.mk b a 8).adv n = RS.mk b a 8 := fun n => by unfold RS.adv; rw [h0]; rfl
  refine ⟨fun n => by unfold RS.val; rw [h0]; rfl, h1, ?_, ?_⟩
  · unfold RS.tx; rw [h1, h0]; rfl
  · unfold RS.atx; rw [h1, h0]; rfl
theorem natB (a : Nat) : (BitVec.ofInt 64 (a : Int)).toNat = a % 2 ^ 64 := by simp
theorem nstep_lt (n : Int) (x : UInt8) (k : Nat) (hk : k ≤ 7) (h : ∃ a : Nat, n = a ∧ a < 2 ^ (8 * k)) : ∃ a : Nat, nstep n x = a ∧ a < 2 ^ (8 * (k + 1)) := by
  obtain ⟨a, rfl, ha⟩ := h
  have hx := x.toNat_lt
  have hp : 2 ^ (8 * (k + 1)) = 256 * 2 ^ (8 * k) := by rw [Nat.mul_add, Nat.pow_add]; omega
  have hp2 : 2 ^ (8 * (k + 1)) ≤ 2 ^ 64 := Nat.pow_le_pow_right (by omega) (by omega)
  have h1 : IntKind.u64.wrap ((a : Int) * 2 ^ 8) = ((a * 256 : Nat) : Int) := by
    simp only [IntKind.wrap, IntKind.signed, IntKind.bits]
    simp
    omega
  have h2 : IntKind.u64.wrap (x.toNat : Int) = (x.toNat : Int) := by
    simp only [IntKind.wrap, IntKind.signed, IntKind.bits]
    simp
    omega
  have h3 : nstep (a : Int) x = IntKind.u64.wrap (((a * 256 ||| x.toNat : Nat)) : Int) := by
    unfold nstep
    rw [h1, h2]
    change IntKind.u64.wrap (((BitVec.ofInt 64 ((a * 256 : Nat) : Int) ||| BitVec.ofInt 64 (x.toNat : Int)).toNat : Nat) : Int) = _
    rw [BitVec.toNat_or, natB, natB, Nat.mod_eq_of_lt (by omega), Nat.mod_eq_of_lt (by omega)]
  have h4 : (a * 256 ||| x.toNat) < 2 ^ (8 * (k + 1)) := Nat.or_lt_two_pow (by omega) (by rw [hp]; have := Nat.one_le_two_pow (n := 8 * k); omega)
  refine ⟨_, ?_, h4⟩
  rw [h3]
  simp only [IntKind.wrap, IntKind.signed, IntKind.bits]
  simp
  omega
theorem rawN_lt (l : List UInt8) (hl : l.length ≤ 8) : ∃ a : Nat, rawN l = a ∧ a < 2 ^ (8 * l.length) := by
  have key : ∀ i, i ≤ l.length → ∃ a : Nat, rawN (l.take i) = a ∧ a < 2 ^ (8 * i) := by
    intro i
    induction i with
    | zero => intro _; exact ⟨0, rfl, by simp⟩
    | succ i ih =>
      intro hi
      rw [rawN_succ l i (by omega)]
      exact nstep_lt _ _ i (by omega) (ih (by omega))
  have := key l.length (Nat.le_refl _)
  rwa [List.take_length] at this
theorem RS.val_lt (s : RS) (n : Nat) (hn : n ≤ 7) : ∃ k : Nat, s.val n = k ∧ k < 2 ^ (8 * n) := by
  unfold RS.val
  split
  · have hl : ((s.b.drop s.a).take n).length ≤ n := List.length_take_le _ _
    obtain ⟨k, h1, h2⟩ := rawN_lt ((s.b.drop s.a).take n) (by omega)
    have h3 : k < 2 ^ (8 * n) := Nat.lt_of_lt_of_le h2 (Nat.pow_le_pow_right (by omega) (by omega))
    have h4 : 2 ^ (8 * n) ≤ 2 ^ 56 := Nat.pow_le_pow_right (by omega) (by omega)
    exact ⟨k, by rw [h1]; exact wrap_i64_go (by omega) (by omega), h3⟩
  · exact ⟨0, rfl, Nat.two_pow_pos _⟩
theorem RS.val_txk (s : RS) : s.val 4 = (s.txk : Int) ∧ s.txk < 4294967296 := by
  obtain ⟨k, h1, h2⟩ := s.val_lt 4 (by omega)
  unfold RS.txk
  rw [h1]
  exact ⟨by simp, by simpa using h2⟩
def valN (l : List UInt8) : Nat := l.foldl (fun n x => n * 256 + x.toNat) 0
theorem valN_snoc (l : List UInt8) (x : UInt8) : valN (l ++ [x]) = valN l * 256 + x.toNat := by simp [valN]
theorem list_snoc_ind {α : Type} {p : List α → Prop} (h0 : p []) (h1 : ∀ l x, p l → p (l ++ [x])) (l : List α) : p l := by
  have : ∀ m : List α, p m.reverse := by
    intro m
    induction m with
    | nil => exact h0
    | cons x m ih => rw [List.reverse_cons]; exact h1 _ _ ih
  have := this l.reverse
  rwa [List.reverse_reverse] at this
theorem valN_lt (l : List UInt8) : valN l < 256 ^ l.length := by
  refine list_snoc_ind (p := fun l => valN l < 256 ^ l.length) (by decide) (fun l x ih => ?_) l
  rw [valN_snoc, List.length_append, List.length_singleton, Nat.pow_succ]
  have := x.toNat_lt
  omega
theorem nstep_val (m : Nat) (x : UInt8) (hm : m < 72057594037927936) : nstep m x = ((m * 256 + x.toNat : Nat) : Int) := by
  have hx := x.toNat_lt
  have e1 : IntKind.u64.wrap ((m : Int) * 2 ^ 8) = ((m * 256 : Nat) : Int) := by
    simp only [IntKind.wrap, IntKind.signed, IntKind.bits]
    simp
    omega
  have e2 : IntKind.u64.wrap (x.toNat : Int) = (x.toNat : Int) := by
    simp only [IntKind.wrap, IntKind.signed, IntKind.bits]
    simp
    omega
  unfold nstep
  rw [e1, e2]
  change IntKind.u64.wrap (((BitVec.ofInt 64 ((m * 256 : Nat) : Int) ||| BitVec.ofInt 64 (x.toNat : Int)).toNat : Nat) : Int) = _
  have e3 : ∀ k : Nat, BitVec.ofInt 64 (k : Int) = BitVec.ofNat 64 k := fun k => by
    apply BitVec.eq_of_toNat_eq
    simp
  rw [e3, e3, BitVec.toNat_or, BitVec.toNat_ofNat, BitVec.toNat_ofNat, Nat.mod_eq_of_lt (by omega), Nat.mod_eq_of_lt (by omega)]
  have e4 : m * 256 ||| x.toNat = m * 256 + x.toNat := by
    rw [show m * 256 = m <<< 8 from by rw [Nat.shiftLeft_eq]]
    exact (Nat.shiftLeft_add_eq_or_of_lt (by omega) m).symm
  rw [e4]
  simp only [IntKind.wrap, IntKind.signed, IntKind.bits]
  simp
  omega
theorem rawN_val (l : List UInt8) (hl : l.length ≤ 8) : rawN l = valN l := by
  have : ∀ l : List UInt8, l.length ≤ 8 → rawN l = valN l := by
    intro l
    refine list_snoc_ind (p := fun l => l.length ≤ 8 → rawN l = valN l) (fun _ => rfl) (fun l x ih hl => ?_) l
    rw [List.length_append, List.length_singleton] at hl
    rw [valN_snoc]
    have e : rawN (l ++ [x]) = nstep (rawN l) x := by simp [rawN]
    rw [e, ih (by omega), nstep_val _ _ ?_]
    have h1 := valN_lt l
    have h2 : 256 ^ l.length ≤ 256 ^ 7 := Nat.pow_le_pow_right (by omega) (by omega)
    exact Nat.lt_of_lt_of_le h1 h2
  exact this l hl


/-! ### what was written is read -/

theorem valN_cons (x : UInt8) (l : List UInt8) : valN (x :: l) = x.toNat * 256 ^ l.length + valN l := by
  have key : ∀ (l : List UInt8) (a : Nat), l.foldl (fun n x => n * 256 + x.toNat) a = a * 256 ^ l.length + valN l := by
    intro l
    induction l with
    | nil => intro a; simp [valN]
    | cons y l ih =>
      intro a
      have h1 := ih (a * 256 + y.toNat)
      have h2 := ih y.toNat
      simp only [List.foldl_cons, List.length_cons, valN] at h1 h2 ⊢
      rw [h1]
      simp only [Nat.zero_mul, Nat.zero_add]
      rw [h2, Nat.pow_succ, Nat.add_mul]
      rw [show a * 256 * 256 ^ l.length = a * (256 ^ l.length * 256) from by rw [Nat.mul_assoc, Nat.mul_comm 256]]
      omega
  have := key l x.toNat
  simpa [valN] using this
theorem bz_val (n : Int) (m k : Nat) (hm : IntKind.u64.wrap n = m) : (bz n k).toNat = m / 256 ^ k % 256 := by
  unfold bz
  rw [hm]
  have e : (2 : Int) ^ (8 * k) = ((256 ^ k : Nat) : Int) := by
    rw [Int.pow_mul]
    simp
  rw [e, Int.fdiv_eq_ediv_of_nonneg _ (Int.natCast_nonneg _)]
  have e2 : (m : Int) / ((256 ^ k : Nat) : Int) = ((m / 256 ^ k : Nat) : Int) := by simp
  rw [e2]
  generalize m / 256 ^ k = q
  simp only [IntKind.wrap, IntKind.signed, IntKind.bits]
  rw [UInt8.toNat_ofNat']
  simp
  omega
theorem valN_be (n : Int) (m : Nat) (hm : IntKind.u64.wrap n = m) : ∀ k, valN (beB k n) = m % 256 ^ k
  | 0 => by simp [beB, valN, Nat.mod_one]
  | k + 1 => by
    rw [beB, valN_cons, bz_val n m k hm, beB_length, valN_be n m hm k, Nat.mod_pow_succ, Nat.mul_comm, Nat.add_comm]
theorem u64_nat (n : Int) : ∃ m : Nat, IntKind.u64.wrap n = m ∧ (m : Int) = n % 18446744073709551616 := by
  refine ⟨(n % 18446744073709551616).toNat, ?_, ?_⟩
  · simp only [IntKind.wrap, IntKind.signed, IntKind.bits]
    simp
    omega
  · omega

theorem ofInt_nat (n : Int) : (BitVec.ofInt 64 n).toNat = (n % 18446744073709551616).toNat := by
  rw [BitVec.toNat_ofInt]
  rfl
theorem and_mask (n : Int) (k : Nat) (hk : k ≤ 62) : bitsA .and .i64 n ((2 ^ k - 1 : Nat) : Int) = n % ((2 ^ k : Nat) : Int) := by
  change IntKind.i64.wrap (((BitVec.ofInt 64 n &&& BitVec.ofInt 64 ((2 ^ k - 1 : Nat) : Int)).toNat : Nat) : Int) = _
  have hp : 2 ^ k ≤ 2 ^ 62 := Nat.pow_le_pow_right (by omega) hk
  have hp0 := Nat.two_pow_pos k
  rw [BitVec.toNat_and, natB, ofInt_nat, Nat.mod_eq_of_lt (a := 2 ^ k - 1) (by omega), Nat.and_two_pow_sub_one_eq_mod]
  have h1 : (n % 18446744073709551616).toNat % 2 ^ k < 2 ^ k := Nat.mod_lt _ hp0
  rw [wrap_i64_go (by omega) (by omega)]
  have h2 : ((2 ^ k : Nat) : Int) ∣ 18446744073709551616 := by
    have : 2 ^ k ∣ 2 ^ 64 := Nat.pow_dvd_pow 2 (by omega)
    exact Int.natCast_dvd_natCast.2 this
  rw [← Int.emod_emod_of_dvd n h2, Int.natCast_emod, Int.toNat_of_nonneg (Int.emod_nonneg n (by omega))]
theorem and255 (n : Int) : bitsA .and .i64 n 255 = n % 256 := and_mask n 8 (by omega)
theorem and32 (n : Int) : bitsA .and .i64 n 4294967295 = n % 4294967296 := and_mask n 32 (by omega)

/-- A number that was written. -/
theorem RS.be {s : RS} {k : Nat} {n : Int} {t : List UInt8} (hk : k ≤ 8) (he : s.err = 0) (hd : s.b.drop s.a = beB k n ++ t) :
    s.val k = IntKind.i64.wrap (n % 18446744073709551616 % 256 ^ k) ∧ s.adv k = ⟨s.b, s.a + k, 0⟩ ∧ s.b.drop (s.a + k) = t := by
  have hlen : s.b.length - s.a = k + t.length := by
    have := congrArg List.length hd
    simpa [beB_length] using this
  have hok : s.ok k = true := by simp [RS.ok, he]; omega
  refine ⟨?_, ?_, ?_⟩
  · unfold RS.val
    rw [if_pos hok, hd, List.take_left' (beB_length k n), rawN_val _ (by rw [beB_length]; exact hk)]
    obtain ⟨m, h1, h2⟩ := u64_nat n
    rw [valN_be n m h1 k, ← h2]
    congr 1
  · unfold RS.adv
    rw [hok]
    simp [he]
  · rw [← List.drop_drop, hd, List.drop_left' (beB_length k n)]
theorem RS.be8 {s : RS} {n : Int} {t : List UInt8} (h1 : -9223372036854775808 ≤ n) (h2 : n ≤ 9223372036854775807) (he : s.err = 0) (hd : s.b.drop s.a = beB 8 n ++ t) :
    s.val 8 = n ∧ s.adv 8 = ⟨s.b, s.a + 8, 0⟩ ∧ s.b.drop (s.a + 8) = t := by
  obtain ⟨a, b, c⟩ := RS.be (by omega) he hd
  refine ⟨?_, b, c⟩
  rw [a]
  simp only [IntKind.wrap, IntKind.signed, IntKind.bits]
  simp
  omega
theorem RS.be4 {s : RS} {n : Int} {t : List UInt8} (he : s.err = 0) (hd : s.b.drop s.a = beB 4 n ++ t) :
    s.val 4 = n % 4294967296 ∧ s.adv 4 = ⟨s.b, s.a + 4, 0⟩ ∧ s.b.drop (s.a + 4) = t := by
  obtain ⟨a, b, c⟩ := RS.be (by omega) he hd
  refine ⟨?_, b, c⟩
  rw [a, wrap_i64_go (by omega) (by omega)]
  omega
theorem RS.be1 {s : RS} {n : Int} {t : List UInt8} (he : s.err = 0) (hd : s.b.drop s.a = beB 1 n ++ t) :
    s.val 1 = n % 256 ∧ s.adv 1 = ⟨s.b, s.a + 1, 0⟩ ∧ s.b.drop (s.a + 1) = t := by
  obtain ⟨a, b, c⟩ := RS.be (by omega) he hd
  refine ⟨?_, b, c⟩
  rw [a, wrap_i64_go (by omega) (by omega)]
  omega
theorem RS.beT {s : RS} {x t : List UInt8} (hx : x.length < 4294967296) (he : s.err = 0) (hd : s.b.drop s.a = txB x ++ t) :
    s.tx = x ∧ s.atx = ⟨s.b, s.a + (4 + x.length), 0⟩ ∧ s.b.drop (s.a + (4 + x.length)) = t := by
  unfold txB at hd
  rw [List.append_assoc] at hd
  obtain ⟨a, b, c⟩ := RS.be4 he hd
  have hk : s.txk = x.length := by
    unfold RS.txk
    rw [a]
    omega
  have hlen : s.b.length - (s.a + 4) = x.length + t.length := by
    have := congrArg List.length c
    simpa using this
  have hok : (s.adv 4).ok s.txk = true := by
    rw [hk, b]
    simp [RS.ok]
    omega
  refine ⟨?_, ?_, ?_⟩
  · unfold RS.tx
    rw [if_pos hok, hk, b, c, List.take_left]
  · unfold RS.atx
    rw [if_pos hok]
    rw [b] at hok ⊢
    unfold RS.adv
    rw [hok]
    simp [hk]
    omega
  · rw [show s.a + (4 + x.length) = s.a + 4 + x.length from by omega, ← List.drop_drop, c, List.drop_left]
end Go.Hz
/- The sums of frames: four bits at a time, and bit by bit. -/
set_option linter.unusedSimpArgs false
set_option linter.unusedVariables false
set_option maxRecDepth 10000
namespace Go.Hz

theorem u32_lt (c : UInt32) : (c.toNat : Int) < 4294967296 := by have := c.toNat_lt; omega
theorem u32_wrap (n : Nat) (h : n < 4294967296) : IntKind.u32.wrap (n : Int) = n := by
  simp only [IntKind.wrap, IntKind.signed, IntKind.bits]
  simp
  omega
theorem ofInt32 (k : Nat) : BitVec.ofInt 32 (k : Int) = BitVec.ofNat 32 k := by
  apply BitVec.eq_of_toNat_eq
  simp
theorem u32_bv (c : UInt32) : BitVec.ofInt 32 (c.toNat : Int) = c.toBitVec := by
  rw [ofInt32]
  exact BitVec.eq_of_toNat_eq (by simp)
theorem u32_xor (c d : UInt32) : bitsA .xor .u32 (c.toNat : Int) (d.toNat : Int) = ((c ^^^ d).toNat : Int) := by
  change IntKind.u32.wrap (((BitVec.ofInt 32 (c.toNat : Int) ^^^ BitVec.ofInt 32 (d.toNat : Int)).toNat : Nat) : Int) = _
  rw [u32_bv, u32_bv, u32_wrap _ (BitVec.isLt _)]
  rfl
theorem u32_and (c d : UInt32) : bitsA .and .u32 (c.toNat : Int) (d.toNat : Int) = ((c &&& d).toNat : Int) := by
  change IntKind.u32.wrap (((BitVec.ofInt 32 (c.toNat : Int) &&& BitVec.ofInt 32 (d.toNat : Int)).toNat : Nat) : Int) = _
  rw [u32_bv, u32_bv, u32_wrap _ (BitVec.isLt _)]
  rfl
theorem u32_shr (c : UInt32) (k : Nat) (hk : k < 32) : (c.toNat : Int).fdiv (2 ^ k) = ((c >>> UInt32.ofNat k).toNat : Int) := by
  rw [UInt32.toNat_shiftRight, UInt32.toNat_ofNat', Nat.mod_eq_of_lt (show k < 2 ^ 32 by omega), Nat.mod_eq_of_lt hk, Nat.shiftRight_eq_div_pow]
  rw [Int.fdiv_eq_ediv_of_nonneg _ (Int.pow_nonneg (by omega))]
  simp
theorem u32_of_u8 (x : UInt8) : IntKind.u32.wrap (x.toNat : Int) = (x.toUInt32.toNat : Int) := by
  have := x.toNat_lt
  rw [u32_wrap _ (by omega)]
  simp

def tabP : List UInt32 := [0, 498536548, 997073096, 651767980, 1994146192, 1802195444, 1303535960, 1342533948, 3988292384, 4027552580, 3604390888, 3412177804, 2607071920, 2262029012, 2685067896, 3183342108]
def nibP (c : UInt32) : UInt32 := (c >>> 4) ^^^ tabP.getD (c &&& 15).toNat 0
def stepP (c : UInt32) (x : UInt8) : UInt32 := nibP (nibP (c ^^^ x.toUInt32))
def sumP (b : List UInt8) : UInt32 := ~~~ (b.foldl stepP 4294967295)

theorem and15 (c : UInt32) : (c &&& 15).toNat < 16 := by
  rw [UInt32.toNat_and]
  exact Nat.lt_of_le_of_lt Nat.and_le_right (by decide)

theorem u32_and15 (c : UInt32) : bitsA .and .u32 (c.toNat : Int) 15 = ((c &&& 15).toNat : Int) := u32_and c 15
theorem u32_shr4 (c : UInt32) : (c.toNat : Int).fdiv (2 ^ min 4 32) = ((c >>> 4).toNat : Int) := u32_shr c 4 (by omega)
theorem u32_not (c : UInt32) : bitsA .xor .u32 (if IntKind.u32.signed = true then -1 else IntKind.u32.max) (c.toNat : Int) = ((~~~ c).toNat : Int) := by
  change bitsA .xor .u32 IntKind.u32.max (c.toNat : Int) = _
  have e : IntKind.u32.max = (((4294967295 : UInt32)).toNat : Int) := by decide
  rw [e, u32_xor]
  congr 2
def cellsP : List AV := tabP.map fun c => .int .u32 c.toNat
theorem cellsP_at (k : Nat) (hk : k < 16) : (List.drop k cellsP)[0]? = some (.int .u32 (tabP.getD k 0).toNat) := by
  have hl : tabP.length = 16 := rfl
  rw [List.getElem?_drop]
  simp [cellsP, List.getD_eq_getElem?_getD]
  rw [List.getElem?_eq_getElem (by omega)]
  simp

/-- One bit of the document's sum. -/
def bitX (c : UInt32) : UInt32 := if c &&& 1 = 1 then (c >>> 1) ^^^ 3988292384 else c >>> 1
def bitsX : Nat → UInt32 → UInt32
  | 0, c => c
  | k + 1, c => bitX (bitsX k c)
def stepX (c : UInt32) (x : UInt8) : UInt32 := bitsX 8 (c ^^^ x.toUInt32)
def sumX (b : List UInt8) : UInt32 := ~~~ (b.foldl stepX 4294967295)
theorem u32_and1 (c : UInt32) : bitsA .and .u32 (c.toNat : Int) 1 = ((c &&& 1).toNat : Int) := u32_and c 1
theorem u32_shr1 (c : UInt32) : (c.toNat : Int).fdiv (2 ^ min 1 32) = ((c >>> 1).toNat : Int) := u32_shr c 1 (by omega)
theorem u32_xorP (c : UInt32) : bitsA .xor .u32 (c.toNat : Int) 3988292384 = ((c ^^^ 3988292384).toNat : Int) := u32_xor c 3988292384

theorem bitX_bv (c : UInt32) : (bitX c).toBitVec = (c.toBitVec >>> 1) ^^^ (if c.toBitVec.getLsbD 0 then 3988292384#32 else 0#32) := by
  have h := BitVec.and_one_eq_setWidth_ofBool_getLsbD (x := c.toBitVec)
  unfold bitX
  cases hb : c.toBitVec.getLsbD 0
  · have hc : ¬ (c &&& 1 = 1) := by
      intro hh
      have h2 := congrArg UInt32.toBitVec hh
      rw [hb] at h
      rw [UInt32.toBitVec_and] at h2
      have h3 : c.toBitVec &&& 1#32 = 1#32 := h2
      rw [h3] at h
      exact absurd h (by decide)
    rw [if_neg hc]
    simp
  · have hc : c &&& 1 = 1 := by
      apply UInt32.toBitVec_inj.1
      rw [hb] at h
      rw [UInt32.toBitVec_and]
      exact h
    rw [if_pos hc]
    rfl

theorem nib (c : UInt32) : bitsX 4 c = nibP c := by
  apply UInt32.toBitVec_inj.1
  have e : (bitsX 4 c).toBitVec = (bitX (bitX (bitX (bitX c)))).toBitVec := rfl
  rw [e, bitX_bv, bitX_bv, bitX_bv, bitX_bv]
  unfold nibP
  rw [UInt32.toBitVec_xor]
  have e4 : (c >>> 4).toBitVec = c.toBitVec >>> 4 := rfl
  have e15 : (c &&& 15).toNat = c.toBitVec.toNat % 16 := by
    rw [UInt32.toNat_and]
    exact Nat.and_two_pow_sub_one_eq_mod _ 4
  rw [e4, e15]
  generalize c.toBitVec = x
  have t : ∀ i, x.getLsbD i = x.toNat.testBit i := fun i => rfl
  cases h0 : x.getLsbD 0 <;> cases h1 : x.getLsbD 1 <;> cases h2 : x.getLsbD 2 <;> cases h3 : x.getLsbD 3
  all_goals
    have g0 := h0
    have g1 := h1
    have g2 := h2
    have g3 := h3
    rw [t, Nat.testBit_eq_decide_div_mod_eq] at g0 g1 g2 g3
    simp at g0 g1 g2 g3
    have gm : x.toNat % 16 = (x.toNat % 2) + 2 * (x.toNat / 2 % 2) + 4 * (x.toNat / 4 % 2) + 8 * (x.toNat / 8 % 2) := by omega
    rw [g0, g1, g2, g3] at gm
    rw [gm]
    clear g0 g1 g2 g3 gm t
    simp at h0 h1 h2 h3
    simp [h0, h1, h2, h3, tabP, BitVec.ushiftRight_xor_distrib, ← BitVec.shiftRight_add, BitVec.xor_assoc]

theorem step_eq (c : UInt32) (x : UInt8) : stepP c x = stepX c x := by
  have e : stepX c x = bitsX 4 (bitsX 4 (c ^^^ x.toUInt32)) := rfl
  rw [e, nib, nib]
  rfl
theorem sum_eq (b : List UInt8) : sumP b = sumX b := by
  have : stepP = stepX := funext fun c => funext fun x => step_eq c x
  unfold sumP sumX
  rw [this]

/-- A frame. -/
def frameB (b : List UInt8) : List UInt8 := beB 4 b.length ++ beB 4 (sumX b).toNat ++ b

theorem i64_u32 (c : UInt32) : IntKind.i64.wrap (c.toNat : Int) = c.toNat := wrap_i64_go (by omega) (by have := u32_lt c; omega)

def B9 : List UInt8 := [49, 50, 51, 52, 53, 54, 55, 56, 57]
theorem k1 : (txB [97, 98] == [0, 0, 0, 2, 97, 98]) = true := by decide +kernel
theorem k2 : (((frameB B9).length : Int) == 17) = true := by decide +kernel
theorem k3 : (((frameB B9).drop 4).take 4 == [203, 244, 57, 38]) = true := by decide +kernel


/-- The numbers of a frame's head. -/
def hdN (b : List UInt8) : Nat := (rawN (b.take 4)).toNat
def hdS (b : List UInt8) : Nat := (rawN ((b.drop 4).take 4)).toNat
/-- What a frame's bytes are read as. -/
def unF (b : List UInt8) : List UInt8 × Nat × Int :=
  if b.length < 8 then ([], 0, 8)
  else if 16777216 < hdN b then ([], 0, 5)
  else if b.length < 8 + hdN b then ([], 0, 8)
  else if (sumX ((b.drop 8).take (hdN b))).toNat ≠ hdS b then ([], 0, 12)
  else ((b.drop 8).take (hdN b), 8 + hdN b, 0)

theorem raw4 (l : List UInt8) (hl : l.length ≤ 4) : IntKind.i64.wrap (rawN l) = ((rawN l).toNat : Int) ∧ (rawN l).toNat < 4294967296 := by
  obtain ⟨a, h1, h2⟩ := rawN_lt l (by omega)
  have h3 : 2 ^ (8 * l.length) ≤ 2 ^ 32 := Nat.pow_le_pow_right (by omega) (by omega)
  rw [h1, wrap_i64_go (by omega) (by omega)]
  exact ⟨by simp, by simp; omega⟩
theorem hdN_val (b c : List UInt8) (hb : 4 ≤ c.length) (hc : c.take 4 = b.take 4) : (RS.mk c 0 0).val 4 = (hdN b : Int) ∧ hdN b < 4294967296 := by
  have hok : (RS.mk c 0 0).ok 4 = true := by simp [RS.ok]; omega
  unfold RS.val
  rw [hok]
  simp only [if_true, List.drop_zero]
  rw [hc]
  exact raw4 _ (by simp; omega)
theorem hdS_val (b c : List UInt8) (hb : 8 ≤ c.length) (hc : (c.drop 4).take 4 = (b.drop 4).take 4) : ((RS.mk c 0 0).adv 4).val 4 = (hdS b : Int) ∧ hdS b < 4294967296 := by
  have hok : (RS.mk c 0 0).ok 4 = true := by simp [RS.ok]; omega
  have e : (RS.mk c 0 0).adv 4 = ⟨c, 4, 0⟩ := by
    unfold RS.adv
    rw [hok]
    rfl
  rw [e]
  have hok : (RS.mk c 4 0).ok 4 = true := by simp [RS.ok]; omega
  unfold RS.val
  rw [hok]
  simp only [if_true]
  rw [hc]
  exact raw4 _ (by simp; omega)

theorem raw_be (k : Nat) (hk : k ≤ 8) (n : Nat) (hn : n < 256 ^ k) : (rawN (beB k n)).toNat = n := by
  have h8 : 256 ^ k ≤ 256 ^ 8 := Nat.pow_le_pow_right (by omega) hk
  have hm : IntKind.u64.wrap (n : Int) = n := by
    simp only [IntKind.wrap, IntKind.signed, IntKind.bits]
    simp
    omega
  rw [rawN_val _ (by rw [beB_length]; exact hk), valN_be n n hm k, Nat.mod_eq_of_lt hn]
  simp
theorem frameB_length (x : List UInt8) : (frameB x).length = 8 + x.length := by simp [frameB, beB_length]; omega
theorem hd_frame (x t : List UInt8) (hx : x.length < 4294967296) : hdN (frameB x ++ t) = x.length ∧ hdS (frameB x ++ t) = (sumX x).toNat := by
  constructor
  · unfold hdN frameB
    rw [List.append_assoc, List.append_assoc, List.take_left' (beB_length 4 _)]
    exact raw_be 4 (by omega) _ (by omega)
  · unfold hdS frameB
    rw [List.append_assoc, List.append_assoc, List.drop_left' (beB_length 4 _), List.take_left' (beB_length 4 _)]
    exact raw_be 4 (by omega) _ (by have := (sumX x).toNat_lt; omega)
/-- A frame, with more behind it. -/
theorem unF_frame (x t : List UInt8) (hx : x.length ≤ 16777216) : unF (frameB x ++ t) = (x, 8 + x.length, 0) := by
  obtain ⟨h1, h2⟩ := hd_frame x t (by omega)
  have h3 : (((frameB x ++ t).drop 8).take x.length) = x := by
    unfold frameB
    have h8 : (beB 4 (x.length : Int) ++ beB 4 ((sumX x).toNat : Int)).length = 8 := by simp [beB_length]
    rw [List.append_assoc, List.drop_left' h8, List.take_left]
  have hl : (frameB x ++ t).length = 8 + x.length + t.length := by simp [frameB_length]
  unfold unF
  rw [h1, h2, h3, if_neg (by omega), if_neg (by omega), if_neg (by omega), if_neg (by simp)]
theorem unF_le (b : List UInt8) : (unF b).2.2 = 0 → (unF b).2.1 ≤ b.length := by
  intro h0
  unfold unF at h0 ⊢
  split at h0
  · simp at h0
  split at h0
  · simp at h0
  split at h0
  · simp at h0
  split at h0
  · simp at h0
  rw [if_neg ‹_›, if_neg ‹_›, if_neg ‹_›, if_neg ‹_›]
  simp only
  omega
/-- A frame whose end lacks. -/
theorem unF_cut (x : List UInt8) (c : Nat) (hx : x.length ≤ 16777216) (hc : c < 8 + x.length) : unF ((frameB x).take c) = ([], 0, 8) := by
  have hl : ((frameB x).take c).length = c := by rw [List.length_take, frameB_length]; omega
  unfold unF
  by_cases h8 : c < 8
  · rw [if_pos (by omega)]
  · have h1 : hdN ((frameB x).take c) = x.length := by
      have := (hd_frame x [] (by omega)).1
      rw [List.append_nil] at this
      unfold hdN at this ⊢
      rw [List.take_take, Nat.min_eq_left (by omega)]
      exact this
    rw [h1, if_neg (by omega), if_neg (by omega), if_pos (by omega)]
end Go.Hz
/- Messages: their bytes, and what bytes are read as. -/
set_option linter.unusedSimpArgs false
set_option linter.unusedVariables false
set_option maxRecDepth 10000
namespace Go.Hz

structure En where
  idx : Int
  term : Int
  kind : Int
  data : List UInt8
  deriving DecidableEq
structure Ms where
  kind : Int
  frm : Int
  to : Int
  term : Int
  index : Int
  lterm : Int
  es : List En
  commit : Int
  seq : Int
  ok : Bool
  mtch : Int
  mi : Int
  mt : Int
  vs : List Int
  data : List UInt8
  deriving DecidableEq

def bytesV (b : List UInt8) : AV := .lst (b.map eb)
def En.row (e : En) : List AV := [.int .i64 e.idx, .int .i64 e.term, .int .i64 e.kind, bytesV e.data]
def ensV (l : List En) : AV := .lst (l.map En.row)
def intsV (l : List Int) : AV := .lst (l.map fun k => [AV.int .i64 k])
def Ms.cells (m : Ms) : List AV :=
  [.int .i64 m.kind, .int .i64 m.frm, .int .i64 m.to, .int .i64 m.term, .int .i64 m.index, .int .i64 m.lterm, ensV m.es, .int .i64 m.commit, .int .i64 m.seq, .bool m.ok, .int .i64 m.mtch,
   .int .i64 m.mi, .int .i64 m.mt, intsV m.vs, bytesV m.data]
def Ms.zero : Ms := ⟨0, 0, 0, 0, 0, 0, [], 0, 0, false, 0, 0, 0, [], []⟩

theorem bytesV_len {b : List UInt8} : lenL (bytesV b) = some (.int .i64 b.length) := by simp [bytesV, lenL]
theorem bytesV_str {h : Hp} {b : List UInt8} : bstrA h (bytesV b) = some (.str b) := bstr_lst
theorem bytesV_cells {b : List UInt8} : (bytesV b).cells = [bytesV b] := rfl
theorem bytesV_atom {b : List UInt8} : (bytesV b).isAtom = true := rfl
theorem ensV_len {l : List En} : lenL (ensV l) = some (.int .i64 l.length) := by simp [ensV, lenL]
theorem ensV_cells {l : List En} : (ensV l).cells = [ensV l] := rfl
theorem ensV_atom {l : List En} : (ensV l).isAtom = true := rfl
theorem ensV_at {l : List En} {i : Nat} (hi : i < l.length) : iaA 4 (ensV l) (.int .i64 (i : Int)) = some (.ro l[i].row) := ia_lst hi fun _ => rfl
theorem intsV_len {l : List Int} : lenL (intsV l) = some (.int .i64 l.length) := by simp [intsV, lenL]
theorem intsV_cells {l : List Int} : (intsV l).cells = [intsV l] := rfl
theorem intsV_atom {l : List Int} : (intsV l).isAtom = true := rfl
theorem intsV_at {l : List Int} {i : Nat} (hi : i < l.length) : iaA 1 (intsV l) (.int .i64 (i : Int)) = some (.ro [.int .i64 l[i]]) := ia_lst (f := fun k => [AV.int .i64 k]) hi fun _ => rfl
attribute [go_sem] bytesV_len bytesV_str bytesV_cells bytesV_atom ensV_len ensV_cells ensV_atom intsV_len intsV_cells intsV_atom

theorem Ms.cells_all {m : Ms} : m.cells.all AV.isAtom = true := rfl
theorem Ms.cells_len {m : Ms} : m.cells.length = 15 := rfl
theorem Ms.cells_take {m : Ms} : m.cells.take 15 = m.cells := rfl
attribute [go_sem] Ms.cells_all Ms.cells_len Ms.cells_take
/-- No message is longer. -/
def Ms.room (m : Ms) : Prop := m.es.length ≤ 1000000000000 ∧ m.vs.length ≤ 1000000000000

theorem atoms_En (l : List En) : AtomsL (l.map En.row) := by
  intro e he v hv
  obtain ⟨x, _, rfl⟩ := List.mem_map.1 he
  simp only [En.row, List.mem_cons, List.not_mem_nil, or_false] at hv
  rcases hv with rfl | rfl | rfl | rfl <;> rfl
theorem atoms_int (l : List Int) : AtomsL (l.map fun k => [AV.int .i64 k]) := by
  intro e he v hv
  obtain ⟨x, _, rfl⟩ := List.mem_map.1 he
  simp only [List.mem_cons, List.not_mem_nil, or_false] at hv
  subst hv; rfl

/-! ### bytes -/

def En.B (e : En) : List UInt8 := beB 8 e.idx ++ (beB 8 e.term ++ (beB 1 e.kind ++ txB e.data))
def Ms.five (m : Ms) : List Int := [m.frm, m.to, m.term, m.index, m.lterm]
def flagN (b : Bool) : Int := if b then 1 else 0
def Ms.B (m : Ms) : List UInt8 :=
  beB 1 m.kind ++ (m.five.flatMap (beB 8) ++ (beB 1 m.es.length ++ (m.es.flatMap En.B ++ (beB 8 m.commit ++ (beB 8 m.seq ++ (beB 1 (flagN m.ok) ++ (beB 8 m.mtch ++ (beB 8 m.mi ++ (beB 8 m.mt ++
    (beB 1 m.vs.length ++ (m.vs.flatMap (beB 8) ++ txB m.data)))))))))))
def En.bad (e : En) : Bool := decide (e.kind < 0) || decide (255 < e.kind)
def Ms.e (m : Ms) : Int :=
  if m.kind < 1 ∨ 5 < m.kind then 3 else if 255 < m.es.length ∨ 255 < m.vs.length then 4 else if m.es.any En.bad then 3 else if 16777216 < m.B.length then 5 else 0
def Ms.enc (m : Ms) : List UInt8 := if m.e = 0 then frameB m.B else []

theorem flatMap_succ {α β : Type} {f : α → List β} {l : List α} {i : Nat} (hi : i < l.length) : (l.take (i + 1)).flatMap f = (l.take i).flatMap f ++ f l[i] := by
  rw [List.take_succ_eq_append_getElem hi, List.flatMap_append]
  simp
theorem flatMap_drop {α β : Type} {f : α → List β} {l : List α} {i : Nat} (hi : i < l.length) : (l.drop i).flatMap f = f l[i] ++ (l.drop (i + 1)).flatMap f := by
  rw [List.drop_eq_getElem_cons hi]
  rfl
theorem flatMap_take_le {α β : Type} {f : α → List β} {l : List α} (i : Nat) : ((l.take i).flatMap f).length ≤ (l.flatMap f).length := by
  have : l.flatMap f = (l.take i).flatMap f ++ (l.drop i).flatMap f := by rw [← List.flatMap_append, List.take_append_drop]
  rw [this, List.length_append]
  omega

theorem flat8 (l : List Int) : (l.flatMap (beB 8)).length = 8 * l.length := by
  induction l with
  | nil => rfl
  | cons x l ih => rw [List.flatMap_cons, List.length_append, ih, beB_length, List.length_cons]; omega

/-! ### reading -/

def entP : Nat → RS → List En × RS
  | 0, s => ([], s)
  | n + 1, s => if s.err = 0 then
      (⟨s.val 8, (s.adv 8).val 8, ((s.adv 8).adv 8).val 1, (((s.adv 8).adv 8).adv 1).tx⟩ :: (entP n (((s.adv 8).adv 8).adv 1).atx).1, (entP n (((s.adv 8).adv 8).adv 1).atx).2) else ([], s)
def votP : Nat → RS → List Int × RS
  | 0, s => ([], s)
  | n + 1, s => if s.err = 0 then (s.val 8 :: (votP n (s.adv 8)).1, (votP n (s.adv 8)).2) else ([], s)
/-- A message's inside, from its second number on: the states of the reader on the way. -/
structure RdP where
  s1 : RS
  es : List En
  s2 : RS
  vs : List Int
  s3 : RS
def RS.v (s : RS) (n : Nat) : Nat := (s.val n).toNat
def rdP (s : RS) : RdP :=
  let s1 := (((((s.adv 1).adv 8).adv 8).adv 8).adv 8).adv 8
  let E := entP (s1.v 1) (s1.adv 1)
  let s2 := (((((E.2.adv 8).adv 8).adv 1).adv 8).adv 8).adv 8
  let V := votP (s2.v 1) (s2.adv 1)
  ⟨s1, E.1, E.2, V.1, V.2⟩
def msP (s : RS) : Ms :=
  let r := rdP s
  ⟨s.val 1, (s.adv 1).val 8, ((s.adv 1).adv 8).val 8, (((s.adv 1).adv 8).adv 8).val 8, ((((s.adv 1).adv 8).adv 8).adv 8).val 8, (((((s.adv 1).adv 8).adv 8).adv 8).adv 8).val 8,
   r.es, r.s2.val 8, (r.s2.adv 8).val 8, ((r.s2.adv 8).adv 8).val 1 == 1, (((r.s2.adv 8).adv 8).adv 1).val 8, ((((r.s2.adv 8).adv 8).adv 1).adv 8).val 8, (((((r.s2.adv 8).adv 8).adv 1).adv 8).adv 8).val 8,
   r.vs, r.s3.tx⟩
/-- What is wrong with a message's inside. -/
def erP (s : RS) : Int :=
  let r := rdP s
  if (s.adv 1).err = 0 ∧ (s.val 1 < 1 ∨ 5 < s.val 1) then 3
  else if (((r.s2.adv 8).adv 8).adv 1).err = 0 ∧ 1 < ((r.s2.adv 8).adv 8).val 1 then 11
  else if r.s3.atx.err ≠ 0 then 8
  else if r.s3.atx.a < s.b.length then 9 else 0
/-- What bytes are read as. -/
def parE (b : List UInt8) : Int := if (unF b).2.2 ≠ 0 then (unF b).2.2 else if (unF b).2.1 < b.length then 9 else erP ⟨(unF b).1, 0, 0⟩
def parM (b : List UInt8) : Ms := if parE b = 0 then msP ⟨(unF b).1, 0, 0⟩ else Ms.zero

theorem entP_b (n : Nat) : ∀ s, (entP n s).2.b = s.b := by
  induction n with
  | zero => intro s; rfl
  | succ n ih =>
    intro s
    unfold entP
    split
    · simp only [ih, RS.atx_b]; rfl
    · rfl
theorem votP_b (n : Nat) : ∀ s, (votP n s).2.b = s.b := by
  induction n with
  | zero => intro s; rfl
  | succ n ih =>
    intro s
    unfold votP
    split
    · simp only [ih]; rfl
    · rfl
theorem RS.v_val (s : RS) : s.val 1 = (s.v 1 : Int) ∧ s.v 1 < 256 := by
  obtain ⟨k, h1, h2⟩ := s.val_lt 1 (by omega)
  unfold RS.v
  rw [h1]
  exact ⟨by simp, by simpa using h2⟩
/-- No message, as it is made. -/
def zeroM : List AV := [.int .i64 0, .int .i64 0, .int .i64 0, .int .i64 0, .int .i64 0, .int .i64 0, .nils, .int .i64 0, .int .i64 0, .bool false, .int .i64 0, .int .i64 0, .int .i64 0, .nils, .nils]
theorem GV.zeroM (h : Hp) (k : AV) : GV (.tup [.agg zeroM, k]) h (.tup [.agg Ms.zero.cells, k]) h := by
  refine GV.tup [] [k] ?_
  refine GV.trans (GV.agg [.int .i64 0, .int .i64 0, .int .i64 0, .int .i64 0, .int .i64 0, .int .i64 0] [.int .i64 0, .int .i64 0, .bool false, .int .i64 0, .int .i64 0, .int .i64 0, .nils, .nils] GV.nils) ?_
  refine GV.trans (GV.agg [.int .i64 0, .int .i64 0, .int .i64 0, .int .i64 0, .int .i64 0, .int .i64 0, .lst [], .int .i64 0, .int .i64 0, .bool false, .int .i64 0, .int .i64 0, .int .i64 0] [.nils] GV.nils) ?_
  exact GV.agg [.int .i64 0, .int .i64 0, .int .i64 0, .int .i64 0, .int .i64 0, .int .i64 0, .lst [], .int .i64 0, .int .i64 0, .bool false, .int .i64 0, .int .i64 0, .int .i64 0, .lst []] [] GV.nils
end Go.Hz
/- A reader stands ahead of bytes: what was written is read, and what was read was written. -/
set_option linter.unusedSimpArgs false
set_option linter.unusedVariables false
namespace Go.Hz

/-- A reader that lacks nothing stands ahead of these bytes. -/
def RS.At (s : RS) (r : List UInt8) : Prop := s.err = 0 ∧ s.b.drop s.a = r ∧ s.a ≤ s.b.length

theorem RS.At.i8 {s : RS} {n : Int} {t : List UInt8} (h : s.At (beB 8 n ++ t)) (h1 : -9223372036854775808 ≤ n) (h2 : n ≤ 9223372036854775807) : s.val 8 = n ∧ (s.adv 8).At t := by
  obtain ⟨a, b, c⟩ := RS.be8 h1 h2 h.1 h.2.1
  have hl := congrArg List.length h.2.1
  simp [beB_length] at hl
  exact ⟨a, by rw [b]; exact ⟨rfl, c, by simp only; omega⟩⟩
theorem RS.At.i1 {s : RS} {n : Int} {t : List UInt8} (h : s.At (beB 1 n ++ t)) (h1 : 0 ≤ n) (h2 : n < 256) : s.val 1 = n ∧ (s.adv 1).At t := by
  obtain ⟨a, b, c⟩ := RS.be1 h.1 h.2.1
  have hl := congrArg List.length h.2.1
  simp [beB_length] at hl
  exact ⟨by rw [a]; omega, by rw [b]; exact ⟨rfl, c, by simp only; omega⟩⟩
theorem RS.At.t {s : RS} {x t : List UInt8} (h : s.At (txB x ++ t)) (hx : x.length < 4294967296) : s.tx = x ∧ s.atx.At t := by
  obtain ⟨a, b, c⟩ := RS.beT hx h.1 h.2.1
  have hl := congrArg List.length h.2.1
  simp [txB_length] at hl
  exact ⟨a, by rw [b]; exact ⟨rfl, c, by simp only; omega⟩⟩
theorem RS.At.fin {s : RS} (h : s.At []) : s.a = s.b.length := by
  have := congrArg List.length h.2.1
  simp at this
  have := h.2.2
  omega
theorem RS.At.start (b : List UInt8) : (RS.mk b 0 0).At b := ⟨rfl, rfl, Nat.zero_le _⟩

/-! ### back -/

theorem valN_inj : ∀ {l l' : List UInt8}, l.length = l'.length → valN l = valN l' → l = l'
  | [], [], _, _ => rfl
  | [], _ :: _, h, _ => by simp at h
  | _ :: _, [], h, _ => by simp at h
  | x :: l, y :: l', h, hv => by
    have hl : l.length = l'.length := by simpa using h
    rw [valN_cons, valN_cons, hl] at hv
    have h1 := valN_lt l
    have h2 := valN_lt l'
    rw [hl] at h1
    have hp : 0 < 256 ^ l'.length := Nat.pow_pos (by omega)
    have hx : x.toNat = y.toNat := by
      have e1 : (x.toNat * 256 ^ l'.length + valN l) / 256 ^ l'.length = x.toNat := by
        rw [Nat.mul_comm, Nat.mul_add_div hp, Nat.div_eq_of_lt h1, Nat.add_zero]
      have e2 : (y.toNat * 256 ^ l'.length + valN l') / 256 ^ l'.length = y.toNat := by
        rw [Nat.mul_comm, Nat.mul_add_div hp, Nat.div_eq_of_lt h2, Nat.add_zero]
      rw [← e1, ← e2, hv]
    rw [hx] at hv
    have := valN_inj hl (by omega)
    rw [this, UInt8.toNat_inj.1 hx]
theorem be_raw (l : List UInt8) (hl : l.length ≤ 8) : beB l.length (IntKind.i64.wrap (rawN l)) = l := by
  apply valN_inj (by rw [beB_length])
  have h1 := valN_lt l
  have h8 : 256 ^ l.length ≤ 256 ^ 8 := Nat.pow_le_pow_right (by omega) hl
  rw [rawN_val l hl]
  have hm : IntKind.u64.wrap (IntKind.i64.wrap (valN l : Int)) = (valN l : Int) := by
    simp only [IntKind.wrap, IntKind.signed, IntKind.bits]
    simp
    omega
  rw [valN_be _ (valN l) hm, Nat.mod_eq_of_lt h1]
theorem RS.back {s : RS} {n : Nat} (hn : n ≤ 8) (hg : s.a ≤ s.b.length) (h : (s.adv n).err = 0) : s.err = 0 ∧ s.b.drop s.a = beB n (s.val n) ++ (s.adv n).b.drop (s.adv n).a ∧ (s.adv n).a ≤ (s.adv n).b.length := by
  have hok : s.ok n = true := by
    cases hk : s.ok n
    · have : (s.adv n).err = 8 := by
        show (if s.ok n then s.err else (8 : Int)) = 8
        rw [hk]; rfl
      omega
    · rfl
  obtain ⟨h0, hle⟩ := RS.ok_le hok
  have hlen : ((s.b.drop s.a).take n).length = n := by simp; omega
  have hv : beB n (s.val n) = (s.b.drop s.a).take n := by
    have := be_raw ((s.b.drop s.a).take n) (by omega)
    rw [hlen] at this
    unfold RS.val
    rw [if_pos hok, this]
  have ha : (s.adv n).a = s.a + n := by
    show (if s.ok n then s.a + n else s.a) = _
    rw [hok]; rfl
  refine ⟨h0, ?_, ?_⟩
  · rw [hv, ha, RS.adv_b, ← List.drop_drop, List.take_append_drop]
  · rw [ha, RS.adv_b]; omega
/-- A reader that stood well. -/
def RS.well (s : RS) : Prop := s.a ≤ s.b.length
theorem RS.well.adv {s : RS} (h : s.well) (n : Nat) : (s.adv n).well := by
  unfold RS.well at *
  show (if s.ok n then s.a + n else s.a) ≤ s.b.length
  cases hk : s.ok n
  · exact h
  · have := (RS.ok_le hk).2
    simp only [if_true]
    omega
theorem RS.well.atx {s : RS} (h : s.well) : s.atx.well := by
  unfold RS.atx
  split
  · exact (h.adv 4).adv _
  · exact h
/-- What is left. -/
def RS.rest (s : RS) : List UInt8 := s.b.drop s.a
theorem RS.backN {s : RS} {n : Nat} (hn : n ≤ 8) (hg : s.well) (h : (s.adv n).err = 0) : s.err = 0 ∧ s.rest = beB n (s.val n) ++ (s.adv n).rest := by
  obtain ⟨a, b, c⟩ := RS.back hn hg h
  exact ⟨a, b⟩
theorem RS.backT {s : RS} (hg : s.well) (h : s.atx.err = 0) : s.err = 0 ∧ s.rest = txB s.tx ++ s.atx.rest ∧ s.tx.length < 4294967296 := by
  have hok : (s.adv 4).ok s.txk = true := by
    cases hk : (s.adv 4).ok s.txk
    · have : s.atx.err = 8 := by unfold RS.atx; rw [hk]; rfl
      omega
    · rfl
  have e : s.atx = (s.adv 4).adv s.txk := by unfold RS.atx; rw [hok]; rfl
  have et : s.tx = ((s.b.drop (s.adv 4).a).take s.txk) := by unfold RS.tx; rw [hok]; rfl
  obtain ⟨h4, hle⟩ := RS.ok_le hok
  obtain ⟨a, b⟩ := RS.backN (n := 4) (by omega) hg h4
  obtain ⟨k1, k2⟩ := s.val_txk
  have hle' : s.txk ≤ s.b.length - (s.adv 4).a := hle
  have hl : s.tx.length = s.txk := by rw [et]; simp; omega
  refine ⟨a, ?_, by omega⟩
  rw [b, k1]
  unfold txB
  rw [hl, List.append_assoc]
  congr 1
  have ha : s.atx.a = (s.adv 4).a + s.txk := by
    rw [e]
    show (if (s.adv 4).ok s.txk then _ else _) = _
    rw [hok]; rfl
  unfold RS.rest
  rw [ha, RS.atx_b, RS.adv_b, et, ← List.drop_drop, List.take_append_drop]
end Go.Hz
/- Messages: what was written is read, what was read was written. -/
set_option linter.unusedSimpArgs false
set_option linter.unusedVariables false
set_option maxRecDepth 10000
namespace Go.Hz

def inI (n : Int) : Prop := -9223372036854775808 ≤ n ∧ n ≤ 9223372036854775807
def En.fine (e : En) : Prop := inI e.idx ∧ inI e.term ∧ inI e.kind ∧ e.data.length < 4294967296
def Ms.fine (m : Ms) : Prop := (inI m.kind ∧ inI m.frm ∧ inI m.to ∧ inI m.term ∧ inI m.index ∧ inI m.lterm ∧ inI m.commit ∧ inI m.seq ∧ inI m.mtch ∧ inI m.mi ∧ inI m.mt) ∧ (∀ e ∈ m.es, e.fine) ∧ (∀ v ∈ m.vs, inI v) ∧ m.data.length < 4294967296

theorem bad_iff {e : En} : e.bad = false ↔ 0 ≤ e.kind ∧ e.kind ≤ 255 := by
  simp [En.bad]
theorem entP_B : ∀ (l : List En) (s : RS) (t : List UInt8), (∀ e ∈ l, e.fine ∧ e.bad = false) → s.At (l.flatMap En.B ++ t) → (entP l.length s).1 = l ∧ (entP l.length s).2.At t
  | [], s, t, _, h => ⟨rfl, h⟩
  | e :: l, s, t, hf, h => by
    obtain ⟨⟨f1, f2, f3, f4⟩, fb⟩ := hf e (List.mem_cons_self ..)
    have fk := bad_iff.1 fb
    have e0 : s.At (beB 8 e.idx ++ (beB 8 e.term ++ (beB 1 e.kind ++ (txB e.data ++ (l.flatMap En.B ++ t))))) := by
      simpa [En.B, List.flatMap_cons] using h
    obtain ⟨a1, b1⟩ := e0.i8 f1.1 f1.2
    obtain ⟨a2, b2⟩ := b1.i8 f2.1 f2.2
    obtain ⟨a3, b3⟩ := b2.i1 fk.1 (by omega)
    obtain ⟨a4, b4⟩ := b3.t f4
    obtain ⟨c1, c2⟩ := entP_B l _ t (fun x hx => hf x (List.mem_cons_of_mem _ hx)) b4
    rw [List.length_cons, entP, if_pos e0.1]
    simp only [a1, a2, a3, a4]
    exact ⟨by rw [c1], c2⟩
theorem votP_B : ∀ (l : List Int) (s : RS) (t : List UInt8), (∀ v ∈ l, inI v) → s.At (l.flatMap (beB 8) ++ t) → (votP l.length s).1 = l ∧ (votP l.length s).2.At t
  | [], s, t, _, h => ⟨rfl, h⟩
  | v :: l, s, t, hf, h => by
    have f := hf v (List.mem_cons_self ..)
    have e0 : s.At (beB 8 v ++ (l.flatMap (beB 8) ++ t)) := by simpa [List.flatMap_cons] using h
    obtain ⟨a1, b1⟩ := e0.i8 f.1 f.2
    obtain ⟨c1, c2⟩ := votP_B l _ t (fun x hx => hf x (List.mem_cons_of_mem _ hx)) b1
    rw [List.length_cons, votP, if_pos e0.1]
    simp only [a1]
    exact ⟨by rw [c1], c2⟩

theorem flag_of (b : Bool) : (flagN b == 1) = b := by cases b <;> rfl
theorem flag_in (b : Bool) : 0 ≤ flagN b ∧ flagN b ≤ 1 := by cases b <;> simp [flagN]

/-- A message that was written is read. -/
theorem read_B {m : Ms} (hm : m.fine) (he : m.e = 0) : erP ⟨m.B, 0, 0⟩ = 0 ∧ msP ⟨m.B, 0, 0⟩ = m := by
  obtain ⟨⟨f1, f2, f3, f4, f5, f6, f7, f8, f9, f10, f11⟩, fe, fv, fd⟩ := hm
  unfold Ms.e at he
  split at he
  · omega
  rename_i k1
  split at he
  · omega
  rename_i k2
  split at he
  · omega
  rename_i k3
  have kb : ∀ e ∈ m.es, e.bad = false := fun e hx => by
    cases hb : e.bad
    · rfl
    · exact absurd (List.any_eq_true.2 ⟨e, hx, hb⟩) k3
  have s0 : (RS.mk m.B 0 0).At (beB 1 m.kind ++ (beB 8 m.frm ++ (beB 8 m.to ++ (beB 8 m.term ++ (beB 8 m.index ++ (beB 8 m.lterm ++ (beB 1 m.es.length ++ (m.es.flatMap En.B ++ (beB 8 m.commit ++ (beB 8 m.seq ++ (beB 1 (flagN m.ok) ++ (beB 8 m.mtch ++
      (beB 8 m.mi ++ (beB 8 m.mt ++ (beB 1 m.vs.length ++ (m.vs.flatMap (beB 8) ++ (txB m.data ++ []))))))))))))))))) := by
    have e : (beB 1 m.kind ++ (beB 8 m.frm ++ (beB 8 m.to ++ (beB 8 m.term ++ (beB 8 m.index ++ (beB 8 m.lterm ++ (beB 1 m.es.length ++ (m.es.flatMap En.B ++ (beB 8 m.commit ++ (beB 8 m.seq ++ (beB 1 (flagN m.ok) ++ (beB 8 m.mtch ++
      (beB 8 m.mi ++ (beB 8 m.mt ++ (beB 1 m.vs.length ++ (m.vs.flatMap (beB 8) ++ (txB m.data ++ []))))))))))))))))) = m.B := by
      unfold Ms.B Ms.five
      simp only [List.flatMap_cons, List.flatMap_nil, List.append_assoc, List.nil_append, List.append_nil]
    rw [e]
    exact RS.At.start m.B
  generalize hs : RS.mk m.B 0 0 = s at *
  have hsb : s.b = m.B := by rw [← hs]
  obtain ⟨a0, b0⟩ := s0.i1 (by omega) (by omega)
  obtain ⟨a1, b1⟩ := b0.i8 f2.1 f2.2
  obtain ⟨a2, b2⟩ := b1.i8 f3.1 f3.2
  obtain ⟨a3, b3⟩ := b2.i8 f4.1 f4.2
  obtain ⟨a4, b4⟩ := b3.i8 f5.1 f5.2
  obtain ⟨a5, b5⟩ := b4.i8 f6.1 f6.2
  obtain ⟨a6, b6⟩ := b5.i1 (by omega) (by omega)
  have hk : ((((((s.adv 1).adv 8).adv 8).adv 8).adv 8).adv 8).v 1 = m.es.length := by unfold RS.v; rw [a6]; simp
  obtain ⟨c1, c2⟩ := entP_B m.es _ _ (fun e hx => ⟨fe e hx, kb e hx⟩) b6
  rw [← hk] at c1 c2
  generalize hE : entP ((((((s.adv 1).adv 8).adv 8).adv 8).adv 8).adv 8 |>.v 1) ((((((s.adv 1).adv 8).adv 8).adv 8).adv 8).adv 8 |>.adv 1) = E at c1 c2
  obtain ⟨a7, b7⟩ := c2.i8 f7.1 f7.2
  obtain ⟨a8, b8⟩ := b7.i8 f8.1 f8.2
  have hfl := flag_in m.ok
  obtain ⟨a9, b9⟩ := b8.i1 hfl.1 (by omega)
  obtain ⟨a10, b10⟩ := b9.i8 f9.1 f9.2
  obtain ⟨a11, b11⟩ := b10.i8 f10.1 f10.2
  obtain ⟨a12, b12⟩ := b11.i8 f11.1 f11.2
  obtain ⟨a13, b13⟩ := b12.i1 (by omega) (by omega)
  have hk2 : ((((((E.2.adv 8).adv 8).adv 1).adv 8).adv 8).adv 8).v 1 = m.vs.length := by unfold RS.v; rw [a13]; simp
  obtain ⟨d1, d2⟩ := votP_B m.vs _ _ fv b13
  rw [← hk2] at d1 d2
  generalize hV : votP ((((((E.2.adv 8).adv 8).adv 1).adv 8).adv 8).adv 8 |>.v 1) ((((((E.2.adv 8).adv 8).adv 1).adv 8).adv 8).adv 8 |>.adv 1) = V at d1 d2
  obtain ⟨a14, b14⟩ := d2.t fd
  have hr : rdP s = ⟨((((((s.adv 1).adv 8).adv 8).adv 8).adv 8).adv 8), E.1, E.2, V.1, V.2⟩ := by
    unfold rdP
    simp only
    rw [hE, hV]
  constructor
  · unfold erP
    rw [hr]
    simp only
    rw [a0, a9, if_neg (by omega), if_neg (by omega), if_neg (by rw [b14.1]; simp), if_neg ?_]
    have hb : V.2.atx.b = s.b := by
      rw [RS.atx_b, ← hV, votP_b]
      show E.2.b = s.b
      rw [← hE, entP_b]
      rfl
    have := b14.fin
    rw [hb] at this
    omega
  · unfold msP
    rw [hr]
    simp only [a0, a1, a2, a3, a4, a5, a7, a8, a9, a10, a11, a12, c1, d1, a14, flag_of]

theorem par_B {m : Ms} (hm : m.fine) (he : m.e = 0) : parE (frameB m.B) = 0 ∧ parM (frameB m.B) = m := by
  obtain ⟨h1, h2⟩ := read_B hm he
  have hl : m.B.length ≤ 16777216 := by
    unfold Ms.e at he
    split at he
    · omega
    split at he
    · omega
    split at he
    · omega
    split at he
    · omega
    omega
  have hu := unF_frame m.B [] hl
  rw [List.append_nil] at hu
  have hp : parE (frameB m.B) = 0 := by
    unfold parE
    rw [hu]
    simp only
    rw [if_neg (by simp), if_neg (by rw [frameB_length]; omega)]
    exact h1
  refine ⟨hp, ?_⟩
  unfold parM
  rw [if_pos hp, hu]
  exact h2

/-! ### back -/

theorem entP_well (n : Nat) : ∀ s : RS, s.well → (entP n s).2.well := by
  induction n with
  | zero => exact fun s h => h
  | succ n ih =>
    intro s h
    unfold entP
    split
    · exact ih _ (((h.adv 8).adv 8).adv 1).atx
    · exact h
theorem votP_well (n : Nat) : ∀ s : RS, s.well → (votP n s).2.well := by
  induction n with
  | zero => exact fun s h => h
  | succ n ih =>
    intro s h
    unfold votP
    split
    · exact ih _ (h.adv 8)
    · exact h
theorem val_in (s : RS) (n : Nat) : inI (s.val n) := by
  unfold RS.val inI
  split
  · simp only [IntKind.wrap, IntKind.signed, IntKind.bits]
    simp
    omega
  · omega
theorem v_in (s : RS) : 0 ≤ s.val 1 ∧ s.val 1 < 256 := by
  obtain ⟨a, b⟩ := s.v_val
  omega
theorem entP_back : ∀ (n : Nat) (s : RS), s.well → (entP n s).2.err = 0 → s.err = 0 ∧ (entP n s).1.length = n ∧ s.rest = (entP n s).1.flatMap En.B ++ (entP n s).2.rest ∧ ∀ e ∈ (entP n s).1, e.fine ∧ e.bad = false
  | 0, s, _, h => ⟨h, rfl, rfl, by simp [entP]⟩
  | n + 1, s, hw, h => by
    by_cases h0 : s.err = 0
    · rw [entP, if_pos h0] at h ⊢
      have w1 := hw.adv 8
      have w2 := w1.adv 8
      have w3 := w2.adv 1
      obtain ⟨a, b, c, d⟩ := entP_back n _ w3.atx h
      obtain ⟨a4, b4, l4⟩ := RS.backT w3 a
      obtain ⟨a3, b3⟩ := RS.backN (by omega) w2 a4
      obtain ⟨a2, b2⟩ := RS.backN (by omega) w1 a3
      obtain ⟨a1, b1⟩ := RS.backN (by omega) hw a2
      refine ⟨h0, by simp only [List.length_cons, b], ?_, fun e he => ?_⟩
      · rw [b1, b2, b3, b4, c]
        simp [List.flatMap_cons, En.B]
      · rcases List.mem_cons.1 he with rfl | he
        · refine ⟨⟨val_in _ _, val_in _ _, val_in _ _, l4⟩, bad_iff.2 ?_⟩
          have := v_in ((s.adv 8).adv 8)
          simp only
          omega
        · exact d e he
    · rw [entP, if_neg h0] at h
      exact absurd h h0
theorem votP_back : ∀ (n : Nat) (s : RS), s.well → (votP n s).2.err = 0 → s.err = 0 ∧ (votP n s).1.length = n ∧ s.rest = (votP n s).1.flatMap (beB 8) ++ (votP n s).2.rest
  | 0, s, _, h => ⟨h, rfl, rfl⟩
  | n + 1, s, hw, h => by
    by_cases h0 : s.err = 0
    · rw [votP, if_pos h0] at h ⊢
      obtain ⟨a, b, c⟩ := votP_back n _ (hw.adv 8) h
      obtain ⟨a1, b1⟩ := RS.backN (by omega) hw a
      refine ⟨h0, by simp only [List.length_cons, b], ?_⟩
      rw [b1, c]
      simp [List.flatMap_cons]
    · rw [votP, if_neg h0] at h
      exact absurd h h0

theorem flag_back (n : Int) (h0 : 0 ≤ n) (h1 : n ≤ 1) : flagN (n == 1) = n := by
  have : n = 0 ∨ n = 1 := by omega
  rcases this with rfl | rfl <;> rfl

/-- What was read was written. -/
theorem read_back {x : List UInt8} (he : erP ⟨x, 0, 0⟩ = 0) (hl : x.length ≤ 16777216) : (msP ⟨x, 0, 0⟩).B = x ∧ (msP ⟨x, 0, 0⟩).e = 0 := by
  have w0 : (RS.mk x 0 0).well := Nat.zero_le _
  have r0 : (RS.mk x 0 0).rest = x := rfl
  have hsb : (RS.mk x 0 0).b = x := rfl
  generalize RS.mk x 0 0 = s at *
  unfold erP at he
  simp only at he
  split at he
  · omega
  rename_i k1
  split at he
  · omega
  rename_i k2
  split at he
  · omega
  rename_i k3
  split at he
  · omega
  rename_i k4
  have k3 : (rdP s).s3.atx.err = 0 := by
    by_cases q : (rdP s).s3.atx.err = 0
    · exact q
    · exact absurd q k3
  have w6 := (((((w0.adv 1).adv 8).adv 8).adv 8).adv 8).adv 8
  generalize hs1 : ((((((s.adv 1).adv 8).adv 8).adv 8).adv 8).adv 8) = s1 at *
  generalize hE : entP (s1.v 1) (s1.adv 1) = E
  have wE : E.2.well := by rw [← hE]; exact entP_well _ _ (w6.adv 1)
  have w12 := (((((wE.adv 8).adv 8).adv 1).adv 8).adv 8).adv 8
  generalize hs2 : ((((((E.2.adv 8).adv 8).adv 1).adv 8).adv 8).adv 8) = s2 at *
  generalize hV : votP (s2.v 1) (s2.adv 1) = V
  have wV : V.2.well := by rw [← hV]; exact votP_well _ _ (w12.adv 1)
  have hr : rdP s = ⟨s1, E.1, E.2, V.1, V.2⟩ := by
    unfold rdP
    simp only
    rw [hs1, hE, hs2, hV]
  rw [hr] at k2 k3 k4
  simp only at k2 k3 k4
  obtain ⟨a14, b14, l14⟩ := RS.backT wV k3
  have hV1 := votP_back (s2.v 1) (s2.adv 1) (w12.adv 1) (by rw [hV]; exact a14)
  rw [hV] at hV1
  obtain ⟨a13, c13, b13⟩ := hV1
  obtain ⟨a12, b12⟩ := RS.backN (by omega) w12 a13
  rw [← hs2] at a12
  have x1 := wE.adv 8
  have x2 := x1.adv 8
  have x3 := x2.adv 1
  have x4 := x3.adv 8
  have x5 := x4.adv 8
  obtain ⟨a11, b11⟩ := RS.backN (by omega) x5 a12
  obtain ⟨a10, b10⟩ := RS.backN (by omega) x4 a11
  obtain ⟨a9, b9⟩ := RS.backN (by omega) x3 a10
  obtain ⟨a8, b8⟩ := RS.backN (by omega) x2 a9
  obtain ⟨a7, b7⟩ := RS.backN (by omega) x1 a8
  obtain ⟨a6, b6⟩ := RS.backN (by omega) wE a7
  have hE1 := entP_back (s1.v 1) (s1.adv 1) (w6.adv 1) (by rw [hE]; exact a6)
  rw [hE] at hE1
  obtain ⟨a5, c5, b5, d5⟩ := hE1
  obtain ⟨a4, b4⟩ := RS.backN (by omega) w6 a5
  rw [← hs1] at a4
  have y1 := w0.adv 1
  have y2 := y1.adv 8
  have y3 := y2.adv 8
  have y4 := y3.adv 8
  have y5 := y4.adv 8
  obtain ⟨a3, b3⟩ := RS.backN (by omega) y5 a4
  obtain ⟨a2, b2⟩ := RS.backN (by omega) y4 a3
  obtain ⟨a1, b1⟩ := RS.backN (by omega) y3 a2
  obtain ⟨a0, b0⟩ := RS.backN (by omega) y2 a1
  obtain ⟨z1, zb1⟩ := RS.backN (by omega) y1 a0
  obtain ⟨z0, zb0⟩ := RS.backN (by omega) w0 z1
  rw [hs1] at b3
  rw [hs2] at b11
  have kk : ¬ (s.val 1 < 1 ∨ 5 < s.val 1) := fun q => k1 ⟨z1, q⟩
  have kf : ¬ 1 < ((E.2.adv 8).adv 8).val 1 := fun q => k2 ⟨a9, q⟩
  have hfl := v_in ((E.2.adv 8).adv 8)
  have hend : V.2.atx.rest = [] := by
    have hb : V.2.atx.b = s.b := by
      rw [RS.atx_b, ← hV, votP_b]
      show s2.b = s.b
      rw [← hs2]
      show E.2.b = s.b
      rw [← hE, entP_b]
      show s1.b = s.b
      rw [← hs1]
      rfl
    unfold RS.rest
    apply List.drop_of_length_le
    rw [hb]
    omega
  have v1 := s1.v_val
  have v2 := s2.v_val
  have hB : (msP s).B = x := by
    unfold msP
    rw [hr]
    unfold Ms.B Ms.five
    simp only [List.flatMap_cons, List.flatMap_nil, List.append_assoc, List.nil_append, List.append_nil]
    rw [flag_back _ hfl.1 (by omega), c5, c13, ← v1.1, ← v2.1, ← r0, zb0, zb1, b0, b1, b2, b3, b4, b5, b6, b7, b8, b9, b10, b11, b12, b13, b14, hend, List.append_nil]
  refine ⟨hB, ?_⟩
  have m1 : (msP s).kind = s.val 1 := rfl
  have m2 : (msP s).es = E.1 := by unfold msP; rw [hr]
  have m3 : (msP s).vs = V.1 := by unfold msP; rw [hr]
  unfold Ms.e
  rw [hB, m1, m2, m3, if_neg kk, if_neg (by omega), if_neg ?_, if_neg (by omega)]
  intro q
  obtain ⟨e, h1, h2⟩ := List.any_eq_true.1 q
  rw [(d5 e h1).2] at h2
  cases h2
end Go.Hz
/- Frames of messages: back to bytes; a byte that is turned. -/
set_option linter.unusedSimpArgs false
set_option linter.unusedVariables false
set_option maxRecDepth 10000
namespace Go.Hz

theorem un_back {b : List UInt8} (h0 : (unF b).2.2 = 0) : (unF b).1 = (b.drop 8).take (hdN b) ∧ (unF b).2.1 = 8 + hdN b ∧ 8 + hdN b ≤ b.length ∧ hdN b ≤ 16777216 ∧ (sumX (unF b).1).toNat = hdS b := by
  unfold unF at h0 ⊢
  split at h0
  · simp at h0
  rename_i k1
  split at h0
  · simp at h0
  rename_i k2
  split at h0
  · simp at h0
  rename_i k3
  split at h0
  · simp at h0
  rename_i k4
  rw [if_neg k1, if_neg k2, if_neg k3, if_neg k4]
  exact ⟨rfl, rfl, by omega, by omega, by simpa using k4⟩
theorem hd_back {b : List UInt8} (h : 8 ≤ b.length) : b.take 4 = beB 4 (hdN b) ∧ (b.drop 4).take 4 = beB 4 (hdS b) := by
  have l1 : (b.take 4).length = 4 := by simp; omega
  have l2 : ((b.drop 4).take 4).length = 4 := by simp; omega
  have r1 := be_raw (b.take 4) (by omega)
  have r2 := be_raw ((b.drop 4).take 4) (by omega)
  rw [l1, (raw4 _ (by omega)).1] at r1
  rw [l2, (raw4 _ (by omega)).1] at r2
  exact ⟨r1.symm, r2.symm⟩
/-- What is read as a message is that message's bytes. -/
theorem par_back {b : List UInt8} (h : parE b = 0) : (parM b).e = 0 ∧ frameB (parM b).B = b := by
  have hm : parM b = msP ⟨(unF b).1, 0, 0⟩ := by unfold parM; rw [if_pos h]
  unfold parE at h
  split at h
  · rename_i q; exact absurd h q
  rename_i k1
  split at h
  · omega
  rename_i k2
  have h0 : (unF b).2.2 = 0 := by
    by_cases q : (unF b).2.2 = 0
    · exact q
    · exact absurd q k1
  obtain ⟨u1, u2, u3, u4, u5⟩ := un_back h0
  have hl : (unF b).1.length = hdN b := by rw [u1]; simp; omega
  obtain ⟨r1, r2⟩ := read_back h (by omega)
  rw [hm]
  refine ⟨r2, ?_⟩
  rw [r1]
  obtain ⟨q1, q2⟩ := hd_back (b := b) (by omega)
  unfold frameB
  rw [hl, u5, ← q1, ← q2, u1, List.append_assoc]
  have e1 : (b.drop 8).take (hdN b) = b.drop 8 := List.take_of_length_le (by simp; omega)
  rw [e1]
  have e2 : (b.drop 4).take 4 ++ b.drop 8 = b.drop 4 := by
    have := List.take_append_drop 4 (b.drop 4)
    rwa [List.drop_drop] at this
  rw [e2, List.take_append_drop]

/-! ### a byte that is turned -/

theorem bitX_inj {c d : UInt32} (h : bitX c = bitX d) : c = d := by
  have hb : (bitX c).toBitVec = (bitX d).toBitVec := by rw [h]
  rw [bitX_bv, bitX_bv] at hb
  apply UInt32.toBitVec_inj.1
  generalize c.toBitVec = x at *
  generalize d.toBitVec = y at *
  have h0 : x.getLsbD 0 = y.getLsbD 0 := by
    cases hx : x.getLsbD 0 <;> cases hy : y.getLsbD 0 <;> first | rfl | (exfalso; rw [hx, hy] at hb; have h31 := congrArg (fun z : BitVec 32 => z.getLsbD 31) hb; simp at h31)
  rw [h0] at hb
  have hs : x >>> 1 = y >>> 1 := by
    have := congrArg (fun z => z ^^^ (if y.getLsbD 0 = true then (3988292384#32) else 0#32)) hb
    simpa [BitVec.xor_assoc] using this
  apply BitVec.eq_of_getLsbD_eq
  intro i hi
  cases i with
  | zero => exact h0
  | succ i =>
    have := congrArg (fun z : BitVec 32 => z.getLsbD i) hs
    simp at this
    rw [Nat.add_comm]
    exact this
theorem bitsX_inj {c d : UInt32} : ∀ k, bitsX k c = bitsX k d → c = d
  | 0, h => h
  | k + 1, h => bitsX_inj k (bitX_inj h)
theorem xor_inj {a b c : UInt32} (h : a ^^^ c = b ^^^ c) : a = b := by
  have := congrArg (· ^^^ c) h
  simpa [UInt32.xor_assoc] using this
theorem stepX_inj {c d : UInt32} {x : UInt8} (h : stepX c x = stepX d x) : c = d := xor_inj (bitsX_inj 8 h)
theorem stepX_inj' {c : UInt32} {x y : UInt8} (h : stepX c x = stepX c y) : x = y := by
  have h1 : c ^^^ x.toUInt32 = c ^^^ y.toUInt32 := bitsX_inj 8 h
  have h2 : x.toUInt32 = y.toUInt32 := by
    apply xor_inj (c := c)
    rw [UInt32.xor_comm, h1, UInt32.xor_comm]
  apply UInt8.toNat_inj.1
  have := congrArg UInt32.toNat h2
  simpa using this
theorem fold_inj : ∀ (l : List UInt8) {c d : UInt32}, l.foldl stepX c = l.foldl stepX d → c = d
  | [], _, _, h => h
  | x :: l, _, _, h => stepX_inj (fold_inj l h)
theorem sum_turn (l : List UInt8) (i : Nat) (hi : i < l.length) (y : UInt8) (hy : l[i] ≠ y) : sumX (l.set i y) ≠ sumX l := by
  intro h
  unfold sumX at h
  have h1 : (l.set i y).foldl stepX 4294967295 = l.foldl stepX 4294967295 := by
    have := congrArg (fun z => ~~~ z) h
    simpa using this
  have e1 : l = l.take i ++ l[i] :: l.drop (i + 1) := by
    rw [List.getElem_cons_drop, List.take_append_drop]
  have e2 : l.set i y = l.take i ++ y :: l.drop (i + 1) := by
    rw [List.set_eq_take_append_cons_drop, if_pos hi]
  rw [e2] at h1
  conv at h1 => rhs; rw [e1]
  rw [List.foldl_append, List.foldl_append, List.foldl_cons, List.foldl_cons] at h1
  exact hy (stepX_inj' (fold_inj _ h1)).symm
/-- One byte turned in what is summed is told. -/
theorem par_turn (x : List UInt8) (hx : x.length ≤ 16777216) (i : Nat) (hi : i < x.length) (y : UInt8) (hy : x[i] ≠ y) : parE ((frameB x).set (8 + i) y) = 12 := by
  have e : (frameB x).set (8 + i) y = beB 4 x.length ++ beB 4 (sumX x).toNat ++ x.set i y := by
    unfold frameB
    have l8 : (beB 4 (x.length : Int) ++ beB 4 ((sumX x).toNat : Int)).length = 8 := by simp [beB_length]
    rw [List.set_append, if_neg (by omega), l8]
    congr 2
    omega
  have hlen : (beB 4 (x.length : Int) ++ beB 4 ((sumX x).toNat : Int) ++ x.set i y).length = 8 + x.length := by simp [beB_length]; omega
  have h4 := (sumX x).toNat_lt
  have hN : hdN (beB 4 x.length ++ beB 4 (sumX x).toNat ++ x.set i y) = x.length := by
    unfold hdN
    rw [List.append_assoc, List.take_left' (beB_length 4 _)]
    exact raw_be 4 (by omega) _ (by omega)
  have hS : hdS (beB 4 x.length ++ beB 4 (sumX x).toNat ++ x.set i y) = (sumX x).toNat := by
    unfold hdS
    rw [List.append_assoc, List.drop_left' (beB_length 4 _), List.take_left' (beB_length 4 _)]
    exact raw_be 4 (by omega) _ (by omega)
  have h3 : (((beB 4 x.length ++ beB 4 (sumX x).toNat ++ x.set i y).drop 8).take x.length) = x.set i y := by
    have l8 : (beB 4 (x.length : Int) ++ beB 4 ((sumX x).toNat : Int)).length = 8 := by simp [beB_length]
    rw [List.drop_left' l8, List.take_of_length_le (by simp)]
  have hu : unF (beB 4 x.length ++ beB 4 (sumX x).toNat ++ x.set i y) = ([], 0, 12) := by
    unfold unF
    rw [hN, hS, h3, if_neg (by omega), if_neg (by omega), if_neg (by omega), if_pos]
    intro q
    exact sum_turn x i hi y hy (UInt32.toNat_inj.1 q)
  rw [e]
  unfold parE
  rw [hu, if_pos (by simp)]
theorem par_cut (x : List UInt8) (hx : x.length ≤ 16777216) (c : Nat) (hc : c < 8 + x.length) : parE ((frameB x).take c) = 8 := by
  unfold parE
  rw [unF_cut x c hx hc, if_pos (by simp)]
end Go.Hz
/- Messages that come in. -/
set_option linter.unusedSimpArgs false
set_option linter.unusedVariables false
set_option maxRecDepth 10000
namespace Go.Hz

def tyE : Ty := .fcons (.int .i64) (.fcons (.int .i64) (.fcons (.int .i64) (.fcons (.sl (.int .u8)) .fnil)))
def tyM : Ty := .fcons (.int .i64) (.fcons (.int .i64) (.fcons (.int .i64) (.fcons (.int .i64) (.fcons (.int .i64) (.fcons (.int .i64) (.fcons (.sl (.st tyE)) (.fcons (.int .i64) (.fcons (.int .i64) (.fcons .bool (.fcons (.int .i64)
  (.fcons (.st (.fcons (.int .i64) (.fcons (.int .i64) (.fcons (.sl (.int .i64)) .fnil)))) (.fcons (.sl (.int .u8)) .fnil))))))))))))

theorem int_in {n : Int} (h : (Lit.int .i64 n).wf = true) : inI n := by
  simp only [Lit.wf, Bool.and_eq_true, decide_eq_true_eq] at h
  exact h
theorem sum_one {α : Type} (l : List α) (f : α → Nat) (hf : ∀ x ∈ l, f x = 1) : (l.map f).sum = l.length := by
  induction l with
  | nil => rfl
  | cons x l ih => rw [List.map_cons, List.sum_cons, ih (fun y hy => hf y (List.mem_cons_of_mem _ hy)), hf x (List.mem_cons_self ..), List.length_cons]; omega
theorem bulk_bytes (b : List UInt8) : (Ty.sl (.int .u8)).bulk [bytesV b] = b.length + 1 := by
  simp only [Ty.bulk, bytesV]
  rw [sum_one _ _ (fun x _ => rfl), List.length_map]
theorem bulk_ints (b : List Int) : (Ty.sl (.int .i64)).bulk [intsV b] = b.length + 1 := by
  simp only [Ty.bulk, intsV]
  rw [sum_one _ _ (fun x _ => rfl), List.length_map]

def EnIn (e : En) : Prop := inI e.idx ∧ inI e.term ∧ inI e.kind
theorem en_of {cs : List AV} (h : tyE.shape cs) : ∃ e : En, cs = e.row ∧ EnIn e := by
  obtain ⟨x1, x2, rfl, ⟨a, rfl, ha⟩, y1, y2, rfl, ⟨b, rfl, hb⟩, z1, z2, rfl, ⟨c, rfl, hc⟩, w1, w2, rfl, hd, rfl⟩ := h
  have hd0 := hd
  obtain ⟨es, rfl, _⟩ := hd0
  obtain ⟨d, hd2, _⟩ := bytes_of (a := .lst es) hd
  cases hd2
  exact ⟨⟨a, b, c, d⟩, rfl, int_in ha, int_in hb, int_in hc⟩
theorem ens_of {es : List (List AV)} (h : ∀ x ∈ es, (Ty.st tyE).shape x) : ∃ l : List En, es = l.map En.row ∧ ∀ e ∈ l, EnIn e := by
  induction es with
  | nil => exact ⟨[], rfl, by simp⟩
  | cons x es ih =>
    obtain ⟨l, rfl, hl⟩ := ih fun y hy => h y (List.mem_cons_of_mem _ hy)
    obtain ⟨e, rfl, he⟩ := en_of (h x (List.mem_cons_self ..))
    refine ⟨e :: l, rfl, fun y hy => ?_⟩
    rcases List.mem_cons.1 hy with rfl | hy
    · exact he
    · exact hl y hy
theorem bulk_en (e : En) : (Ty.st tyE).bulk e.row = e.data.length + 5 := by
  have : (Ty.st tyE).bulk e.row = 1 + (1 + (1 + ((Ty.sl (.int .u8)).bulk [bytesV e.data] + 0))) + 1 := rfl
  rw [this, bulk_bytes]
  omega
def sumD (l : List En) : Nat := (l.map fun e => e.data.length).sum
theorem sumD_succ {l : List En} {i : Nat} (hi : i < l.length) : sumD (l.take (i + 1)) = sumD (l.take i) + l[i].data.length := by
  unfold sumD
  rw [List.take_succ_eq_append_getElem hi, List.map_append, List.sum_append]
  simp
theorem sumD_le {l : List En} (i : Nat) : sumD (l.take i) ≤ sumD l := by
  have : sumD l = sumD (l.take i) + sumD (l.drop i) := by
    unfold sumD
    rw [← List.sum_append, ← List.map_append, List.take_append_drop]
  omega
theorem bulk_ens (l : List En) : (Ty.sl (.st tyE)).bulk [ensV l] = sumD l + 5 * l.length + 1 := by
  have : (Ty.sl (.st tyE)).bulk [ensV l] = ((l.map En.row).map (Ty.st tyE).bulk).sum + 1 := rfl
  rw [this, List.map_map]
  clear this
  congr 1
  unfold sumD
  induction l with
  | nil => rfl
  | cons e l ih =>
    rw [List.map_cons, List.sum_cons, List.map_cons, List.sum_cons, List.length_cons, ih]
    show (Ty.st tyE).bulk e.row + _ = _
    rw [bulk_en]
    omega

theorem data_le {l : List En} {e : En} (h : e ∈ l) : e.data.length ≤ sumD l := by
  unfold sumD
  induction l with
  | nil => cases h
  | cons x l ih =>
    rw [List.map_cons, List.sum_cons]
    rcases List.mem_cons.1 h with rfl | h
    · omega
    · have := ih h; omega
/-- A message that comes in. -/
theorem msg_of {cs : List AV} (h : tyM.shape cs) : ∃ m : Ms, cs = m.cells ∧ tyM.bulk cs = 16 + (sumD m.es + 5 * m.es.length) + m.vs.length + m.data.length ∧ (tyM.bulk cs ≤ 1048576 → m.fine) := by
  obtain ⟨x1, _, rfl, ⟨a1, rfl, h1⟩, x2, _, rfl, ⟨a2, rfl, h2⟩, x3, _, rfl, ⟨a3, rfl, h3⟩, x4, _, rfl, ⟨a4, rfl, h4⟩, x5, _, rfl, ⟨a5, rfl, h5⟩, x6, _, rfl, ⟨a6, rfl, h6⟩, x7, _, rfl, ⟨es, rfl, _, hes⟩,
    x8, _, rfl, ⟨a8, rfl, h8⟩, x9, _, rfl, ⟨a9, rfl, h9⟩, x10, _, rfl, ⟨ok, rfl⟩, x11, _, rfl, ⟨a11, rfl, h11⟩, x12, _, rfl, hmeta, x13, _, rfl, hd, rfl⟩ := h
  obtain ⟨m1, _, rfl, ⟨i, rfl, hi⟩, m2, _, rfl, ⟨t, rfl, ht⟩, m3, _, rfl, hv, rfl⟩ := hmeta
  obtain ⟨l, rfl, hl⟩ := ens_of hes
  have hv0 := hv
  obtain ⟨vs0, rfl, _⟩ := hv0
  obtain ⟨vs, hv2, _, hvi⟩ := nums_of (a := .lst vs0) hv
  cases hv2
  have hd0 := hd
  obtain ⟨ds, rfl, _⟩ := hd0
  obtain ⟨d, hd2, _⟩ := bytes_of (a := .lst ds) hd
  cases hd2
  have hb : tyM.bulk (Ms.cells ⟨a1, a2, a3, a4, a5, a6, l, a8, a9, ok, a11, i, t, vs, d⟩) = 16 + (sumD l + 5 * l.length) + vs.length + d.length := by
    have e : tyM.bulk (Ms.cells ⟨a1, a2, a3, a4, a5, a6, l, a8, a9, ok, a11, i, t, vs, d⟩) = 1 + (1 + (1 + (1 + (1 + (1 + ((Ty.sl (.st tyE)).bulk [ensV l] + (1 + (1 + (1 + (1 + ((1 + (1 + ((Ty.sl (.int .i64)).bulk [intsV vs] + 0)) + 1) + ((Ty.sl (.int .u8)).bulk [bytesV d] + 0)))))))))))) := rfl
    rw [e, bulk_ens, bulk_ints, bulk_bytes]
    omega
  refine ⟨⟨a1, a2, a3, a4, a5, a6, l, a8, a9, ok, a11, i, t, vs, d⟩, rfl, hb, fun hle => ?_⟩
  have hle' : 16 + (sumD l + 5 * l.length) + vs.length + d.length ≤ 1048576 := by rw [← hb]; exact hle
  refine ⟨⟨int_in h1, int_in h2, int_in h3, int_in h4, int_in h5, int_in h6, int_in h8, int_in h9, int_in h11, int_in hi, int_in ht⟩, fun e he => ⟨(hl e he).1, (hl e he).2.1, (hl e he).2.2, ?_⟩, hvi, ?_⟩
  · have := data_le (l := l) he
    show e.data.length < 4294967296
    omega
  · show d.length < 4294967296
    omega
/-- A message among the arguments. -/
theorem msg_one {a : AV} (h : (Ty.st tyM).one a) : ∃ m : Ms, a = .agg m.cells ∧ (Ty.st tyM).bulk1 a = 17 + (sumD m.es + 5 * m.es.length) + m.vs.length + m.data.length ∧
    ((Ty.st tyM).bulk1 a ≤ 1048576 → m.fine ∧ (m.es.length ≤ 1048576 ∧ m.vs.length ≤ 1048576 ∧ m.data.length + sumD m.es ≤ 1048576)) := by
  obtain ⟨cs, rfl, h⟩ := h
  obtain ⟨m, rfl, hb, hf⟩ := msg_of h
  have e : (Ty.st tyM).bulk1 (.agg m.cells) = tyM.bulk m.cells + 1 := rfl
  rw [e]
  exact ⟨m, rfl, by omega, fun hle => ⟨hf (by omega), by omega, by omega, by omega⟩⟩
theorem bulk1_le {τ : Ty} {τs : List Ty} {a : AV} {as2 : List AV} {N : Nat} (h : Ty.bulks (τ :: τs) (a :: as2) ≤ N) : τ.bulk1 a ≤ N ∧ Ty.bulks τs as2 ≤ N := by
  have e : Ty.bulks (τ :: τs) (a :: as2) = τ.bulk1 a + Ty.bulks τs as2 := rfl
  omega
theorem byte_of {a : AV} (h : (Ty.int .u8).one a) : ∃ b : UInt8, a = .int .u8 b.toNat := by
  obtain ⟨n, hn, hw⟩ := h
  cases hn
  simp only [Lit.wf, Bool.and_eq_true, decide_eq_true_eq] at hw
  refine ⟨UInt8.ofNat n.toNat, ?_⟩
  obtain ⟨h1, h2⟩ := hw
  have h1' : 0 ≤ n := h1
  have h2' : n ≤ 255 := h2
  congr 1
  rw [UInt8.toNat_ofNat']
  omega
theorem set_eb {b : List UInt8} {i : Nat} {x : UInt8} : (b.map eb).set i [.int .u8 x.toNat] = (b.set i x).map eb := by
  rw [List.map_set]; rfl
theorem u8_add (x y : UInt8) : IntKind.u8.wrap ((x.toNat : Int) + y.toNat) = ((x + y).toNat : Int) := by
  simp only [IntKind.wrap, IntKind.signed, IntKind.bits]
  rw [UInt8.toNat_add]
  simp
/-- append to the first part of a slice of one's own. -/
theorem app_cut {P : Program} {st : List Fr} {e : Env} {k : Kt} {d : Option Nat} {r : List (AItem × List AItem)} {s bytes b j cap : Nat} {y : AV} {es ys : List (List AV)} {h : Hp} {F : List Asr}
    (hs : sat h (pto b (.row s es cap) :: F)) (hj : j ≤ es.length) (hy : srcA s h y = some ys) (ha : AtomsL ys)
    (hb : (j + ys.length) * bytes ≤ 70368744177664) (hk : ∀ v' h', sat h' (Ow s v' (es.take j ++ ys) :: F) → v'.cells = [v'] → v'.isAtom = true → runS P r st (e.put d v') h' k) :
    effR P (appE s bytes (.arr b s 0 j cap) y h) [] d r st e k := by
  have fin : ∀ v' h', sat h' (Ow s v' (es.take j ++ ys) :: F) → obls P [] (e.put d v') h' ∧ runS P r st (e.put d v') h' k := fun v' h' g =>
    ⟨fun _ hm => by simp at hm, hk v' h' g g.els.cells g.els.atom⟩
  refine ⟨ys, hy, ha, ?_⟩
  have hbb := hs.at
  simp only [hbb]
  refine ⟨trivial, trivial, trivial, hj, trivial, .inl hb, fun n c hn hc _ => fin _ _ ?_⟩
  have hl : (es.take j ++ ys).length = j + ys.length := by simp; omega
  have := ((hs.del).new (o := .row s (es.take j ++ ys) c) hn).ow (by rw [hl]; exact hc)
  rw [hl] at this
  exact this
/-- The first letters of what is only read. -/
theorem slc_pre {l : List UInt8} {k : IntKind} {n : Nat} (hn : n ≤ l.length) : slcL 1 (bytesV l) none (some (.int k (n : Int))) = some (bytesV (l.take n)) := by
  simp only [slcL, bytesV, boundA]
  simp [hn, List.map_take]
  intro a _; rfl
theorem u8_self {x y : UInt8} (h : x = x + y) : y = 0 := by
  have h1 := congrArg UInt8.toNat h
  rw [UInt8.toNat_add] at h1
  have := x.toNat_lt
  have := y.toNat_lt
  apply UInt8.toNat_inj.1
  show y.toNat = 0
  omega
theorem frame_at {x : List UInt8} {j : Nat} (hj : j < x.length) (h : 8 + j < (frameB x).length) : (frameB x)[8 + j] = x[j] := by
  simp only [frameB, List.getElem_append, List.length_append, beB_length]
  rw [dif_neg (by omega)]
  congr 1
  omega
theorem slc_arr {s b len cap n : Nat} {k : IntKind} (h1 : n ≤ cap) (h2 : len ≤ cap) : slcL s (.arr b s 0 len cap) none (some (.int k (n : Int))) = some (.arr b s 0 n cap) := by
  simp only [slcL, boundA]
  simp [h1, h2]
end Go.Hz
/- The plain types of api: keys with values, results, replies. -/
set_option linter.unusedSimpArgs false
set_option linter.unusedVariables false
set_option linter.unusedSectionVars false
namespace Go.Hz
open Go.Sort

structure Kv where
  key : List UInt8
  val : List UInt8
  create : Int
  mod : Int
  ver : Int
  lease : Int
deriving DecidableEq
def kvC (x : Kv) : List AV := [.str x.key, .str x.val, .int .i64 x.create, .int .i64 x.mod, .int .i64 x.ver, .int .i64 x.lease]
abbrev kvsV (l : List Kv) : AV := .lst (l.map kvC)
structure Res where
  n : Int
  kvs : List Kv
deriving DecidableEq
def resC (x : Res) : List AV := [.int .i64 x.n, kvsV x.kvs]
abbrev ressV (l : List Res) : AV := .lst (l.map resC)
structure Rp where
  err : Int
  rev : Int
  thn : Bool
  res : List Res
  time : Int
deriving DecidableEq
def rpC (x : Rp) : List AV := [.int .i64 x.err, .int .i64 x.rev, .bool x.thn, ressV x.res, .int .i64 x.time]
abbrev rpV (x : Rp) : AV := .agg (rpC x)
def rp0 : Rp := ⟨0, 0, false, [], 0⟩
def rpE (e : Int) : Rp := ⟨e, 0, false, [], 0⟩
/-- Such as can be copied. -/
def RpOK (x : Rp) : Prop := x.res.length ≤ 1000000 ∧ ∀ q ∈ x.res, q.kvs.length * 64 ≤ 140737488355328
theorem rp0_ok : RpOK rp0 := ⟨by simp [rp0], by simp [rp0]⟩
theorem rpE_ok {e : Int} : RpOK (rpE e) := ⟨by simp [rpE], by simp [rpE]⟩
theorem kvC_len (l : List Kv) : ∀ e ∈ l.map kvC, e.length = 6 := by
  intro e he
  obtain ⟨k, _, rfl⟩ := List.mem_map.1 he
  rfl
theorem atoms_kv (l : List Kv) : AtomsL (l.map kvC) := by
  intro e he v hv
  obtain ⟨k, _, rfl⟩ := List.mem_map.1 he
  simp only [kvC, List.mem_cons, List.not_mem_nil, or_false] at hv
  rcases hv with rfl | rfl | rfl | rfl | rfl | rfl <;> rfl
theorem gv_rp {h : Hp} {a b c e : AV} : GV (.agg [a, b, c, .nils, e]) h (.agg [a, b, c, .lst [], e]) h := GV.agg [a, b, c] [e] GV.nils

/-! ### a slice that is filled from its front on -/
theorem fill_set {β : Type} {L : List β} {z y : β} {n i : Nat} (hn : n = L.length) (hi : i < n) (hy : L[i]? = some y) : (L.take i ++ List.replicate (n - i) z).set i y = L.take (i + 1) ++ List.replicate (n - (i + 1)) z := by
  subst hn
  have e1 : L.length - i = (L.length - (i + 1)) + 1 := by omega
  rw [List.getElem?_eq_getElem hi] at hy
  cases hy
  rw [e1, List.replicate_succ, List.set_append_right _ _ (by simp; omega), List.take_succ_eq_append_getElem hi, List.length_take, Nat.min_eq_left (Nat.le_of_lt hi), Nat.sub_self]
  simp only [List.set_cons_zero, List.append_assoc, List.cons_append, List.nil_append]
theorem fill_get {β : Type} {L : List β} {z : β} {n i : Nat} (hn : n = L.length) (hi : i < n) : (L.take i ++ List.replicate (n - i) z)[i]? = some z := by
  subst hn
  rw [List.getElem?_append_right (by simp; omega), List.getElem?_replicate, if_pos (by simp; omega)]

/-! ### what is kept by a number, in its order -/
section
variable {α : Type} {key : α → Int}
def kIns (key : α → Int) (X : List α) (y : α) : List α := X.takeWhile (fun x => decide (key x < key y)) ++ y :: X.dropWhile (fun x => decide (key x < key y))
theorem kIns_perm {X : List α} {y : α} : (X ++ [y]).Perm (kIns key X y) := by
  unfold kIns
  refine List.Perm.trans ?_ List.perm_middle.symm
  rw [List.takeWhile_append_dropWhile]
  exact List.perm_append_singleton _ _
theorem kIns_pw {X : List α} {y : α} (h1 : X.Pairwise fun a b => key a < key b) (hn : ∀ x ∈ X, key x ≠ key y) : (kIns key X y).Pairwise fun a b => key a < key b := by
  induction X with
  | nil => exact List.pairwise_singleton _ _
  | cons x X ih =>
    rw [List.pairwise_cons] at h1
    have hne := hn x (by simp)
    have ih := ih h1.2 (fun z hz => hn z (by simp [hz]))
    unfold kIns at ih ⊢
    by_cases h2 : key x < key y
    · rw [List.takeWhile_cons_of_pos (by simpa using h2), List.dropWhile_cons_of_pos (by simpa using h2), List.cons_append, List.pairwise_cons]
      refine ⟨fun z hz => ?_, ih⟩
      have : z = y ∨ z ∈ X := by
        have := (kIns_perm (key := key) (X := X) (y := y)).mem_iff.2 hz
        simpa [or_comm] using this
      rcases this with rfl | hz
      · exact h2
      · exact h1.1 z hz
    · rw [List.takeWhile_cons_of_neg (by simpa using h2), List.dropWhile_cons_of_neg (by simpa using h2), List.nil_append, List.pairwise_cons]
      refine ⟨fun z hz => ?_, List.pairwise_cons.2 h1⟩
      rcases List.mem_cons.1 hz with rfl | hz
      · omega
      · have := h1.1 z hz; omega
theorem kIns_mem {X : List α} {y z : α} : z ∈ kIns key X y ↔ z ∈ X ∨ z = y := by
  rw [← (kIns_perm (key := key) (X := X) (y := y)).mem_iff]; simp
theorem kIns_len {X : List α} {y : α} : (kIns key X y).length = X.length + 1 := by
  rw [← (kIns_perm (key := key) (X := X) (y := y)).length_eq]; simp
def kSet (key : α → Int) (X : List α) (y : α) : List α := X.map fun x => if key x = key y then y else x
theorem kSet_pw {X : List α} {y : α} (h1 : X.Pairwise fun a b => key a < key b) : (kSet key X y).Pairwise fun a b => key a < key b := by
  unfold kSet
  rw [List.pairwise_map]
  refine h1.imp fun {a b} h => ?_
  by_cases ha : key a = key y <;> by_cases hb : key b = key y <;> simp only [ha, hb, if_true, if_false] <;> omega
theorem kSet_mem {X : List α} {y z : α} (h : z ∈ kSet key X y) : z ∈ X ∨ z = y := by
  obtain ⟨x, hx, rfl⟩ := List.mem_map.1 h
  split
  · exact .inr rfl
  · exact .inl hx
theorem kSet_len {X : List α} {y : α} : (kSet key X y).length = X.length := by simp [kSet]
theorem pw_nodup {X : List α} (h1 : X.Pairwise fun a b => key a < key b) : (X.map key).Nodup := by
  rw [List.nodup_iff_pairwise_ne, List.pairwise_map]
  exact h1.imp fun h => by omega
/-- Rows in the order of their numbers are those that there are. -/
theorem k_sorted {c : α → List AV} {X : List α} {R : List (List AV)} (hc : ∀ x, hdI (c x) = key x) (hX : X.Pairwise fun a b => key a < key b) (h1 : R.Perm (X.map c)) (h2 : R.Pairwise (fun a b => ltI b a = false)) : R = X.map c := by
  refine List.Perm.eq_of_pairwise ?_ h2 ?_ h1
  · intro a b ha hb h3 h4
    obtain ⟨x, hx, rfl⟩ := List.mem_map.1 (h1.mem_iff.1 ha)
    obtain ⟨y, hy, rfl⟩ := List.mem_map.1 hb
    have : key x = key y := by
      simp only [ltI_f, hc] at h3 h4
      omega
    rw [nodup_map_inj (pw_nodup hX) hx hy this]
  · rw [List.pairwise_map]
    exact hX.imp fun h => by simp only [ltI_f, hc]; omega
end

/-! ### clients -/
structure Fk where
  client : Int
  seq : Int
  rep : Rp
deriving DecidableEq
def fkC (x : Fk) : List AV := [.int .i64 x.client, .int .i64 x.seq, .int .i64 x.rep.err, .int .i64 x.rep.rev, .bool x.rep.thn, ressV x.rep.res, .int .i64 x.rep.time]
def GFk (c : List AV) : Prop := ∃ x : Fk, c = fkC x
theorem goodE_fk : GoodE 7 true GFk where
  len := by rintro _ ⟨x, rfl⟩; rfl
  atoms := by rintro _ ⟨x, rfl⟩; rfl
  cells := by rintro _ ⟨x, rfl⟩; rfl
  pos := by omega
  one := by intro h; cases h
theorem hdI_fk (x : Fk) : hdI (fkC x) = x.client := rfl

def FkOK (X : List Fk) : Prop := X.Pairwise (fun a b => a.client < b.client) ∧ (∀ x ∈ X, 1 ≤ x.client ∧ 1 ≤ x.seq ∧ RpOK x.rep) ∧ X.length ≤ 64
def FkP (p : Nat) (X : List Fk) : Asr := fun h => ∃ m, FkOK X ∧ sat h [pto p (.row 1 [[.map m]] 1), MpA (fun n : Int => AV.int .i64 n) Fk.client (fun x => AV.agg (fkC x)) m X]
theorem fkP {h : Hp} {F : List Asr} {X : List Fk} {p : Nat} : sat h (FkP p X :: F) ↔ ∃ m, FkOK X ∧ sat h (pto p (.row 1 [[.map m]] 1) :: MpA (fun n : Int => AV.int .i64 n) Fk.client (fun x => AV.agg (fkC x)) m X :: F) := by
  unfold FkP
  rw [sat_ex]
  refine exists_congr fun m => ?_
  rw [sat_and]
  exact and_congr_right fun _ => sat_sl (l1 := [_, _]) (l := F)
theorem FkOK.nil : FkOK [] := ⟨.nil, by simp, by simp⟩
def fkGet (X : List Fk) (c : Int) : Option Fk := X.find? fun x => decide (x.client = c)
theorem fkGet_some {X : List Fk} {c : Int} {x : Fk} (h : fkGet X c = some x) : x ∈ X ∧ x.client = c := ⟨List.mem_of_find?_eq_some h, by simpa using List.find?_some h⟩
theorem fkGet_none {X : List Fk} {c : Int} (h : fkGet X c = none) : ∀ x ∈ X, x.client ≠ c := by
  intro x hx
  have := List.find?_eq_none.1 h x hx
  simpa using this
def fkAsk (X : List Fk) (c s : Int) : Rp × Bool :=
  if c = 0 then (rp0, true) else if c < 0 ∨ s < 1 then (rpE 1, false) else
  match fkGet X c with
  | none => if 64 ≤ X.length then (rpE 4, false) else (rp0, true)
  | some x => if x.seq < s then (rp0, true) else if s < x.seq then (rpE 24, false) else (x.rep, false)
def fkPut (X : List Fk) (y : Fk) : List Fk := match fkGet X y.client with
  | none => kIns Fk.client X y
  | some _ => kSet Fk.client X y
def fkNote (X : List Fk) (c s : Int) (r : Rp) : List Fk := if c ≠ 0 ∧ (fkAsk X c s).2 = true then fkPut X ⟨c, s, r⟩ else X
theorem fkAsk_ok {X : List Fk} {c s : Int} (hX : FkOK X) : RpOK (fkAsk X c s).1 := by
  unfold fkAsk
  split
  · exact rp0_ok
  split
  · exact rpE_ok
  split
  · split
    · exact rpE_ok
    · exact rp0_ok
  · rename_i x hx
    split
    · exact rp0_ok
    split
    · exact rpE_ok
    · exact (hX.2.1 x (fkGet_some hx).1).2.2
theorem fkNote_ok {X : List Fk} {c s : Int} {r : Rp} (hX : FkOK X) (hr : RpOK r) : FkOK (fkNote X c s r) := by
  unfold fkNote
  split
  · rename_i h
    obtain ⟨h0, h1⟩ := h
    unfold fkAsk at h1
    rw [if_neg h0] at h1
    split at h1
    · cases h1
    rename_i h2
    unfold fkPut
    cases hg : fkGet X c with
    | none =>
      simp only [hg] at h1 ⊢
      refine ⟨kIns_pw hX.1 (fkGet_none hg), fun x hx => ?_, ?_⟩
      · rcases kIns_mem.1 hx with hx | rfl
        · exact hX.2.1 x hx
        · exact ⟨by show 1 ≤ c; omega, by show 1 ≤ s; omega, hr⟩
      · rw [kIns_len]
        split at h1
        · cases h1
        · omega
    | some x =>
      simp only [hg]
      refine ⟨kSet_pw hX.1, fun x hx => ?_, ?_⟩
      · rcases kSet_mem hx with hx | rfl
        · exact hX.2.1 x hx
        · exact ⟨by show 1 ≤ c; omega, by show 1 ≤ s; omega, hr⟩
      · rw [kSet_len]; exact hX.2.2
  · exact hX
end Go.Hz
/- The document's books: a slice in a cell, in the order of the numbers. -/
set_option linter.unusedSimpArgs false
set_option linter.unusedVariables false
set_option linter.unusedSectionVars false
namespace Go.Hz
section
variable {h : Hp} {F : List Asr}
/-- A slice of one's own, its header in a cell. -/
def BxS (z s : Nat) (es : List (List AV)) : Asr := fun h => ∃ v, sat h [pto s (.row 1 [[v]] 1), Ow z v es]
theorem bxS {z s : Nat} {es : List (List AV)} : sat h (BxS z s es :: F) ↔ ∃ v, sat h (pto s (.row 1 [[v]] 1) :: Ow z v es :: F) := by
  unfold BxS
  rw [sat_ex]
  exact exists_congr fun v => sat_sl (l1 := [pto s (.row 1 [[v]] 1), Ow z v es]) (l := F)
theorem bxS_cases {z s : Nat} {es : List (List AV)} (hs : sat h (BxS z s es :: F)) :
    (es = [] ∧ sat h (pto s (.row 1 [[.nils]] 1) :: F)) ∨ ∃ b cap, es.length ≤ cap ∧ sat h (pto s (.row 1 [[.arr b z 0 es.length cap]] 1) :: pto b (.row z es cap) :: F) := by
  obtain ⟨v, hs⟩ := bxS.1 hs
  rcases hs.p1.cases with ⟨rfl, rfl, h2⟩ | ⟨b, cap, rfl, h2, hle⟩
  · exact .inl ⟨rfl, h2⟩
  · exact .inr ⟨b, cap, hle, h2.p1⟩
theorem bxS_nil {z s : Nat} (hs : sat h (pto s (.row 1 [[.nils]] 1) :: F)) : sat h (BxS z s [] :: F) := bxS.2 ⟨.nils, (hs.tl fun _ h => h.add ow_nil)⟩
theorem bxS_arr {z s b cap : Nat} {es : List (List AV)} (hs : sat h (pto s (.row 1 [[.arr b z 0 es.length cap]] 1) :: pto b (.row z es cap) :: F)) (hc : es.length ≤ cap) : sat h (BxS z s es :: F) :=
  bxS.2 ⟨.arr b z 0 es.length cap, (hs.tl fun _ h => h.ow hc)⟩
end

section
variable {α : Type} {key : α → Int}
/-- Where one is: its place; -1: there is none. -/
def AtK (key : α → Int) (X : List α) (id k : Int) : Prop := (k = -1 ∧ ∀ x ∈ X, key x ≠ id) ∨ ∃ i : Nat, k = i ∧ ∃ hi : i < X.length, key X[i] = id
/-- How many stand ahead of one. -/
def aheadK (key : α → Int) (X : List α) (id : Int) : Nat := (X.takeWhile fun x => decide (key x < id)).length
theorem ahead_le {X : List α} {id : Int} : aheadK key X id ≤ X.length := by
  unfold aheadK
  have := List.takeWhile_append_dropWhile (p := fun x => decide (key x < id)) (l := X)
  have h2 := congrArg List.length this
  rw [List.length_append] at h2
  omega
theorem ahead_step {X : List α} {id : Int} : ∀ {i : Nat} (hi : i < X.length), (∀ j (hj : j < X.length), j < i → key X[j] < id) → ¬ key X[i] < id → aheadK key X id = i := by
  induction X with
  | nil => intro i hi; simp at hi
  | cons x X ih =>
    intro i hi h1 h2
    cases i with
    | zero =>
      unfold aheadK
      rw [List.takeWhile_cons_of_neg (by simpa using h2)]; rfl
    | succ i =>
      have h0 := h1 0 (by simp) (by omega)
      have := ih (i := i) (by simpa using hi) (fun j hj hji => by have := h1 (j + 1) (by simpa using hj) (by omega); simpa using this) (by simpa using h2)
      unfold aheadK at this ⊢
      rw [List.takeWhile_cons_of_pos (by simpa using h0), List.length_cons, this]
theorem ahead_all {X : List α} {id : Int} (h1 : ∀ j (hj : j < X.length), key X[j] < id) : aheadK key X id = X.length := by
  unfold aheadK
  induction X with
  | nil => rfl
  | cons x X ih =>
    have h0 := h1 0 (by simp)
    have := ih fun j hj => by have := h1 (j + 1) (by simpa using hj); simpa using this
    rw [List.takeWhile_cons_of_pos (by simpa using h0), List.length_cons, this, List.length_cons]
theorem kIns_at {X : List α} {y : α} : kIns key X y = X.take (aheadK key X (key y)) ++ y :: X.drop (aheadK key X (key y)) := by
  unfold kIns aheadK
  have h1 : X.take (X.takeWhile fun x => decide (key x < key y)).length = X.takeWhile fun x => decide (key x < key y) := by
    conv => lhs; rw [← List.takeWhile_append_dropWhile (p := fun x => decide (key x < key y)) (l := X)]
    rw [List.take_append_of_le_length (by simp), List.takeWhile_append_dropWhile]
    exact List.take_of_length_le (Nat.le_refl _)
  have h2 : X.drop (X.takeWhile fun x => decide (key x < key y)).length = X.dropWhile fun x => decide (key x < key y) := by
    have h3 := List.take_append_drop (X.takeWhile fun x => decide (key x < key y)).length X
    rw [h1] at h3
    have h4 := List.takeWhile_append_dropWhile (p := fun x => decide (key x < key y)) (l := X)
    exact List.append_cancel_left (h3.trans h4.symm)
  rw [h1, h2]
theorem set_kSet {X : List α} {y : α} {i : Nat} (hn : (X.map key).Nodup) (hi : i < X.length) (he : key X[i] = key y) : X.set i y = kSet key X y := by
  apply List.ext_getElem (by simp [kSet])
  intro j h1 h2
  rw [List.getElem_set]
  simp only [kSet, List.getElem_map]
  split
  · rename_i hij; subst hij; rw [if_pos he]
  · rename_i hij
    rw [if_neg]
    intro hc
    have hj : j < X.length := by simpa using h1
    have := hn
    rw [List.nodup_iff_pairwise_ne, List.pairwise_iff_getElem] at this
    rcases Nat.lt_or_gt_of_ne hij with h | h
    · exact this i j (by simpa) (by simpa) h (by simp [he, hc])
    · exact this j i (by simpa) (by simpa) h (by simp [he, hc])
theorem filter_at {X : List α} {id : Int} {i : Nat} (hn : (X.map key).Nodup) (hi : i < X.length) (he : key X[i] = id) : (X.filter fun x => decide (key x ≠ id)) = X.take i ++ X.drop (i + 1) := by
  have h0 : X = X.take i ++ X[i] :: X.drop (i + 1) := by rw [List.getElem_cons_drop]; exact (List.take_append_drop i X).symm
  have h1 : ((X.take i ++ X[i] :: X.drop (i + 1)).map key).Nodup := by rw [← h0]; exact hn
  conv => lhs; rw [h0]
  rw [List.map_append, List.map_cons, List.nodup_append, List.nodup_cons] at h1
  rw [List.filter_append, List.filter_cons, if_neg (by simpa using he)]
  congr 1
  · rw [List.filter_eq_self]
    intro x hx
    have := h1.2.2 (key x) (List.mem_map_of_mem hx) (key X[i]) (by simp)
    rw [he] at this
    simpa using this
  · rw [List.filter_eq_self]
    intro x hx
    have : key x ≠ key X[i] := fun hc => h1.2.1.1 (hc ▸ List.mem_map_of_mem hx)
    rw [he] at this
    simpa using this
end
theorem atoms_lz (l : List Lz) : AtomsL (l.map lzC) := by
  intro e he v hv
  obtain ⟨k, _, rfl⟩ := List.mem_map.1 he
  simp only [lzC, List.mem_cons, List.not_mem_nil, or_false] at hv
  rcases hv with rfl | rfl | rfl <;> rfl
theorem atoms_fk (l : List Fk) : AtomsL (l.map fkC) := by
  intro e he v hv
  obtain ⟨k, _, rfl⟩ := List.mem_map.1 he
  simp only [fkC, List.mem_cons, List.not_mem_nil, or_false] at hv
  rcases hv with rfl | rfl | rfl | rfl | rfl | rfl | rfl <;> rfl
/-- A list of rows, as a list of what they say. -/
theorem rows_of {α : Type} {f : α → List AV} {Q : α → Prop} {P : List AV → Prop} (hP : ∀ x, P x → ∃ c, x = f c ∧ Q c) {es : List (List AV)} (h : ∀ x ∈ es, P x) : ∃ l : List α, es = l.map f ∧ ∀ c ∈ l, Q c := by
  induction es with
  | nil => exact ⟨[], rfl, by simp⟩
  | cons x es ih =>
    obtain ⟨l, rfl, hl⟩ := ih fun y hy => h y (List.mem_cons_of_mem _ hy)
    obtain ⟨c, rfl, hc⟩ := hP x (h x (List.mem_cons_self ..))
    refine ⟨c :: l, rfl, fun y hy => ?_⟩
    rcases List.mem_cons.1 hy with rfl | hy
    · exact hc
    · exact hl y hy
/-- Both branches of a test, and the two pieces of code behind it, end in what is said, and from there it goes on. -/
theorem cnd_join2 {P : Program} {st : List Fr} {e : Env} {h : Hp} {k : Kt} {v : AV} {t f a b : ACode} {Q : Env → Hp → Prop} (hh : cndR P v t f (.code a :: .code b :: .lp Q :: st) e h k) (hq : ∀ e h, Q e h → fall P st e h k) : cndR P v t f (.code a :: .code b :: st) e h k := by
  obtain ⟨c, hb, ht, hf⟩ := hh
  have key : ∀ e h, (kk P k (.code a :: .code b :: .lp Q :: st)).1 e h → (kk P k (.code a :: .code b :: st)).1 e h := fun e h x =>
    wpA_imp a x (fun e h y => wpA_imp b y hq (fun _ _ x => x) (fun _ _ _ x => x)) (fun _ _ x => x) (fun _ _ _ x => x)
  exact ⟨c, hb, fun q => wpA_imp t (ht q) key (fun _ _ x => x) (fun _ _ _ x => x), fun q => wpA_imp f (hf q) key (fun _ _ x => x) (fun _ _ _ x => x)⟩
end Go.Hz
