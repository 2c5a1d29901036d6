/- How a walk goes: each operation as what it leaves to be shown. -/
import Derived.Test.YtfbflmiipepmiaaHzFun
namespace Go.Hz

def opK (P : Program) : AOp → Option Nat → List AItem → Env → Hp → (Env → Hp → Prop) → Prop
  | .mv x, d, _, e, h, K => K (e.put d (x.ev e)) h
  | .pick c a b, d, _, e, h, K => ∃ v, pickA (c.ev e) (a.ev e) (b.ev e) = some v ∧ K (e.put d v) h
  | .bin op x y, d, _, e, h, K => ∃ v, binA op (x.ev e) (y.ev e) = some v ∧ K (e.put d v) h
  | .eqn k neg x y, d, _, e, h, K => ∃ v, ((eqN k (x.ev e) (y.ev e)).map fun b => AV.bool (if neg then !b else b)) = some v ∧ K (e.put d v) h
  | .un op x, d, _, e, h, K => ∃ v, unA op (x.ev e) = some v ∧ K (e.put d v) h
  | .cvi k x, d, _, e, h, K => ∃ v, cviA k (x.ev e) = some v ∧ K (e.put d v) h
  | .cvs x, d, _, e, h, K => ∃ v, strA (x.ev e) = some v ∧ K (e.put d v) h
  | .nilck x, d, _, e, h, K => ∃ v, ckA (x.ev e) = some v ∧ K (e.put d v) h
  | .fa off x, d, _, e, h, K => ∃ v, faA off (x.ev e) = some v ∧ K (e.put d v) h
  | .fld off sz ag x, d, _, e, h, K => ∃ v, fldA off sz ag (x.ev e) = some v ∧ K (e.put d v) h
  | .ixs x i, d, _, e, h, K => ∃ v, ixsA (x.ev e) (i.ev e) = some v ∧ K (e.put d v) h
  | .ia s x i, d, _, e, h, K => ∃ v, iaA s (x.ev e) (i.ev e) = some v ∧ K (e.put d v) h
  | .slcS x lo hi, d, _, e, h, K => ∃ v, slcS (x.ev e) (oev e lo) (oev e hi) = some v ∧ K (e.put d v) h
  | .slcL s x lo hi, d, _, e, h, K => ∃ v, slcL s (x.ev e) (oev e lo) (oev e hi) = some v ∧ K (e.put d v) h
  | .slcM s x lo hi mx, d, _, e, h, K => ∃ v, slcM s (x.ev e) (oev e lo) (hi.ev e) (mx.ev e) = some v ∧ K (e.put d v) h
  | .clr s z x, d, obl, e, h, K => clrE s z (x.ev e) h fun v h' => (∀ l ∈ obl, stab P l (e.put d v) h') ∧ K (e.put d v) h'
  | .appz s b z x y, d, obl, e, h, K => appzE s b z (x.ev e) (y.ev e) h fun v h' => (∀ l ∈ obl, stab P l (e.put d v) h') ∧ K (e.put d v) h'
  | .ovl s x y, d, obl, e, h, K => ovlE s (x.ev e) (y.ev e) h fun v h' => (∀ l ∈ obl, stab P l (e.put d v) h') ∧ K (e.put d v) h'
  | .lenS x, d, _, e, h, K => ∃ v, lenS (x.ev e) = some v ∧ K (e.put d v) h
  | .lenL x, d, _, e, h, K => ∃ v, lenL (x.ev e) = some v ∧ K (e.put d v) h
  | .capL x, d, _, e, h, K => ∃ v, capL (x.ev e) = some v ∧ K (e.put d v) h
  | .ext n x, d, _, e, h, K => ∃ v, extA n (x.ev e) = some v ∧ K (e.put d v) h
  | .mkif t x, d, _, e, h, K => K (e.put d (.iface t (x.ev e))) h
  | .ta t ok z x, d, _, e, h, K => ∃ v, taA t ok z (x.ev e) = some v ∧ K (e.put d v) h
  | .mkfn f caps, d, _, e, h, K => K (e.put d (.fn f (evs e caps))) h
  | .mm mx x y, d, _, e, h, K => ∃ v, mmA mx (x.ev e) (y.ev e) = some v ∧ K (e.put d v) h
  | .bld z ps, d, _, e, h, K => ∃ v, fillA z (evParts e ps) = some v ∧ K (e.put d (.agg v)) h
  | .ld sz ag x, d, _, e, h, K => ∃ v, ldA sz ag h (x.ev e) = some v ∧ K (e.put d v) h
  | .bstr x, d, _, e, h, K => ∃ v, bstrA h (x.ev e) = some v ∧ K (e.put d v) h
  | .box x, d, _, e, h, K => ((x.ev e).cells.all AV.isAtom) = true ∧ ∀ n, h n = none → K (e.put d (.ptr n (x.ev e).cells.length 0 0)) (h.set n (.row (x.ev e).cells.length [(x.ev e).cells] 1))
  | .alloc z, d, _, e, h, K => ∀ n, h n = none → K (e.put d (.ptr n z.length 0 0)) (h.set n (.row z.length [z] 1))
  | .bsl z n ps, d, _, e, h, K => ∃ v, setL z.length (List.replicate n z) (evIdx e ps) = some v ∧ ∀ b, h b = none → K (e.put d (.arr b z.length 0 n n)) (h.set b (.row z.length v n))
  | .msl bytes z l c, d, _, e, h, K => ∃ r, mslA z.length bytes z (l.ev e) (c.ev e) = some r ∧ match r with
    | .inl v => K (e.put d v) h
    | .inr (o, g) => ∀ n, h n = none → K (e.put d (g n)) (h.set n o)
  | .st sz x y, d, obl, e, h, K => ∃ h', stA sz h (x.ev e) (y.ev e) = some h' ∧ (∀ l ∈ obl, stab P l (e.put d (.tup [])) h') ∧ K (e.put d (.tup [])) h'
  | .app s bytes x y, d, obl, e, h, K => appE s bytes (x.ev e) (y.ev e) h fun v h' => (∀ l ∈ obl, stab P l (e.put d v) h') ∧ K (e.put d v) h'
  | .cp s x y, d, obl, e, h, K => cpE s (x.ev e) (y.ev e) h fun v h' => (∀ l ∈ obl, stab P l (e.put d v) h') ∧ K (e.put d v) h'
  | .strb x, d, obl, e, h, K => strbE (x.ev e) h fun v h' => (∀ l ∈ obl, stab P l (e.put d v) h') ∧ K (e.put d v) h'
  | .call f args, d, obl, e, h, K => Triple P f (evs e args) h fun v h' => (∀ l ∈ obl, stab P l (e.put d v) h') ∧ K (e.put d v) h'
  | .iap n s x i, d, _, e, h, K => ∃ v, iapA n s (x.ev e) (i.ev e) = some v ∧ K (e.put d v) h
  | .ixa n s ag x i, d, _, e, h, K => ∃ v, ixaA n s ag (x.ev e) (i.ev e) = some v ∧ K (e.put d v) h
  | .cvb x, d, obl, e, h, K => cvbE (x.ev e) h fun v h' => (∀ l ∈ obl, stab P l (e.put d v) h') ∧ K (e.put d v) h'
  | .nop, d, obl, e, h, K => (∀ l ∈ obl, stab P l (e.put d (.tup [])) h) ∧ K (e.put d (.tup [])) h
  | .callv x args, d, obl, e, h, K => callvE P (x.ev e) (evs e args) h fun v h' => (∀ l ∈ obl, stab P l (e.put d v) h') ∧ K (e.put d v) h'

theorem ite_some {α : Type} {c : Prop} [Decidable c] {x : α} {K : α → Prop} : (∃ v, (if c then some x else none) = some v ∧ K v) ↔ c ∧ K x := by
  constructor
  · rintro ⟨v, h1, h2⟩
    split at h1
    · cases h1; exact ⟨‹_›, h2⟩
    · cases h1
  · rintro ⟨h1, h2⟩; exact ⟨x, if_pos h1, h2⟩

theorem ex_some {α : Type} {x : α} {K : α → Prop} : (∃ v, some x = some v ∧ K v) ↔ K x := by
  constructor
  · rintro ⟨v, h1, h2⟩; cases h1; exact h2
  · exact fun h => ⟨x, rfl, h⟩

theorem map_some {α β : Type} {x : Option α} {f : α → β} {K : β → Prop} : (∃ v, x.map f = some v ∧ K v) ↔ ∃ v, x = some v ∧ K (f v) := by
  constructor
  · rintro ⟨v, h1, h2⟩
    cases x with
    | none => cases h1
    | some a => cases h1; exact ⟨a, rfl, h2⟩
  · rintro ⟨v, h1, h2⟩; subst h1; exact ⟨f v, rfl, h2⟩

theorem stepA_eq {P : Program} {d : Option Nat} {op : AOp} {obl : List AItem} {e : Env} {h : Hp} {K : Env → Hp → Prop} : stepA P ⟨d, op, none⟩ obl e h K ↔ opK P op d obl e h K := by
  unfold stepA AItem.item
  cases op with
  | mv x => exact ex_some
  | mkif t x => exact ex_some
  | mkfn f caps => exact ex_some
  | bld z ps => exact map_some
  | box x => exact ite_some
  | alloc z => exact ex_some
  | bsl z n ps => exact map_some
  | st sz x y => exact Iff.rfl
  | _ => exact Iff.rfl

theorem wpS_nil {P : Program} {e : Env} {h : Hp} {K : Env → Hp → Prop} : wpS P [] e h K ↔ K e h := Iff.rfl
theorem wpS_op {P : Program} {d : Option Nat} {op : AOp} {obl : List AItem} {l : List (AItem × List AItem)} {e : Env} {h : Hp} {K : Env → Hp → Prop} :
    wpS P ((⟨d, op, none⟩, obl) :: l) e h K ↔ opK P op d obl e h fun e' h' => wpS P l e' h' K := stepA_eq

section
variable {P : Program} {kn kr : Env → Hp → Prop} {kx : Nat → Env → Hp → Prop} {e : Env} {h : Hp}
theorem wpA_skip : wpA P .skip e h kn kr kx ↔ kn e h := Iff.rfl
theorem wpA_reg {l : List (AItem × List AItem)} : wpA P (.reg l) e h kn kr kx ↔ wpS P l e h kn := Iff.rfl
theorem wpA_seq {a b : ACode} : wpA P (.seq a b) e h kn kr kx ↔ wpA P a e h (fun e h => wpA P b e h kn kr kx) kr kx := Iff.rfl
theorem wpA_cond {c : AE} {t f : ACode} : wpA P (.cond c t f) e h kn kr kx ↔ ∃ b, c.ev e = .bool b ∧ (b = true → wpA P t e h kn kr kx) ∧ (b = false → wpA P f e h kn kr kx) := Iff.rfl
theorem wpA_block {id : Nat} {b : ACode} : wpA P (.block id b) e h kn kr kx ↔ wpA P b e h kn kr fun i e h => if i = id then kn e h else kx i e h := Iff.rfl
theorem wpA_exit {id : Nat} : wpA P (.exit id) e h kn kr kx ↔ kx id e h := Iff.rfl
theorem wpA_ret : wpA P .ret e h kn kr kx ↔ kr e h := Iff.rfl
theorem wpA_loop {b : ACode} (I : Env → Hp → Prop) (μ : Env → Hp → Nat) (h0 : I e h) (hr : ∀ e h, I e h → wpA P b e h (fun e' h' => I e' h' ∧ μ e' h' < μ e h) kr kx) : wpA P (.loop b) e h kn kr kx := ⟨I, μ, h0, hr⟩

theorem bool_ex {b : Bool} {K : Bool → Prop} : (∃ v, AV.bool b = AV.bool v ∧ K v) ↔ K b := by
  constructor
  · rintro ⟨v, h1, h2⟩; cases h1; exact h2
  · exact fun h => ⟨b, rfl, h⟩
end

/-! ### values: one rule each -/

theorem init_lt {args : List AV} {t : Nat} {v : AV} (h : args[t]? = some v) : initE args t = v := by
  simp [initE, h]

/-- What a piece of work leaves: these blocks may have turned, all others are as they were. -/
structure Mod (S S' : List Nat) (h h' : Hp) : Prop where
  keep : ∀ x, h x ≠ none → x ∉ S → h' x = h x
  new : ∀ x ∈ S', x ∈ S ∨ h x = none
  dom : ∀ x ∈ S', h' x ≠ none

theorem Mod.refl {S : List Nat} {h : Hp} (hd : ∀ x ∈ S, h x ≠ none) : Mod S S h h := ⟨fun _ _ _ => rfl, fun _ h => .inl h, hd⟩

theorem Mod.trans {S S' S'' : List Nat} {h h' h'' : Hp} (a : Mod S S' h h') (b : Mod S' S'' h' h'') : Mod S S'' h h'' := by
  refine ⟨fun x hx hn => ?_, fun x hx => ?_, b.dom⟩
  · have e1 := a.keep x hx hn
    have hn' : x ∉ S' := fun hm => by
      rcases a.new x hm with h | h
      · exact hn h
      · exact hx h
    rw [b.keep x (by rw [e1]; exact hx) hn', e1]
  · rcases b.new x hx with h1 | h1
    · exact a.new x h1
    · by_cases hs : x ∈ S
      · exact .inl hs
      · right
        cases hh : h x with
        | none => rfl
        | some o => have := a.keep x (by rw [hh]; simp) hs; rw [this, hh] at h1; cases h1

end Go.Hz
