/- The states of a walk; a region of the model in any order, from one order over the proofs' values. -/
import Derived.Test.YtfbflmiipepmiaaHzRegion
namespace Go.Hz

def EnvR (fz : Nat → Prop) (H : Array Obj) (e : Env) (tmps : Array Value) : Prop := ∀ t, VR fz H (e t) (tmps.getD t undef)

/-- A state of the proofs and one of the model that it stands for; n slots. -/
structure St (n : Nat) (fz : Nat → Prop) (e : Env) (h : Hp) (a : Act) (w : World) : Prop where
  size : a.tmps.size = n
  env : EnvR fz w.heap e a.tmps
  rel : Rel fz h w

theorem EnvR.put {fz : Nat → Prop} {H : Array Obj} {e : Env} {a : Act} {d : Option Nat} {v : AV} {cv : Value} (he : EnvR fz H e a.tmps) (hv : VR fz H v cv)
    (hd : ∀ t, d = some t → t < a.tmps.size) : EnvR fz H (e.put d v) (a.put d cv).tmps := by
  cases d with
  | none => exact he
  | some d =>
    intro t
    simp only [Env.put, Env.upd, Act.put]
    by_cases ht : t = d
    · subst ht
      have := hd t rfl
      simp [this]; exact hv
    · rw [if_neg ht]
      have := he t
      simpa [Array.getElem?_setIfInBounds_ne (Ne.symm ht)] using this

theorem Act.put_size (a : Act) (d : Option Nat) (v : Value) : (a.put d v).tmps.size = a.tmps.size := by cases d <;> simp [Act.put]
theorem Act.put_defers' (a : Act) (d : Option Nat) (v : Value) : (a.put d v).defers = a.defers := by cases d <;> rfl

/-- An operation of the model does what the proofs' step says. -/
def Sim (P : Program) (ops : Array Oper) (n : Nat) (S : Nat → Item) (i : Nat) : Prop :=
  ∀ (Q : Exit → Act → World → Prop) fz e h a w K, St n fz e h a w → stepI S [] (S i) e h K → ∀ next : Act → World → Prop,
    (∀ fz' e' h' a' w', K e' h' → St n fz' e' h' a' w' → Ext fz h w fz' h' w' → a'.defers = a.defers → next a' w') → wpOp P ops Q i next a w

theorem Rows.some {P : Program} {row : String} {args : Array Value} {w : World} {R : Value → World → Prop} (h : Rows P row args w R) : ∃ v w', R v w' := by
  obtain ⟨v, w', hr, _⟩ := h default []
  exact ⟨v, w', hr⟩

theorem wpOp_some {P : Program} {ops : Array Oper} {i : Nat} {K : Act → World → Prop} {a : Act} {w : World} (h : wpOp P ops (fun _ _ _ => False) i K a w) : ∃ a' w', K a' w' := by
  unfold wpOp at h
  split at h
  · exact ⟨_, _, h⟩
  · split at h
    · rcases h with h | ⟨_, _, _, h⟩
      · unfold Oper.wp at h
        unfold Oper.upon at h
        split at h
        · exact ⟨_, _, h⟩
        · exact ⟨_, _, h⟩
        · exact ⟨_, _, h⟩
        · obtain ⟨e, w', _, hr, _⟩ := h []
          cases e with
          | returned v => exact ⟨_, _, hr⟩
          | panicked c => exact hr.elim
          | outgrown => obtain ⟨_, _, h⟩ := hr; exact h.elim
        · obtain ⟨v, w', hr⟩ := Rows.some h
          exact ⟨_, _, hr⟩
        · exact h.elim
        · exact h.elim
      · exact h.elim
    · exact ⟨_, _, h⟩

theorem stepI_put {S : Nat → Item} {obl : List Nat} {x : Item} (hx : x.s.good x.looks) {e : Env} {h : Hp} {K : Env → Hp → Prop} (hh : stepI S obl x e h K) :
    stepI S obl x e h fun e' h' => K e' h' ∧ ∃ v, e' = e.put x.d v := by
  unfold stepI at *
  split <;> simp only [*] at hh hx
  · obtain ⟨v, h1, h2⟩ := hh; exact ⟨v, h1, h2, v, rfl⟩
  · obtain ⟨v, h1, h2⟩ := hh; exact ⟨v, h1, h2, v, rfl⟩
  · obtain ⟨r, h1, h2⟩ := hh
    refine ⟨r, h1, ?_⟩
    cases r with
    | inl v => exact ⟨h2, v, rfl⟩
    | inr og => exact fun n hn => ⟨h2 n hn, _, rfl⟩
  · exact hx.2.1 _ _ _ _ (fun v h' ⟨a, b⟩ => ⟨a, b, v, rfl⟩) hh

theorem live_of_sim {P : Program} {ops : Array Oper} {n : Nat} {S : Nat → Item} {obl : Nat → List Nat} (hgood : ∀ i, (S i).s.good (S i).looks)
    (hsim : ∀ i, Sim P ops n S i) : LiveP S obl fun e h => ∃ fz a w, St n fz e h a w := by
  refine ⟨fun i e h K ⟨fz, a, w, hst⟩ hh => ?_⟩
  have h1 := stepI_put (hgood i) (stepI_drop (hgood i) (obl' := []) (fun l h => by simp at h) hh)
  obtain ⟨_, _, e', h', hk, h2, h3⟩ := wpOp_some (hsim i (fun _ _ _ => False) fz e h a w _ hst h1 (fun _ _ => ∃ e' h', (K e' h' ∧ ∃ v, e' = e.put (S i).d v) ∧ ∃ fz a w, St n fz e' h' a w)
    (fun fz' e' h' a' w' hk hs _ _ => ⟨e', h', hk, fz', a', w', hs⟩))
  exact ⟨e', h', hk.1, ⟨h2, h3⟩, hk.2⟩

/-- y waits for x. -/
def dep (ops : Array Oper) (y x : Nat) : Bool :=
  match ops[y]? with
  | some oj => oj.after.any fun e => Region.binds .any e && e.on == x
  | none => false

theorem getD_both' {listed : Array Bool} {i : Nat} (h : listed.getD i true = false) : listed.getD i false = false := by
  rcases Nat.lt_or_ge i listed.size with h' | h'
  · simp [h'] at h ⊢; exact h
  · simp [Array.getElem?_eq_none h'] at h

def ClosedL (ops : Array Oper) (listed : Array Bool) : Prop :=
  ∀ j oj, ops[j]? = some oj → listed.getD j false = true → ∀ e ∈ oj.after, Region.binds .any e = true → listed.getD e.on false = true

/-- 'reach x y': y waits for x, in the end. -/
def Reaches (ops : Array Oper) (reach : Nat → Nat → Bool) : Prop :=
  ∀ (listed : Array Bool) (x y : Nat) (oy : Oper), ClosedL ops listed → ops[y]? = some oy → (∀ e ∈ oy.after, Region.binds .any e = true → listed.getD e.on false = true) → reach x y = true → listed.getD x false = true

/-- What a region's order must be looked at for. -/
structure OrderOK (ops : Array Oper) (reach : Nat → Nat → Bool) (S : Nat → Item) (obl : Nat → List Nat) (c : List Nat) : Prop where
  nodup : c.Nodup
  pair : c.Pairwise fun x y => Compat S obl x y ∨ reach x y = true
  topo : c.Pairwise fun x y => dep ops x y = false
  back : c.Pairwise fun x y => reach y x = false ∧ y ∉ obl x
  clear : c.Pairwise fun x y => ∀ l ∈ obl y, l = x ∨ (∀ t, (S x).d = some t → t ∉ (S l).looks ∧ (S l).d ≠ some t) ∨ reach x l = true
  obin : ∀ y ∈ c, ∀ l ∈ obl y, l < ops.size ∧ l ≠ y
  self : ∀ x ∈ c, dep ops x x = false
  inb : ∀ x ∈ c, ∀ oy, ops[x]? = some oy → ∀ e ∈ oy.after, Region.binds .any e = true → e.on < ops.size

theorem region_any {P : Program} {ops : Array Oper} {reach : Nat → Nat → Bool} (hreach : Reaches ops reach) {n : Nat} {S : Nat → Item} {obl : Nat → List Nat} (hgood : ∀ i, (S i).s.good (S i).looks)
    (hsim : ∀ i, Sim P ops n S i) {Q : Exit → Act → World → Prop} {K : Env → Hp → Prop} :
    ∀ (m : Nat) (c : List Nat) (listed : Array Bool), c.length = m → OrderOK ops reach S obl c → listed.size = ops.size → ClosedL ops listed → (∀ i ∈ c, i < ops.size) →
      (∀ i, i < ops.size → (listed.getD i true = false ↔ i ∈ c)) → ∀ fz e h a w, St n fz e h a w → wpI S obl c e h K →
      (∀ fz' e' h' a' w', K e' h' → St n fz' e' h' a' w' → Ext fz h w fz' h' w' → a'.defers = a.defers → Q .normal a' w') → wpAny P .any ops Q m listed a w := by
  intro m
  induction m with
  | zero =>
    intro c listed hm _ hsz _ _ hin fz e h a w hst hh hq
    have hc0 : c = [] := List.eq_nil_of_length_eq_zero hm
    subst hc0
    refine ⟨?_, hq fz e h a w hh hst (Ext.refl _ _ _) rfl⟩
    apply List.eq_nil_iff_forall_not_mem.2
    intro i hi
    obtain ⟨h1, oi, h2, _⟩ := mem_ready.1 hi
    have := (hin i (Array.getElem?_eq_some_iff.1 h2).1).1 h1
    simp at this
  | succ m ih =>
    intro c listed hm hok hsz hcl hlt hin fz e h a w hst hh hq
    have hready : ∀ i, i ∈ Region.ready .any ops listed → i ∈ c := fun i hi => by
      obtain ⟨h1, oi, h2, _⟩ := mem_ready.1 hi
      exact (hin i (Array.getElem?_eq_some_iff.1 h2).1).1 h1
    refine ⟨fun hnil => ?_, fun i hi => ?_⟩
    · -- the head of what is left is ready
      exfalso
      cases c with
      | nil => simp at hm
      | cons x c =>
        have hx := hlt x (by simp)
        have hmem : x ∈ Region.ready .any ops listed := by
          refine mem_ready.2 ⟨(hin x hx).2 (by simp), ops[x], by simp [hx], fun ed he hb => ?_⟩
          have hdx : dep ops x ed.on = true := by
            unfold dep
            simp only [Array.getElem?_eq_getElem hx]
            exact Array.any_eq_true'.2 ⟨ed, he, by simp [hb]⟩
          have hnc : ed.on ∉ x :: c := by
            intro hmem
            rcases List.mem_cons.1 hmem with h1 | h1
            · rw [h1, hok.self x (by simp)] at hdx; cases hdx
            · have := (List.pairwise_cons.1 hok.topo).1 _ h1
              rw [this] at hdx; cases hdx
          have hlt' := hok.inb x (by simp) ops[x] (by simp [hx]) ed he hb
          have := mt (hin ed.on hlt').1 hnc
          have hls : ed.on < listed.size := by rw [hsz]; exact hlt'
          simp [hls] at this ⊢
          exact this
        rw [hnil] at hmem; simp at hmem
    · obtain ⟨pre, post, rfl⟩ := List.append_of_mem (hready i hi)
      obtain ⟨hun, oi, hoi, hall⟩ := mem_ready.1 hi
      have hcomp : ∀ x ∈ pre, Compat S obl x i := fun x hx => by
        have := (List.pairwise_append.1 hok.pair).2.2 x hx i (by simp)
        rcases this with h1 | h1
        · exact h1
        · exfalso
          have h2 := hreach listed _ _ oi hcl hoi hall h1
          have h3 := (hin x (hlt x (by simp [hx]))).2 (by simp [hx])
          rw [getD_both' h3] at h2; cases h2
      have hyok := yOK_of hgood (live_of_sim hgood hsim (obl := obl)) pre e h hcomp ⟨fz, a, w, hst⟩ hh
      have hnd : pre.Nodup := (List.nodup_append.1 hok.nodup).1
      have hclear : ∀ (p1 p2 : List Nat), pre = p1 ++ p2 → Clear S (obl i) p2 := by
        intro p1 p2
        induction p2 generalizing p1 with
        | nil => intro _; trivial
        | cons x p2 ih2 =>
          intro hp
          refine ⟨fun l hl hlx hlp => ?_, ih2 (p1 ++ [x]) (by rw [hp]; simp)⟩
          have hxp : x ∈ pre := by rw [hp]; simp
          rcases (List.pairwise_append.1 hok.clear).2.2 x hxp i (by simp) l hl with h1 | h1 | h1
          · exact absurd h1 hlx
          · exact h1
          · exfalso
            have hxun := (hin x (hlt x (by simp [hxp]))).2 (by simp [hxp])
            obtain ⟨hlsz, hlne⟩ := hok.obin i (by simp) l hl
            -- l is still to come: else x had been listed
            have hlun : listed.getD l true = false := by
              cases hll : listed.getD l true with
              | false => rfl
              | true =>
                exfalso
                have hl2 : listed.getD l false = true := by
                  have : l < listed.size := by rw [hsz]; exact hlsz
                  simp [this] at hll ⊢; exact hll
                have h2 := hreach listed x l ops[l] hcl (by simp [hlsz]) (fun e' he' hb' => hcl l ops[l] (by simp [hlsz]) hl2 e' he' hb') h1
                rw [getD_both' hxun] at h2; cases h2
            have hlc := (hin l hlsz).1 hlun
            rcases List.mem_append.1 hlc with h2 | h2
            · rw [hp] at h2
              rcases List.mem_append.1 h2 with h3 | h3
              · have hb := hok.back
                rw [hp, List.append_assoc] at hb
                have := ((List.pairwise_append.1 hb).2.2 l h3 x (by simp)).1
                rw [this] at h1; cases h1
              · rcases List.mem_cons.1 h3 with h4 | h4
                · exact hlx h4
                · exact hlp h4
            · rcases List.mem_cons.1 h2 with h3 | h3
              · exact hlne h3
              · have hb := (List.pairwise_append.1 hok.back).2.1
                exact ((List.pairwise_cons.1 hb).1 l h3).2 hl
      have hmv := stepI_drop (hgood i) (obl' := []) (fun l hl => by simp at hl) (move_front hgood pre e h hnd hcomp (hclear [] pre rfl) hyok hh)
      refine hsim i Q fz e h a w _ hst hmv _ fun fz' e' h' a' w' hk hst' hext hd => ?_
      have hsub : (pre ++ post).Sublist (pre ++ i :: post) := by simp
      refine ih (pre ++ post) _ (by simp at hm ⊢; omega) ⟨hok.nodup.sublist hsub, hok.pair.sublist hsub, hok.topo.sublist hsub, hok.back.sublist hsub, hok.clear.sublist hsub, fun x hx => hok.obin x (hsub.subset hx), fun x hx => hok.self x (hsub.subset hx), fun x hx => hok.inb x (hsub.subset hx)⟩ (by simp [hsz]) ?_
        (fun x hx => hlt x (hsub.subset hx)) ?_ fz' e' h' a' w' hst' hk (fun fz2 e2 h2 a2 w2 hk2 hst2 hext2 hd2 => hq fz2 e2 h2 a2 w2 hk2 hst2 (hext.trans hext2) (hd2.trans hd))
      · intro j oj hj hl ed he hb
        by_cases hij : i = j
        · subst hij
          have : oj = oi := Option.some.inj (hj.symm.trans hoi)
          subst this
          exact getD_set_true (hall ed he hb)
        · rw [getD_set_ne false hij] at hl
          exact getD_set_true (hcl j oj hj hl ed he hb)
      · intro j hj
        by_cases hij : i = j
        · subst hij
          have hnot : i ∉ pre ++ post := fun hmem => by
            have h1 := hok.nodup
            have h2 := List.nodup_append.1 h1
            rcases List.mem_append.1 hmem with h3 | h3
            · exact absurd rfl (h2.2.2 i h3 i (by simp))
            · exact (List.nodup_cons.1 h2.2.1).1 h3
          simp only [hnot, iff_false]
          simp [hsz, hj]
        · rw [getD_set_ne true hij, hin j hj]
          simp only [List.mem_append, List.mem_cons]
          constructor
          · rintro (h1 | h1 | h1)
            · exact .inl h1
            · exact absurd h1.symm hij
            · exact .inr h1
          · rintro (h1 | h1)
            · exact .inl h1
            · exact .inr (.inr h1)

end Go.Hz
