/- The operations over the proofs' values. -/
import Derived.Test.YtfbflmiipepmiaaHzOrder
namespace Go.Hz

/-- An operand. -/
inductive AE where
  | tm (n : Nat)
  | cs (v : AV)

def AE.ev (e : Env) : AE → AV
  | .tm n => e n
  | .cs v => v

def atomOf : Value → Option AV
  | .bool b => some (.bool b)
  | .int k n => some (.int k n)
  | .string s => some (.str s.data.toList)
  | .pointer none => some .nilp
  | .slice none 0 0 => some .nils
  | .map none => some .nilm
  | .nilFunc => some .nilf
  | .nilIface => some .nili
  | .tuple vs => if vs.size = 0 then some (.tup []) else none
  | _ => none

def atomsOf : List Value → Option (List AV)
  | [] => some []
  | v :: vs => match atomOf v, atomsOf vs with
    | some a, some as => some (a :: as)
    | _, _ => none

def avOf : Value → Option AV
  | .agg cs => (atomsOf cs.toList).map .agg
  | v => atomOf v

theorem atomOf_ok {v : Value} {a : AV} (h : atomOf v = some a) (fz : Nat → Prop) (H : Array Obj) : VR fz H a v := by
  unfold atomOf at h
  split at h <;> first | (cases h; done) | skip
  · cases h; exact .bool _
  · cases h; exact .int _ _
  · cases h; rename_i s; exact VR.str s.data.toList
  · cases h; exact .nilp
  · cases h; exact .nils
  · cases h; exact .nilm
  · cases h; exact .nilf
  · cases h; exact .nili
  · rename_i vs
    split at h
    · rename_i h0
      cases h
      exact .tup [] vs (by simp [h0]) (fun i h1 => by simp at h1)
    · cases h

theorem atomsOf_ok (fz : Nat → Prop) (H : Array Obj) : ∀ {vs : List Value} {as : List AV}, atomsOf vs = some as → VRs fz H as vs
  | [], as, h => by simp [atomsOf] at h; subst h; exact VRs.nil
  | v :: vs, as, h => by
    unfold atomsOf at h
    split at h
    · rename_i a as' h1 h2
      cases h
      exact VRs.cons (atomOf_ok h1 fz H) (atomsOf_ok fz H h2)
    · cases h

theorem avOf_ok {v : Value} {a : AV} (h : avOf v = some a) (fz : Nat → Prop) (H : Array Obj) : VR fz H a v := by
  unfold avOf at h
  split at h
  · rename_i cs
    cases hh : atomsOf cs.toList with
    | none => rw [hh] at h; cases h
    | some as =>
      rw [hh] at h; cases h
      have := atomsOf_ok fz H hh
      exact .agg as cs (by simpa using this.1) (fun i h1 h2 => this.2 i h1 (by simpa using h2))
  · exact atomOf_ok h fz H

section inv
variable {fz : Nat → Prop} {H : Array Obj} {cv : Value}
theorem VR.bool_inv {b : Bool} (h : VR fz H (.bool b) cv) : cv = .bool b := by cases h; rfl
theorem VR.int_inv {k : IntKind} {n : Int} (h : VR fz H (.int k n) cv) : cv = .int k n := by cases h; rfl
theorem VR.str_inv {l : List UInt8} (h : VR fz H (.str l) cv) : cv = .string ⟨l.toArray⟩ := by cases h; rfl
theorem VR.nilp_inv (h : VR fz H .nilp cv) : cv = .pointer none := by cases h; rfl
theorem VR.ptr_inv {b s i k : Nat} (h : VR fz H (.ptr b s i k) cv) : cv = .pointer (some ⟨b, i * s + k, none⟩) := by cases h; rfl
theorem VR.emp_inv (h : VR fz H .emp cv) : ∃ a c, cv = .slice (some a) 0 c := by cases h; exact ⟨_, _, rfl⟩
theorem VR.nils_inv (h : VR fz H .nils cv) : cv = .slice none 0 0 := by cases h; rfl
theorem VR.nilm_inv (h : VR fz H .nilm cv) : cv = .map none := by cases h; rfl
theorem VR.map_inv {b : Nat} (h : VR fz H (.map b) cv) : cv = .map (some b) := by cases h; rfl
theorem VR.nilf_inv (h : VR fz H .nilf cv) : cv = .nilFunc := by cases h; rfl
theorem VR.nili_inv (h : VR fz H .nili cv) : cv = .nilIface := by cases h; rfl
theorem VR.iface_inv {t : TypeId} {v : AV} (h : VR fz H (.iface t v) cv) : ∃ u, cv = .iface t u ∧ VR fz H v u := by cases h; exact ⟨_, rfl, by assumption⟩
theorem VR.agg_inv {cs : List AV} (h : VR fz H (.agg cs) cv) : ∃ vs, cv = .agg vs ∧ VRs fz H cs vs.toList := by
  cases h with
  | agg _ vs hl h => exact ⟨vs, rfl, by simpa using hl, fun i h1 h2 => h i h1 (by simpa using h2)⟩
theorem VR.tup_inv {cs : List AV} (h : VR fz H (.tup cs) cv) : ∃ vs, cv = .tuple vs ∧ VRs fz H cs vs.toList := by
  cases h with
  | tup _ vs hl h => exact ⟨vs, rfl, by simpa using hl, fun i h1 h2 => h i h1 (by simpa using h2)⟩
theorem VR.fn_inv {f : FuncId} {caps : List AV} (h : VR fz H (.fn f caps) cv) : ∃ vs, cv = .func (.func f) #[] vs ∧ VRs fz H caps vs.toList := by
  cases h with
  | fn _ _ vs hl h => exact ⟨vs, rfl, by simpa using hl, fun i h1 h2 => h i h1 (by simpa using h2)⟩
end inv

def AE.of : Operand → Option AE
  | .tmp n => some (.tm n)
  | .const v => (avOf v).map .cs
  | .func f => some (.cs (.fn f []))
  | .global _ => none

theorem AE.of_ok {x : Operand} {y : AE} (h : AE.of x = some y) {fz : Nat → Prop} {H : Array Obj} {e : Env} {a : Act} (he : EnvR fz H e a.tmps) : VR fz H (y.ev e) (a.eval x) := by
  cases x with
  | tmp t => cases h; exact he t
  | const v =>
    simp only [AE.of] at h
    cases hv : avOf v with
    | none => rw [hv] at h; cases h
    | some u => rw [hv] at h; cases h; exact avOf_ok hv fz H
  | func f => cases h; exact .fn f [] #[] rfl (fun i h1 => by simp at h1)
  | global g => cases h

def AE.looks : AE → List Nat
  | .tm n => [n]
  | .cs _ => []

theorem AE.ev_congr {y : AE} {e e' : Env} (h : ∀ t ∈ y.looks, e t = e' t) : y.ev e = y.ev e' := by
  cases y with
  | tm n => exact h n (by simp [AE.looks])
  | cs v => rfl

/-- What a step comes to, value by value. -/
def stepV (s : Sm) (e : Env) (h : Hp) (K : AV → Hp → Prop) : Prop :=
  match s with
  | .pure f => ∃ v, f e = some v ∧ K v h
  | .load f => ∃ v, f e h = some v ∧ K v h
  | .mk f => ∃ r, f e = some r ∧ match r with
    | .inl v => K v h
    | .inr (o, g) => ∀ n, h n = none → K (g n) (h.set n o)
  | .eff f => f e h K

theorem stepI_V {S : Nat → Item} {x : Item} (hx : x.s.good x.looks) {e : Env} {h : Hp} {K : Env → Hp → Prop} (hh : stepI S [] x e h K) : stepV x.s e h fun v h' => K (e.put x.d v) h' := by
  unfold stepI at hh
  unfold stepV
  split <;> simp only [*] at hh hx ⊢
  · exact hh
  · exact hh
  · exact hh
  · exact hx.2.1 _ _ _ _ (fun v h' ⟨_, b⟩ => b) hh

/-- What the model's operation leaves. -/
def OutOK (P : Program) (s : Sem Next) (w : World) (R : Value → World → Prop) : Prop :=
  match s.run P w with
  | .ok (.value cv) w' => R cv w'
  | .ok .skip w' => R undef w'
  | .ok (.enter f args) w' => Calls P f args w' fun e w'' => ∃ cv, e = .returned cv ∧ R cv w''
  | _ => False

/-- The value, the heap and the memory behind a step. -/
def After (fz : Nat → Prop) (h : Hp) (w : World) (K : AV → Hp → Prop) (cv : Value) (w' : World) : Prop :=
  ∃ v h' fz', K v h' ∧ VR fz' w'.heap v cv ∧ Rel fz' h' w' ∧ Ext fz h w fz' h' w'

/-- The model's operation does what the meaning says. -/
def OpOK (P : Program) (o : Oper) (s : Sm) : Prop :=
  ∀ fz e h (a : Act) w (K : AV → Hp → Prop), EnvR fz w.heap e a.tmps → Rel fz h w → stepV s e h K → OutOK P (execOp a.eval o) w (After fz h w K)

/-- An operation under a guard. -/
def Sm.guard (g : Nat) (want : Bool) : Sm → Sm
  | .pure f => .pure fun e => match e g with
    | .bool b => if b = want then f e else some (.tup [])
    | .tup [] => some (.tup [])
    | _ => none
  | .load f => .load fun e h => match e g with
    | .bool b => if b = want then f e h else some (.tup [])
    | .tup [] => some (.tup [])
    | _ => none
  | .mk f => .mk fun e => match e g with
    | .bool b => if b = want then f e else some (.inl (.tup []))
    | .tup [] => some (.inl (.tup []))
    | _ => none
  | .eff f => .eff fun e h K => match e g with
    | .bool b => if b = want then f e h K else K (.tup []) h
    | .tup [] => K (.tup []) h
    | _ => False

theorem stepV_guard {s : Sm} {g : Nat} {want : Bool} {e : Env} {h : Hp} {K : AV → Hp → Prop} (hh : stepV (s.guard g want) e h K) :
    (e g = .bool want ∧ stepV s e h K) ∨ ((e g = .bool (!want) ∨ e g = .tup []) ∧ K (.tup []) h) := by
  cases s with
  | pure f =>
    obtain ⟨v, h1, h2⟩ := hh
    simp only at h1
    split at h1
    · rename_i b hb
      split at h1
      · rename_i hbw; subst hbw; exact .inl ⟨hb, v, h1, h2⟩
      · rename_i hbw; cases h1; exact .inr ⟨.inl (by rw [hb]; cases b <;> cases want <;> simp_all), h2⟩
    · rename_i hb; cases h1; exact .inr ⟨.inr hb, h2⟩
    · cases h1
  | load f =>
    obtain ⟨v, h1, h2⟩ := hh
    simp only at h1
    split at h1
    · rename_i b hb
      split at h1
      · rename_i hbw; subst hbw; exact .inl ⟨hb, v, h1, h2⟩
      · rename_i hbw; cases h1; exact .inr ⟨.inl (by rw [hb]; cases b <;> cases want <;> simp_all), h2⟩
    · rename_i hb; cases h1; exact .inr ⟨.inr hb, h2⟩
    · cases h1
  | mk f =>
    obtain ⟨v, h1, h2⟩ := hh
    simp only at h1
    split at h1
    · rename_i b hb
      split at h1
      · rename_i hbw; subst hbw; exact .inl ⟨hb, v, h1, h2⟩
      · rename_i hbw; cases h1; exact .inr ⟨.inl (by rw [hb]; cases b <;> cases want <;> simp_all), h2⟩
    · rename_i hb; cases h1; exact .inr ⟨.inr hb, h2⟩
    · cases h1
  | eff f =>
    simp only [stepV, Sm.guard] at hh
    split at hh
    · rename_i b hb
      split at hh
      · rename_i hbw; subst hbw; exact .inl ⟨hb, hh⟩
      · rename_i hbw; exact .inr ⟨.inl (by rw [hb]; cases b <;> cases want <;> simp_all), hh⟩
    · rename_i hb; exact .inr ⟨.inr hb, hh⟩
    · exact hh.elim

theorem good_guard {s : Sm} {looks : List Nat} {g : Nat} {want : Bool} (hs : s.good looks) : (s.guard g want).good (g :: looks) := by
  cases s with
  | pure f =>
    intro e e' hh
    simp only [hh g (by simp), hs e e' fun t ht => hh t (by simp [ht])]
  | load f =>
    obtain ⟨h1, h2, h3⟩ := hs
    refine ⟨fun e e' h hh => ?_, fun e h v n o hh hn => ?_, fun e => ?_⟩
    · simp only [hh g (by simp), h1 e e' h fun t ht => hh t (by simp [ht])]
    · revert hh
      simp only
      split
      · split
        · exact fun hh => h2 _ _ _ _ _ hh hn
        · exact id
      · exact id
      · exact id
    · obtain ⟨R, hR⟩ := h3 e
      exact ⟨R, fun h h' hh => by simp only [hR h h' hh]⟩
  | mk f =>
    intro e e' hh
    simp only [hh g (by simp), hs e e' fun t ht => hh t (by simp [ht])]
  | eff f =>
    obtain ⟨h1, h2, h3⟩ := hs
    refine ⟨fun e e' h K hh => ?_, fun e h K K' hk => ?_, fun e h K n o hn => ?_⟩
    · simp only
      rw [← hh g (by simp)]
      split
      · split
        · exact h1 e e' h K (fun t ht => hh t (by simp [ht]))
        · exact id
      · exact id
      · exact id
    · simp only
      split
      · split
        · exact h2 _ _ _ _ hk
        · exact hk _ _
      · exact hk _ _
      · exact id
    · simp only
      split
      · split
        · exact h3 _ _ _ _ _ hn
        · exact fun hf => ⟨h, hn, rfl, hf⟩
      · exact fun hf => ⟨h, hn, rfl, hf⟩
      · exact id

/-- From the meaning of an operation to the step of the region. -/
theorem OpOK.sim {P : Program} {ops : Array Oper} {n : Nat} {S : Nat → Item} {i : Nat} {o : Oper} {s : Sm} (hok : OpOK P o s) (ho : ops[i]? = some o)
    (hd : ∀ t, o.dst = some t → t < n) (hS : (S i).d = o.dst) (hg : (S i).s.good (S i).looks)
    (hgd : match o.guard with
      | none => (S i).s = s
      | some (j, want) => ∃ g, ((ops[j]?).bind (·.dst)) = some g ∧ (S i).s = s.guard g want) : Sim P ops n S i := by
  intro Q fz e h a w K hst hh next hk
  have hV := stepI_V hg hh
  rw [hS] at hV
  have fin : ∀ cv w', After fz h w (fun v h' => K (e.put o.dst v) h') cv w' → next (a.put o.dst cv) w' := by
    rintro cv w' ⟨v, h', fz', h1, h2, h3, h4⟩
    refine hk fz' _ h' _ w' h1 ⟨by rw [Act.put_size]; exact hst.size, EnvR.put (fun t => ?_) h2 (fun t ht => by rw [hst.size]; exact hd t ht), h3⟩ h4 (Act.put_defers' _ _ _)
    exact (hst.env t).ext hst.rel h4
  have run : stepV s e h (fun v h' => K (e.put o.dst v) h') → o.wp P a w next Q := by
    intro hV
    have := hok fz e h a w _ hst.env hst.rel hV
    unfold OutOK at this
    unfold Oper.wp Oper.upon
    split at this
    · rename_i hr; rw [hr]; exact fin _ _ this
    · rename_i hr; rw [hr]; exact fin _ _ this
    · rename_i hr; rw [hr]; exact this.mono fun ed w'' ⟨cv, h1, h2⟩ => by subst h1; exact fin _ _ h2
    · exact this.elim
  have yv : ∀ {g : Nat} {v : Value}, a.tmps.getD g undef = v → v ≠ undef → a.tmps[g]? = some v := fun {g v} h1 h2 => by
    rcases Nat.lt_or_ge g a.tmps.size with h | h
    · simp [h] at h1 ⊢; exact h1
    · simp [Array.getElem?_eq_none h] at h1; exact absurd h1.symm h2
  unfold wpOp
  simp only [ho]
  cases hgu : o.guard with
  | none =>
    rw [hgu] at hgd
    simp only at hgd
    rw [hgd] at hV
    simp only [Region.wanted, hgu, if_true]
    exact .inl (run hV)
  | some jw =>
    obtain ⟨j, want⟩ := jw
    rw [hgu] at hgd
    obtain ⟨g, hg1, hg2⟩ := hgd
    rw [hg2] at hV
    rcases stepV_guard hV with ⟨h1, h2⟩ | ⟨h1, h2⟩
    · have h3 := hst.env g
      rw [h1] at h3
      have h4 : a.tmps[g]? = some (.bool want) := yv (h3.bool_inv) (by simp [undef])
      have : Region.wanted o (yielded ops a.tmps) = true := by
        simp [Region.wanted, hgu, yielded, hg1, h4]
      simp only [this, if_true]
      exact .inl (run h2)
    · have h3 := hst.env g
      have : Region.wanted o (yielded ops a.tmps) = false := by
        rcases h1 with h1 | h1
        · rw [h1] at h3
          have h4 : a.tmps[g]? = some (.bool (!want)) := yv (h3.bool_inv) (by simp [undef])
          simp [Region.wanted, hgu, yielded, hg1, h4]
        · rw [h1] at h3
          obtain ⟨vs, h4, _⟩ := h3.tup_inv
          have h5 : ∀ b, a.tmps[g]? ≠ some (.bool b) := fun b hb => by simp [hb] at h4
          have h6 : yielded ops a.tmps j = none := by
            unfold yielded
            simp only [hg1, Option.bind_some]
          simp [Region.wanted, hgu, h6]
      simp only [this, if_false, Bool.false_eq_true]
      exact fin _ _ ⟨_, h, fz, h2, .tup [] #[] rfl (fun i h1 => by simp at h1), hst.rel, Ext.refl _ _ _⟩

end Go.Hz
