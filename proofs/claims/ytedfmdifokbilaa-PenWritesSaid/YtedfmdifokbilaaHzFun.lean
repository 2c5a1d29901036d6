/- Code and functions. -/
import Derived.Test.YtedfmdifokbilaaHzTree
namespace Go.Hz

def compC (P : Program) (n : Nat) : Code → Option ACode
  | .skip => some .skip
  | .label _ => some .skip
  | .region _ ops draw => (compReg P n ops draw).bind fun l => treeR (l.length + 1) l
  | .seq a b => match compC P n a, compC P n b with
    | some x, some y => some (.seq x y)
    | _, _ => none
  | .cond c t f => match AE.of c, compC P n t, compC P n f with
    | some c', some x, some y => some (.cond c' x y)
    | _, _, _ => none
  | .block id b => (compC P n b).map (.block id)
  | .loop b => (compC P n b).map .loop
  | .exit id => some (.exit id)
  | .ret => some .ret
  | _ => none

section
variable {P : Program} {n : Nat} {Q : Exit → Act → World → Prop} {fz0 : Nat → Prop} {h0 : Hp} {w0 : World}

theorem compC_ok (hm : P.follows .mixedOrders = true) : ∀ (c : Code) (ac : ACode) (_ : compC P n c = some ac) (Q : Exit → Act → World → Prop) (kn kr : Env → Hp → Prop) (kx : Nat → Env → Hp → Prop)
    (_ : ∀ a w, Fin n fz0 h0 w0 kn a w → Q .normal a w) (_ : ∀ a w, Fin n fz0 h0 w0 kr a w → Q .ret a w) (_ : ∀ i a w, Fin n fz0 h0 w0 (kx i) a w → Q (.exit i) a w)
    (fz : Nat → Prop) (e : Env) (h : Hp) (a : Act) (w : World), St n fz e h a w → Ext fz0 h0 w0 fz h w → a.defers = [] → wpA P ac e h kn kr kx → c.wp P Q a w
  | .skip, ac, hc, Q, kn, kr, kx, qn, _, _, fz, e, h, a, w, hst, hx, hd, hh => by
    cases hc; exact wp_skip (qn _ _ ⟨fz, e, h, hst, hh, hx, hd⟩)
  | .label l, ac, hc, Q, kn, kr, kx, qn, _, _, fz, e, h, a, w, hst, hx, hd, hh => by
    cases hc; exact wp_label (qn _ _ ⟨fz, e, h, hst, hh, hx, hd⟩)
  | .exit id, ac, hc, Q, kn, kr, kx, _, _, qx, fz, e, h, a, w, hst, hx, hd, hh => by
    cases hc; exact wp_exit (qx _ _ _ ⟨fz, e, h, hst, hh, hx, hd⟩)
  | .ret, ac, hc, Q, kn, kr, kx, _, qr, _, fz, e, h, a, w, hst, hx, hd, hh => by
    cases hc; exact wp_ret (qr _ _ ⟨fz, e, h, hst, hh, hx, hd⟩)
  | .region id ops draw, ac, hc, Q, kn, kr, kx, qn, _, _, fz, e, h, a, w, hst, hx, hd, hh => by
    simp only [compC] at hc
    cases hl : compReg P n ops draw with
    | none => rw [hl] at hc; cases hc
    | some l =>
      rw [hl, Option.bind_some] at hc
      exact compReg_ok hm hl hst (treeR_ok _ _ _ _ _ _ hc hh) fun fz' e' h' a' w' k s x d => qn _ _ ⟨fz', e', h', s, k, hx.trans x, d.trans hd⟩
  | .seq x y, ac, hc, Q, kn, kr, kx, qn, qr, qx, fz, e, h, a, w, hst, hx, hd, hh => by
    simp only [compC] at hc
    split at hc <;> first | (cases hc; done) | skip
    rename_i ax ay h1 h2
    cases hc
    refine wp_seq (compC_ok hm x ax h1 (Exit.then (y.wp P Q) Q) (fun e h => wpA P ay e h kn kr kx) kr kx ?_ (fun a w hf => qr a w hf) (fun i a w hf => qx i a w hf) fz e h a w hst hx hd hh)
    rintro a w ⟨fz, e, h, hst, hk, hx, hd⟩
    exact compC_ok hm y ay h2 Q kn kr kx qn qr qx fz e h a w hst hx hd hk
  | .cond c x y, ac, hc, Q, kn, kr, kx, qn, qr, qx, fz, e, h, a, w, hst, hx, hd, hh => by
    simp only [compC] at hc
    split at hc <;> first | (cases hc; done) | skip
    rename_i c' ax ay hc' h1 h2
    cases hc
    obtain ⟨b, hb, ht, hf⟩ := hh
    have hv := AE.of_ok hc' hst.env
    rw [hb] at hv
    refine wp_cond_split hv.bool_inv (fun hbt => ?_) (fun hbf => ?_)
    · exact compC_ok hm x ax h1 Q kn kr kx qn qr qx fz e h a w hst hx hd (ht hbt)
    · exact compC_ok hm y ay h2 Q kn kr kx qn qr qx fz e h a w hst hx hd (hf hbf)
  | .block id b, ac, hc, Q, kn, kr, kx, qn, qr, qx, fz, e, h, a, w, hst, hx, hd, hh => by
    simp only [compC] at hc
    cases hl : compC P n b with
    | none => rw [hl] at hc; cases hc
    | some ab =>
      rw [hl] at hc
      cases hc
      refine wp_block (compC_ok hm b ab hl (Exit.inBlock id Q) kn kr (fun i e h => if i = id then kn e h else kx i e h) (fun a w hf => qn a w hf) (fun a w hf => qr a w hf) ?_ fz e h a w hst hx hd hh)
      intro i a w hf
      simp only [Exit.inBlock]
      split
      · rename_i hi
        subst hi
        refine qn a w ?_
        simpa using hf
      · rename_i hi
        refine qx i a w ?_
        simpa [hi] using hf
  | .loop b, ac, hc, Q, kn, kr, kx, qn, qr, qx, fz, e, h, a, w, hst, hx, hd, hh => by
    simp only [compC] at hc
    cases hl : compC P n b with
    | none => rw [hl] at hc; cases hc
    | some ab =>
      rw [hl] at hc
      cases hc
      obtain ⟨I, μ, hI, hround⟩ := hh
      have key : ∀ m (b0 : Frame) (k : List Go.Item) (cs : List Frame) fz e h a w, μ e h = m → I e h → St n fz e h a w → Ext fz0 h0 w0 fz h w → a.defers = [] →
          ∃ e a' w', Q e a' w' ∧ Arrives P (lone (b0.at a (.code b :: .inLoop b :: k)) cs w) b0 k cs e a' w' := by
        intro m
        induction m using Nat.strongRecOn with
        | _ m ih =>
          intro b0 k cs fz e h a w hm' hI hst hx hd
          obtain ⟨ex, a₁, w₁, hq, harr⟩ := compC_ok hm b ab hl (Exit.then (fun a' w' => Fin n fz0 h0 w0 (fun e' h' => I e' h' ∧ μ e' h' < μ e h) a' w') Q) (fun e' h' => I e' h' ∧ μ e' h' < μ e h) kr kx
            (fun a w hf => hf) (fun a w hf => qr a w hf) (fun i a w hf => qx i a w hf) fz e h a w hst hx hd (hround e h hI) b0 (.inLoop b :: k) cs
          cases ex with
          | normal =>
            obtain ⟨fz1, e1, h1, hst1, ⟨hI1, hlt⟩, hx1, hd1⟩ := hq
            obtain ⟨e₂, a₂, w₂, hq₂, harr₂⟩ := ih (μ e1 h1) (hm' ▸ hlt) b0 k cs fz1 e1 h1 a₁ w₁ rfl hI1 hst1 hx1 hd1
            exact ⟨e₂, a₂, w₂, hq₂, .of_steps (Steps.trans harr (.one step_inLoop)) harr₂⟩
          | exit id => exact ⟨_, a₁, w₁, hq, .pass (x := .inLoop b) rfl (fun _ _ => .inl (by simp)) harr⟩
          | goto l => exact ⟨_, a₁, w₁, hq, .pass (x := .inLoop b) rfl (fun _ _ => .inl (by simp)) harr⟩
          | ret => exact ⟨_, a₁, w₁, hq, .pass (x := .inLoop b) rfl (fun _ _ => .inl (by simp)) harr⟩
          | panic ch => exact ⟨_, a₁, w₁, hq, .pass (x := .inLoop b) rfl (fun _ _ => .inl (by simp)) harr⟩
          | outgrown => exact ⟨_, a₁, w₁, hq, .pass (x := .inLoop b) rfl (fun _ _ => .inl (by simp)) harr⟩
      intro b0 k cs
      obtain ⟨e', a', w', hq, harr⟩ := key _ b0 k cs fz e h a w rfl hI hst hx hd
      exact ⟨e', a', w', hq, .of_steps (.one step_loop) harr⟩
  | .rangeFunc _ _ _ _, _, hc, _, _, _, _, _, _, _, _, _, _, _, _, _, _, _, _ => by cases hc
  | .scope _, _, hc, _, _, _, _, _, _, _, _, _, _, _, _, _, _, _, _ => by cases hc
  | .goto _, _, hc, _, _, _, _, _, _, _, _, _, _, _, _, _, _, _, _ => by cases hc
  | .refuse _, _, hc, _, _, _, _, _, _, _, _, _, _, _, _, _, _, _, _ => by cases hc

end

/-- A function: how many slots, its code, the slots of its results. -/
structure AFun where
  n : Nat
  code : ACode
  res : List Nat

def resOf : List ResultVar → Option (List Nat)
  | [] => some []
  | .tmp t :: l => (resOf l).map (t :: ·)
  | .cell _ _ :: _ => none

def compF (P : Program) (fn : Func) : Option AFun :=
  match fn.body with
  | some c => match compC P fn.ntmps c, resOf fn.results.toList with
    | some ac, some rs => some ⟨fn.ntmps, ac, rs⟩
    | _, _ => none
  | none => none

def resV (res : List Nat) (e : Env) : AV :=
  match res with
  | [t] => e t
  | ts => .tup (ts.map e)

def initE (args : List AV) : Env := fun t => args.getD t (.tup [])

theorem resOf_ok : ∀ {l : List ResultVar} {rs : List Nat}, resOf l = some rs → l = rs.map .tmp
  | [], rs, h => by cases h; rfl
  | .tmp t :: l, rs, h => by
    simp only [resOf] at h
    cases hl : resOf l with
    | none => rw [hl] at h; cases h
    | some rs' => rw [hl] at h; cases h; rw [resOf_ok hl]; rfl
  | .cell _ _ :: _, _, h => by cases h

theorem results_run {fn : Func} {rs : List Nat} (h : resOf fn.results.toList = some rs) {P : Program} {fz : Nat → Prop} {w : World} {e : Env} {tmps : Array Value} (he : EnvR fz w.heap e tmps) :
    ∃ cv, (results fn tmps).run P w = .ok cv w ∧ VR fz w.heap (resV rs e) cv := by
  have h1 := resOf_ok h
  have h2 : fn.results = (rs.map ResultVar.tmp).toArray := by
    rw [← h1]
  have hm : ∀ (l : List Nat), ((l.map ResultVar.tmp).mapM fun (r : ResultVar) => (match r with
      | .tmp t => pure (tmps.getD t undef)
      | .cell a t => do loadVar t (← asAddr (tmps.getD a undef)) : Sem Value)).run P w = .ok (l.map fun t => tmps.getD t undef) w := by
    intro l
    induction l with
    | nil => rfl
    | cons t l ih =>
      rw [List.map_cons, List.mapM_cons, run_bind, run_pure, Result.andThen_ok, run_bind, ih]
      rfl
  have hvs : VRs fz w.heap (rs.map e) (rs.map fun t => tmps.getD t undef) := by
    refine ⟨by simp, fun i h1 h2 => ?_⟩
    simp only [List.getElem_map]
    exact he _
  have key : (results fn tmps).run P w = (pure (if h : (rs.map fun t => tmps.getD t undef).toArray.size = 1 then (rs.map fun t => tmps.getD t undef).toArray[0] else .tuple (rs.map fun t => tmps.getD t undef).toArray) : Sem Value).run P w := by
    unfold results
    rw [h2, run_bind, List.mapM_toArray, Sem.run_map]
    exact congrArg (fun r : Result (List Value) => (r.andThen fun a w' => (.ok a.toArray w' : Result (Array Value))).andThen fun vs w' => (pure (if h : vs.size = 1 then vs[0] else .tuple vs) : Sem Value).run P w') (hm rs)
  rw [key]
  match rs, hvs with
  | [], _ => exact ⟨.tuple #[], rfl, .tup [] #[] rfl fun i h => by simp at h⟩
  | [t], hvs => exact ⟨tmps.getD t undef, rfl, he t⟩
  | t :: u :: rs, hvs =>
    refine ⟨.tuple ((t :: u :: rs).map fun t => tmps.getD t undef).toArray, ?_, ?_⟩
    · simp
    · exact .tup _ _ (by simp) fun i h3 h4 => by simpa using hvs.2 i h3 (by simpa using h4)

theorem triple_of {P : Program} {f : FuncId} {fn : Func} {F : AFun} {args : List AV} {h : Hp} {post : AV → Hp → Prop} (hm : P.follows .mixedOrders = true) (hf : P.funcs[f]? = some fn) (hF : compF P fn = some F) (hn : args.length ≤ F.n)
    (hh : wpA P F.code (initE args) h (fun e h' => post (resV F.res e) h') (fun e h' => post (resV F.res e) h') (fun _ _ _ => False)) : Triple P f args h post := by
  intro fz w cargs hr ha
  unfold compF at hF
  split at hF <;> first | (cases hF; done) | skip
  rename_i c hb
  split at hF <;> first | (cases hF; done) | skip
  rename_i ac rs hac hrs
  cases hF
  have hlen := ha.1
  simp only [Array.length_toList] at hlen
  simp only at hn
  refine calls_of_wp hf hb ?_
  have fin : ∀ a w', Fin fn.ntmps fz h w (fun e h' => post (resV rs e) h') a w' → a.defers = [] ∧ ∃ v, (results fn a.tmps).run P w' = .ok v w' ∧
      ∃ cv r h' fz', Ending.returned v = .returned cv ∧ VR fz' w'.heap r cv ∧ Rel fz' h' w' ∧ Ext fz h w fz' h' w' ∧ post r h' := by
    rintro a w' ⟨fz', e, h', hst, hk, hx, hd⟩
    obtain ⟨cv, h1, h2⟩ := results_run hrs (P := P) hst.env
    exact ⟨hd, cv, h1, cv, _, h', fz', rfl, h2, hst.rel, hx, hk⟩
  refine compC_ok hm c ac hac _ _ _ _ (fun a w' hf => fin a w' hf) (fun a w' hf => fin a w' hf) (fun i a w' hf => ?_) fz (initE args) h _ w ⟨?_, ?_, hr⟩ (Ext.refl _ _ _) rfl hh
  · obtain ⟨_, _, _, _, hk, _⟩ := hf; exact hk.elim
  · simp; omega
  · intro t
    simp only [initE, List.getD_eq_getElem?_getD]
    by_cases ht : t < args.length
    · have h1 : t < (cargs ++ Array.replicate (fn.ntmps - cargs.size) undef).size := by simp; omega
      rw [List.getElem?_eq_getElem ht, Option.getD_some, Array.getD_eq_getD_getElem?, Array.getElem?_eq_getElem h1, Option.getD_some, Array.getElem_append_left (by omega)]
      have := ha.2 t ht (by simp; omega)
      simpa using this
    · rw [List.getElem?_eq_none (by omega), Option.getD_none]
      have : (cargs ++ Array.replicate (fn.ntmps - cargs.size) undef).getD t undef = undef := by
        rw [Array.getD_eq_getD_getElem?, Array.getElem?_append_right (by omega), Array.getElem?_replicate]
        split <;> rfl
      rw [this]
      exact .tup [] #[] rfl fun i h => by simp at h

end Go.Hz
