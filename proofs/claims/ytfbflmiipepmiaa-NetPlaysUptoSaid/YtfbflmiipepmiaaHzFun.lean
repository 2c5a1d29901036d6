/- Code and functions. -/
import Derived.Test.YtfbflmiipepmiaaHzTree
namespace Go.Hz

def compC (P : Program) (n : Nat) : Code → Option ACode
  | .skip => some .skip
  | .label _ => some .skip
  | .region _ ops draw => (compReg P n ops draw).bind fun l => treeR (l.length + 1) l
  | .seq a b => match compC P n a, compC P n b with
    | some x, some y => some (.seq x y)
    | _, _ => none
  | .cond c t f => match AE.of c, compC P n t, compC P n f with
    | some c', some x, some y => some (.cond c' x y)
    | _, _, _ => none
  | .block id b => (compC P n b).map (.block id)
  | .loop b => (compC P n b).map .loop
  | .exit id => some (.exit id)
  | .ret => some .ret
  | _ => none

section
variable {P : Program} {n : Nat} {Q : Exit → Act → World → Prop} {fz0 : Nat → Prop} {h0 : Hp} {w0 : World}

theorem compC_ok (hm : P.follows .mixedOrders = true) : ∀ (c : Code) (ac : ACode) (_ : compC P n c = some ac) (Q : Exit → Act → World → Prop) (kn kr : Env → Hp → Prop) (kx : Nat → Env → Hp → Prop)
    (_ : ∀ a w, Fin n fz0 h0 w0 kn a w → Q .normal a w) (_ : ∀ a w, Fin n fz0 h0 w0 kr a w → Q .ret a w) (_ : ∀ i a w, Fin n fz0 h0 w0 (kx i) a w → Q (.exit i) a w)
    (fz : Nat → Prop) (e : Env) (h : Hp) (a : Act) (w : World), St n fz e h a w → Ext fz0 h0 w0 fz h w → a.defers = [] → wpA P ac e h kn kr kx → c.wp P Q a w
  | .skip, ac, hc, Q, kn, kr, kx, qn, _, _, fz, e, h, a, w, hst, hx, hd, hh => by
    cases hc; exact wp_skip (qn _ _ ⟨fz, e, h, hst, hh, hx, hd⟩)
  | .label l, ac, hc, Q, kn, kr, kx, qn, _, _, fz, e, h, a, w, hst, hx, hd, hh => by
    cases hc; exact wp_label (qn _ _ ⟨fz, e, h, hst, hh, hx, hd⟩)
  | .exit id, ac, hc, Q, kn, kr, kx, _, _, qx, fz, e, h, a, w, hst, hx, hd, hh => by
    cases hc; exact wp_exit (qx _ _ _ ⟨fz, e, h, hst, hh, hx, hd⟩)
  | .ret, ac, hc, Q, kn, kr, kx, _, qr, _, fz, e, h, a, w, hst, hx, hd, hh => by
    cases hc; exact wp_ret (qr _ _ ⟨fz, e, h, hst, hh, hx, hd⟩)
  | .region id ops draw, ac, hc, Q, kn, kr, kx, qn, _, _, fz, e, h, a, w, hst, hx, hd, hh => by
    simp only [compC] at hc
    cases hl : compReg P n ops draw with
    | none => rw [hl] at hc; cases hc
    | some l =>
      rw [hl, Option.bind_some] at hc
      exact compReg_ok hm hl hst (treeR_ok _ _ _ _ _ _ hc hh) fun fz' e' h' a' w' k s x d => qn _ _ ⟨fz', e', h', s, k, hx.trans x, d.trans hd⟩
  | .seq x y, ac, hc, Q, kn, kr, kx, qn, qr, qx, fz, e, h, a, w, hst, hx, hd, hh => by
    simp only [compC] at hc
    split at hc <;> first | (cases hc; done) | skip
    rename_i ax ay h1 h2
    cases hc
    refine wp_seq (compC_ok hm x ax h1 (Exit.then (y.wp P Q) Q) (fun e h => wpA P ay e h kn kr kx) kr kx ?_ (fun a w hf => qr a w hf) (fun i a w hf => qx i a w hf) fz e h a w hst hx hd hh)
    rintro a w ⟨fz, e, h, hst, hk, hx, hd⟩
    exact compC_ok hm y ay h2 Q kn kr kx qn qr qx fz e h a w hst hx hd hk
  | .cond c x y, ac, hc, Q, kn, kr, kx, qn, qr, qx, fz, e, h, a, w, hst, hx, hd, hh => by
    simp only [compC] at hc
    split at hc <;> first | (cases hc; done) | skip
    rename_i c' ax ay hc' h1 h2
    cases hc
    obtain ⟨b, hb, ht, hf⟩ := hh
    have hv := AE.of_ok hc' hst.env
    rw [hb] at hv
    refine wp_cond_split hv.bool_inv (fun hbt => ?_) (fun hbf => ?_)
    · exact compC_ok hm x ax h1 Q kn kr kx qn qr qx fz e h a w hst hx hd (ht hbt)
    · exact compC_ok hm y ay h2 Q kn kr kx qn qr qx fz e h a w hst hx hd (hf hbf)
  | .block id b, ac, hc, Q, kn, kr, kx, qn, qr, qx, fz, e, h, a, w, hst, hx, hd, hh => by
    simp only [compC] at hc
    cases hl : compC P n b with
    | none => rw [hl] at hc; cases hc
    | some ab =>
      rw [hl] at hc
      cases hc
      refine wp_block (compC_ok hm b ab hl (Exit.inBlock id Q) kn kr (fun i e h => if i = id then kn e h else kx i e h) (fun a w hf => qn a w hf) (fun a w hf => qr a w hf) ?_ fz e h a w hst hx hd hh)
      intro i a w hf
      simp only [Exit.inBlock]
      split
      · rename_i hi
        subst hi
        refine qn a w ?_
        simpa using hf
      · rename_i hi
        refine qx i a w ?_
        simpa [hi] using hf
  | .loop b, ac, hc, Q, kn, kr, kx, qn, qr, qx, fz, e, h, a, w, hst, hx, hd, hh => by
    simp only [compC] at hc
    cases hl : compC P n b with
    | none => rw [hl] at hc; cases hc
    | some ab =>
      rw [hl] at hc
      cases hc
      obtain ⟨I, μ, hI, hround⟩ := hh
      have key : ∀ m (b0 : Frame) (k : List Go.Item) (cs : List Frame) fz e h a w, μ e h = m → I e h → St n fz e h a w → Ext fz0 h0 w0 fz h w → a.defers = [] →
          ∃ e a' w', Q e a' w' ∧ Arrives P (lone (b0.at a (.code b :: .inLoop b :: k)) cs w) b0 k cs e a' w' := by
        intro m
        induction m using Nat.strongRecOn with
        | _ m ih =>
          intro b0 k cs fz e h a w hm' hI hst hx hd
          obtain ⟨ex, a₁, w₁, hq, harr⟩ := compC_ok hm b ab hl (Exit.then (fun a' w' => Fin n fz0 h0 w0 (fun e' h' => I e' h' ∧ μ e' h' < μ e h) a' w') Q) (fun e' h' => I e' h' ∧ μ e' h' < μ e h) kr kx
            (fun a w hf => hf) (fun a w hf => qr a w hf) (fun i a w hf => qx i a w hf) fz e h a w hst hx hd (hround e h hI) b0 (.inLoop b :: k) cs
          cases ex with
          | normal =>
            obtain ⟨fz1, e1, h1, hst1, ⟨hI1, hlt⟩, hx1, hd1⟩ := hq
            obtain ⟨e₂, a₂, w₂, hq₂, harr₂⟩ := ih (μ e1 h1) (hm' ▸ hlt) b0 k cs fz1 e1 h1 a₁ w₁ rfl hI1 hst1 hx1 hd1
            exact ⟨e₂, a₂, w₂, hq₂, .of_steps (Steps.trans harr (.one step_inLoop)) harr₂⟩
          | exit id => exact ⟨_, a₁, w₁, hq, .pass (x := .inLoop b) rfl (fun _ _ => .inl (by simp)) harr⟩
          | goto l => exact ⟨_, a₁, w₁, hq, .pass (x := .inLoop b) rfl (fun _ _ => .inl (by simp)) harr⟩
          | ret => exact ⟨_, a₁, w₁, hq, .pass (x := .inLoop b) rfl (fun _ _ => .inl (by simp)) harr⟩
          | panic ch => exact ⟨_, a₁, w₁, hq, .pass (x := .inLoop b) rfl (fun _ _ => .inl (by simp)) harr⟩
          | outgrown => exact ⟨_, a₁, w₁, hq, .pass (x := .inLoop b) rfl (fun _ _ => .inl (by simp)) harr⟩
      intro b0 k cs
      obtain ⟨e', a', w', hq, harr⟩ := key _ b0 k cs fz e h a w rfl hI hst hx hd
      exact ⟨e', a', w', hq, .of_steps (.one step_loop) harr⟩
  | .rangeFunc _ _ _ _, _, hc, _, _, _, _, _, _, _, _, _, _, _, _, _, _, _, _ => by cases hc
  | .scope _, _, hc, _, _, _, _, _, _, _, _, _, _, _, _, _, _, _, _ => by cases hc
  | .goto _, _, hc, _, _, _, _, _, _, _, _, _, _, _, _, _, _, _, _ => by cases hc
  | .refuse _, _, hc, _, _, _, _, _, _, _, _, _, _, _, _, _, _, _, _ => by cases hc

end

/-- Where a result stands: in a slot, or in memory. -/
inductive ARes where
  | tmp (t : Nat)
  | cell (a sz : Nat) (ag : Bool)

/-- A function: how many slots, its code, where its results stand. -/
structure AFun where
  n : Nat
  code : ACode
  res : List ARes

def resOf (P : Program) : List ResultVar → Option (List ARes)
  | [] => some []
  | .tmp t :: l => (resOf P l).map (.tmp t :: ·)
  | .cell a t :: l => match P.underlying t, P.info? t, resOf P l with
    | some d, some i, some rs => some (.cell a i.size d.isAg :: rs)
    | _, _, _ => none

def compF (P : Program) (fn : Func) : Option AFun :=
  match fn.body with
  | some c => match compC P fn.ntmps c, resOf P fn.results.toList with
    | some ac, some rs => some ⟨fn.ntmps, ac, rs⟩
    | _, _ => none
  | none => none

def resA (e : Env) (h : Hp) : ARes → Option AV
  | .tmp t => some (e t)
  | .cell a sz ag => ldA sz ag h (e a)
def resL (e : Env) (h : Hp) : List ARes → Option (List AV)
  | [] => some []
  | r :: l => (resA e h r).bind fun v => (resL e h l).map (v :: ·)
/-- What is then answered. -/
def resK (rs : List ARes) (e : Env) (h : Hp) (K : AV → Hp → Prop) : Prop :=
  match rs with
  | [r] => ∃ v, resA e h r = some v ∧ K v h
  | rs => ∃ vs, resL e h rs = some vs ∧ K (.tup vs) h

def initE (args : List AV) : Env := fun t => args.getD t (.tup [])

theorem resL_run {P : Program} {fz : Nat → Prop} {w : World} {e : Env} {h : Hp} {tmps : Array Value} (he : EnvR fz w.heap e tmps) (hr : Rel fz h w) : ∀ {l : List ResultVar} {rs : List ARes} {vs : List AV}, resOf P l = some rs → resL e h rs = some vs →
    ∃ cvs, (l.mapM fun (r : ResultVar) => (match r with
      | .tmp t => pure (tmps.getD t undef)
      | .cell a t => do loadVar t (← asAddr (tmps.getD a undef)) : Sem Value)).run P w = .ok cvs w ∧ VRs fz w.heap vs cvs
  | [], _, _, h1, h2 => by
    cases h1
    cases h2
    exact ⟨[], rfl, VRs.nil⟩
  | .tmp t :: l, rs, vs, h1, h2 => by
    simp only [resOf] at h1
    cases hl : resOf P l with
    | none => rw [hl] at h1; cases h1
    | some rs' =>
      rw [hl] at h1
      cases h1
      simp only [resL, resA, Option.bind_some] at h2
      cases hv : resL e h rs' with
      | none => rw [hv] at h2; cases h2
      | some vs' =>
        rw [hv] at h2
        cases h2
        obtain ⟨cvs, g1, g2⟩ := resL_run he hr hl hv
        refine ⟨tmps.getD t undef :: cvs, ?_, VRs.cons (he t) g2⟩
        rw [List.mapM_cons, run_bind, run_pure, Result.andThen_ok, run_bind, g1]
        rfl
  | .cell a t :: l, rs, vs, h1, h2 => by
    simp only [resOf] at h1
    split at h1 <;> first | (cases h1; done) | skip
    rename_i d i rs' hd hi hl
    cases h1
    simp only [resL, resA] at h2
    cases hv0 : ldA i.size d.isAg h (e a) with
    | none => rw [hv0] at h2; cases h2
    | some v =>
      rw [hv0, Option.bind_some] at h2
      cases hv : resL e h rs' with
      | none => rw [hv] at h2; cases h2
      | some vs' =>
        rw [hv] at h2
        cases h2
        obtain ⟨cvs, g1, g2⟩ := resL_run he hr hl hv
        unfold ldA at hv0
        split at hv0 <;> first | (cases hv0; done) | skip
        rename_i cs hcs
        obtain ⟨b, o', q2, q3⟩ := cellsAt_ok hr (he a) hcs
        obtain ⟨cv, q4, q5⟩ := loadVar_run (P := P) q3 hd hi hv0
        refine ⟨cv :: cvs, ?_, VRs.cons q5 g2⟩
        rw [List.mapM_cons, run_bind]
        simp only [q2]
        have q6 : (do loadVar t (← asAddr (.pointer (some ⟨b, o', none⟩))) : Sem Value).run P w = .ok cv w := by
          simpa [asAddr] using q4
        rw [q6, Result.andThen_ok, run_bind, g1]
        rfl

theorem results_run {fn : Func} {P : Program} {rs : List ARes} (h : resOf P fn.results.toList = some rs) {fz : Nat → Prop} {w : World} {e : Env} {hp : Hp} {tmps : Array Value} (he : EnvR fz w.heap e tmps) (hr : Rel fz hp w) {K : AV → Hp → Prop} (hk : resK rs e hp K) :
    ∃ v cv, (results fn tmps).run P w = .ok cv w ∧ VR fz w.heap v cv ∧ K v hp := by
  have fin : ∀ vs, resL e hp rs = some vs → ∃ cvs, (results fn tmps).run P w = (pure (if h : cvs.toArray.size = 1 then cvs.toArray[0] else .tuple cvs.toArray) : Sem Value).run P w ∧ VRs fz w.heap vs cvs := by
    intro vs hvs
    obtain ⟨cvs, g1, g2⟩ := resL_run he hr h hvs
    refine ⟨cvs, ?_, g2⟩
    unfold results
    have h2 : fn.results = fn.results.toList.toArray := by simp
    rw [h2, run_bind, List.mapM_toArray, Sem.run_map]
    exact congrArg (fun r : Result (List Value) => (r.andThen fun a w' => (.ok a.toArray w' : Result (Array Value))).andThen fun vs w' => (pure (if h : vs.size = 1 then vs[0] else .tuple vs) : Sem Value).run P w') g1
  match rs, hk, fin with
  | [r], ⟨v, h1, h2⟩, fin =>
    obtain ⟨cvs, g1, g2⟩ := fin [v] (by simp [resL, h1])
    match cvs, g1, g2 with
    | [cv], g1, g2 => exact ⟨v, cv, by rw [g1]; rfl, g2.2 0 (by simp) (by simp), h2⟩
    | [], _, g2 => exact absurd g2.1 (by simp)
    | _ :: _ :: _, _, g2 => exact absurd g2.1 (by simp)
  | [], ⟨vs, h1, h2⟩, fin =>
    cases h1
    obtain ⟨cvs, g1, g2⟩ := fin [] rfl
    match cvs, g1, g2 with
    | [], g1, g2 => exact ⟨.tup [], .tuple #[], by rw [g1]; rfl, .tup [] #[] rfl fun i h => by simp at h, h2⟩
    | _ :: _, _, g2 => exact absurd g2.1 (by simp)
  | r :: r' :: rs, ⟨vs, h1, h2⟩, fin =>
    obtain ⟨cvs, g1, g2⟩ := fin vs h1
    have hlen : 2 ≤ vs.length := by
      simp only [resL] at h1
      cases ha : resA e hp r with
      | none => rw [ha] at h1; cases h1
      | some a =>
        cases hb : resA e hp r' with
        | none => rw [ha, hb] at h1; simp at h1
        | some b =>
          cases hl : resL e hp rs with
          | none => rw [ha, hb, hl] at h1; simp at h1
          | some l => rw [ha, hb, hl] at h1; cases h1; simp
    have hl2 := g2.1
    refine ⟨.tup vs, .tuple cvs.toArray, ?_, .tup _ _ (by simpa using hl2) fun i h3 h4 => by simpa using g2.2 i h3 (by simpa using h4), h2⟩
    rw [g1, dif_neg (by simp; omega)]
    rfl

theorem triple_of {P : Program} {f : FuncId} {fn : Func} {F : AFun} {args : List AV} {h : Hp} {post : AV → Hp → Prop} (hm : P.follows .mixedOrders = true) (hf : P.funcs[f]? = some fn) (hF : compF P fn = some F) (hn : args.length ≤ F.n)
    (hh : wpA P F.code (initE args) h (fun e h' => resK F.res e h' post) (fun e h' => resK F.res e h' post) (fun _ _ _ => False)) : Triple P f args h post := by
  intro fz w cargs hr ha
  unfold compF at hF
  split at hF <;> first | (cases hF; done) | skip
  rename_i c hb
  split at hF <;> first | (cases hF; done) | skip
  rename_i ac rs hac hrs
  cases hF
  have hlen := ha.1
  simp only [Array.length_toList] at hlen
  simp only at hn
  refine calls_of_wp hf hb ?_
  have fin : ∀ a w', Fin fn.ntmps fz h w (fun e h' => resK rs e h' post) a w' → a.defers = [] ∧ ∃ v, (results fn a.tmps).run P w' = .ok v w' ∧
      ∃ cv r h' fz', Ending.returned v = .returned cv ∧ VR fz' w'.heap r cv ∧ Rel fz' h' w' ∧ Ext fz h w fz' h' w' ∧ post r h' := by
    rintro a w' ⟨fz', e, h', hst, hk, hx, hd⟩
    obtain ⟨v, cv, h1, h2, h3⟩ := results_run hrs (P := P) hst.env hst.rel hk
    exact ⟨hd, cv, h1, cv, v, h', fz', rfl, h2, hst.rel, hx, h3⟩
  refine compC_ok hm c ac hac _ _ _ _ (fun a w' hf => fin a w' hf) (fun a w' hf => fin a w' hf) (fun i a w' hf => ?_) fz (initE args) h _ w ⟨?_, ?_, hr⟩ (Ext.refl _ _ _) rfl hh
  · obtain ⟨_, _, _, _, hk, _⟩ := hf; exact hk.elim
  · simp; omega
  · intro t
    simp only [initE, List.getD_eq_getElem?_getD]
    by_cases ht : t < args.length
    · have h1 : t < (cargs ++ Array.replicate (fn.ntmps - cargs.size) undef).size := by simp; omega
      rw [List.getElem?_eq_getElem ht, Option.getD_some, Array.getD_eq_getD_getElem?, Array.getElem?_eq_getElem h1, Option.getD_some, Array.getElem_append_left (by omega)]
      have := ha.2 t ht (by simp; omega)
      simpa using this
    · rw [List.getElem?_eq_none (by omega), Option.getD_none]
      have : (cargs ++ Array.replicate (fn.ntmps - cargs.size) undef).getD t undef = undef := by
        rw [Array.getD_eq_getD_getElem?, Array.getElem?_append_right (by omega), Array.getElem?_replicate]
        split <;> rfl
      rw [this]
      exact .tup [] #[] rfl fun i h => by simp at h

end Go.Hz
