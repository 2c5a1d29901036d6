/- What the model's operations are turned into does what they do. -/
import Derived.Test.YtfbflmiipepmiaaHzCode
namespace Go.Hz
section
variable {P : Program} {o : Oper} {ao : AOp}

theorem okFn_ok {f : FuncId} (h : okFn P f = true) : FnOK P f := by
  unfold okFn at h
  split at h
  · rename_i fn hf
    simp only [Bool.and_eq_true, bne_iff_ne, ne_eq] at h
    exact ⟨fn, hf, h.1, h.2⟩
  · cases h

theorem nkOf_fits {d : TypeDesc} {k : NK} (h : nkOf d = some k) : k.fits d = true := by
  cases d <;> simp [nkOf] at h <;> subst h <;> rfl

theorem compBuiltin_ok {b : Builtin} {args ats : Array _} (ho : o.op = .call { callee := .builtin b, args, argTypes := ats }) (h : compBuiltin P b args.toList ats = some ao) : OpOK P o (ao.sm P) := by
  have harr : ∀ l : List Operand, args.toList = l → args = l.toArray := fun l hl => by rw [← hl]
  unfold compBuiltin at h
  split at h
  · rename_i x heq
    have ha := harr _ heq
    subst ha
    split at h <;> first | (cases h; done) | skip
    rename_i x' t hx ht
    split at h <;> first | (cases h; done) | skip
    · rename_i hd; cases h; exact sim_lenS ho ht hd hx
    · rename_i hd; cases h; exact sim_lenL ho ht hd hx
  · rename_i x heq
    have ha := harr _ heq
    subst ha
    split at h <;> first | (cases h; done) | skip
    rename_i x' t hx ht
    split at h <;> first | (cases h; done) | skip
    rename_i hd; cases h; exact sim_capL ho ht hd hx
  · rename_i x y heq
    have ha := harr _ heq
    subst ha
    split at h <;> first | (cases h; done) | skip
    rename_i x' y' hx hy
    cases h
    exact sim_mm (mx := true) ho hx hy
  · rename_i x y heq
    have ha := harr _ heq
    subst ha
    split at h <;> first | (cases h; done) | skip
    rename_i x' y' hx hy
    cases h
    exact sim_mm (mx := false) ho hx hy
  · rename_i x y heq
    have ha := harr _ heq
    subst ha
    split at h <;> first | (cases h; done) | skip
    rename_i x' y' xt yt hx hy hxt hyt
    split at h <;> first | (cases h; done) | skip
    rename_i el dy hd hdy
    split at h <;> first | (cases h; done) | skip
    rename_i i hi
    split at h <;> first | (cases h; done) | skip
    rename_i z hz
    split at h <;> first | (cases h; done) | skip
    rename_i hc
    split at h
    · split at h <;> first | (cases h; done) | skip
      rename_i zs hzs
      split at h <;> first | (cases h; done) | skip
      rename_i hsz
      cases h
      exact sim_appz ho hxt hyt hd hdy hi hz hzs hsz hc.2 hx hy
    · rename_i hni
      cases h
      exact sim_app ho hxt hyt hd hdy (fun k hk => hni k hk) hi hz hc.1 hc.2 hx hy
  · rename_i x y heq
    have ha := harr _ heq
    subst ha
    split at h <;> first | (cases h; done) | skip
    rename_i x' y' xt hx hy hxt
    split at h <;> first | (cases h; done) | skip
    rename_i el hd
    split at h <;> first | (cases h; done) | skip
    rename_i i hi
    cases h
    exact sim_copy ho hxt hd hi hx hy
  · rename_i x heq
    have ha := harr _ heq
    subst ha
    split at h <;> first | (cases h; done) | skip
    rename_i x' xt hx hxt
    split at h <;> first | (cases h; done) | skip
    rename_i el hd
    split at h <;> first | (cases h; done) | skip
    rename_i i hi
    split at h <;> first | (cases h; done) | skip
    rename_i z hz
    split at h <;> first | (cases h; done) | skip
    rename_i zs hzs
    split at h <;> first | (cases h; done) | skip
    rename_i hc
    cases h
    exact sim_clear ho hxt hd hi hz hzs hc.1 hc.2 hx
  · cases h

theorem omap {α : Type} {x : Option α} {f : α → AOp} (h : x.map f = some ao) : ∃ a, x = some a ∧ f a = ao := by
  cases x with
  | none => cases h
  | some a => exact ⟨a, rfl, Option.some.inj h⟩

theorem compOp_ok (h : compOp P o = some ao) : OpOK P o (ao.sm P) := by
  unfold compOp at h
  split at h
  · rename_i x ho; obtain ⟨x', hx, rfl⟩ := omap h; exact sim_mv (.inl ho) hx
  · rename_i x ho; obtain ⟨x', hx, rfl⟩ := omap h; exact sim_mv (.inr ho) hx
  · rename_i c a b ho
    split at h <;> first | (cases h; done) | skip
    rename_i c' a' b' hc ha hb
    cases h; exact sim_pick ho hc ha hb
  · rename_i op t x y t' ho
    split at h <;> first | (cases h; done) | skip
    rename_i x' y' d hx hy hd
    split at h
    · cases h; exact sim_bin ho hx hy
    · cases h; exact sim_bin ho hx hy
    · split at h
      · rename_i k hk
        split at h <;> first | (cases h; done) | skip
        rename_i hc
        cases h
        exact sim_eqn (neg := false) ho hd (nkOf_fits hk) hx hy (by
          rcases hc with hc | hc
          · left; cases y <;> first | rfl | cases hc
          · right; cases k <;> first | rfl | cases hc)
      · rename_i k hk
        split at h <;> first | (cases h; done) | skip
        rename_i hc
        cases h
        exact sim_eqn (neg := true) ho hd (nkOf_fits hk) hx hy (by
          rcases hc with hc | hc
          · left; cases y <;> first | rfl | cases hc
          · right; cases k <;> first | rfl | cases hc)
      · cases h
  · rename_i op t x ho; obtain ⟨x', hx, rfl⟩ := omap h; exact sim_un ho hx
  · rename_i s d x ho
    split at h <;> first | (cases h; done) | skip
    rename_i x' ds dd hx hs hd
    split at h
    · cases h; exact sim_cvs ho hs hd hx
    · split at h <;> first | (cases h; done) | skip
      rename_i he
      cases h; exact sim_strb ho hs hd he hx
    · split at h <;> first | (cases h; done) | skip
      rename_i he
      cases h; exact sim_bstr ho hs hd he hx
    · cases h; exact sim_cvi ho hs hd hx
    · split at h <;> first | (cases h; done) | skip
      rename_i hsd
      subst hsd
      split at h <;> first | (cases h; done) | skip
      rename_i he
      cases h; exact sim_cvb ho hs he hx
    · cases h
  · rename_i x ho; obtain ⟨x', hx, rfl⟩ := omap h; exact sim_nilck ho hx
  · rename_i s x n ho
    split at h <;> first | (cases h; done) | skip
    rename_i x' fs hx hs
    split at h <;> first | (cases h; done) | skip
    rename_i fl hf
    split at h <;> first | (cases h; done) | skip
    rename_i i hi
    split at h <;> first | (cases h; done) | skip
    rename_i h0
    cases h; exact sim_fa ho hs hf hi h0 hx
  · rename_i s x n ho
    split at h <;> first | (cases h; done) | skip
    rename_i x' fs hx hs
    split at h <;> first | (cases h; done) | skip
    rename_i fl hf
    split at h <;> first | (cases h; done) | skip
    rename_i i d hi hd
    cases h; exact sim_fld ho hs hf hd hi hx
  · rename_i t x i ho
    split at h <;> first | (cases h; done) | skip
    · rename_i x' i' hx hi ht
      cases h; exact sim_ixs ho ht hx hi
    · rename_i x' i' n el hx hi ht
      split at h <;> first | (cases h; done) | skip
      rename_i inf d hinf hd
      cases h; exact sim_ixa ho ht hinf hd hx hi
  · rename_i t x i ho
    split at h <;> first | (cases h; done) | skip
    · rename_i x' i' el hx hi ht
      split at h <;> first | (cases h; done) | skip
      rename_i inf hinf
      cases h; exact sim_ia ho ht hinf hx hi
    · rename_i x' i' n el hx hi ht
      split at h <;> first | (cases h; done) | skip
      rename_i inf hinf
      cases h; exact sim_iap ho ht hinf hx hi
  · rename_i t x lo hi ho
    split at h <;> first | (cases h; done) | skip
    rename_i x' lo' hi' d hx hlo hhi hd
    split at h
    · cases h; exact sim_slcS ho hd hx hlo hhi
    · split at h <;> first | (cases h; done) | skip
      rename_i inf hinf
      cases h; exact sim_slcL ho hd hinf hx hlo hhi
    · cases h
  · rename_i t x lo hi mx ho
    split at h <;> first | (cases h; done) | skip
    rename_i x' lo' hi' mx' el hx hlo hhi hmx hd
    split at h <;> first | (cases h; done) | skip
    rename_i inf hinf
    cases h; exact sim_slcM ho hd hinf hx hlo hhi hmx
  · rename_i x n ho; obtain ⟨x', hx, rfl⟩ := omap h; exact sim_ext ho hx
  · rename_i t x ho
    split at h <;> first | (cases h; done) | skip
    rename_i x' d hx hd
    split at h <;> first | (cases h; done) | skip
    rename_i hn
    cases h; exact sim_mkif ho hd (fun ms hm => hn ms hm) hx
  · rename_i x xt t ok ho
    split at h <;> first | (cases h; done) | skip
    rename_i x' d i hx hd hi
    split at h <;> first | (cases h; done) | skip
    rename_i hn
    split at h <;> first | (cases h; done) | skip
    rename_i z hz
    split at h <;> first | (cases h; done) | skip
    rename_i za hza
    cases h; exact sim_ta ho hd (fun ms hm => hn ms hm) hi hz hza hx
  · rename_i f first caps ho
    split at h <;> first | (cases h; done) | skip
    rename_i hfi
    subst hfi
    obtain ⟨cs, hc, rfl⟩ := omap h
    exact sim_mkfn ho hc
  · rename_i t parts ho
    split at h <;> first | (cases h; done) | skip
    · rename_i fs i hd hi
      split at h <;> first | (cases h; done) | skip
      rename_i z hz
      split at h <;> first | (cases h; done) | skip
      rename_i zs hzs
      split at h <;> first | (cases h; done) | skip
      rename_i hall
      obtain ⟨qs, hq, rfl⟩ := omap h
      refine sim_bld ho hd hi hz hzs (fun f hf => ?_) hq
      have := List.all_eq_true.1 hall f hf
      exact Option.isSome_iff_exists.1 this
    · rename_i n el i hd hi
      split at h <;> first | (cases h; done) | skip
      rename_i z ie hz hie
      split at h <;> first | (cases h; done) | skip
      rename_i zs hzs
      obtain ⟨qs, hq, rfl⟩ := omap h
      exact sim_bldA ho hd hi hie hz hzs hq
  · rename_i t x ho
    split at h <;> first | (cases h; done) | skip
    rename_i x' d i hx hd hi
    cases h; exact sim_ld ho hd hi hx
  · rename_i t x ho; obtain ⟨x', hx, rfl⟩ := omap h; exact sim_box ho hx
  · rename_i t ho
    split at h <;> first | (cases h; done) | skip
    rename_i i hi
    split at h <;> first | (cases h; done) | skip
    rename_i z hz
    obtain ⟨cs, hc, rfl⟩ := omap h
    exact sim_alloc ho hi hz hc
  · rename_i t n parts ho
    split at h <;> first | (cases h; done) | skip
    rename_i el hd
    split at h <;> first | (cases h; done) | skip
    rename_i i hi
    split at h <;> first | (cases h; done) | skip
    rename_i z hz
    split at h <;> first | (cases h; done) | skip
    rename_i zs hzs
    split at h <;> first | (cases h; done) | skip
    rename_i hc
    obtain ⟨qs, hq, rfl⟩ := omap h
    exact sim_bsl ho hd hi hz hzs hc.1 hc.2 hq
  · rename_i t l c ho
    split at h <;> first | (cases h; done) | skip
    rename_i l' c' el hl hc hd
    split at h <;> first | (cases h; done) | skip
    rename_i i hi
    split at h <;> first | (cases h; done) | skip
    rename_i z hz
    split at h <;> first | (cases h; done) | skip
    rename_i zs hzs
    split at h <;> first | (cases h; done) | skip
    rename_i hsz
    cases h; exact sim_msl ho hd hi hz hzs hsz hl hc
  · rename_i t x y ho
    split at h <;> first | (cases h; done) | skip
    rename_i x' y' i hx hy hi
    cases h; exact sim_st ho hi hx hy
  · rename_i c ho
    obtain ⟨callee, args, ats⟩ := c
    simp only at h
    split at h
    · rename_i f
      split at h
      · rename_i hok
        obtain ⟨as, ha, rfl⟩ := omap h
        obtain ⟨fn, hf, hn, hb⟩ := okFn_ok hok
        exact sim_call ho hf hn hb ha
      · split at h <;> first | (cases h; done) | skip
        rename_i x y heq
        have hargs : args = #[x, y] := by rw [← Array.toArray_toList (xs := args), heq]
        subst hargs
        split at h <;> first | (cases h; done) | skip
        rename_i s x' y' hs hx hy
        cases h
        exact sim_ovl ho hs hx hy
    · rename_i x _
      split at h <;> first | (cases h; done) | skip
      rename_i x' as hx ha
      cases h; exact sim_callv ho hx ha
    · rename_i b
      exact compBuiltin_ok ho h
    · cases h
  · cases h

end
end Go.Hz
