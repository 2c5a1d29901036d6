/- A law: what comes in is read by its types; it answers true, and what came in reads as before. -/
import Derived.Test.YtfbflmiipepmiaaHzEnt
import Derived.Test.YtfbflmiipepmiaaHzSat
import Derived.ProofKit
import Derived.WalkKit
import Derived.OpenShut
import Derived.ShutString
import Derived.ChangeOld
import Derived.Carry
import Derived.RowKit
import Derived.Handed
set_option linter.unusedSimpArgs false
set_option linter.unusedVariables false
namespace Go.Hz
open Go.RowKit Go.ChangeShapes Go.WideShapes Go.ChangeAt

def Ty.one : Ty → AV → Prop
  | .st c, a => ∃ cs, a = .agg cs ∧ c.shape cs
  | τ, a => τ.shape [a]
def Ty.ones : List Ty → List AV → Prop
  | [], [] => True
  | τ :: ts, a :: as => τ.one a ∧ Ty.ones ts as
  | _, _ => False
def Ty.bulk1 : Ty → AV → Nat
  | .st c, .agg cs => c.bulk cs + 1
  | τ, a => τ.bulk [a]
def Ty.bulks : List Ty → List AV → Nat
  | τ :: ts, a :: as => τ.bulk1 a + Ty.bulks ts as
  | _, _ => 0
def fitsAll (P : Program) : List Ty → List TypeId → Bool
  | [], [] => true
  | τ :: τs, t :: ts => τ.fits P (.inl t) && fitsAll P τs ts
  | _, _ => false

section
variable {H : Type} {enc : TypeId × Value → H} {P : Program} {w : World} {base : Nat} {spare : Nat → Bool} {held : Bool}

theorem Ty.arg1 (B : Bulk H) (τ : Ty) {t : TypeId} {v : Value} {d : DataW H} {ps : List MemPlace} {r : Reach} {b0 : Nat}
    (hf : τ.fits P (.inl t) = true) (h : DataW.Trod enc P w base spare held t v d ps) (hw : Value.okWide P w r b0 t v) :
    ∃ a, τ.one a ∧ VR (fun b => b < w.heap.size) w.heap a v ∧ τ.bulk1 a ≤ B.b d := by
  have key : v.cells = #[v] → τ.size = 1 → ∃ a, τ.shape [a] ∧ VR (fun b => b < w.heap.size) w.heap a v ∧ τ.bulk [a] ≤ B.b d := fun h1 h2 => Ty.arg B τ hf h h1 h2
  cases τ with
  | bool =>
    have hf' := hf
    simp only [Ty.fits] at hf'
    split at hf'
    · rename_i ht; obtain ⟨b, rfl⟩ := okWide_bool ht hw; exact key rfl rfl
    · cases hf'
  | str =>
    have hf' := hf
    simp only [Ty.fits] at hf'
    split at hf'
    · rename_i ht; obtain ⟨b, rfl⟩ := okWide_string ht hw; exact key rfl rfl
    · cases hf'
  | int k =>
    have hf' := hf
    simp only [Ty.fits] at hf'
    split at hf'
    · rename_i ht; obtain ⟨b, rfl⟩ := okWide_int ht hw; exact key rfl rfl
    · cases hf'
  | sl e =>
    have hf' := hf
    simp only [Ty.fits] at hf'
    split at hf'
    · rename_i ht; obtain ⟨b, _, _, rfl⟩ := okWide_slice ht hw; exact key rfl rfl
    · cases hf'
  | st c =>
    have hf' := hf
    simp only [Ty.fits] at hf'
    split at hf'
    · rename_i ht
      obtain ⟨cs, rfl, hcs⟩ := okWide_struct ht hw
      obtain ⟨fuel, h⟩ := h
      obtain ⟨as, g1, g2, g3, g4⟩ := ((Ty.st c).read (enc := enc) (base := base) (spare := spare) (held := held) B).1 fuel t _ _ hf h
      refine ⟨.agg as, ⟨as, rfl, g1⟩, ?_, g4⟩
      exact .agg as cs (by simpa [Value.cells] using g3.1) fun i h1 h2 => by simpa [Value.cells] using g3.2 i h1 (by simpa [Value.cells] using h2)
    · cases hf'
  | fnil => simp [Ty.fits] at hf
  | fcons a b => simp [Ty.fits] at hf

theorem args_read (B : Bulk H) {r : Reach} {b0 : Nat} : ∀ (τs : List Ty) (ts : List TypeId) (vs : List Value) (ds : List (DataW H)) (ps : List MemPlace), fitsAll P τs ts = true → DataW.TrodAll enc P w base spare held ts vs ds ps →
    (∀ (j : Nat) t v, ts[j]? = some t → vs[j]? = some v → Value.okWide P w r b0 t v) → ∃ as, Ty.ones τs as ∧ VRs (fun b => b < w.heap.size) w.heap as vs ∧ ds.length = ts.length ∧ Ty.bulks τs as ≤ B.ba ds
  | [], [], vs, ds, ps, _, h, _ => by
    obtain ⟨rfl, rfl, _⟩ := trodAll_nil h
    exact ⟨[], trivial, VRs.nil, rfl, Nat.zero_le _⟩
  | [], _ :: _, _, _, _, hf, _, _ => by simp [fitsAll] at hf
  | _ :: _, [], _, _, _, hf, _, _ => by simp [fitsAll] at hf
  | τ :: τs, t :: ts, vs, ds, ps, hf, h, hw => by
    obtain ⟨v, vs', d, ds', p, q, rfl, rfl, rfl, h1, h2⟩ := trodAll_cons h
    simp only [fitsAll, Bool.and_eq_true] at hf
    obtain ⟨a, g1, g2, g3⟩ := Ty.arg1 B τ hf.1 h1 (hw 0 t v rfl rfl)
    obtain ⟨as, k1, k2, k3, k4⟩ := args_read B τs ts vs' ds' q hf.2 h2 fun j t v a b => hw (j + 1) t v (by simpa using a) (by simpa using b)
    refine ⟨a :: as, ⟨g1, k1⟩, VRs.cons g2 k2, by simp [k3], ?_⟩
    have := B.cons d ds'
    simp only [Ty.bulks]
    omega

theorem args_back {W W' : World} (hl : laidOutB P = true) (hb : Below W.heap.size W W') : ∀ (ts : List TypeId) (vs : List Value) (ds : List (DataW H)) (ps : List MemPlace), (ts.all fun t => P.readableRec t && decide (t < P.types.size)) = true →
    DataW.TrodAll enc P W 0 (fun _ => true) true ts vs ds ps → DataW.TrodAll enc P W' 0 (fun b => decide (b < W.heap.size)) true ts vs ds ps
  | [], vs, ds, ps, _, h => by
    obtain ⟨rfl, rfl, rfl⟩ := trodAll_nil h
    exact trodAll_mk0
  | t :: ts, vs, ds, ps, ht, h => by
    obtain ⟨v, vs', d, ds', p, q, rfl, rfl, rfl, h1, h2⟩ := trodAll_cons h
    simp only [List.all_cons, Bool.and_eq_true, decide_eq_true_eq] at ht
    have lt : ∀ x ∈ p, x.block < W.heap.size := by obtain ⟨m, hm⟩ := h1; exact DataW.trod_lt m _ _ _ hm
    exact trodAll_cons_mk (Below.trod hl ht.1.1 ht.1.2 h1 hb lt) (args_back hl hb ts vs' ds' q (by simpa using ht.2) h2)

/-- What a row asks of a law's call. -/
theorem law_contract (B : Bulk H) {N : Nat} {f : FuncId} {fn : Func} {s : ChangeSpec} {ts : List TypeId} {rt : TypeId} (τs : List Ty) (hv : s.vars = []) (hts : fn.params.toList = ts) (hrt : fn.resultTypes.toList = [rt]) (hrs : fn.resultTypes.size = 1) (hb : P.underlying rt = some .bool)
    (hfit : fitsAll P τs ts = true) (hlaid : laidOutB P = true) (hread : (ts.all fun t => P.readableRec t && decide (t < P.types.size)) = true)
    (hs : ∀ ds : List (DataW H), ds.length = ts.length → s.fn H ds = { results := [.lit (.bool true)], args := ds })
    {W : World} {base : Nat} {args : Array Value} {ds gs : List (DataW H)} {before : List MemPlace}
    (hval : ∀ (j : Nat) t v, fn.params[j]? = some t → args[j]? = some v → Value.okWide P W .any base t v)
    (hW : DataW.Whole enc P fn.params.toList s.vars false W args.toList ds gs before)
    (hN : B.ba ds ≤ N) (law : ∀ as, Ty.ones τs as → Ty.bulks τs as ≤ N → Triple P f as Hp.emp fun r _ => r = .bool true) :
    Calls P f args W fun e W' => ∃ v, e = .returned v ∧ s.post enc P fn false true false false W args v W' := by
  have hW' := hW
  obtain ⟨p, q, hA, hV, rfl, hfz, hnd⟩ := hW
  rw [hts] at hA
  rw [hv] at hV
  obtain ⟨rfl, rfl⟩ := trodVars_none hV
  obtain ⟨as, h1, h2, h3, h4⟩ := args_read B τs ts args.toList ds p hfit hA fun j t v a b => hval j t v (by rw [← a, ← hts]; simp) (by rw [← b]; simp)
  refine (entry (law as h1 (Nat.le_trans h4 hN)) h2).mono fun e W' ⟨he, bel⟩ => ?_
  subst he
  refine ⟨_, rfl, ds, [], p ++ [], [], p, [], hW', ?_, ?_, ?_, bel.frame _, fun h => by cases h⟩
  · rw [List.append_nil, hs ds h3, hrt, hrs]
    exact trodAll_mk1 (shut_bool hb _)
  · rw [List.append_nil, hs ds h3, hts]
    exact args_back hlaid bel ts _ ds p hread hA
  · rw [hv, List.append_nil, hs ds h3]; rfl
end

def nums (l : List Int) : AV := .lst (l.map fun k => [AV.int .i64 k])
theorem num_at {l : List Int} {i : Nat} (hi : i < l.length) : iaA 1 (nums l) (.int .i64 (i : Int)) = some (.ro [.int .i64 l[i]]) := ia_lst (f := fun k => [AV.int .i64 k]) hi fun _ => rfl
theorem num_len {l : List Int} : lenL (nums l) = some (.int .i64 l.length) := by simp [nums, lenL]

theorem bytes_of {a : AV} (h : (Ty.sl (.int .u8)).one a) : ∃ b : List UInt8, a = .lst (b.map eb) ∧ b.length ≤ 9223372036854775807 := by
  obtain ⟨es, rfl', h2, h3⟩ := h
  cases rfl'
  have : ∃ b : List UInt8, es = b.map eb := by
    clear h2
    induction es with
    | nil => exact ⟨[], rfl⟩
    | cons x es ih =>
      obtain ⟨b, rfl⟩ := ih fun y hy => h3 y (List.mem_cons_of_mem _ hy)
      obtain ⟨n, rfl, hw⟩ := h3 x (List.mem_cons_self ..)
      simp only [Lit.wf, Bool.and_eq_true, decide_eq_true_eq] at hw
      have h1 : 0 ≤ n := hw.1
      have h2 : n ≤ 255 := hw.2
      refine ⟨UInt8.ofNat n.toNat :: b, ?_⟩
      have e : ((UInt8.ofNat n.toNat).toNat : Int) = n := by
        rw [UInt8.toNat_ofNat']
        omega
      have e2 : eb (UInt8.ofNat n.toNat) = [AV.int .u8 n] := by unfold eb; rw [e]
      rw [List.map_cons, e2]
  obtain ⟨b, rfl⟩ := this
  exact ⟨b, rfl, by have : (b.map eb).length ≤ 9223372036854775807 := Nat.le_trans h2 (by decide); simpa using this⟩
theorem nums_of {a : AV} (h : (Ty.sl (.int .i64)).one a) : ∃ l : List Int, a = nums l ∧ l.length ≤ 9223372036854775807 ∧ ∀ k ∈ l, -9223372036854775808 ≤ k ∧ k ≤ 9223372036854775807 := by
  obtain ⟨es, rfl', h2, h3⟩ := h
  cases rfl'
  have : ∃ l : List Int, es = l.map (fun k => [AV.int .i64 k]) ∧ ∀ k ∈ l, -9223372036854775808 ≤ k ∧ k ≤ 9223372036854775807 := by
    clear h2
    induction es with
    | nil => exact ⟨[], rfl, by simp⟩
    | cons x es ih =>
      obtain ⟨b, rfl, hb⟩ := ih fun y hy => h3 y (List.mem_cons_of_mem _ hy)
      obtain ⟨n, rfl, hw⟩ := h3 x (List.mem_cons_self ..)
      simp only [Lit.wf, Bool.and_eq_true, decide_eq_true_eq] at hw
      refine ⟨n :: b, rfl, fun k hk => ?_⟩
      rcases List.mem_cons.1 hk with rfl | hk
      · exact hw
      · exact hb k hk
  obtain ⟨b, rfl, hb⟩ := this
  exact ⟨b, rfl, by have : (b.map fun k => [AV.int .i64 k]).length ≤ 9223372036854775807 := Nat.le_trans h2 (by decide); simpa using this, hb⟩

theorem int_of {a : AV} (h : (Ty.int .i64).one a) : ∃ n : Int, a = .int .i64 n ∧ -9223372036854775808 ≤ n ∧ n ≤ 9223372036854775807 := by
  obtain ⟨n, hn, hw⟩ := h
  cases hn
  simp only [Lit.wf, Bool.and_eq_true, decide_eq_true_eq] at hw
  exact ⟨n, rfl, hw⟩
theorem str_of {a : AV} (h : Ty.str.one a) : ∃ l : List UInt8, a = .str l ∧ l.length ≤ 9223372036854775807 := by
  obtain ⟨l, hl, hw⟩ := h
  cases hl
  exact ⟨l, rfl, Nat.le_trans hw (by decide)⟩
theorem bool_of {a : AV} (h : Ty.bool.one a) : ∃ b : Bool, a = .bool b := by
  obtain ⟨l, hl⟩ := h
  cases hl
  exact ⟨l, rfl⟩
theorem ones_nil {vs : List AV} (h : Ty.ones [] vs) : vs = [] := by
  cases vs with
  | nil => rfl
  | cons a l => exact h.elim
theorem ones_cons {τ : Ty} {τs : List Ty} {vs : List AV} (h : Ty.ones (τ :: τs) vs) : ∃ a l, vs = a :: l ∧ τ.one a ∧ Ty.ones τs l := by
  cases vs with
  | nil => exact h.elim
  | cons a l => exact ⟨a, l, rfl, h.1, h.2⟩
end Go.Hz
