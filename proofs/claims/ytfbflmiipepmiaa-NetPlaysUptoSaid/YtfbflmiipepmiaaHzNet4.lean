/- Messages that come in. -/
import Derived.Test.YtfbflmiipepmiaaHzNet3
import Derived.Test.YtfbflmiipepmiaaHzLaw
set_option linter.unusedSimpArgs false
set_option linter.unusedVariables false
set_option maxRecDepth 10000
namespace Go.Hz

def tyE : Ty := .fcons (.int .i64) (.fcons (.int .i64) (.fcons (.int .i64) (.fcons (.sl (.int .u8)) .fnil)))
def tyM : Ty := .fcons (.int .i64) (.fcons (.int .i64) (.fcons (.int .i64) (.fcons (.int .i64) (.fcons (.int .i64) (.fcons (.int .i64) (.fcons (.sl (.st tyE)) (.fcons (.int .i64) (.fcons (.int .i64) (.fcons .bool (.fcons (.int .i64)
  (.fcons (.st (.fcons (.int .i64) (.fcons (.int .i64) (.fcons (.sl (.int .i64)) .fnil)))) (.fcons (.sl (.int .u8)) .fnil))))))))))))

theorem int_in {n : Int} (h : (Lit.int .i64 n).wf = true) : inI n := by
  simp only [Lit.wf, Bool.and_eq_true, decide_eq_true_eq] at h
  exact h
theorem sum_one {α : Type} (l : List α) (f : α → Nat) (hf : ∀ x ∈ l, f x = 1) : (l.map f).sum = l.length := by
  induction l with
  | nil => rfl
  | cons x l ih => rw [List.map_cons, List.sum_cons, ih (fun y hy => hf y (List.mem_cons_of_mem _ hy)), hf x (List.mem_cons_self ..), List.length_cons]; omega
theorem bulk_bytes (b : List UInt8) : (Ty.sl (.int .u8)).bulk [bytesV b] = b.length + 1 := by
  simp only [Ty.bulk, bytesV]
  rw [sum_one _ _ (fun x _ => rfl), List.length_map]
theorem bulk_ints (b : List Int) : (Ty.sl (.int .i64)).bulk [intsV b] = b.length + 1 := by
  simp only [Ty.bulk, intsV]
  rw [sum_one _ _ (fun x _ => rfl), List.length_map]

def EnIn (e : En) : Prop := inI e.idx ∧ inI e.term ∧ inI e.kind
theorem en_of {cs : List AV} (h : tyE.shape cs) : ∃ e : En, cs = e.row ∧ EnIn e := by
  obtain ⟨x1, x2, rfl, ⟨a, rfl, ha⟩, y1, y2, rfl, ⟨b, rfl, hb⟩, z1, z2, rfl, ⟨c, rfl, hc⟩, w1, w2, rfl, hd, rfl⟩ := h
  have hd0 := hd
  obtain ⟨es, rfl, _⟩ := hd0
  obtain ⟨d, hd2, _⟩ := bytes_of (a := .lst es) hd
  cases hd2
  exact ⟨⟨a, b, c, d⟩, rfl, int_in ha, int_in hb, int_in hc⟩
theorem ens_of {es : List (List AV)} (h : ∀ x ∈ es, (Ty.st tyE).shape x) : ∃ l : List En, es = l.map En.row ∧ ∀ e ∈ l, EnIn e := by
  induction es with
  | nil => exact ⟨[], rfl, by simp⟩
  | cons x es ih =>
    obtain ⟨l, rfl, hl⟩ := ih fun y hy => h y (List.mem_cons_of_mem _ hy)
    obtain ⟨e, rfl, he⟩ := en_of (h x (List.mem_cons_self ..))
    refine ⟨e :: l, rfl, fun y hy => ?_⟩
    rcases List.mem_cons.1 hy with rfl | hy
    · exact he
    · exact hl y hy
theorem bulk_en (e : En) : (Ty.st tyE).bulk e.row = e.data.length + 5 := by
  have : (Ty.st tyE).bulk e.row = 1 + (1 + (1 + ((Ty.sl (.int .u8)).bulk [bytesV e.data] + 0))) + 1 := rfl
  rw [this, bulk_bytes]
  omega
def sumD (l : List En) : Nat := (l.map fun e => e.data.length).sum
theorem sumD_succ {l : List En} {i : Nat} (hi : i < l.length) : sumD (l.take (i + 1)) = sumD (l.take i) + l[i].data.length := by
  unfold sumD
  rw [List.take_succ_eq_append_getElem hi, List.map_append, List.sum_append]
  simp
theorem sumD_le {l : List En} (i : Nat) : sumD (l.take i) ≤ sumD l := by
  have : sumD l = sumD (l.take i) + sumD (l.drop i) := by
    unfold sumD
    rw [← List.sum_append, ← List.map_append, List.take_append_drop]
  omega
theorem bulk_ens (l : List En) : (Ty.sl (.st tyE)).bulk [ensV l] = sumD l + 5 * l.length + 1 := by
  have : (Ty.sl (.st tyE)).bulk [ensV l] = ((l.map En.row).map (Ty.st tyE).bulk).sum + 1 := rfl
  rw [this, List.map_map]
  clear this
  congr 1
  unfold sumD
  induction l with
  | nil => rfl
  | cons e l ih =>
    rw [List.map_cons, List.sum_cons, List.map_cons, List.sum_cons, List.length_cons, ih]
    show (Ty.st tyE).bulk e.row + _ = _
    rw [bulk_en]
    omega

theorem data_le {l : List En} {e : En} (h : e ∈ l) : e.data.length ≤ sumD l := by
  unfold sumD
  induction l with
  | nil => cases h
  | cons x l ih =>
    rw [List.map_cons, List.sum_cons]
    rcases List.mem_cons.1 h with rfl | h
    · omega
    · have := ih h; omega
/-- A message that comes in. -/
theorem msg_of {cs : List AV} (h : tyM.shape cs) : ∃ m : Ms, cs = m.cells ∧ tyM.bulk cs = 16 + (sumD m.es + 5 * m.es.length) + m.vs.length + m.data.length ∧ (tyM.bulk cs ≤ 1048576 → m.fine) := by
  obtain ⟨x1, _, rfl, ⟨a1, rfl, h1⟩, x2, _, rfl, ⟨a2, rfl, h2⟩, x3, _, rfl, ⟨a3, rfl, h3⟩, x4, _, rfl, ⟨a4, rfl, h4⟩, x5, _, rfl, ⟨a5, rfl, h5⟩, x6, _, rfl, ⟨a6, rfl, h6⟩, x7, _, rfl, ⟨es, rfl, _, hes⟩,
    x8, _, rfl, ⟨a8, rfl, h8⟩, x9, _, rfl, ⟨a9, rfl, h9⟩, x10, _, rfl, ⟨ok, rfl⟩, x11, _, rfl, ⟨a11, rfl, h11⟩, x12, _, rfl, hmeta, x13, _, rfl, hd, rfl⟩ := h
  obtain ⟨m1, _, rfl, ⟨i, rfl, hi⟩, m2, _, rfl, ⟨t, rfl, ht⟩, m3, _, rfl, hv, rfl⟩ := hmeta
  obtain ⟨l, rfl, hl⟩ := ens_of hes
  have hv0 := hv
  obtain ⟨vs0, rfl, _⟩ := hv0
  obtain ⟨vs, hv2, _, hvi⟩ := nums_of (a := .lst vs0) hv
  cases hv2
  have hd0 := hd
  obtain ⟨ds, rfl, _⟩ := hd0
  obtain ⟨d, hd2, _⟩ := bytes_of (a := .lst ds) hd
  cases hd2
  have hb : tyM.bulk (Ms.cells ⟨a1, a2, a3, a4, a5, a6, l, a8, a9, ok, a11, i, t, vs, d⟩) = 16 + (sumD l + 5 * l.length) + vs.length + d.length := by
    have e : tyM.bulk (Ms.cells ⟨a1, a2, a3, a4, a5, a6, l, a8, a9, ok, a11, i, t, vs, d⟩) = 1 + (1 + (1 + (1 + (1 + (1 + ((Ty.sl (.st tyE)).bulk [ensV l] + (1 + (1 + (1 + (1 + ((1 + (1 + ((Ty.sl (.int .i64)).bulk [intsV vs] + 0)) + 1) + ((Ty.sl (.int .u8)).bulk [bytesV d] + 0)))))))))))) := rfl
    rw [e, bulk_ens, bulk_ints, bulk_bytes]
    omega
  refine ⟨⟨a1, a2, a3, a4, a5, a6, l, a8, a9, ok, a11, i, t, vs, d⟩, rfl, hb, fun hle => ?_⟩
  have hle' : 16 + (sumD l + 5 * l.length) + vs.length + d.length ≤ 1048576 := by rw [← hb]; exact hle
  refine ⟨⟨int_in h1, int_in h2, int_in h3, int_in h4, int_in h5, int_in h6, int_in h8, int_in h9, int_in h11, int_in hi, int_in ht⟩, fun e he => ⟨(hl e he).1, (hl e he).2.1, (hl e he).2.2, ?_⟩, hvi, ?_⟩
  · have := data_le (l := l) he
    show e.data.length < 4294967296
    omega
  · show d.length < 4294967296
    omega
/-- A message among the arguments. -/
theorem msg_one {a : AV} (h : (Ty.st tyM).one a) : ∃ m : Ms, a = .agg m.cells ∧ (Ty.st tyM).bulk1 a = 17 + (sumD m.es + 5 * m.es.length) + m.vs.length + m.data.length ∧
    ((Ty.st tyM).bulk1 a ≤ 1048576 → m.fine ∧ (m.es.length ≤ 1048576 ∧ m.vs.length ≤ 1048576 ∧ m.data.length + sumD m.es ≤ 1048576)) := by
  obtain ⟨cs, rfl, h⟩ := h
  obtain ⟨m, rfl, hb, hf⟩ := msg_of h
  have e : (Ty.st tyM).bulk1 (.agg m.cells) = tyM.bulk m.cells + 1 := rfl
  rw [e]
  exact ⟨m, rfl, by omega, fun hle => ⟨hf (by omega), by omega, by omega, by omega⟩⟩
theorem bulk1_le {τ : Ty} {τs : List Ty} {a : AV} {as : List AV} {N : Nat} (h : Ty.bulks (τ :: τs) (a :: as) ≤ N) : τ.bulk1 a ≤ N ∧ Ty.bulks τs as ≤ N := by
  have e : Ty.bulks (τ :: τs) (a :: as) = τ.bulk1 a + Ty.bulks τs as := rfl
  omega
theorem byte_of {a : AV} (h : (Ty.int .u8).one a) : ∃ b : UInt8, a = .int .u8 b.toNat := by
  obtain ⟨n, hn, hw⟩ := h
  cases hn
  simp only [Lit.wf, Bool.and_eq_true, decide_eq_true_eq] at hw
  refine ⟨UInt8.ofNat n.toNat, ?_⟩
  obtain ⟨h1, h2⟩ := hw
  have h1' : 0 ≤ n := h1
  have h2' : n ≤ 255 := h2
  congr 1
  rw [UInt8.toNat_ofNat']
  omega
theorem set_eb {b : List UInt8} {i : Nat} {x : UInt8} : (b.map eb).set i [.int .u8 x.toNat] = (b.set i x).map eb := by
  rw [List.map_set]; rfl
theorem u8_add (x y : UInt8) : IntKind.u8.wrap ((x.toNat : Int) + y.toNat) = ((x + y).toNat : Int) := by
  simp only [IntKind.wrap, IntKind.signed, IntKind.bits]
  rw [UInt8.toNat_add]
  simp
/-- append to the first part of a slice of one's own. -/
theorem app_cut {P : Program} {st : List Fr} {e : Env} {k : Kt} {d : Option Nat} {r : List (AItem × List AItem)} {s bytes b j cap : Nat} {y : AV} {es ys : List (List AV)} {h : Hp} {F : List Asr}
    (hs : sat h (pto b (.row s es cap) :: F)) (hj : j ≤ es.length) (hy : srcA s h y = some ys) (ha : AtomsL ys)
    (hb : (j + ys.length) * bytes ≤ 70368744177664) (hk : ∀ v' h', sat h' (Ow s v' (es.take j ++ ys) :: F) → v'.cells = [v'] → v'.isAtom = true → runS P r st (e.put d v') h' k) :
    effR P (appE s bytes (.arr b s 0 j cap) y h) [] d r st e k := by
  have fin : ∀ v' h', sat h' (Ow s v' (es.take j ++ ys) :: F) → obls P [] (e.put d v') h' ∧ runS P r st (e.put d v') h' k := fun v' h' g =>
    ⟨fun _ hm => by simp at hm, hk v' h' g g.els.cells g.els.atom⟩
  refine ⟨ys, hy, ha, ?_⟩
  have hbb := hs.at
  simp only [hbb]
  refine ⟨trivial, trivial, trivial, hj, trivial, hb, fun n c hn hc _ => fin _ _ ?_⟩
  have hl : (es.take j ++ ys).length = j + ys.length := by simp; omega
  have := ((hs.del).new (o := .row s (es.take j ++ ys) c) hn).ow (by rw [hl]; exact hc)
  rw [hl] at this
  exact this
/-- The first letters of what is only read. -/
theorem slc_pre {l : List UInt8} {k : IntKind} {n : Nat} (hn : n ≤ l.length) : slcL 1 (bytesV l) none (some (.int k (n : Int))) = some (bytesV (l.take n)) := by
  simp only [slcL, bytesV, boundA]
  simp [hn, List.map_take]
  intro a _; rfl
theorem u8_self {x y : UInt8} (h : x = x + y) : y = 0 := by
  have h1 := congrArg UInt8.toNat h
  rw [UInt8.toNat_add] at h1
  have := x.toNat_lt
  have := y.toNat_lt
  apply UInt8.toNat_inj.1
  show y.toNat = 0
  omega
theorem frame_at {x : List UInt8} {j : Nat} (hj : j < x.length) (h : 8 + j < (frameB x).length) : (frameB x)[8 + j] = x[j] := by
  simp only [frameB, List.getElem_append, List.length_append, beB_length]
  rw [dif_neg (by omega)]
  congr 1
  omega
theorem slc_arr {s b len cap n : Nat} {k : IntKind} (h1 : n ≤ cap) (h2 : len ≤ cap) : slcL s (.arr b s 0 len cap) none (some (.int k (n : Int))) = some (.arr b s 0 n cap) := by
  simp only [slcL, boundA]
  simp [h1, h2]
end Go.Hz
