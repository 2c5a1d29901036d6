/- The law PenReads holds for every input: it answers true and leaves its arguments as they were. No condition. -/
import Derived.Test.YtedfmdifokbilaaRows
import Derived.Test.YtedfmdifokbilaaPenReads
import Derived.WalkKit
import Derived.ProofKit
import Derived.OpenShut
import Derived.ShutString
import Derived.ChangeOld
import Derived.Below
namespace Go.Proofs.Ytedfmdifokbilaa
open Go.Hz
open Go.ChangeShapes Go.WideShapes Go.ChangeAt Go.RowKit
open Go.ChangeMaps (open_string shut_string)
set_option linter.unusedVariables false

theorem bytes_of (es : List (List AV)) (h : ∀ x ∈ es, (Ty.int .u8).shape x) : ∃ b : List UInt8, es = b.map eb := by
  induction es with
  | nil => exact ⟨[], rfl⟩
  | cons x es ih =>
    obtain ⟨b, hb⟩ := ih fun y hy => h y (List.mem_cons_of_mem _ hy)
    obtain ⟨n, hx, hw⟩ := h x (List.mem_cons_self ..)
    refine ⟨UInt8.ofNat n.toNat :: b, ?_⟩
    simp only [Lit.wf, Bool.and_eq_true, decide_eq_true_eq] at hw
    have h1 : 0 ≤ n := hw.1
    have h2 : n ≤ 255 := hw.2
    rw [hx, hb, List.map_cons]
    congr 1
    have e : ((UInt8.ofNat n.toNat).toNat : Int) = n := by
      rw [UInt8.toNat_ofNat']
      omega
    unfold eb
    rw [e]
theorem ints_of (es : List (List AV)) (h : ∀ x ∈ es, (Ty.int .i64).shape x) : ∃ b : List Int, es = b.map (fun k => [AV.int .i64 k]) ∧ ∀ k ∈ b, -9223372036854775808 ≤ k ∧ k ≤ 9223372036854775807 := by
  induction es with
  | nil => exact ⟨[], rfl, fun k hk => by cases hk⟩
  | cons x es ih =>
    obtain ⟨b, hb, hbb⟩ := ih fun y hy => h y (List.mem_cons_of_mem _ hy)
    obtain ⟨n, hx, hw⟩ := h x (List.mem_cons_self ..)
    simp only [Lit.wf, Bool.and_eq_true, decide_eq_true_eq] at hw
    refine ⟨n :: b, by rw [hx, hb]; rfl, fun k hk => ?_⟩
    rcases List.mem_cons.1 hk with rfl | hk
    · exact hw
    · exact hbb k hk

theorem ownPR : ownKnob Try.prog.godebug = none := by kernel_rfl
theorem laidOutPR : laidOutB Try.prog = true := by kernel_rfl

set_option maxRecDepth 100000 in
theorem liftedPR (os : Os) (started : os.Started) (H : Type) (enc : TypeId × Value → H) :
    ReturnsInHanded {} Try.checked os 4 .any (Rows.penReadsSpec.pre6 enc Try.prog Try.f4 Rows.penReadsRow.domain false) (Rows.penReadsSpec.post enc Try.prog Try.f4 false true false false) := by
  refine returnsInHanded_of_change (C := Try.checked) ownPR started (by kernel_rfl) Try.func4
    (ChangeSpec.witness6 (enc := enc) (C := Try.checked) false ⟨#[], #[.slice none 0 0, .slice none 0 0], []⟩ 8 (by kernel_rfl) (by kernel_rfl) (by kernel_rfl) (by kernel_rfl)) ?_
  intro W base args ds gs before hval0 hW hcnd _
  have hval : ∀ (j : Nat) t v, Try.f4.params[j]? = some t → args[j]? = some v → Value.okWide Try.prog W .any base t v := hval0
  have hW' := hW
  obtain ⟨p, q, hA0, hV, rfl, hfz, hnd⟩ := hW
  have hA : DataW.TrodAll enc Try.prog W 0 (fun _ => true) true Try.f4.params.toList args.toList ds p := hA0
  rw [Try.params4] at hA hval
  obtain ⟨v0, vs0, d0, ds0, p0, q0, hargs, rfl, rfl, h0, r0⟩ := trodAll_cons hA
  obtain ⟨v1, vs1, d1, ds1, p1, q1, rfl, rfl, rfl, h1, r1⟩ := trodAll_cons r0
  obtain ⟨rfl, rfl, rfl⟩ := trodAll_nil r1
  obtain rfl : args = #[v0, v1] := by cases args; simp_all
  obtain ⟨rfl, rfl⟩ := trodVars_none hV
  obtain ⟨a0, len0, cap0, rfl⟩ := okWide_slice Try.underlying28 (hval 0 28 v0 rfl rfl)
  have k0 := h0
  have lt0 : ∀ x ∈ p0, x.block < W.heap.size := by obtain ⟨m, hm⟩ := k0; exact DataW.trod_lt m _ _ _ hm
  obtain ⟨a1, len1, cap1, rfl⟩ := okWide_slice Try.underlying31 (hval 1 31 v1 rfl rfl)
  have k1 := h1
  have lt1 : ∀ x ∈ p1, x.block < W.heap.size := by obtain ⟨m, hm⟩ := k1; exact DataW.trod_lt m _ _ _ hm
  obtain ⟨x0, ⟨es0, hx0, hl0, hs0⟩, y0⟩ := Ty.arg (.sl (.int .u8)) (by kernel_rfl) h0 rfl rfl
  obtain ⟨x1, ⟨es1, hx1, hl1, hs1⟩, y1⟩ := Ty.arg (.sl (.int .i64)) (by kernel_rfl) h1 rfl rfl
  cases hx0
  cases hx1
  obtain ⟨b, rfl⟩ := bytes_of es0 hs0
  obtain ⟨ks, rfl, hks⟩ := ints_of es1 hs1
  clear hA0 hval0
  have hb : b.length ≤ 9223372036854775807 := by
    have : (b.map eb).length ≤ 9223372036854775807 := Nat.le_trans hl0 (by decide)
    simpa using this
  have hk : ks.length ≤ 9223372036854775807 := by
    have : (ks.map fun k => [AV.int .i64 k]).length ≤ 9223372036854775807 := Nat.le_trans hl1 (by decide)
    simpa using this
  refine (entry (reads b ks hb hk hks (.lst (b.map eb)) ⟨by simp only [srcA]; rw [if_pos (eb_one b)], by simp⟩ (by simp)) (VRs.cons y0 (VRs.cons y1 VRs.nil))).mono fun e W' ⟨he, bel⟩ => ?_
  subst he
  exact ⟨_, rfl, _, _, _, [], _, [], hW', trodAll_mk1 (shut_bool Try.underlying4 _), (trodAll_cons_mk (Below.trod laidOutPR (by kernel_rfl) (of_decide_eq_true (by kernel_rfl)) k0 bel lt0) (trodAll_cons_mk (Below.trod laidOutPR (by kernel_rfl) (of_decide_eq_true (by kernel_rfl)) k1 bel lt1) trodAll_mk0)), rfl, bel.frame _, fun h => by cases h⟩

theorem penReads_holds : Rows.PenReadsSaid :=
  OpenClaim.holds_of_wide 4 Try.f4 rfl rfl rfl rfl rfl rfl rfl ⟨rfl, rfl, rfl, rfl, rfl⟩ rfl rfl rfl rfl rfl (by kernel_rfl) Try.func4 (by kernel_rfl)
    (of_decide_eq_true (by kernel_rfl)) (by unfold Func.isWrapper; first | (rw [if_pos (by decide +kernel)]; kernel_rfl) | (rw [if_neg (by decide +kernel)]; exact ⟨rfl, rfl⟩))
    (fun os started H enc _ => liftedPR os started H enc)
#print axioms penReads_holds
end Go.Proofs.Ytedfmdifokbilaa
