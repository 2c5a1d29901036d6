/- Slices of one's own: made, copied into. -/
import Derived.Test.YtfbflmiipepmiaaHzGo
set_option linter.unusedVariables false
set_option linter.unusedSimpArgs false
namespace Go.Hz
section
variable {P : Program} {st : List Fr} {e : Env} {k : Kt} {d : Option Nat} {r : List (AItem × List AItem)} {h : Hp} {F : List Asr}

/-- make of so many elements. -/
theorem msl_use {s bytes n : Nat} {zs : List AV} {k1 k2 : IntKind} (hs : sat h F) (hn : n ≤ 140737488355328) (hb : n * bytes ≤ 140737488355328)
    (hk : ∀ b h', sat h' (pto b (.row s (List.replicate n zs) n) :: F) → runS P r st (e.put d (.arr b s 0 n n)) h' k) :
    mslR P (mslA s bytes zs (.int k1 n) (.int k2 n)) d r st e h k := by
  have e1 : mslA s bytes zs (.int k1 (n : Int)) (.int k2 (n : Int)) = some (.inr (.row s (List.replicate n zs) n, fun b => .arr b s 0 n n)) := by
    simp only [mslA]
    rw [if_pos ⟨by omega, by omega, by omega, by
      have : ((n * bytes : Nat) : Int) = (n : Int) * (bytes : Int) := by push_cast; rfl
      omega⟩]
    simp
  rw [e1]
  exact msl_inr.2 fun b hb => hk b _ (hs.new hb)

/-- copy into a row of one's own. -/
theorem cp_use {s b off len cap rc n : Nat} {es ys : List (List AV)} {src : AV} (hs : sat h (pto b (.row s es rc) :: F)) (h1 : off ≤ es.length) (h2 : off + len ≤ rc) (h3 : len ≤ cap) (hl : lenN src = some n)
    (hy : srcN s h src (min n len) = some ys) (ha : AtomsL ys)
    (hk : ∀ h', sat h' (pto b (.row s (es.take off ++ ys ++ es.drop (off + min n len)) rc) :: F) → runS P r st (e.put d (.int .i64 (min n len : Nat))) h' k) :
    effR P (cpE s (.arr b s off len cap) src h) [] d r st e k := by
  refine ⟨n, len, ys, hl, rfl, hy, ha, ?_⟩
  have hb := hs.at
  simp only [hb]
  exact ⟨trivial, trivial, h1, h2, h3, fun _ hm => by simp at hm, hk _ hs.set⟩

theorem slcM_go {s b off len cap : Nat} {k1 k2 k3 : IntKind} {x y z : Int} (h0 : 0 ≤ x) (h1 : x ≤ y) (h2 : y ≤ z) (h3 : z ≤ cap) :
    slcM s (.arr b s off len cap) (some (.int k1 x)) (.int k2 y) (.int k3 z) = some (.arr b s (off + x.toNat) (y.toNat - x.toNat) (z.toNat - x.toNat)) := by
  simp only [slcM, boundA]
  rw [if_pos h0, if_pos (Int.le_trans h0 h1), if_pos (Int.le_trans h0 (Int.le_trans h1 h2))]
  dsimp only
  rw [if_pos ⟨by omega, by omega, by omega, trivial⟩]
theorem slcL_hi {s b off len cap : Nat} {k2 : IntKind} {y : Int} (h1 : 0 ≤ y) (h2 : y ≤ cap) (hl : len ≤ cap) :
    slcL s (.arr b s off len cap) none (some (.int k2 y)) = some (.arr b s off y.toNat cap) := by
  simp only [slcL, boundA]
  rw [if_pos h1]
  dsimp only
  rw [if_pos ⟨by omega, by omega, hl, trivial⟩]
  simp
theorem slcL_lo {s b off len cap : Nat} {k1 : IntKind} {x : Int} (h0 : 0 ≤ x) (h1 : x ≤ len) (hl : len ≤ cap) :
    slcL s (.arr b s off len cap) (some (.int k1 x)) none = some (.arr b s (off + x.toNat) (len - x.toNat) (cap - x.toNat)) := by
  simp only [slcL, boundA]
  rw [if_pos h0]
  dsimp only
  rw [if_pos ⟨by omega, hl, hl, trivial⟩]
theorem slcL_lohi {s b off len cap : Nat} {k1 k2 : IntKind} {x y : Int} (h0 : 0 ≤ x) (h1 : x ≤ y) (h2 : y ≤ cap) (hl : len ≤ cap) :
    slcL s (.arr b s off len cap) (some (.int k1 x)) (some (.int k2 y)) = some (.arr b s (off + x.toNat) (y.toNat - x.toNat) (cap - x.toNat)) := by
  simp only [slcL, boundA]
  rw [if_pos h0, if_pos (Int.le_trans h0 h1)]
  dsimp only
  rw [if_pos ⟨by omega, by omega, hl, trivial⟩]

/-- append of the end of a slice to its front. -/
theorem app_del {s bytes b i j n cap c2 : Nat} {es : List (List AV)} (hs : sat h (pto b (.row s es cap) :: F)) (hn : n = es.length) (hi : i ≤ j) (hj : j ≤ n) (hc : n ≤ cap) (ha : AtomsL es) (hb : n * bytes ≤ 70368744177664)
    (hk : ∀ h', sat h' (pto b (.row s (es.take i ++ es.drop j) cap) :: F) → runS P r st (e.put d (.arr b s 0 (i + (n - j)) cap)) h' k) :
    effR P (appE s bytes (.arr b s 0 i cap) (.arr b s j (n - j) c2) h) [] d r st e k := by
  subst hn
  have hbb := hs.at
  have hl : (es.drop j).length = es.length - j := by simp
  have hsrc : srcA s h (.arr b s j (es.length - j) c2) = some (es.drop j) := by
    simp only [srcA, hbb]
    rw [if_pos ⟨trivial, trivial, by omega⟩]
    rw [List.take_of_length_le (by omega)]
  refine ⟨es.drop j, hsrc, fun e he => ha e (List.mem_of_mem_drop he), ?_⟩
  simp only [hbb]
  refine ⟨trivial, trivial, trivial, by omega, trivial, ?_, fun m c hm hcc hf => ?_⟩
  · refine Nat.le_trans (Nat.mul_le_mul_right _ ?_) hb
    omega
  · obtain ⟨rfl, rfl⟩ := hf (by omega)
    have := (hs.del).new (o := .row s (es.take i ++ es.drop j) c) hm
    rw [hl]
    exact ⟨fun _ hm => by simp at hm, hk _ this⟩

/-- clear. -/
theorem clr_use {s b off len cap rc : Nat} {zs : List AV} {es : List (List AV)} (hs : sat h (pto b (.row s es rc) :: F)) (h1 : off ≤ es.length) (h2 : off + len ≤ rc)
    (hk : ∀ h', sat h' (pto b (.row s (es.take off ++ List.replicate len zs ++ es.drop (off + len)) rc) :: F) → runS P r st (e.put d (.tup [])) h' k) :
    effR P (clrE s zs (.arr b s off len cap) h) [] d r st e k := by
  unfold effR clrE
  dsimp only
  split
  · rename_i h0
    subst h0
    have := hk h (by simpa using hs)
    exact ⟨fun _ hm => by simp at hm, this⟩
  · have hbb := hs.at
    simp only [hbb]
    exact ⟨trivial, trivial, h1, h2, fun _ hm => by simp at hm, hk _ hs.set⟩

/-- A row of which less is said. -/
theorem Rel.rowvi {fz : Nat → Prop} {w : World} {b s cap : Nat} {es es' : List (List AV)} (hr : Rel fz h w) (hb : h b = some (.row s es cap)) (hl : es.length = es'.length) (hv : ∀ i (h1 : i < es.length) (h2 : i < es'.length), VIs es[i] es'[i]) :
    Rel fz (h.set b (.row s es' cap)) w := by
  refine ⟨hr.lt, fun x o hx => ?_⟩
  by_cases hxb : x = b
  · subst hxb
    rw [Hp.set_same] at hx
    cases hx
    obtain ⟨hnf, c, hw, ho⟩ := hr.own x _ hb
    cases ho with
    | row _ _ _ c T fr hcap hs hcs hsoft hel =>
      refine ⟨hnf, _, hw, .row _ _ _ _ _ _ (by omega) (fun i hi => ?_) hcs hsoft fun i h1 k h2 h3 => ?_⟩
      · rw [← (hv i (by omega) hi).get.1]; exact hs i (by omega)
      · have g := (hv i (by omega) h1).get
        exact g.2 k (by rw [g.1]; exact h2) h2 _ _ _ (hel i (by omega) k (by rw [g.1]; exact h2) h3)
  · rw [Hp.set_ne _ _ hxb] at hx
    exact hr.own x o hx
theorem Triple.rowvi {f : Nat} {args : List AV} {post : AV → Hp → Prop} {b s cap : Nat} {es es' : List (List AV)} (hb : h b = some (.row s es cap)) (hl : es.length = es'.length) (hv : ∀ i (h1 : i < es.length) (h2 : i < es'.length), VIs es[i] es'[i])
    (t : Triple P f args (h.set b (.row s es' cap)) post) : Triple P f args h post := fun fz w cargs r a =>
  (t fz w cargs (r.rowvi hb hl hv) a).mono fun _ w' ⟨cv, x, h', fz', e1, e2, e3, e4, p⟩ => by
    refine ⟨cv, x, h', fz', e1, e2, e3, ⟨e4.os, e4.tape, e4.output, e4.size, e4.grow, fun y hy hn => ?_, fun y hy => ?_⟩, p⟩
    · refine e4.keep y hy ?_
      have : y ≠ b := fun hh => by rw [hh, hb] at hn; cases hn
      rw [Hp.set_ne _ _ this]; exact hn
    · rcases e4.new y hy with g | ⟨o, g⟩ | g
      · exact .inl g
      · by_cases hyb : y = b
        · subst hyb; exact .inr (.inl ⟨_, hb⟩)
        · rw [Hp.set_ne _ _ hyb] at g; exact .inr (.inl ⟨o, g⟩)
      · exact .inr (.inr g)

/-- A part of a row. -/
theorem src_part {s b off len c rc : Nat} {es : List (List AV)} (hs : sat h (pto b (.row s es rc) :: F)) (h1 : off + len ≤ es.length) : srcA s h (.arr b s off len c) = some ((es.drop off).take len) := by
  have hb := hs.at
  simp only [srcA, hb]
  rw [if_pos ⟨trivial, trivial, h1⟩]

/-- append to a slice of one's own, where a load has to stand. -/
theorem app_satO {s bytes : Nat} {v y : AV} {es ys : List (List AV)} {obl : List AItem}
    (hs : sat h (Ow s v es :: F)) (hy : srcA s h y = some ys) (ha : AtomsL ys)
    (hb : (es.length + ys.length) * bytes ≤ 70368744177664) (hk : ∀ v' h', sat h' (Ow s v' (es ++ ys) :: F) → v'.cells = [v'] → v'.isAtom = true → obls P obl (e.put d v') h' ∧ runS P r st (e.put d v') h' k) :
    effR P (appE s bytes v y h) obl d r st e k := by
  refine ⟨ys, hy, ha, ?_⟩
  rcases hs.cases with ⟨rfl, rfl, g⟩ | ⟨b, cap, rfl, g, hle⟩
  · refine ⟨fun h0 => ?_, fun h0 => ⟨by simpa using hb, fun n c hn hc => ?_⟩⟩
    · have := g.add (A := Ow s .nils ([] ++ ys)) (.inl ⟨rfl, by simp [h0]⟩)
      exact hk _ _ this this.els.cells this.els.atom
    · have := (g.new (o := .row s ys c) hn).ow hc
      have t : sat (h.set n (.row s ys c)) (Ow s (.arr n s 0 ys.length c) ([] ++ ys) :: F) := by simpa using this
      exact hk _ _ t t.els.cells t.els.atom
  · have hbb := g.at
    simp only [hbb]
    refine ⟨trivial, trivial, trivial, Nat.le_refl _, trivial, hb, fun n c hn hc _ => ?_⟩
    rw [List.take_length]
    have := ((g.del).new (o := .row s (es ++ ys) c) hn).ow (by simpa using hc)
    have t : sat ((h.del b).set n (.row s (es ++ ys) c)) (Ow s (.arr n s 0 (es.length + ys.length) c) (es ++ ys) :: F) := by simpa using this
    exact hk _ _ t t.els.cells t.els.atom
end
end Go.Hz
