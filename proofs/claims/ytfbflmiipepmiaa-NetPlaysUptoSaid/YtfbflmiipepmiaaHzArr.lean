/- Arrays; bytes converted to bytes. -/
import Derived.Test.YtfbflmiipepmiaaHzMk3
namespace Go.Hz
section
variable {P : Program} {o : Oper}

theorem sim_bldA {t el : TypeId} {len : Nat} {i ie : TypeInfo} {z : Value} {zs : List AV} {parts : Array (Nat × Operand)} {qs : List (Nat × Nat × AE)} (ho : o.op = .build t parts) (hd : P.underlying t = some (.array len el)) (hi : P.info? t = some i)
    (hie : P.info? el = some ie) (hz : i.zero = some z) (hzs : zeroA z = some zs) (hq : AE.ofParts (fun i => some (i * ie.size, ie.size)) parts.toList = some qs) :
    OpOK P o (.pure fun e => (fillA zs (evParts e qs)).map .agg) := by
  refine OpOK.of_pure fun fz e a w he v hv => ?_
  obtain ⟨g1, g2⟩ := AE.ofParts_ok he hq
  cases hf : fillA zs (evParts e qs) with
  | none => rw [hf] at hv; cases hv
  | some out =>
    rw [hf] at hv
    cases hv
    obtain ⟨c', h1, h2⟩ := fill_run (place := fun i => some (i * ie.size, ie.size)) (parts.toList.map fun p => (p.1, a.eval p.2)) (evParts e qs) zs z.cells out (by simp [evParts, g1])
      (fun j a b => by
        have := g2 j (by simpa using a) (by simpa [evParts] using b)
        simpa [evParts] using this) (zeroA_ok hzs fz w.heap) hf
    have hl := h2.1
    simp only [Array.length_toList] at hl
    refine ⟨.agg c', ?_, .agg _ _ hl fun j a b => h2.2 j a (by simpa using b)⟩
    simp only [execOp, ho]
    refine run_value _ ?_
    unfold Instr.build
    rw [run_bind, run_zero hi hz, Result.andThen_ok, run_bind, run_underlying hd, Result.andThen_ok]
    simp only []
    rw [run_bind, run_sizeOf hie, Result.andThen_ok]
    have e1 : (Array.map (fun x => match x with | (i, x) => (i, a.eval x)) parts).toList = parts.toList.map fun p => (p.1, a.eval p.2) := by
      rw [Array.toList_map]
    rw [e1, h1]
    rfl

/-- The address of an element of an array. -/
def iapA (n s : Nat) (p i : AV) : Option AV :=
  match i with
  | .int _ k => if 0 ≤ k ∧ k < n then faA (k.toNat * s) p else none
  | _ => none

theorem sim_iap {t el : TypeId} {n : Nat} {i : TypeInfo} {x y : Operand} {x' y' : AE} (ho : o.op = .indexAddr t x y) (ht : P.underlying t = some (.array n el)) (hi : P.info? el = some i) (hx : AE.of x = some x') (hy : AE.of y = some y') :
    OpOK P o (.pure fun e => iapA n i.size (x'.ev e) (y'.ev e)) := by
  refine OpOK.of_pure fun fz e a w he v hv => ?_
  have h1 := AE.of_ok hx he
  have h2 := AE.of_ok hy he
  simp only [execOp, ho]
  generalize a.eval x = cx at *
  generalize a.eval y = cy at *
  generalize x'.ev e = ax at *
  generalize y'.ev e = ay at *
  have key : ∀ (ad : Addr) (k : IntKind) (m : Int), cx = .pointer (some ad) → cy = .int k m → 0 ≤ m → m < n →
      (Instr.indexAt t cx cy).run P w = .ok (.pointer (some (ad.add (m.toNat * i.size)))) w := fun ad k m hc hc' h0 hn => by
    subst hc hc'
    unfold Instr.indexAt
    simp [run_underlying ht, asIntOf, h0, hn, run_sizeOf hi, Instr.sureAddr]
  unfold iapA at hv
  split at hv <;> first | (cases hv; done) | skip
  rename_i k m
  cases h2.int_inv
  split at hv <;> first | (cases hv; done) | skip
  rename_i hc
  unfold faA at hv
  split at hv
  · cases hv; cases h1.ptr_inv
    refine ⟨_, run_value _ (key _ _ _ rfl rfl hc.1 hc.2), ?_⟩
    rw [Addr.add_none, Nat.add_assoc]; exact .ptr _ _ _ _
  · split at hv
    · rename_i hl
      cases hv
      obtain ⟨b, o', rfl, h2⟩ := h1.ro_drop hl
      refine ⟨_, run_value _ (key _ _ _ rfl rfl hc.1 hc.2), ?_⟩
      rw [Addr.add_none]; exact h2
    · cases hv
  · cases hv

def ixaA (n s : Nat) (ag : Bool) (x i : AV) : Option AV :=
  match x, i with
  | .agg cs, .int _ k => if 0 ≤ k ∧ k < n then partA cs (k.toNat * s) s ag else none
  | _, _ => none

theorem sim_ixa {t el : TypeId} {n : Nat} {i : TypeInfo} {d : TypeDesc} {x y : Operand} {x' y' : AE} (ho : o.op = .index t x y) (ht : P.underlying t = some (.array n el)) (hi : P.info? el = some i) (hd : P.underlying el = some d)
    (hx : AE.of x = some x') (hy : AE.of y = some y') : OpOK P o (.pure fun e => ixaA n i.size d.isAg (x'.ev e) (y'.ev e)) := by
  refine OpOK.of_pure fun fz e a w he v hv => ?_
  have h1 := AE.of_ok hx he
  have h2 := AE.of_ok hy he
  simp only [execOp, ho]
  generalize a.eval x = cx at *
  generalize a.eval y = cy at *
  generalize x'.ev e = ax at *
  generalize y'.ev e = ay at *
  unfold ixaA at hv
  split at hv <;> first | (cases hv; done) | skip
  split at hv <;> first | (cases hv; done) | skip
  rename_i k m hc
  cases h2.int_inv
  obtain ⟨vs, rfl, h3⟩ := h1.agg_inv
  obtain ⟨cv, h4, h5⟩ := part_run hd hi h3 hv
  refine ⟨cv, run_value _ ?_, h5⟩
  unfold Instr.index
  simp [run_underlying ht, asIntOf, hc.1, hc.2, run_sizeOf hi, h4]

/-- Bytes that are converted to bytes: the value; the model marks their block. -/
def cvbE (x : AV) (h : Hp) (K : AV → Hp → Prop) : Prop :=
  match x with
  | .arr b s off len cap => (match h b with | some (.row _ _ _) => True | _ => False) ∧ 0 < cap ∧ K (.arr b s off len cap) h
  | _ => False

theorem sim_cvb {s el : TypeId} {x : Operand} {x' : AE} (ho : o.op = .convert s s x) (hs : P.underlying s = some (.slice el)) (he' : P.underlying el = some (.int .u8)) (hx : AE.of x = some x') :
    OpOK P o (.eff fun e h K => cvbE (x'.ev e) h K) := by
  intro fz e h a w K he hr hh
  have h1 := AE.of_ok hx he
  change cvbE (x'.ev e) h K at hh
  unfold cvbE at hh
  split at hh <;> first | exact hh.elim | skip
  rename_i b sz off len cap heq
  obtain ⟨hrow, hcap, k⟩ := hh
  rw [heq] at h1
  split at hrow <;> first | exact hrow.elim | skip
  rename_i s'' es rc hb
  obtain ⟨hnf, c, T, fr, g1, g2, g3, g4, g5, g6⟩ := hr.row hb
  have hv : a.eval x = .slice (some ⟨b, off * sz, none⟩) len cap := by
    generalize a.eval x = cx at *
    cases h1 with
    | arr => rfl
    | arr0 => omega
  let fr' : Nat × Nat := if fr.1 == fr.2 then (c.size, c.size + 1) else (min fr.1 c.size, max fr.2 (c.size + 1))
  have hsoft : Soft c fr' := by
    right
    simp only [fr']
    split
    · exact Nat.le_refl _
    · rename_i hne
      rcases g5 with ⟨q1, q2⟩ | q
      · exfalso; apply hne; simp [q1, q2]
      · show c.size ≤ min fr.1 c.size; omega
  have hlt : b < w.heap.size := (Array.getElem?_eq_some_iff.1 g1).1
  have hval : w.heap[b] = .cells c T fr := (Array.getElem?_eq_some_iff.1 g1).2
  have hfz : w.freeze ⟨b, c.size, none⟩ 1 = withBlock w b (.cells c T fr') := by
    unfold World.freeze withBlock
    simp only [Nat.one_ne_zero, if_false]
    congr 1
    apply Array.ext_getElem?
    intro j
    rw [Array.getElem?_modify, Array.getElem?_setIfInBounds]
    by_cases hj : b = j
    · subst hj; simp [hlt, hval, fr']
    · simp [hj]
  have hor : OR fz w.heap (.row s'' es rc) (.cells c T fr') := .row _ _ _ _ _ _ g2 g3 g4 hsoft g6
  obtain ⟨r1, r2⟩ := hr.turn hb hor
  have hset : h.set b (.row s'' es rc) = h := by
    funext y
    simp only [Hp.set]
    split
    · rename_i hy; rw [hy, hb]
    · rfl
  rw [hset] at r1 r2
  refine OutOK.of_run (cv := .slice (some ⟨b, off * sz, none⟩) len cap) (w' := withBlock w b (.cells c T fr')) ?_ ⟨_, h, fz, k, .arr _ _ _ _ _, r1, r2⟩
  simp only [execOp, ho]
  refine run_value _ ?_
  unfold convert
  rw [run_bind, run_underlying hs, Result.andThen_ok, run_bind, run_underlying hs, Result.andThen_ok, hv]
  simp only []
  rw [run_bind, run_underlying he', Result.andThen_ok]
  simp only [beq_self_eq_true]
  have hsh : w.shape? b = some (T, c.size) := by
    unfold World.shape?; rw [g1]
  have hms : (markStringish ⟨b, off * sz, none⟩).run P w = .ok () (withBlock w b (.cells c T fr')) := by
    unfold markStringish
    rw [run_bind, run_shape, Result.andThen_ok, hsh]
    simp only []
    rw [run_freeze, hfz]
  rw [run_bind, hms, Result.andThen_ok]
  rfl

theorem good_cvb {x : AE} : (Sm.eff fun e h K => cvbE (x.ev e) h K).good x.looks := by
  refine ⟨fun e e' h K hh hf => ?_, fun e h K K' hk hf => ?_, fun e h K n ob hn hf => ?_⟩
  · dsimp only at hf ⊢
    rwa [← AE.ev_congr (y := x) fun t ht => hh t (by simp [ht])]
  · dsimp only at hf ⊢
    unfold cvbE at *
    split at hf <;> first | exact hf.elim | skip
    exact ⟨hf.1, hf.2.1, hk _ _ hf.2.2⟩
  · dsimp only at hf ⊢
    unfold cvbE at *
    split at hf <;> first | exact hf.elim | skip
    rename_i b s off len cap _
    have hbn : b ≠ n := fun hh => by
      have := hf.1
      rw [hh, hn] at this; exact this
    refine ⟨by rw [Hp.set_ne _ _ hbn]; exact hf.1, hf.2.1, h, hn, rfl, hf.2.2⟩

end
end Go.Hz
