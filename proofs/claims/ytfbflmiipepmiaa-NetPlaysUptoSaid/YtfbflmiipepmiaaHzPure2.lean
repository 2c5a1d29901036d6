/- More operations that only compute: slicing, lengths, tuples, structs made by value, interfaces, function values. -/
import Derived.Test.YtfbflmiipepmiaaHzPure
namespace Go.Hz
section
variable {P : Program} {o : Oper}

def boundA : Option AV → Nat → Option Nat
  | none, d => some d
  | some (.int _ n), _ => if 0 ≤ n then some n.toNat else none
  | _, _ => none

/-- A slice expression of a string, of a slice (s: the size of an element). -/
def slcS (x : AV) (lo hi : Option AV) : Option AV :=
  match x with
  | .str l => match boundA lo 0, boundA hi l.length with
    | some a, some b => if a ≤ b ∧ b ≤ l.length then some (.str ((l.take b).drop a)) else none
    | _, _ => none
  | _ => none

def slcL (s : Nat) (x : AV) (lo hi : Option AV) : Option AV :=
  match x with
  | .lst es => match boundA lo 0, boundA hi es.length with
    | some a, some b => if a ≤ b ∧ b ≤ es.length ∧ (∀ el ∈ es, el.length = s) then some (.lst ((es.take b).drop a)) else none
    | _, _ => none
  | .arr b' s' off len cap => match boundA lo 0, boundA hi len with
    | some a, some b => if a ≤ b ∧ b ≤ cap ∧ len ≤ cap ∧ s' = s then some (.arr b' s (off + a) (b - a) (cap - a)) else none
    | _, _ => none
  | .nils => match boundA lo 0, boundA hi 0 with
    | some a, some b => if a = 0 ∧ b = 0 then some .nils else none
    | _, _ => none
  | .emp => match boundA lo 0, boundA hi 0 with
    | some a, some b => if a = 0 ∧ b = 0 then some .emp else none
    | _, _ => none
  | _ => none

theorem bound_run {v : Option AV} {cv : Option Value} {fz : Nat → Prop} {w : World} {d y n : Nat} {code : BoundsCode} (hv : match v, cv with
    | none, none => True
    | some a, some c => VR fz w.heap a c
    | _, _ => False) (hb : boundA v d = some n) (hn : n ≤ y) :
    (match cv with
      | some c => Instr.sliceBound c y code
      | none => pure d).run P w = .ok n w := by
  cases v with
  | none =>
    cases cv with
    | none => cases hb; rfl
    | some c => exact hv.elim
  | some a =>
    cases cv with
    | none => exact hv.elim
    | some c =>
      unfold boundA at hb
      cases a <;> simp at hb
      cases hv.int_inv
      obtain ⟨h0, rfl⟩ := hb
      unfold Instr.sliceBound
      rename_i k q
      have : q ≤ (y : Int) := by omega
      simp [asIntOf, h0, this]

def optR (fz : Nat → Prop) (w : World) (v : Option AV) (cv : Option Value) : Prop := match v, cv with
    | none, none => True
    | some a, some c => VR fz w.heap a c
    | _, _ => False

theorem bounds_run {lo hi : Option AV} {clo chi : Option Value} {fz : Nat → Prop} {w : World} {isS : Bool} {len cap a b : Nat} (h1 : optR fz w lo clo) (h2 : optR fz w hi chi)
    (ha : boundA lo 0 = some a) (hb : boundA hi len = some b) (hab : a ≤ b) (hbc : b ≤ cap) (hl : chi = none → len ≤ cap) :
    (Instr.sliceBounds isS len cap clo chi none).run P w = .ok (a, b, cap) w := by
  have e1 := bound_run (P := P) (y := cap) (code := if isS then .sliceAcap else .sliceAlen) h2 hb hbc
  have e2 := bound_run (P := P) (y := b) (code := .sliceB) h1 ha hab
  unfold Instr.sliceBounds
  cases chi with
  | none =>
    have hbl : b = len := by
      cases hi with
      | none => cases hb; rfl
      | some a => exact h2.elim
    subst hbl
    cases clo with
    | none => simp at e2 ⊢; exact e2
    | some c => simp at e2 ⊢; simp [e2]
  | some ch =>
    simp at e1
    cases clo with
    | none => simp at e2 ⊢; simp [e1, e2]
    | some c => simp at e2 ⊢; simp [e1, e2]

def AE.ofO : Option Operand → Option (Option AE)
  | none => some none
  | some x => (AE.of x).map some

theorem AE.ofO_ok {x : Option Operand} {y : Option AE} (h : AE.ofO x = some y) {fz : Nat → Prop} {w : World} {e : Env} {a : Act} (he : EnvR fz w.heap e a.tmps) :
    optR fz w (y.map (·.ev e)) (x.map a.eval) := by
  cases x with
  | none => cases h; trivial
  | some x =>
    simp only [AE.ofO] at h
    cases hx : AE.of x with
    | none => rw [hx] at h; cases h
    | some z => rw [hx] at h; cases h; exact AE.of_ok hx he

theorem byteArray_extract (l : List UInt8) (a b : Nat) : (ByteArray.mk l.toArray).extract a b = ByteArray.mk ((l.take b).drop a).toArray := by
  apply ByteArray.ext
  simp [List.extract_eq_take_drop, List.drop_take]

theorem VR.lst_sub {fz : Nat → Prop} {H : Array Obj} {es : List (List AV)} {cv : Value} {a b s : Nat} (h : VR fz H (.lst es) cv) (hab : a ≤ b) (hb : b ≤ es.length) (hs : ∀ el ∈ es, el.length = s) :
    ∃ ad cap, cv = .slice ad es.length cap ∧ b ≤ cap ∧ VR fz H (.lst ((es.take b).drop a)) (.slice (if cap = a then ad else ad.map (·.add (a * s))) (b - a) (cap - a)) := by
  cases h with
  | lst0 ad cap h0 =>
    have : b = 0 := by simpa using hb
    subst this
    have : a = 0 := by omega
    subst this
    exact ⟨ad, cap, rfl, by omega, .lst0 _ _ (by
      intro hn
      split at hn
      · exact h0 hn
      · cases ad with
        | none => exact h0 rfl
        | some _ => cases hn)⟩
  | lst _ bl o s' cap c T fr hf hb' hl hs' hc h =>
    refine ⟨_, cap, rfl, by omega, ?_⟩
    by_cases hba : b - a = 0
    · have : (es.take b).drop a = [] := List.drop_eq_nil_of_le (by simp; omega)
      rw [this, hba]
      exact .lst0 _ _ (by intro hn; split at hn <;> cases hn)
    · have hlen : ((es.take b).drop a).length = b - a := by simp; omega
      have hss : s' = s := by
        have h0 : a < es.length := by omega
        rw [← hs' a h0]; exact hs _ (List.getElem_mem h0)
      subst hss
      rw [if_neg (by omega), ← hlen]
      simp only [Option.map_some, Addr.add_none]
      have hget : ∀ i (h1 : i < ((es.take b).drop a).length), ((es.take b).drop a)[i] = es[a + i]'(by rw [hlen] at h1; omega) := fun i h1 => by simp
      refine .lst _ bl _ s' _ c T fr hf hb' (by omega) (fun i h1 => by rw [hget i h1]; exact hs' _ _) ?_ fun i h1 k h2 h3 => ?_
      · rw [hlen, Nat.add_assoc, ← Nat.add_mul, show a + (b - a) = b from by omega]
        have := Nat.mul_le_mul_right s' hb
        omega
      · simp only [hget i h1] at h2 ⊢
        have e : o + a * s' + i * s' + k = o + (a + i) * s' + k := by rw [Nat.add_mul]; omega
        simp only [e] at h3 ⊢
        exact h _ _ k h2 h3

theorem sim_slcS {t : TypeId} {x : Operand} {lo hi : Option Operand} {x' : AE} {lo' hi' : Option AE} (ho : o.op = .slice t x lo hi none) (hd : P.underlying t = some .string)
    (hx : AE.of x = some x') (hlo : AE.ofO lo = some lo') (hhi : AE.ofO hi = some hi') :
    OpOK P o (.pure fun e => slcS (x'.ev e) (lo'.map (·.ev e)) (hi'.map (·.ev e))) := by
  refine OpOK.of_pure fun fz e a w he v hv => ?_
  have h1 := AE.of_ok hx he
  have h2 := AE.ofO_ok hlo he
  have h3 := AE.ofO_ok hhi he
  simp only [execOp, ho, Option.map_none]
  generalize a.eval x = cx at *
  generalize lo.map a.eval = clo at *
  generalize hi.map a.eval = chi at *
  generalize x'.ev e = ax at *
  generalize lo'.map (·.ev e) = alo at *
  generalize hi'.map (·.ev e) = ahi at *
  unfold slcS at hv
  split at hv <;> first | (cases hv; done) | skip
  · rename_i l
    cases h1.str_inv
    split at hv <;> first | (cases hv; done) | skip
    rename_i p q hp hq
    split at hv <;> first | (cases hv; done) | skip
    rename_i hc
    cases hv
    have := bounds_run (P := P) (isS := false) (cap := l.length) h2 h3 hp hq hc.1 hc.2 (fun _ => Nat.le_refl _)
    have e1 : (ByteArray.mk l.toArray).size = l.length := by simp [ByteArray.size]
    refine ⟨_, run_value _ ?_, .str _⟩
    unfold Instr.sliceAt Instr.slice
    simp [run_underlying hd, e1, this, byteArray_extract]

theorem sim_slcL {t el : TypeId} {i : TypeInfo} {x : Operand} {lo hi : Option Operand} {x' : AE} {lo' hi' : Option AE} (ho : o.op = .slice t x lo hi none) (hd : P.underlying t = some (.slice el)) (hi0 : P.info? el = some i)
    (hx : AE.of x = some x') (hlo : AE.ofO lo = some lo') (hhi : AE.ofO hi = some hi') :
    OpOK P o (.pure fun e => slcL i.size (x'.ev e) (lo'.map (·.ev e)) (hi'.map (·.ev e))) := by
  refine OpOK.of_pure fun fz e a w he v hv => ?_
  have h1 := AE.of_ok hx he
  have h2 := AE.ofO_ok hlo he
  have h3 := AE.ofO_ok hhi he
  simp only [execOp, ho, Option.map_none]
  generalize a.eval x = cx at *
  generalize lo.map a.eval = clo at *
  generalize hi.map a.eval = chi at *
  generalize x'.ev e = ax at *
  generalize lo'.map (·.ev e) = alo at *
  generalize hi'.map (·.ev e) = ahi at *
  have key : ∀ ad len cap p q, cx = .slice ad len cap → boundA alo 0 = some p → boundA ahi len = some q → p ≤ q → q ≤ cap → (chi = none → len ≤ cap) →
      (Instr.sliceAt t cx clo chi none).run P w = .ok (.slice (if cap = p then ad else ad.map (·.add (p * i.size))) (q - p) (cap - p)) w := fun ad len cap p q hc hp hq hpq hqc hl => by
    subst hc
    have := bounds_run (P := P) (isS := true) h2 h3 hp hq hpq hqc hl
    unfold Instr.sliceAt Instr.slice
    simp [run_underlying hd, this, run_sizeOf hi0]
  have hlen : ∀ {len q : Nat}, boundA ahi len = some q → chi = none → q = len := fun {len q} hq hc => by
    subst hc
    cases ahi with
    | none => cases hq; rfl
    | some a => exact h3.elim
  unfold slcL at hv
  split at hv <;> first | (cases hv; done) | skip
  · rename_i es
    split at hv <;> first | (cases hv; done) | skip
    rename_i p q hp hq
    split at hv <;> first | (cases hv; done) | skip
    rename_i hc
    cases hv
    obtain ⟨ad, cap, rfl, hcap, h4⟩ := h1.lst_sub hc.1 hc.2.1 hc.2.2
    exact ⟨_, run_value _ (key _ _ _ _ _ rfl hp hq hc.1 hcap (fun hch => by have := hlen hq hch; omega)), h4⟩
  · rename_i bl s' off len cap
    split at hv <;> first | (cases hv; done) | skip
    rename_i p q hp hq
    split at hv <;> first | (cases hv; done) | skip
    rename_i hc
    obtain ⟨hpq, hqc, hlc, rfl⟩ := hc
    cases hv
    obtain ⟨ad, rfl⟩ := h1.arr_some
    refine ⟨_, run_value _ (key _ _ _ _ _ rfl hp hq hpq hqc (fun _ => hlc)), ?_⟩
    by_cases hcp : cap = p
    · have hq' : q = p := by omega
      subst hq' hcp
      simp only [if_true, Nat.sub_self]
      cases h1 with
      | arr => exact .arr0 _ _ _ _
      | arr0 => exact .arr0 _ _ _ _
    · rw [if_neg hcp]
      cases h1 with
      | arr =>
        simp only [Option.map_some, Addr.add_none]
        rw [← Nat.add_mul]
        exact .arr _ _ _ _ _
      | arr0 => omega
  · cases h1.nils_inv
    split at hv <;> first | (cases hv; done) | skip
    rename_i p q hp hq
    split at hv <;> first | (cases hv; done) | skip
    rename_i hc
    obtain ⟨rfl, rfl⟩ := hc
    cases hv
    exact ⟨_, run_value _ (key _ _ _ _ _ rfl hp hq (Nat.le_refl _) (Nat.le_refl _) (fun _ => Nat.le_refl _)), .nils⟩
  · obtain ⟨ad, cap, rfl⟩ := h1.emp_inv
    split at hv <;> first | (cases hv; done) | skip
    rename_i p q hp hq
    split at hv <;> first | (cases hv; done) | skip
    rename_i hc
    obtain ⟨rfl, rfl⟩ := hc
    cases hv
    refine ⟨_, run_value _ (key _ _ _ _ _ rfl hp hq (Nat.le_refl _) (Nat.zero_le _) (fun _ => Nat.zero_le _)), ?_⟩
    by_cases hcp : cap = 0
    · rw [if_pos hcp]; exact .emp _ _
    · rw [if_neg hcp]; exact .emp _ _

end
end Go.Hz
