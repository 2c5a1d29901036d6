/- slices.Sort, slices.Compact of strings. -/
import Derived.Test.YtkclojjeepomfaaR5MvccFullLawPE
set_option linter.unusedSimpArgs false
set_option linter.unusedVariables false
set_option maxRecDepth 10000
namespace Go.Proofs.Ytkclojjeepomfaa
open Go.Hz Go.Sort

def keyS : List AV → Key
  | .str x :: _ => x
  | _ => []
def ltS (a b : List AV) : Bool := ltK (keyS a) (keyS b)
theorem swo_ltS : SWO ltS := ⟨fun x => ltK_irrefl _, fun x y z h1 h2 => ltK_trans h1 h2, fun x y z h1 h2 => by
  cases h : ltS x z with
  | false => rfl
  | true =>
    have := ltK_lt_of_lt_of_ge (a := keyS x) (b := keyS z) (c := keyS y) h h2
    rw [show ltK (keyS x) (keyS y) = ltS x y from rfl, h1] at this; cases this⟩
def GSt (c : List AV) : Prop := ∃ k : Key, c = [.str k]
theorem goodE_st : GoodE 1 false GSt where
  len := by rintro _ ⟨x, rfl⟩; rfl
  atoms := by rintro _ ⟨x, rfl⟩; rfl
  cells := by rintro _ ⟨x, rfl⟩; rfl
  pos := by omega
  one := fun _ => rfl
section
variable {h : Hp} {F : List Asr}
theorem nan_S {a : Key} (hs : sat h F) : Triple Try.prog 115 [.str a] h (fun r h => r = .bool false ∧ sat h F) := by
  refine t115 (Nat.le_of_ble_eq_true rfl) ?_
  simp (disch := omega) only [F115, go_sem, reduceCtorEq, ↓reduceIte, Nat.reduceEqDiff, Nat.reduceAdd, Nat.reduceSub, Nat.reduceMul, Nat.reduceLT, Nat.reduceLeDiff, Int.reduceEq, Int.reduceNe, Int.reduceLT, Int.reduceLE, Int.reduceBEq, Int.reduceBNe, Int.reduceToNat]
  exact hs
theorem less_S : LessT Try.prog false GSt ltS 101 := by
  rintro _ _ L h ⟨x, rfl⟩ ⟨y, rfl⟩ hs
  show Triple Try.prog _ [.str x, .str y] h _
  refine t101 (Nat.le_of_ble_eq_true rfl) ?_
  simp (disch := omega) only [F101, go_sem, reduceCtorEq, ↓reduceIte, Nat.reduceEqDiff, Nat.reduceAdd, Nat.reduceSub, Nat.reduceMul, Nat.reduceLT, Nat.reduceLeDiff, Int.reduceEq, Int.reduceNe, Int.reduceLT, Int.reduceLE, Int.reduceBEq, Int.reduceBNe, Int.reduceToNat]
  refine call_use (nan_S hs) ?_
  rintro r h ⟨hr, hs⟩
  subst hr
  simp (disch := omega) only [go_sem, reduceCtorEq, ↓reduceIte, Nat.reduceEqDiff, Nat.reduceAdd, Nat.reduceSub, Nat.reduceMul, Nat.reduceLT, Nat.reduceLeDiff, Int.reduceEq, Int.reduceNe, Int.reduceLT, Int.reduceLE, Int.reduceBEq, Int.reduceBNe, Int.reduceToNat]
  exact ⟨rfl, hs⟩
theorem insn_S (hs : sat h F) : Triple Try.prog 95 [.nils, .int .i64 0, .int .i64 0] h (fun r h => sat h F) := by
  refine t95 (Nat.le_of_ble_eq_true rfl) ?_
  simp (disch := omega) only [F95, go_sem, reduceCtorEq, ↓reduceIte, Nat.reduceEqDiff, Nat.reduceAdd, Nat.reduceSub, Nat.reduceMul, Nat.reduceLT, Nat.reduceLeDiff, Int.reduceEq, Int.reduceNe, Int.reduceLT, Int.reduceLE, Int.reduceBEq, Int.reduceBNe, Int.reduceToNat]
  refine run_loopN (fun n e h => sat h F ∧ (e 1 = .int .i64 0 ∧ e 2 = .int .i64 0 ∧ e 6 = .int .i64 1)) 0 ⟨hs, rfl, rfl, rfl⟩ ?_
  rintro n e h ⟨hs, he⟩
  simp (disch := omega) only [go_sem, reduceCtorEq, ↓reduceIte, Nat.reduceEqDiff, Nat.reduceAdd, Nat.reduceSub, Nat.reduceMul, Nat.reduceLT, Nat.reduceLeDiff, Int.reduceEq, Int.reduceNe, Int.reduceLT, Int.reduceLE, Int.reduceBEq, Int.reduceBNe, Int.reduceToNat, he]
  exact hs
theorem pdqn_S {lim : AV} (hs : sat h F) : Triple Try.prog 88 [.nils, .int .i64 0, .int .i64 0, lim] h (fun r h => sat h F) := by
  refine t88 (Nat.le_of_ble_eq_true rfl) ?_
  simp (disch := omega) only [F88, go_sem, reduceCtorEq, ↓reduceIte, Nat.reduceEqDiff, Nat.reduceAdd, Nat.reduceSub, Nat.reduceMul, Nat.reduceLT, Nat.reduceLeDiff, Int.reduceEq, Int.reduceNe, Int.reduceLT, Int.reduceLE, Int.reduceBEq, Int.reduceBNe, Int.reduceToNat]
  refine run_loopN (fun n e h => sat h F ∧ (e 0 = .nils ∧ e 1 = .int .i64 0 ∧ e 2 = .int .i64 0)) 0 ⟨hs, rfl, rfl, rfl⟩ ?_
  rintro n e h ⟨hs, he⟩
  have z0 : decide ((0:Int) - 0 ≤ 12) = true := rfl
  simp (disch := omega) only [go_sem, reduceCtorEq, ↓reduceIte, Nat.reduceEqDiff, Nat.reduceAdd, Nat.reduceSub, Nat.reduceMul, Nat.reduceLT, Nat.reduceLeDiff, Int.reduceEq, Int.reduceNe, Int.reduceLT, Int.reduceLE, Int.reduceBEq, Int.reduceBNe, Int.reduceToNat, he, z0]
  refine call_use (insn_S hs) ?_
  intro r h hs
  simp (disch := omega) only [go_sem, reduceCtorEq, ↓reduceIte, Nat.reduceEqDiff, Nat.reduceAdd, Nat.reduceSub, Nat.reduceMul, Nat.reduceLT, Nat.reduceLeDiff, Int.reduceEq, Int.reduceNe, Int.reduceLT, Int.reduceLE, Int.reduceBEq, Int.reduceBNe, Int.reduceToNat]
  exact hs
theorem ga_strs {l : List Key} : GA GSt (l.map fun k => [AV.str k]).toArray := by
  intro i hi
  have hi : i < l.length := by simpa using hi
  exact ⟨l[i], by simp [hi]⟩
/-- slices.Sort. -/
theorem sort_S {v : AV} {ks : List Key} (hs : sat h (Ow 1 v (ks.map fun k => [.str k]) :: F)) (hz : ks.length ≤ 100000000) : Triple Try.prog 69 [v] h (fun r h => ∃ ks' : List Key, ks'.Perm ks ∧ ks'.Pairwise (fun a b => ltK b a = false) ∧ sat h (Ow 1 v (ks'.map fun k => [.str k]) :: F)) := by
  rcases hs.cases with ⟨rfl, hn, h2⟩ | ⟨b, cap, rfl, h2, hle⟩
  · have : ks = [] := by simpa using hn
    subst this
    refine t69 (Nat.le_of_ble_eq_true rfl) ?_
    simp (disch := omega) only [F69, go_sem, reduceCtorEq, ↓reduceIte, Nat.reduceEqDiff, Nat.reduceAdd, Nat.reduceSub, Nat.reduceMul, Nat.reduceLT, Nat.reduceLeDiff, Int.reduceEq, Int.reduceNe, Int.reduceLT, Int.reduceLE, Int.reduceBEq, Int.reduceBNe, Int.reduceToNat]
    refine call_use (len0 (n := 0) h2 (by omega)) ?_
    rintro r h ⟨t, hr, h1, h2, h3, hs⟩
    subst hr
    simp (disch := omega) only [go_sem, reduceCtorEq, ↓reduceIte, Nat.reduceEqDiff, Nat.reduceAdd, Nat.reduceSub, Nat.reduceMul, Nat.reduceLT, Nat.reduceLeDiff, Int.reduceEq, Int.reduceNe, Int.reduceLT, Int.reduceLE, Int.reduceBEq, Int.reduceBNe, Int.reduceToNat]
    refine call_use (pdqn_S hs) ?_
    intro r h hs
    simp (disch := omega) only [go_sem, reduceCtorEq, ↓reduceIte, Nat.reduceEqDiff, Nat.reduceAdd, Nat.reduceSub, Nat.reduceMul, Nat.reduceLT, Nat.reduceLeDiff, Int.reduceEq, Int.reduceNe, Int.reduceLT, Int.reduceLE, Int.reduceBEq, Int.reduceBNe, Int.reduceToNat]
    exact ⟨[], .refl _, .nil, hs.add ow_nil⟩
  · have hsz : (ks.map fun k => [AV.str k]).toArray.size = ks.length := by simp
    have hll : (ks.map fun k => [AV.str k]).length = ks.length := by simp
    rw [hll] at hle ⊢
    have w1 := wu64 (n := ks.length) (by omega)
    refine t69 (Nat.le_of_ble_eq_true rfl) ?_
    simp (disch := omega) only [F69, w1, go_sem, reduceCtorEq, ↓reduceIte, Nat.reduceEqDiff, Nat.reduceAdd, Nat.reduceSub, Nat.reduceMul, Nat.reduceLT, Nat.reduceLeDiff, Int.reduceEq, Int.reduceNe, Int.reduceLT, Int.reduceLE, Int.reduceBEq, Int.reduceBNe, Int.reduceToNat]
    refine call_use (len0 h2 (by omega)) ?_
    rintro r h ⟨t, hr, h1, _, h3, hs⟩
    subst hr
    simp (disch := omega) only [go_sem, reduceCtorEq, ↓reduceIte, Nat.reduceEqDiff, Nat.reduceAdd, Nat.reduceSub, Nat.reduceMul, Nat.reduceLT, Nat.reduceLeDiff, Int.reduceEq, Int.reduceNe, Int.reduceLT, Int.reduceLE, Int.reduceBEq, Int.reduceBNe, Int.reduceToNat]
    have hp := pdq_S less_S goodE_st swo_ltS _ F h (ks.map fun k => [AV.str k]).toArray 0 ks.length t b cap (Nat.le_refl _) (by simpa using hs) ga_strs (Nat.zero_le _) (by simp) (by simp; omega) (.inl rfl) (by omega)
    rw [hsz] at hp
    refine call_use hp ?_
    rintro r h ⟨R, p1, p2, p3, p4, hs⟩
    simp (disch := omega) only [go_sem, reduceCtorEq, ↓reduceIte, Nat.reduceEqDiff, Nat.reduceAdd, Nat.reduceSub, Nat.reduceMul, Nat.reduceLT, Nat.reduceLeDiff, Int.reduceEq, Int.reduceNe, Int.reduceLT, Int.reduceLE, Int.reduceBEq, Int.reduceBNe, Int.reduceToNat]
    have hR : ∃ ks' : List Key, R.toList = ks'.map fun k => [AV.str k] := by
      have : ∀ x ∈ R.toList, GSt x := by
        intro x hx
        obtain ⟨i, hi, rfl⟩ := List.getElem_of_mem hx
        have := p3 i (by simpa using hi)
        simpa [getElem!_pos R i (by simpa using hi)] using this
      generalize R.toList = l at this
      induction l with
      | nil => exact ⟨[], rfl⟩
      | cons x l ih =>
        obtain ⟨l', hl'⟩ := ih fun y hy => this y (List.mem_cons_of_mem _ hy)
        obtain ⟨k, hk⟩ := this x (by simp)
        exact ⟨k :: l', by rw [hl', hk]; rfl⟩
    obtain ⟨ks', hks⟩ := hR
    have q1 : R.toList.Perm (ks.map fun k => [AV.str k]) := by
      have := p1.2.2
      have e1 : R.extract 0 ks.length = R := by rw [show ks.length = R.size from p4.symm]; simp
      have e2 : (ks.map fun k => [AV.str k]).toArray.extract 0 ks.length = (ks.map fun k => [AV.str k]).toArray := by
        simp [List.take_of_length_le]
      rw [e1, e2] at this
      exact this
    have q2 : R.toList.Pairwise (fun a b => ltS b a = false) := by
      rw [List.pairwise_iff_getElem]
      intro i j hi hj hij
      have hj' : j < R.size := by simpa using hj
      have hi' : i < R.size := by simpa using hi
      have := p2 i j (Nat.zero_le _) hij (by rw [← p4]; exact hj')
      simpa [getElem!_pos R i hi', getElem!_pos R j hj'] using this
    rw [hks] at q1 q2 hs
    refine ⟨ks', ?_, ?_, ?_⟩
    · have := q1.map keyS
      simpa [Function.comp_def, keyS] using this
    · rw [List.pairwise_map] at q2
      exact q2
    · have hl5 : ks'.length = ks.length := by have := q1.length_eq; simpa using this
      have := hs.ow (by simp; omega)
      simpa [hl5] using this
/-- Rising: of what stands there, each once. -/
theorem srtS_app {R : List Key} {y x : Key} {k : Nat} (hR : SrtS R) (hk : k + 1 = R.length) (hy : R[k]? = some y) (hx : ltK y x = true) : SrtS (R ++ [x]) := by
  refine List.pairwise_append.2 ⟨hR, List.pairwise_singleton _ _, fun a ha b hb => ?_⟩
  simp at hb; subst hb
  obtain ⟨m, hm, rfl⟩ := List.getElem_of_mem ha
  have hk2 : k < R.length := by omega
  rw [List.getElem?_eq_getElem hk2] at hy
  cases hy
  by_cases hmk : m = k
  · subst hmk; exact hx
  · exact ltK_trans (List.pairwise_iff_getElem.1 hR m k hm hk2 (by omega)) hx
theorem comp_S {v : AV} {ks : List Key} (hs : sat h (Ow 1 v (ks.map fun k => [.str k]) :: F)) (hk : ks.Pairwise fun a b => ltK b a = false) (hz : ks.length ≤ 100000000) : Triple Try.prog 70 [v] h (fun r h => ∃ R : List Key, SrtS R ∧ (∀ x, x ∈ R ↔ x ∈ ks) ∧ R.length ≤ ks.length ∧ r = .lst (R.map fun k => [.str k]) ∧ sat h F) := by
  refine Triple.view ?_
  have fin : ∀ {h : Hp}, sat h (Ow 1 v (ks.map fun k => [.str k]) :: F) → SrtS ks → ∃ r' h'', GV v h r' h'' ∧ ∃ R : List Key, SrtS R ∧ (∀ x, x ∈ R ↔ x ∈ ks) ∧ R.length ≤ ks.length ∧ r' = .lst (R.map fun k => [.str k]) ∧ sat h'' F := by
    intro h hs h1
    obtain ⟨h', g, hs'⟩ := hs.view
    exact ⟨_, h', g, ks, h1, fun _ => Iff.rfl, Nat.le_refl _, rfl, hs'⟩
  have hlv := hs.els.len
  rw [List.length_map] at hlv
  refine t70 (Nat.le_of_ble_eq_true rfl) ?_
  simp (disch := omega) only [F70, hlv, go_sem, reduceCtorEq, ↓reduceIte, Nat.reduceEqDiff, Nat.reduceAdd, Nat.reduceSub, Nat.reduceMul, Nat.reduceLT, Nat.reduceLeDiff, Int.reduceEq, Int.reduceNe, Int.reduceLT, Int.reduceLE, Int.reduceBEq, Int.reduceBNe, Int.reduceToNat]
  refine cnd_dec (fun h1 => ?_) (fun h1 => ?_)
  · simp (disch := omega) only [go_sem, reduceCtorEq, ↓reduceIte, Nat.reduceEqDiff, Nat.reduceAdd, Nat.reduceSub, Nat.reduceMul, Nat.reduceLT, Nat.reduceLeDiff, Int.reduceEq, Int.reduceNe, Int.reduceLT, Int.reduceLE, Int.reduceBEq, Int.reduceBNe, Int.reduceToNat]
    refine fin hs ?_
    match ks, h1 with
    | [], _ => exact .nil
    | [k], _ => exact List.pairwise_singleton _ _
    | a :: b :: l, h1 => exact absurd h1 (by simp; omega)
  rcases hs.cases with ⟨_, hn, _⟩ | ⟨b, cap, rfl, h2, hle⟩
  · have : ks = [] := by simpa using hn
    subst this
    exact absurd (show ((([] : List Key).length : Nat) : Int) < 2 by simp) h1
  have hll : (ks.map fun k => [AV.str k]).length = ks.length := by simp
  simp only [hll] at hle fin ⊢
  simp (disch := omega) only [go_sem, reduceCtorEq, ↓reduceIte, Nat.reduceEqDiff, Nat.reduceAdd, Nat.reduceSub, Nat.reduceMul, Nat.reduceLT, Nat.reduceLeDiff, Int.reduceEq, Int.reduceNe, Int.reduceLT, Int.reduceLE, Int.reduceBEq, Int.reduceBNe, Int.reduceToNat]
  refine run_loopN (fun n e h => ∃ i : Nat, n = ks.length - i ∧ 1 ≤ i ∧ i ≤ ks.length ∧ SrtS (ks.take i) ∧ sat h (pto b (.row 1 (ks.map fun k => [.str k]) cap) :: F) ∧ (e 0 = .arr b 1 0 ks.length cap ∧ e 3 = .int .i64 i)) (ks.length - 1) ⟨1, rfl, Nat.le_refl _, by omega, ?_, h2, rfl, rfl⟩ ?_
  · cases ks with
    | nil => exact .nil
    | cons k l => exact List.pairwise_singleton _ _
  clear hs h2
  rintro n e h ⟨i, rfl, hi1, hi2, hsr, hs, he⟩
  have hb := hs.at
  have m1 : (i : Int) + 1 = ((i + 1 : Nat) : Int) := by omega
  have m2 : (i : Int) - 1 = ((i - 1 : Nat) : Int) := by omega
  simp (disch := omega) only [go_sem, reduceCtorEq, ↓reduceIte, Nat.reduceEqDiff, Nat.reduceAdd, Nat.reduceSub, Nat.reduceMul, Nat.reduceLT, Nat.reduceLeDiff, Int.reduceEq, Int.reduceNe, Int.reduceLT, Int.reduceLE, Int.reduceBEq, Int.reduceBNe, Int.reduceToNat, he]
  refine cnd_dec (fun h3 => ?_) (fun h3 => ?_)
  · have hi : i < ks.length := by omega
    have hr1 : (ks.map fun k => [AV.str k])[i]? = some [.str ks[i]] := by simp [hi]
    have hr2 : (ks.map fun k => [AV.str k])[i - 1]? = some [.str (ks[i - 1]'(by omega))] := by rw [List.getElem?_map, List.getElem?_eq_getElem (by omega)]; rfl
    by_cases hq : ks[i] = ks[i - 1]'(by omega)
    · have eq : (ks[i] == ks[i - 1]'(by omega)) = true := by simpa using hq
      simp (disch := omega) only [go_sem, reduceCtorEq, ↓reduceIte, Nat.reduceEqDiff, Nat.reduceAdd, Nat.reduceSub, Nat.reduceMul, Nat.reduceLT, Nat.reduceLeDiff, Int.reduceEq, Int.reduceNe, Int.reduceLT, Int.reduceLE, Int.reduceBEq, Int.reduceBNe, Int.reduceToNat, he, hb, hr1, hr2, m2, Int.toNat_natCast, eq]
      have hsl := slcL_lo (s := 1) (b := b) (off := 0) (len := ks.length) (cap := cap) (k1 := .i64) (x := (i : Int)) (by omega) (by omega) hle
      rw [Int.toNat_natCast, Nat.zero_add] at hsl
      simp (disch := omega) only [go_sem, reduceCtorEq, ↓reduceIte, Nat.reduceEqDiff, Nat.reduceAdd, Nat.reduceSub, Nat.reduceMul, Nat.reduceLT, Nat.reduceLeDiff, Int.reduceEq, Int.reduceNe, Int.reduceLT, Int.reduceLE, Int.reduceBEq, Int.reduceBNe, Int.reduceToNat, hsl]
      refine blk_join (Q := fun e h => ∃ (k : Nat) (es : List Key), es.length = ks.length ∧ k ≤ ks.length ∧ SrtS (es.take k) ∧ (∀ x, x ∈ es.take k ↔ x ∈ ks) ∧ sat h (pto b (.row 1 (es.map fun k => [.str k]) cap) :: F) ∧ (e 0 = .arr b 1 0 ks.length cap ∧ e 3 = .int .i64 k)) ?_ ?_
      · refine run_loopN (fun n e h => ∃ (j k : Nat) (es : List Key), n = ks.length - i - j ∧ 1 ≤ j ∧ i + j ≤ ks.length ∧ es.length = ks.length ∧ 1 ≤ k ∧ k + 1 ≤ i + j ∧ SrtS (es.take k) ∧ (∀ x, x ∈ es.take k ↔ x ∈ ks.take (i + j)) ∧ es[k - 1]? = ks[i + j - 1]? ∧ (∀ m, i + j ≤ m + 1 → es[m]? = ks[m]?) ∧ sat h (pto b (.row 1 (es.map fun k => [.str k]) cap) :: F) ∧
          (e 0 = .arr b 1 0 ks.length cap ∧ e 3 = .int .i64 k ∧ e 4 = .arr b 1 i (ks.length - i) (cap - i) ∧ e 5 = .int .i64 j)) (ks.length - i - 1)
          ⟨1, i, ks, rfl, Nat.le_refl _, by omega, rfl, hi1, Nat.le_refl _, hsr, ?_, ?_, fun m _ => rfl, hs, he.1, he.2, rfl, rfl⟩ ?_
        · intro x
          rw [List.take_succ_eq_append_getElem hi, List.mem_append]
          constructor
          · exact fun h => .inl h
          · rintro (h | h)
            · exact h
            · simp at h; subst h
              rw [hq, List.mem_take_iff_getElem]
              exact ⟨i - 1, by omega, rfl⟩
        · rw [show i + 1 - 1 = i by omega, List.getElem?_eq_getElem (by omega), List.getElem?_eq_getElem hi, hq]
        clear hs he hb
        rintro n e h ⟨j, k, es, rfl, j1, j2, hel, k1, k2, hR, hmem, hlast, hrest, hs, he⟩
        have hb := hs.at
        have mj : (j : Int) + 1 = ((j + 1 : Nat) : Int) := by omega
        have mj2 : (j : Int) - 1 = ((j - 1 : Nat) : Int) := by omega
        have mk : (k : Int) + 1 = ((k + 1 : Nat) : Int) := by omega
        simp (disch := omega) only [go_sem, reduceCtorEq, ↓reduceIte, Nat.reduceEqDiff, Nat.reduceAdd, Nat.reduceSub, Nat.reduceMul, Nat.reduceLT, Nat.reduceLeDiff, Int.reduceEq, Int.reduceNe, Int.reduceLT, Int.reduceLE, Int.reduceBEq, Int.reduceBNe, Int.reduceToNat, he]
        refine cnd_dec (fun h4 => ?_) (fun h4 => ?_)
        · have hij : i + j < ks.length := by omega
          have r1 : (es.map fun k => [AV.str k])[i + j]? = some [.str ks[i + j]] := by rw [List.getElem?_map, hrest _ (by omega), List.getElem?_eq_getElem hij]; rfl
          have r2 : (es.map fun k => [AV.str k])[i + (j - 1)]? = some [.str (ks[i + j - 1]'(by omega))] := by
            rw [List.getElem?_map, hrest _ (by omega), show i + (j - 1) = i + j - 1 by omega, List.getElem?_eq_getElem (by omega)]; rfl
          have hkk : k < es.length := by omega
          have rk : (es.map fun k => [AV.str k])[k]? = some [.str es[k]] := by rw [List.getElem?_map, List.getElem?_eq_getElem hkk]; rfl
          have tk : ks.take (i + (j + 1)) = ks.take (i + j) ++ [ks[i + j]] := List.take_succ_eq_append_getElem hij
          by_cases hq2 : ks[i + j] = ks[i + j - 1]'(by omega)
          · have eq2 : (ks[i + j] != ks[i + j - 1]'(by omega)) = false := by simpa using hq2
            simp (disch := omega) only [go_sem, reduceCtorEq, ↓reduceIte, Nat.reduceEqDiff, Nat.reduceAdd, Nat.reduceSub, Nat.reduceMul, Nat.reduceLT, Nat.reduceLeDiff, Int.reduceEq, Int.reduceNe, Int.reduceLT, Int.reduceLE, Int.reduceBEq, Int.reduceBNe, Int.reduceToNat, he, hb, r1, r2, mj2, Int.toNat_natCast, eq2, mj]
            refine ⟨ks.length - i - (j + 1), by omega, j + 1, k, es, rfl, by omega, by omega, hel, k1, by omega, hR, ?_, ?_, fun m hm => hrest m (by omega), hs, rfl, rfl⟩
            · intro x
              rw [tk, List.mem_append, ← hmem]
              constructor
              · exact fun h => .inl h
              · rintro (h | h)
                · exact h
                · simp at h; subst h
                  rw [hq2, hmem, List.mem_take_iff_getElem]
                  exact ⟨i + j - 1, by omega, rfl⟩
            · rw [hlast, show i + (j + 1) - 1 = i + j by omega, List.getElem?_eq_getElem (by omega), List.getElem?_eq_getElem hij, hq2]
          · have eq2 : (ks[i + j] != ks[i + j - 1]'(by omega)) = true := by simpa using hq2
            simp (disch := omega) only [go_sem, reduceCtorEq, ↓reduceIte, Nat.reduceEqDiff, Nat.reduceAdd, Nat.reduceSub, Nat.reduceMul, Nat.reduceLT, Nat.reduceLeDiff, Int.reduceEq, Int.reduceNe, Int.reduceLT, Int.reduceLE, Int.reduceBEq, Int.reduceBNe, Int.reduceToNat, he, hb, r1, r2, rk, mj2, Int.toNat_natCast, eq2, mj, mk]
            have hlt : ltK (ks[i + j - 1]'(by omega)) ks[i + j] = true := by
              have hnd := List.pairwise_iff_getElem.1 hk (i + j - 1) (i + j) (by omega) hij (by omega)
              cases hl : ltK (ks[i + j - 1]'(by omega)) ks[i + j] with
              | true => rfl
              | false => exact absurd (ltK_total hnd hl) hq2
            have hst : (es.set k ks[i + j]).take (k + 1) = es.take k ++ [ks[i + j]] := by
              rw [List.take_succ_eq_append_getElem (by simpa using hkk), List.take_set_of_le (Nat.le_refl _), List.getElem_set_self]
            refine ⟨ks.length - i - (j + 1), by omega, j + 1, k + 1, es.set k ks[i + j], rfl, by omega, by omega, by simpa using hel, by omega, by omega, ?_, ?_, ?_, ?_, ?_, rfl, rfl⟩
            · rw [hst]
              refine srtS_app (k := k - 1) (y := ks[i + j - 1]'(by omega)) hR (by rw [List.length_take]; omega) ?_ hlt
              rw [List.getElem?_take, if_pos (by omega), hlast, List.getElem?_eq_getElem (by omega)]
            · intro x
              rw [hst, tk, List.mem_append, List.mem_append, hmem]
            · rw [show k + 1 - 1 = k by omega, List.getElem?_set_self hkk, show i + (j + 1) - 1 = i + j by omega, List.getElem?_eq_getElem hij]
            · intro m hm
              rw [List.getElem?_set_ne (by omega)]
              exact hrest m (by omega)
            · have := hs.set (o' := .row 1 ((es.set k ks[i + j]).map fun k => [.str k]) cap)
              simpa [List.map_set] using this
        · have hij : i + j = ks.length := by omega
          rw [hij, List.take_length] at hmem
          simp (disch := omega) only [go_sem, reduceCtorEq, ↓reduceIte, Nat.reduceEqDiff, Nat.reduceAdd, Nat.reduceSub, Nat.reduceMul, Nat.reduceLT, Nat.reduceLeDiff, Int.reduceEq, Int.reduceNe, Int.reduceLT, Int.reduceLE, Int.reduceBEq, Int.reduceBNe, Int.reduceToNat, he]
          exact ⟨k, es, hel, by omega, hR, hmem, hs, rfl⟩
      clear hs he hb
      rintro e h ⟨k, es, hel, hkl, hR, hmem, hs, he⟩
      have hsl := slcL_lo (s := 1) (b := b) (off := 0) (len := ks.length) (cap := cap) (k1 := .i64) (x := (k : Int)) (by omega) (by omega) hle
      have hsh := slcL_hi (s := 1) (b := b) (off := 0) (len := ks.length) (cap := cap) (k2 := .i64) (y := (k : Int)) (by omega) (by omega) hle
      rw [Int.toNat_natCast] at hsl hsh
      simp (disch := omega) only [go_sem, reduceCtorEq, ↓reduceIte, Nat.reduceEqDiff, Nat.reduceAdd, Nat.reduceSub, Nat.reduceMul, Nat.reduceLT, Nat.reduceLeDiff, Int.reduceEq, Int.reduceNe, Int.reduceLT, Int.reduceLE, Int.reduceBEq, Int.reduceBNe, Int.reduceToNat, he, hsl]
      refine clr_use hs (by simp; omega) (by omega) fun h hs => ?_
      simp (disch := omega) only [go_sem, reduceCtorEq, ↓reduceIte, Nat.reduceEqDiff, Nat.reduceAdd, Nat.reduceSub, Nat.reduceMul, Nat.reduceLT, Nat.reduceLeDiff, Int.reduceEq, Int.reduceNe, Int.reduceLT, Int.reduceLE, Int.reduceBEq, Int.reduceBNe, Int.reduceToNat, he, hsh]
      have ht : ((List.take k (es.map fun k => [AV.str k]) ++ List.replicate (ks.length - k) [AV.str []] ++ List.drop (k + (ks.length - k)) (es.map fun k => [AV.str k])).take k) = (es.take k).map fun k => [AV.str k] := by
        rw [List.append_assoc, List.take_append_of_le_length (by simp; omega), List.take_take, Nat.min_self, List.map_take]
      have hs3 := hs.set (o' := .row 1 ((es.take k).map fun k => [AV.str k]) cap)
      have g1 := GV.trim (.arr b 1 0 k cap) k hs.at
      rw [ht] at g1
      refine ⟨_, _, g1.trans (GV.arr hs3.at (by simp; omega) (by omega)), es.take k, hR, hmem, by rw [List.length_take]; omega, rfl, hs3.del⟩
    · have eq : (ks[i] == ks[i - 1]'(by omega)) = false := by simpa using hq
      simp (disch := omega) only [go_sem, reduceCtorEq, ↓reduceIte, Nat.reduceEqDiff, Nat.reduceAdd, Nat.reduceSub, Nat.reduceMul, Nat.reduceLT, Nat.reduceLeDiff, Int.reduceEq, Int.reduceNe, Int.reduceLT, Int.reduceLE, Int.reduceBEq, Int.reduceBNe, Int.reduceToNat, he, hb, hr1, hr2, m2, Int.toNat_natCast, eq, m1]
      refine ⟨ks.length - (i + 1), by omega, i + 1, rfl, by omega, by omega, ?_, hs, rfl⟩
      have hlt : ltK (ks[i - 1]'(by omega)) ks[i] = true := by
        have hnd := List.pairwise_iff_getElem.1 hk (i - 1) i (by omega) hi (by omega)
        cases hl : ltK (ks[i - 1]'(by omega)) ks[i] with
        | true => rfl
        | false => exact absurd (ltK_total hnd hl) hq
      rw [List.take_succ_eq_append_getElem hi]
      refine srtS_app (k := i - 1) (y := ks[i - 1]'(by omega)) hsr (by rw [List.length_take]; omega) ?_ hlt
      rw [List.getElem?_take, if_pos (by omega), List.getElem?_eq_getElem (by omega)]
  · have hi : i = ks.length := by omega
    subst hi
    rw [List.take_length] at hsr
    simp (disch := omega) only [go_sem, reduceCtorEq, ↓reduceIte, Nat.reduceEqDiff, Nat.reduceAdd, Nat.reduceSub, Nat.reduceMul, Nat.reduceLT, Nat.reduceLeDiff, Int.reduceEq, Int.reduceNe, Int.reduceLT, Int.reduceLE, Int.reduceBEq, Int.reduceBNe, Int.reduceToNat, he]
    have := hs.ow (by simpa using hle)
    rw [hll] at this
    exact fin this hsr
end
end Go.Proofs.Ytkclojjeepomfaa
/- The store: the keys that a write sees. -/
set_option linter.unusedSimpArgs false
set_option linter.unusedVariables false
set_option maxRecDepth 10000
namespace Go.Proofs.Ytkclojjeepomfaa
open Go.Hz

section
variable {h : Hp} {F : List Asr} {s w : Nat} {A : Sto} {o : AV} {W : Wr}
def kvKey (e : AV × AV × Nat) : Key := match e.1 with | .str k => k | _ => []
/-- The keys of a range that there were ever, or that are changed. -/
def WKeys (A : Sto) (W : Wr) (lo hi : Key) (ks : List Key) : Prop := SrtS ks ∧ ks.length ≤ A.old.length + A.chs.length + W.l.length + 1 ∧ if hi = [] then ks = [lo] else ∀ k, k ∈ ks ↔ (A.vers k ≠ [] ∨ wChg W k = true) ∧ inR lo hi k = true

theorem mvWKeys {lo hi : Key} (hs : sat h (WtP w s A W :: StP s A o :: F)) (hz : A.old.length + A.chs.length + W.l.length ≤ 90000000) : Triple Try.prog 36 [.ptr w 4 0 0, .str lo, .str hi] h (fun r h => ∃ ks, WKeys A W lo hi ks ∧ r = strsV ks ∧ sat h (WtP w s A W :: StP s A o :: F)) := by
  obtain ⟨lv, bm, hw, hs1⟩ := wrP.1 hs
  have hp := hs1.at
  refine t36 (Nat.le_of_ble_eq_true rfl) ?_
  simp (disch := omega) only [F36, hp, go_sem, reduceCtorEq, ↓reduceIte, Nat.reduceEqDiff, Nat.reduceAdd, Nat.reduceSub, Nat.reduceMul, Nat.reduceLT, Nat.reduceLeDiff, Int.reduceEq, Int.reduceNe, Int.reduceLT, Int.reduceLE, Int.reduceBEq, Int.reduceBNe, Int.reduceToNat]
  refine call_use (mvKeys (lo := lo) (hi := hi) hs1.p2.p2.p2.p3 (by omega)) ?_
  rintro v h ⟨ks0, hk, hs⟩
  have tail : ∀ {h : Hp} {v : AV} {ks1 : List Key} {F' : List Asr}, True := trivial
  by_cases hh : hi = []
  · subst hh
    have e0 : (([] : List UInt8) != []) = false := rfl
    have hk0 := hk.2.2
    rw [if_pos rfl] at hk0
    subst hk0
    simp (disch := omega) only [go_sem, reduceCtorEq, ↓reduceIte, Nat.reduceEqDiff, Nat.reduceAdd, Nat.reduceSub, Nat.reduceMul, Nat.reduceLT, Nat.reduceLeDiff, Int.reduceEq, Int.reduceNe, Int.reduceLT, Int.reduceLE, Int.reduceBEq, Int.reduceBNe, Int.reduceToNat, e0]
    refine call_use (sort_S hs (by simp)) ?_
    rintro r h ⟨ks', p1, p2, hs⟩
    simp (disch := omega) only [go_sem, reduceCtorEq, ↓reduceIte, Nat.reduceEqDiff, Nat.reduceAdd, Nat.reduceSub, Nat.reduceMul, Nat.reduceLT, Nat.reduceLeDiff, Int.reduceEq, Int.reduceNe, Int.reduceLT, Int.reduceLE, Int.reduceBEq, Int.reduceBNe, Int.reduceToNat]
    refine call_use (comp_S hs p2 (by rw [p1.length_eq]; simp)) ?_
    rintro r h ⟨R, r1, r2, r3, hr, hs⟩
    subst hr
    simp (disch := omega) only [go_sem, reduceCtorEq, ↓reduceIte, Nat.reduceEqDiff, Nat.reduceAdd, Nat.reduceSub, Nat.reduceMul, Nat.reduceLT, Nat.reduceLeDiff, Int.reduceEq, Int.reduceNe, Int.reduceLT, Int.reduceLE, Int.reduceBEq, Int.reduceBNe, Int.reduceToNat]
    refine ⟨R, ⟨r1, by have := p1.length_eq; simp at this; omega, ?_⟩, rfl, wrP.2 ⟨lv, bm, hw, hs.p3.p3.p3⟩⟩
    rw [if_pos rfl]
    refine srts_ext r1 (List.pairwise_singleton _ _) fun x => ?_
    rw [r2, p1.mem_iff]
  · have e0 : (hi != []) = true := by simpa using hh
    have hk0 := hk.2.2
    rw [if_neg hh] at hk0
    obtain ⟨pl, c, ⟨q1, q2, q3⟩, hs⟩ := mpA.1 hs.p3.p3.p3.p3.p4
    have hp := hs.p3.at
    simp (disch := omega) only [go_sem, reduceCtorEq, ↓reduceIte, Nat.reduceEqDiff, Nat.reduceAdd, Nat.reduceSub, Nat.reduceMul, Nat.reduceLT, Nat.reduceLeDiff, Int.reduceEq, Int.reduceNe, Int.reduceLT, Int.reduceLE, Int.reduceBEq, Int.reduceBNe, Int.reduceToNat, e0, hp]
    refine rng_use hs fun q h hs => ?_
    simp (disch := omega) only [go_sem, reduceCtorEq, ↓reduceIte, Nat.reduceEqDiff, Nat.reduceAdd, Nat.reduceSub, Nat.reduceMul, Nat.reduceLT, Nat.reduceLeDiff, Int.reduceEq, Int.reduceNe, Int.reduceLT, Int.reduceLE, Int.reduceBEq, Int.reduceBNe, Int.reduceToNat]
    generalize hkvs : kvOf (fun k : Key => AV.str k) Ch.key (chV tp td) pl = kvs at hs
    have hx0 : ∀ x ∈ kvs, ∃ p ∈ pl, x = (.str p.1.key, chV tp td p.1, p.2) := by
      intro x hx
      rw [← hkvs] at hx
      obtain ⟨p, hp, rfl⟩ := List.mem_map.1 hx
      exact ⟨p, hp, rfl⟩
    have hlenK : kvs.length = W.l.length := by rw [← hkvs, kvOf, List.length_map, ← q1.length_eq, List.length_map]
    have hc : ∀ x ∈ kvs, x.2.2 < c := fun x hx => by obtain ⟨p, hp, rfl⟩ := hx0 x hx; exact q3 p hp
    have hn : (kvs.map (·.2.2)).Nodup := by rw [← hkvs]; simpa [kvOf, Function.comp_def] using q2
    refine blk_join (Q := fun e h => ∃ (v : AV) (ex : List Key), ex.Perm (W.l.map Ch.key) ∧ sat h (Ow 1 v ((ks0 ++ ex.filter (inR lo hi)).map fun k => [.str k]) :: WtP w s A W :: StP s A o :: F) ∧ (e 7 = v)) ?_ ?_
    · refine run_loopN (fun k e h => ∃ es rest, k = rest.length ∧ (es ++ rest).Perm kvs ∧ sat h (pto q (.itr (some bm) c (es.map (·.2.2)) c) :: pto bm (.mp kvs c) :: Ow 1 (e 7) ((ks0 ++ (es.map kvKey).filter (inR lo hi)).map fun k => [.str k]) :: StP s A o :: pto w (.row 4 [[.ptr s 7 0 0, lv, .map bm, .int .i64 W.cur.length]] 1) :: Ow 1 lv (W.l.map fun c => [chV tp td c]) :: F) ∧
        (e 1 = .str lo ∧ e 2 = .str hi ∧ e 22 = .ptr q 1 0 0)) kvs.length ⟨[], kvs, rfl, .refl _, by simpa [Env.upd_apply] using hs, rfl, rfl, rfl⟩ ?_
      clear hs hp
      rintro k e h ⟨es, rest, rfl, hpm, hs, he⟩
      simp (disch := omega) only [go_sem, reduceCtorEq, ↓reduceIte, Nat.reduceEqDiff, Nat.reduceAdd, Nat.reduceSub, Nat.reduceMul, Nat.reduceLT, Nat.reduceLeDiff, Int.reduceEq, Int.reduceNe, Int.reduceLT, Int.reduceLE, Int.reduceBEq, Int.reduceBNe, Int.reduceToNat, he]
      refine nxt_use hs (Nat.le_refl _) hc (fun x hx hns h hs => ?_) (fun hall => ?_)
      · obtain ⟨p, hp, rfl⟩ := hx0 x hx
        obtain ⟨rest', r1, r2⟩ := rng_step hpm hx hns
        have hen := ent_at hs hx hn
        have hel : es.length ≤ kvs.length := by have := r1.length_eq; simp at this; omega
        simp (disch := omega) only [go_sem, reduceCtorEq, ↓reduceIte, Nat.reduceEqDiff, Nat.reduceAdd, Nat.reduceSub, Nat.reduceMul, Nat.reduceLT, Nat.reduceLeDiff, Int.reduceEq, Int.reduceNe, Int.reduceLT, Int.reduceLE, Int.reduceBEq, Int.reduceBNe, Int.reduceToNat, he]
        rw [hen]
        simp (disch := omega) only [go_sem, reduceCtorEq, ↓reduceIte, Nat.reduceEqDiff, Nat.reduceAdd, Nat.reduceSub, Nat.reduceMul, Nat.reduceLT, Nat.reduceLeDiff, Int.reduceEq, Int.reduceNe, Int.reduceLT, Int.reduceLE, Int.reduceBEq, Int.reduceBNe, Int.reduceToNat, he]
        have hsnoc : ((es ++ [((AV.str p.1.key, chV tp td p.1, p.2) : AV × AV × Nat)]).map kvKey).filter (inR lo hi) = (es.map kvKey).filter (inR lo hi) ++ [p.1.key].filter (inR lo hi) := by
          rw [List.map_append, List.filter_append]; rfl
        have hfl : ((es.map kvKey).filter (inR lo hi)).length ≤ kvs.length := Nat.le_trans (List.length_filter_le _ _) (by simpa using hel)
        have hk1 := hk.2.1
        cases b1 : Op.bytesLess p.1.key lo with
        | true =>
          have hin : inR lo hi p.1.key = false := by show (!(Op.bytesLess p.1.key lo) && _) = false; rw [b1]; rfl
          simp (disch := omega) only [go_sem, reduceCtorEq, ↓reduceIte, Nat.reduceEqDiff, Nat.reduceAdd, Nat.reduceSub, Nat.reduceMul, Nat.reduceLT, Nat.reduceLeDiff, Int.reduceEq, Int.reduceNe, Int.reduceLT, Int.reduceLE, Int.reduceBEq, Int.reduceBNe, Int.reduceToNat, he, b1]
          refine ⟨rest'.length, by omega, es ++ [(AV.str p.1.key, chV tp td p.1, p.2)], rest', rfl, r1, ?_⟩
          rw [hsnoc, List.filter_cons_of_neg (by simp [hin]), List.filter_nil, List.append_nil]
          simpa using hs
        | false =>
          cases b2 : Op.bytesLess p.1.key hi with
          | false =>
            have hin : inR lo hi p.1.key = false := by show (!(Op.bytesLess p.1.key lo) && (hi == [] || Op.bytesLess p.1.key hi)) = false; rw [b1, b2]; simpa using hh
            simp (disch := omega) only [go_sem, reduceCtorEq, ↓reduceIte, Nat.reduceEqDiff, Nat.reduceAdd, Nat.reduceSub, Nat.reduceMul, Nat.reduceLT, Nat.reduceLeDiff, Int.reduceEq, Int.reduceNe, Int.reduceLT, Int.reduceLE, Int.reduceBEq, Int.reduceBNe, Int.reduceToNat, he, b1, b2]
            refine ⟨rest'.length, by omega, es ++ [(AV.str p.1.key, chV tp td p.1, p.2)], rest', rfl, r1, ?_⟩
            rw [hsnoc, List.filter_cons_of_neg (by simp [hin]), List.filter_nil, List.append_nil]
            simpa using hs
          | true =>
            have hin : inR lo hi p.1.key = true := by show (!(Op.bytesLess p.1.key lo) && (hi == [] || Op.bytesLess p.1.key hi)) = true; rw [b1, b2]; simp
            simp (disch := omega) only [go_sem, reduceCtorEq, ↓reduceIte, Nat.reduceEqDiff, Nat.reduceAdd, Nat.reduceSub, Nat.reduceMul, Nat.reduceLT, Nat.reduceLeDiff, Int.reduceEq, Int.reduceNe, Int.reduceLT, Int.reduceLE, Int.reduceBEq, Int.reduceBNe, Int.reduceToNat, he, b1, b2]
            refine new_opq hs fun a h hs => ?_
            simp (disch := omega) only [go_sem, reduceCtorEq, ↓reduceIte, Nat.reduceEqDiff, Nat.reduceAdd, Nat.reduceSub, Nat.reduceMul, Nat.reduceLT, Nat.reduceLeDiff, Int.reduceEq, Int.reduceNe, Int.reduceLT, Int.reduceLE, Int.reduceBEq, Int.reduceBNe, Int.reduceToNat]
            refine app_sat hs.p3 (src_one hs.at) (atoms_one (by simp [AV.isAtom])) (by simp only [List.length_map, List.length_append, List.length_cons, List.length_nil]; omega) fun v' h hs ca aa => ?_
            simp (disch := omega) only [go_sem, reduceCtorEq, ↓reduceIte, Nat.reduceEqDiff, Nat.reduceAdd, Nat.reduceSub, Nat.reduceMul, Nat.reduceLT, Nat.reduceLeDiff, Int.reduceEq, Int.reduceNe, Int.reduceLT, Int.reduceLE, Int.reduceBEq, Int.reduceBNe, Int.reduceToNat, he]
            refine ⟨rest'.length, by omega, es ++ [(AV.str p.1.key, chV tp td p.1, p.2)], rest', rfl, r1, ?_⟩
            rw [hsnoc, List.filter_cons_of_pos hin, List.filter_nil]
            simpa using hs.p1.drop.p5.p5.p5.p3.p5.p5
      · have r1 := rng_end hpm hn hall
        simp (disch := omega) only [go_sem, reduceCtorEq, ↓reduceIte, Nat.reduceEqDiff, Nat.reduceAdd, Nat.reduceSub, Nat.reduceMul, Nat.reduceLT, Nat.reduceLeDiff, Int.reduceEq, Int.reduceNe, Int.reduceLT, Int.reduceLE, Int.reduceBEq, Int.reduceBNe, Int.reduceToNat]
        refine ⟨e 7, es.map kvKey, ?_, ?_⟩
        · refine (r1.map kvKey).trans ?_
          rw [← hkvs]
          have := q1.map Ch.key
          simpa [kvOf, Function.comp_def, kvKey] using this
        · have hs6 := hs.drop.p4.p4.p4.p4.p4
          rw [← hkvs] at hs6
          have hm : sat h (MpA (fun k : Key => AV.str k) Ch.key (chV tp td) bm W.l :: _) := mpA.2 ⟨pl, c, ⟨q1, q2, q3⟩, hs6⟩
          have hm2 := hm.p2.p2.p2.p4.p4
          have hm3 : sat h (WtP w s A W :: Ow 1 (e 7) ((ks0 ++ (es.map kvKey).filter (inR lo hi)).map fun k => [.str k]) :: StP s A o :: F) := wrP.2 ⟨lv, bm, hw, hm2⟩
          exact ⟨hm3.p1, rfl⟩
    clear hs hp
    rintro e h ⟨v, ex, hex, hs, he⟩
    have hk1 := hk.2.1
    have hexl : (ex.filter (inR lo hi)).length ≤ W.l.length := by
      have := hex.length_eq
      rw [List.length_map] at this
      exact this ▸ List.length_filter_le _ _
    simp (disch := omega) only [go_sem, reduceCtorEq, ↓reduceIte, Nat.reduceEqDiff, Nat.reduceAdd, Nat.reduceSub, Nat.reduceMul, Nat.reduceLT, Nat.reduceLeDiff, Int.reduceEq, Int.reduceNe, Int.reduceLT, Int.reduceLE, Int.reduceBEq, Int.reduceBNe, Int.reduceToNat, he]
    refine call_use (sort_S hs (by rw [List.length_append]; omega)) ?_
    rintro r h ⟨ks', p1, p2, hs⟩
    simp (disch := omega) only [go_sem, reduceCtorEq, ↓reduceIte, Nat.reduceEqDiff, Nat.reduceAdd, Nat.reduceSub, Nat.reduceMul, Nat.reduceLT, Nat.reduceLeDiff, Int.reduceEq, Int.reduceNe, Int.reduceLT, Int.reduceLE, Int.reduceBEq, Int.reduceBNe, Int.reduceToNat, he]
    have hpl := p1.length_eq
    rw [List.length_append] at hpl
    refine call_use (comp_S hs p2 (by omega)) ?_
    rintro r h ⟨R, r1, r2, r3, hr, hs⟩
    subst hr
    simp (disch := omega) only [go_sem, reduceCtorEq, ↓reduceIte, Nat.reduceEqDiff, Nat.reduceAdd, Nat.reduceSub, Nat.reduceMul, Nat.reduceLT, Nat.reduceLeDiff, Int.reduceEq, Int.reduceNe, Int.reduceLT, Int.reduceLE, Int.reduceBEq, Int.reduceBNe, Int.reduceToNat]
    refine ⟨R, ⟨r1, by omega, ?_⟩, rfl, hs⟩
    rw [if_neg hh]
    intro k
    rw [r2, p1.mem_iff, List.mem_append, hk0, List.mem_filter, hex.mem_iff]
    have hch : k ∈ W.l.map Ch.key ↔ wChg W k = true := by
      rw [List.mem_map, wChg, List.any_eq_true]
      simp
    rw [hch]
    constructor
    · rintro (⟨h1, h2⟩ | ⟨h1, h2⟩)
      · exact ⟨.inl h1, h2⟩
      · exact ⟨.inr h1, h2⟩
    · rintro ⟨h1 | h1, h2⟩
      · exact .inl ⟨h1, h2⟩
      · exact .inr ⟨h1, h2⟩
end
end Go.Proofs.Ytkclojjeepomfaa
/- The store: a change is taken in; a write is done. -/
set_option linter.unusedSimpArgs false
set_option linter.unusedVariables false
set_option maxRecDepth 10000
namespace Go.Proofs.Ytkclojjeepomfaa
open Go.Hz

section
variable {h : Hp} {F : List Asr} {s w : Nat} {A : Sto} {o : AV} {W : Wr} {n : Int}
theorem mvNote {v : Ver} (hs : sat h (MvN tp td s n A o :: F)) (ok' : StoOK (A.snoc v)) (hz : A.old.length + A.chs.length ≤ 90000000) (hr : A.rev ≤ 1000000000000000) : Triple Try.prog 35 [.ptr s 7 0 0, .agg (verC tp td v)] h (fun r h => sat h (MvN tp td s n (A.snoc v) o :: F)) := by
  obtain ⟨ix, vm, cv, L, X, hok, hs2⟩ := mvN.1 hs
  have hix := ix_snoc ok' hok.2.1
  have ca := chV_atom (tp := tp) (td := td) v.c
  have cc := chV_cells (tp := tp) (td := td) v.c
  have hvr := ok'.chr v (by simp [Sto.snoc])
  have hpa := ok'.past
  have e1 : (A.snoc v).rev = A.rev := rfl
  have e2 : (A.snoc v).past = A.past := rfl
  obtain ⟨kv, hta⟩ : ∃ kv : Kv, taA tp true (.agg [.str [], .str [], .int .i64 0, .int .i64 0, .int .i64 0, .int .i64 0]) (chV tp td v.c) = some (.tup [.agg (kvC kv), .bool v.c.kv.isSome]) := by
    cases v.c with
    | put kv => exact ⟨kv, rfl⟩
    | del k => exact ⟨kv0, rfl⟩
  have hta2 : taA 87 true (.agg [.str [], .str [], .int .i64 0, .int .i64 0, .int .i64 0, .int .i64 0]) (chV tp td v.c) = some (.tup [.agg (kvC kv), .bool v.c.kv.isSome]) := hta
  refine t35 (Nat.le_of_ble_eq_true rfl) ?_
  simp (disch := omega) only [F35, verC, ca, go_sem, reduceCtorEq, ↓reduceIte, Nat.reduceEqDiff, Nat.reduceAdd, Nat.reduceSub, Nat.reduceMul, Nat.reduceLT, Nat.reduceLeDiff, Int.reduceEq, Int.reduceNe, Int.reduceLT, Int.reduceLE, Int.reduceBEq, Int.reduceBNe, Int.reduceToNat]
  refine new_opq hs2 fun a h hs => ?_
  have ha := hs.at
  simp (disch := omega) only [go_sem, reduceCtorEq, ↓reduceIte, Nat.reduceEqDiff, Nat.reduceAdd, Nat.reduceSub, Nat.reduceMul, Nat.reduceLT, Nat.reduceLeDiff, Int.reduceEq, Int.reduceNe, Int.reduceLT, Int.reduceLE, Int.reduceBEq, Int.reduceBNe, Int.reduceToNat, ha, hta2, verC]
  refine new_opq hs fun b h hs => ?_
  have hb := hs.at
  have hs3 := hs.set (o' := .row 6 [kvC kv] 1)
  have ha := hs3.p1.at
  have hp := hs3.p2.at
  simp only [kvC, verC] at hs3 ha hp
  simp (disch := omega) only [go_sem, reduceCtorEq, ↓reduceIte, Nat.reduceEqDiff, Nat.reduceAdd, Nat.reduceSub, Nat.reduceMul, Nat.reduceLT, Nat.reduceLeDiff, Int.reduceEq, Int.reduceNe, Int.reduceLT, Int.reduceLE, Int.reduceBEq, Int.reduceBNe, Int.reduceToNat, hb, kvC, ha, hp]
  generalize Hp.set h b _ = h3 at hs3 ha hp ⊢
  refine inv_key hs3 v.c fun h hs => ?_
  have ha := hs.p1.at
  have hp := hs.p2.at
  simp (disch := omega) only [go_sem, reduceCtorEq, ↓reduceIte, Nat.reduceEqDiff, Nat.reduceAdd, Nat.reduceSub, Nat.reduceMul, Nat.reduceLT, Nat.reduceLeDiff, Int.reduceEq, Int.reduceNe, Int.reduceLT, Int.reduceLE, Int.reduceBEq, Int.reduceBNe, Int.reduceToNat, ha, hp]
  have hb1 : (!v.c.kv.isSome) = (mkV v).2 := by show _ = v.c.kv.isNone; cases v.c.kv <;> rfl
  rw [hb1]
  have hs4 : sat h (IxP ix L :: pto b (.row 6 [[.str kv.key, .str kv.val, .int .i64 kv.create, .int .i64 kv.mod, .int .i64 kv.ver, .int .i64 kv.lease]] 1) :: pto a (.row 2 [[.int .i64 v.rev, chV tp td v.c]] 1) :: pto s (.row 7 [[.int .i64 A.rev, .int .i64 A.past, .int .i64 n, .ptr ix 2 0 0, .map vm, cv, o]] 1) :: Ow 2 cv (A.chs.map (verC tp td)) :: MpA (fun k : Key => AV.str k) Vn.key Vn.v vm X :: (X.map (VnP tp td) ++ F)) := hs.p3
  have hLn := ix_num hok.2.1
  have hLl := ix_len hok.2.1
  refine call_use (ixPut (key := v.c.key) (m := mkV v) hs4 hok.2.1.1 (fun x hx => by have := hLl x hx; omega) (by omega) (by show inI v.rev; unfold inI; omega)) ?_
  rintro r h ⟨hr', hs⟩
  subst hr'
  have ha := hs.p2.at
  have hp := hs.p3.at
  simp (disch := omega) only [go_sem, reduceCtorEq, ↓reduceIte, Nat.reduceEqDiff, Nat.reduceAdd, Nat.reduceSub, Nat.reduceMul, Nat.reduceLT, Nat.reduceLeDiff, Int.reduceEq, Int.reduceNe, Int.reduceLT, Int.reduceLE, Int.reduceBEq, Int.reduceBNe, Int.reduceToNat, ha, hp]
  refine inv_key hs v.c fun h hs => ?_
  have ha := hs.p2.at
  have hp := hs.p3.at
  simp (disch := omega) only [go_sem, reduceCtorEq, ↓reduceIte, Nat.reduceEqDiff, Nat.reduceAdd, Nat.reduceSub, Nat.reduceMul, Nat.reduceLT, Nat.reduceLeDiff, Int.reduceEq, Int.reduceNe, Int.reduceLT, Int.reduceLE, Int.reduceBEq, Int.reduceBNe, Int.reduceToNat, ha, hp]
  refine inv_key hs v.c fun h hs => ?_
  have ha := hs.p2.at
  have hp := hs.p3.at
  by_cases hx : ∃ x ∈ X, x.key = v.c.key
  · obtain ⟨x, hx, hxk⟩ := hx
    have hl := lk_hit keyOK_str hs.p5 hok.2.2.1 hx (ok := false) (z := .nils)
    simp only [Bool.false_eq_true, if_false] at hl
    rw [hxk] at hl
    simp (disch := omega) only [go_sem, reduceCtorEq, ↓reduceIte, Nat.reduceEqDiff, Nat.reduceAdd, Nat.reduceSub, Nat.reduceMul, Nat.reduceLT, Nat.reduceLeDiff, Int.reduceEq, Int.reduceNe, Int.reduceLT, Int.reduceLE, Int.reduceBEq, Int.reduceBNe, Int.reduceToNat, ha, hp, hl, ca]
    refine new_opq hs fun n2 h hs => ?_
    obtain ⟨l1, l2, rfl⟩ := List.append_of_mem hx
    have hs5 : sat h ((pto n2 (.row 2 [[.int .i64 v.rev, chV tp td v.c]] 1) :: IxP ix (putL L v.c.key (mkV v)) :: pto b (.row 6 [[.str kv.key, .str kv.val, .int .i64 kv.create, .int .i64 kv.mod, .int .i64 kv.ver, .int .i64 kv.lease]] 1) :: pto a (.row 2 [[.int .i64 v.rev, chV tp td v.c]] 1) :: pto s (.row 7 [[.int .i64 A.rev, .int .i64 A.past, .int .i64 n, .ptr ix 2 0 0, .map vm, cv, o]] 1) :: Ow 2 cv (A.chs.map (verC tp td)) :: MpA (fun k : Key => AV.str k) Vn.key Vn.v vm (l1 ++ x :: l2) :: l1.map (VnP tp td)) ++ VnP tp td x :: (l2.map (VnP tp td) ++ F)) := by simpa using hs
    have hs6 : sat h (VnP tp td x :: pto n2 (.row 2 [[.int .i64 v.rev, chV tp td v.c]] 1) :: IxP ix (putL L v.c.key (mkV v)) :: pto b (.row 6 [[.str kv.key, .str kv.val, .int .i64 kv.create, .int .i64 kv.mod, .int .i64 kv.ver, .int .i64 kv.lease]] 1) :: pto a (.row 2 [[.int .i64 v.rev, chV tp td v.c]] 1) :: pto s (.row 7 [[.int .i64 A.rev, .int .i64 A.past, .int .i64 n, .ptr ix 2 0 0, .map vm, cv, o]] 1) :: Ow 2 cv (A.chs.map (verC tp td)) :: MpA (fun k : Key => AV.str k) Vn.key Vn.v vm (l1 ++ x :: l2) :: (l1.map (VnP tp td) ++ (l2.map (VnP tp td) ++ F))) := hs5.mid
    have hxv := (hok.2.2.2.1 x (by simp)).1
    have hxl := vers_le (A := A) x.key
    rw [← hxv] at hxl
    simp (disch := omega) only [go_sem, reduceCtorEq, ↓reduceIte, Nat.reduceEqDiff, Nat.reduceAdd, Nat.reduceSub, Nat.reduceMul, Nat.reduceLT, Nat.reduceLeDiff, Int.reduceEq, Int.reduceNe, Int.reduceLT, Int.reduceLE, Int.reduceBEq, Int.reduceBNe, Int.reduceToNat]
    refine app_satO (s := 2) hs6 (src_one hs6.p1.at) (atoms_one (by simp only [List.all_cons, List.all_nil, atom_int, ca, Bool.and_self])) (by simp; omega) fun v' h hs ca' aa => ?_
    have hp := hs.p5.at
    simp (disch := omega) only [go_sem, reduceCtorEq, ↓reduceIte, Nat.reduceEqDiff, Nat.reduceAdd, Nat.reduceSub, Nat.reduceMul, Nat.reduceLT, Nat.reduceLeDiff, Int.reduceEq, Int.reduceNe, Int.reduceLT, Int.reduceLE, Int.reduceBEq, Int.reduceBNe, Int.reduceToNat, hp, ca', aa]
    rw [← hxk]
    refine mup_set keyOK_str hs.p7 hok.2.2.1 (x := x) (y := (⟨x.key, v', x.vs ++ [v]⟩ : Vn)) (by simp) rfl fun h hs => ?_
    have hX' : ((l1 ++ x :: l2).map fun z => if z.key = x.key then (⟨x.key, v', x.vs ++ [v]⟩ : Vn) else z) = l1 ++ ⟨x.key, v', x.vs ++ [v]⟩ :: l2 := by
      have hnd := hok.2.2.1
      rw [List.map_append, List.map_cons, List.nodup_append, List.nodup_cons] at hnd
      rw [List.map_append, List.map_cons, if_pos rfl]
      congr 1
      · exact (List.map_congr_left fun z hz => if_neg fun e : z.key = x.key => hnd.2.2 _ (List.mem_map_of_mem hz) _ (by simp) e).trans (List.map_id _)
      · congr 1
        exact (List.map_congr_left fun z hz => if_neg fun e : z.key = x.key => hnd.2.1.1 (e ▸ List.mem_map_of_mem hz)).trans (List.map_id _)
    rw [hX'] at hs
    have ha := hs.p5.at
    have hp := hs.p6.at
    simp (disch := omega) only [go_sem, reduceCtorEq, ↓reduceIte, Nat.reduceEqDiff, Nat.reduceAdd, Nat.reduceSub, Nat.reduceMul, Nat.reduceLT, Nat.reduceLeDiff, Int.reduceEq, Int.reduceNe, Int.reduceLT, Int.reduceLE, Int.reduceBEq, Int.reduceBNe, Int.reduceToNat, ha, hp, ca]
    refine new_opq hs fun n3 h hs => ?_
    simp (disch := omega) only [go_sem, reduceCtorEq, ↓reduceIte, Nat.reduceEqDiff, Nat.reduceAdd, Nat.reduceSub, Nat.reduceMul, Nat.reduceLT, Nat.reduceLeDiff, Int.reduceEq, Int.reduceNe, Int.reduceLT, Int.reduceLE, Int.reduceBEq, Int.reduceBNe, Int.reduceToNat]
    refine app_sat hs.p8 (src_one hs.at) (atoms_one (by simp only [List.all_cons, List.all_nil, atom_int, ca, Bool.and_self])) (by simp; omega) fun cv' h hs ca2 aa2 => ?_
    have hp := hs.p8.at
    simp (disch := omega) only [go_sem, reduceCtorEq, ↓reduceIte, Nat.reduceEqDiff, Nat.reduceAdd, Nat.reduceSub, Nat.reduceMul, Nat.reduceLT, Nat.reduceLeDiff, Int.reduceEq, Int.reduceNe, Int.reduceLT, Int.reduceLE, Int.reduceBEq, Int.reduceBNe, Int.reduceToNat, hp, ca2, aa2]
    refine mvN.2 ⟨ix, vm, cv', putL L v.c.key (mkV v), l1 ++ ⟨x.key, v', x.vs ++ [v]⟩ :: l2, ⟨ok', hix, vmOK_old hok.2.2 hxk⟩, ?_⟩
    have hs7 := hs.p8.set (o' := .row 7 [[.int .i64 A.rev, .int .i64 A.past, .int .i64 n, .ptr ix 2 0 0, .map vm, cv', o]] 1)
    have t1 : (A.snoc v).chs.map (verC tp td) = A.chs.map (verC tp td) ++ [[.int .i64 v.rev, chV tp td v.c]] := by simp [Sto.snoc, verC]
    rw [← t1] at hs7
    have t2 : VnP tp td ⟨x.key, v', x.vs ++ [v]⟩ = Ow 2 v' (x.vs.map (verC tp td) ++ [[.int .i64 v.rev, chV tp td v.c]]) := by simp [VnP, verC]
    rw [← t2] at hs7
    have hs8 := hs7.p2.drop.p4.drop.p5.drop.p5.drop.p2.p2.p4.p3.p4
    have hs9 := sat.unmid (l1 := [pto s (.row 7 [[.int .i64 A.rev, .int .i64 A.past, .int .i64 n, .ptr ix 2 0 0, .map vm, cv', o]] 1), IxP ix (putL L v.c.key (mkV v)), Ow 2 cv' ((A.snoc v).chs.map (verC tp td)), MpA (fun k : Key => AV.str k) Vn.key Vn.v vm (l1 ++ ⟨x.key, v', x.vs ++ [v]⟩ :: l2)] ++ l1.map (VnP tp td)) (l2 := l2.map (VnP tp td) ++ F) hs8
    simpa [MvLn, e1, e2] using hs9
  · have hl := lk_miss keyOK_str hs.p5 (q := v.c.key) (fun x h1 h2 => hx ⟨x, h1, h2⟩) (ok := false) (z := .nils)
    simp only [Bool.false_eq_true, if_false] at hl
    simp (disch := omega) only [go_sem, reduceCtorEq, ↓reduceIte, Nat.reduceEqDiff, Nat.reduceAdd, Nat.reduceSub, Nat.reduceMul, Nat.reduceLT, Nat.reduceLeDiff, Int.reduceEq, Int.reduceNe, Int.reduceLT, Int.reduceLE, Int.reduceBEq, Int.reduceBNe, Int.reduceToNat, ha, hp, hl, ca]
    refine new_opq hs fun n2 h hs => ?_
    simp (disch := omega) only [go_sem, reduceCtorEq, ↓reduceIte, Nat.reduceEqDiff, Nat.reduceAdd, Nat.reduceSub, Nat.reduceMul, Nat.reduceLT, Nat.reduceLeDiff, Int.reduceEq, Int.reduceNe, Int.reduceLT, Int.reduceLE, Int.reduceBEq, Int.reduceBNe, Int.reduceToNat]
    have hs6 : sat h (Ow 2 .nils [] :: pto n2 (.row 2 [[.int .i64 v.rev, chV tp td v.c]] 1) :: _) := hs.add ow_nil
    refine app_satO (s := 2) hs6 (src_one hs6.p1.at) (atoms_one (by simp only [List.all_cons, List.all_nil, atom_int, ca, Bool.and_self])) (by simp) fun v' h hs ca' aa => ?_
    have hp := hs.p5.at
    simp (disch := omega) only [go_sem, reduceCtorEq, ↓reduceIte, Nat.reduceEqDiff, Nat.reduceAdd, Nat.reduceSub, Nat.reduceMul, Nat.reduceLT, Nat.reduceLeDiff, Int.reduceEq, Int.reduceNe, Int.reduceLT, Int.reduceLE, Int.reduceBEq, Int.reduceBNe, Int.reduceToNat, hp, ca', aa]
    refine mup_new keyOK_str hs.p7 (y := (⟨v.c.key, v', [v]⟩ : Vn)) (fun x h1 h2 => hx ⟨x, h1, h2⟩) fun h hs => ?_
    have ha := hs.p5.at
    have hp := hs.p6.at
    simp (disch := omega) only [go_sem, reduceCtorEq, ↓reduceIte, Nat.reduceEqDiff, Nat.reduceAdd, Nat.reduceSub, Nat.reduceMul, Nat.reduceLT, Nat.reduceLeDiff, Int.reduceEq, Int.reduceNe, Int.reduceLT, Int.reduceLE, Int.reduceBEq, Int.reduceBNe, Int.reduceToNat, ha, hp, ca]
    refine new_opq hs fun n3 h hs => ?_
    simp (disch := omega) only [go_sem, reduceCtorEq, ↓reduceIte, Nat.reduceEqDiff, Nat.reduceAdd, Nat.reduceSub, Nat.reduceMul, Nat.reduceLT, Nat.reduceLeDiff, Int.reduceEq, Int.reduceNe, Int.reduceLT, Int.reduceLE, Int.reduceBEq, Int.reduceBNe, Int.reduceToNat]
    refine app_sat hs.p8 (src_one hs.at) (atoms_one (by simp only [List.all_cons, List.all_nil, atom_int, ca, Bool.and_self])) (by simp; omega) fun cv' h hs ca2 aa2 => ?_
    have hp := hs.p8.at
    simp (disch := omega) only [go_sem, reduceCtorEq, ↓reduceIte, Nat.reduceEqDiff, Nat.reduceAdd, Nat.reduceSub, Nat.reduceMul, Nat.reduceLT, Nat.reduceLeDiff, Int.reduceEq, Int.reduceNe, Int.reduceLT, Int.reduceLE, Int.reduceBEq, Int.reduceBNe, Int.reduceToNat, hp, ca2, aa2]
    refine mvN.2 ⟨ix, vm, cv', putL L v.c.key (mkV v), X ++ [⟨v.c.key, v', [v]⟩], ⟨ok', hix, vmOK_new hok.2.2 (fun x h1 h2 => hx ⟨x, h1, h2⟩)⟩, ?_⟩
    have hs7 := hs.p8.set (o' := .row 7 [[.int .i64 A.rev, .int .i64 A.past, .int .i64 n, .ptr ix 2 0 0, .map vm, cv', o]] 1)
    have t1 : (A.snoc v).chs.map (verC tp td) = A.chs.map (verC tp td) ++ [[.int .i64 v.rev, chV tp td v.c]] := by simp [Sto.snoc, verC]
    rw [← t1] at hs7
    have t2 : VnP tp td ⟨v.c.key, v', [v]⟩ = Ow 2 v' ([] ++ [[.int .i64 v.rev, chV tp td v.c]]) := by simp [VnP, verC]
    rw [← t2] at hs7
    have hs8 := hs7.p2.drop.p4.drop.p5.drop.p5.drop.p2.p2.p4.p3.p4
    have hs9 := sat.unmid (l1 := [pto s (.row 7 [[.int .i64 A.rev, .int .i64 A.past, .int .i64 n, .ptr ix 2 0 0, .map vm, cv', o]] 1), IxP ix (putL L v.c.key (mkV v)), Ow 2 cv' ((A.snoc v).chs.map (verC tp td)), MpA (fun k : Key => AV.str k) Vn.key Vn.v vm (X ++ [⟨v.c.key, v', [v]⟩])] ++ X.map (VnP tp td)) (l2 := F) hs8
    simpa [MvLn, e1, e2] using hs9
end
end Go.Proofs.Ytkclojjeepomfaa
/- The store: a write is done; keys are deleted. -/
set_option linter.unusedSimpArgs false
set_option linter.unusedVariables false
set_option maxRecDepth 10000
namespace Go.Proofs.Ytkclojjeepomfaa
open Go.Hz

section
variable {h : Hp} {F : List Asr} {s w : Nat} {A : Sto} {o : AV} {W : Wr}
theorem mvDone (hs : sat h (WtP w s A W :: StP s A (.ptr w 4 0 0) :: F)) (hz : A.old.length + A.chs.length + W.l.length ≤ 80000000) (hr : A.rev ≤ 100000000000000) : Triple Try.prog 15 [.ptr w 4 0 0] h (fun r h => r = .int .i64 (stDone A W).rev ∧ sat h (StP s (stDone A W) .nilp :: F)) := by
  have ok := MvP.ok hs.p1
  have hpa := ok.past
  have hre := ok.rev
  obtain ⟨lv0, bm0, hw, hs0⟩ := wrP.1 hs
  have hp0 := hs0.at
  refine t15 (Nat.le_of_ble_eq_true rfl) ?_
  simp (disch := omega) only [F15, hp0, go_sem, reduceCtorEq, ↓reduceIte, Nat.reduceEqDiff, Nat.reduceAdd, Nat.reduceSub, Nat.reduceMul, Nat.reduceLT, Nat.reduceLeDiff, Int.reduceEq, Int.reduceNe, Int.reduceLT, Int.reduceLE, Int.reduceBEq, Int.reduceBNe, Int.reduceToNat]
  refine call_use (mvClosed hs) ?_
  rintro r h ⟨hr, hs⟩
  subst hr
  simp (disch := omega) only [go_sem, reduceCtorEq, ↓reduceIte, Nat.reduceEqDiff, Nat.reduceAdd, Nat.reduceSub, Nat.reduceMul, Nat.reduceLT, Nat.reduceLeDiff, Int.reduceEq, Int.reduceNe, Int.reduceLT, Int.reduceLE, Int.reduceBEq, Int.reduceBNe, Int.reduceToNat]
  obtain ⟨lv, bm, _, hs1⟩ := wrP.1 hs
  obtain ⟨ix, vm, cv, L, X, hok, hs2⟩ := mvP.1 hs1.p3
  have hq := hs2.at
  have hs3 : sat h (pto s (.row 7 [[.int .i64 A.rev, .int .i64 A.past, .int .i64 A.now.length, .ptr ix 2 0 0, .map vm, cv, .ptr w 4 0 0]] 1) :: IxP ix L :: Ow 2 cv (A.chs.map (verC tp td)) :: MpA (fun k : Key => AV.str k) Vn.key Vn.v vm X :: (X.map (VnP tp td) ++ (pto w (.row 4 [[.ptr s 7 0 0, lv, .map bm, .int .i64 W.cur.length]] 1) :: Ow 1 lv (W.l.map fun c => [chV tp td c]) :: MpA (fun k : Key => AV.str k) Ch.key (chV tp td) bm W.l :: F))) := hs2
  have hs4 := hs3.set (o' := .row 7 [[.int .i64 A.rev, .int .i64 A.past, .int .i64 A.now.length, .ptr ix 2 0 0, .map vm, cv, .nilp]] 1)
  have mk : ∀ {h : Hp}, sat h (pto s (.row 7 [[.int .i64 A.rev, .int .i64 A.past, .int .i64 A.now.length, .ptr ix 2 0 0, .map vm, cv, .nilp]] 1) :: IxP ix L :: Ow 2 cv (A.chs.map (verC tp td)) :: MpA (fun k : Key => AV.str k) Vn.key Vn.v vm X :: (X.map (VnP tp td) ++ (pto w (.row 4 [[.ptr s 7 0 0, lv, .map bm, .int .i64 W.cur.length]] 1) :: Ow 1 lv (W.l.map fun c => [chV tp td c]) :: MpA (fun k : Key => AV.str k) Ch.key (chV tp td) bm W.l :: F))) →
      sat h (StP s A .nilp :: pto w (.row 4 [[.ptr s 7 0 0, lv, .map bm, .int .i64 W.cur.length]] 1) :: Ow 1 lv (W.l.map fun c => [chV tp td c]) :: MpA (fun k : Key => AV.str k) Ch.key (chV tp td) bm W.l :: F) := fun hs => mvP.2 ⟨ix, vm, cv, L, X, hok, hs⟩
  have hs5 := mk hs4
  have hw5 := hs5.p1.at
  have hlv := hs5.p2.els.len
  rw [List.length_map] at hlv
  have hsq := hs4.at
  simp (disch := omega) only [go_sem, reduceCtorEq, ↓reduceIte, Nat.reduceEqDiff, Nat.reduceAdd, Nat.reduceSub, Nat.reduceMul, Nat.reduceLT, Nat.reduceLeDiff, Int.reduceEq, Int.reduceNe, Int.reduceLT, Int.reduceLE, Int.reduceBEq, Int.reduceBNe, Int.reduceToNat, hq, hw5, hlv]
  by_cases hl : W.l = []
  · have e0 : ((W.l.length : Int) == 0) = true := by rw [hl]; rfl
    have ef : stDone A W = A := by rw [stDone, if_pos hl]
    rw [ef]
    simp (disch := omega) only [go_sem, reduceCtorEq, ↓reduceIte, Nat.reduceEqDiff, Nat.reduceAdd, Nat.reduceSub, Nat.reduceMul, Nat.reduceLT, Nat.reduceLeDiff, Int.reduceEq, Int.reduceNe, Int.reduceLT, Int.reduceLE, Int.reduceBEq, Int.reduceBNe, Int.reduceToNat, e0, hsq]
    exact hs5.p1.drop.p1.drop.p1.drop
  have e0 : ((W.l.length : Int) == 0) = false := by
    have := List.length_pos_iff.2 hl
    simp; omega
  have okd := stDone_ok ok hw
  have ed : stDone A W = ⟨A.rev + 1, A.past, A.old, A.chs ++ W.l.map fun c => ⟨A.rev + 1, c⟩⟩ := by rw [stDone, if_neg hl]
  have hnow := stDone_now hw
  rw [ed] at okd hnow ⊢
  have ok0 : StoOK ⟨A.rev + 1, A.past, A.old, A.chs⟩ := stOK_front okd
  have mkN : ∀ {h : Hp} {n : Int}, sat h (pto s (.row 7 [[.int .i64 (A.rev + 1), .int .i64 A.past, .int .i64 n, .ptr ix 2 0 0, .map vm, cv, .nilp]] 1) :: IxP ix L :: Ow 2 cv (A.chs.map (verC tp td)) :: MpA (fun k : Key => AV.str k) Vn.key Vn.v vm X :: (X.map (VnP tp td) ++ (pto w (.row 4 [[.ptr s 7 0 0, lv, .map bm, .int .i64 W.cur.length]] 1) :: Ow 1 lv (W.l.map fun c => [chV tp td c]) :: MpA (fun k : Key => AV.str k) Ch.key (chV tp td) bm W.l :: F))) →
      sat h (MvN tp td s n ⟨A.rev + 1, A.past, A.old, A.chs⟩ .nilp :: pto w (.row 4 [[.ptr s 7 0 0, lv, .map bm, .int .i64 W.cur.length]] 1) :: Ow 1 lv (W.l.map fun c => [chV tp td c]) :: MpA (fun k : Key => AV.str k) Ch.key (chV tp td) bm W.l :: F) := fun hs => mvN.2 ⟨ix, vm, cv, L, X, ⟨ok0, hok.2.1, hok.2.2⟩, hs⟩
  generalize Hp.set h s _ = h4 at hs4 hs5 hw5 hsq ⊢
  have hs6 := hs4.set (o' := .row 7 [[.int .i64 (A.rev + 1), .int .i64 A.past, .int .i64 A.now.length, .ptr ix 2 0 0, .map vm, cv, .nilp]] 1)
  have hw6 := (mkN hs6).p1.at
  have hs7 := hs6.set (o' := .row 7 [[.int .i64 (A.rev + 1), .int .i64 A.past, .int .i64 W.cur.length, .ptr ix 2 0 0, .map vm, cv, .nilp]] 1)
  have hs8 := mkN hs7
  have hw8 := hs8.p1.at
  rw [Hp.set_set] at hs8 hw8
  simp (disch := omega) only [go_sem, reduceCtorEq, ↓reduceIte, Nat.reduceEqDiff, Nat.reduceAdd, Nat.reduceSub, Nat.reduceMul, Nat.reduceLT, Nat.reduceLeDiff, Int.reduceEq, Int.reduceNe, Int.reduceLT, Int.reduceLE, Int.reduceBEq, Int.reduceBNe, Int.reduceToNat, e0, hsq, hw6, hw8, hlv]
  generalize Hp.set h4 s _ = h5 at hs8 hw8 ⊢
  rcases hs8.p2.cases with ⟨_, hn0, _⟩ | ⟨b, cap, hv, hs9, hle⟩
  · exact absurd (List.map_eq_nil_iff.1 hn0) hl
  subst hv
  have hll : (W.l.map fun c => [chV tp td c]).length = W.l.length := by simp
  rw [hll] at hle
  simp only [hll]
  refine run_up (N := W.l.length) (fun i e h => sat h (MvN tp td s W.cur.length ⟨A.rev + 1, A.past, A.old, A.chs ++ (W.l.take i).map fun c => ⟨A.rev + 1, c⟩⟩ .nilp :: pto b (.row 1 (W.l.map fun c => [chV tp td c]) cap) :: F) ∧
    (e 3 = .ptr s 7 0 0 ∧ e 46 = .arr b 1 0 W.l.length cap ∧ e 47 = .int .i64 W.l.length ∧ e 48 = .int .i64 i)) ⟨?_, rfl, rfl, rfl, rfl⟩ ?_
  · have : A.chs ++ ((W.l.take 0).map fun c => (⟨A.rev + 1, c⟩ : Ver)) = A.chs := by simp
    rw [this]
    exact hs9.p2.drop.p2.drop.p1
  clear hs hs0 hs1 hs2 hs3 hs4 hs5 hs6 hs7 hs8 hs9 hp0 hw5 hw6 hw8 hsq hq
  rintro i e h hi ⟨hs, he⟩
  have m1 : (i : Int) + 1 = ((i + 1 : Nat) : Int) := by omega
  simp (disch := omega) only [go_sem, reduceCtorEq, ↓reduceIte, Nat.reduceEqDiff, Nat.reduceAdd, Nat.reduceSub, Nat.reduceMul, Nat.reduceLT, Nat.reduceLeDiff, Int.reduceEq, Int.reduceNe, Int.reduceLT, Int.reduceLE, Int.reduceBEq, Int.reduceBNe, Int.reduceToNat, he]
  refine cnd_dec (fun h1 => ?_) (fun h1 => ?_)
  · have hi : i < W.l.length := by omega
    have hb := hs.p1.at
    have hrow : (W.l.map fun c => [chV tp td c])[i]? = some [chV tp td W.l[i]] := by simp [hi]
    obtain ⟨ix', vm', cv', L', X', hok', hs2⟩ := mvN.1 hs
    have hq := hs2.at
    simp (disch := omega) only [go_sem, reduceCtorEq, ↓reduceIte, Nat.reduceEqDiff, Nat.reduceAdd, Nat.reduceSub, Nat.reduceMul, Nat.reduceLT, Nat.reduceLeDiff, Int.reduceEq, Int.reduceNe, Int.reduceLT, Int.reduceLE, Int.reduceBEq, Int.reduceBNe, Int.reduceToNat, he, hb, hrow, hq, Int.toNat_natCast]
    have hsn : (⟨A.rev + 1, A.past, A.old, A.chs ++ (W.l.take i).map fun c => ⟨A.rev + 1, c⟩⟩ : Sto).snoc ⟨A.rev + 1, W.l[i]⟩ = ⟨A.rev + 1, A.past, A.old, A.chs ++ (W.l.take (i + 1)).map fun c => ⟨A.rev + 1, c⟩⟩ := by
      unfold Sto.snoc
      rw [List.take_succ_eq_append_getElem hi]
      simp only [List.map_append, List.map_cons, List.map_nil, List.append_assoc]
    have hok2 : StoOK ⟨A.rev + 1, A.past, A.old, A.chs ++ (W.l.take (i + 1)).map fun c => ⟨A.rev + 1, c⟩⟩ := by
      have h2 : (A.chs ++ W.l.map fun c => (⟨A.rev + 1, c⟩ : Ver)) = (A.chs ++ (W.l.take (i + 1)).map fun c => (⟨A.rev + 1, c⟩ : Ver)) ++ (W.l.drop (i + 1)).map fun c => (⟨A.rev + 1, c⟩ : Ver) := by
        rw [List.append_assoc, ← List.map_append, List.take_append_drop]
      rw [h2] at okd
      exact stOK_front okd
    have hcc := chV_cells (tp := tp) (td := td) W.l[i]
    have hn := mvNote (v := ⟨A.rev + 1, W.l[i]⟩) hs (by rw [hsn]; exact hok2) (by simp only [List.length_append, List.length_map, List.length_take]; omega) (by show A.rev + 1 ≤ _; omega)
    rw [hsn] at hn
    have hca := chV_atom (tp := tp) (td := td) W.l[i]
    simp (disch := omega) only [go_sem, reduceCtorEq, ↓reduceIte, Nat.reduceEqDiff, Nat.reduceAdd, Nat.reduceSub, Nat.reduceMul, Nat.reduceLT, Nat.reduceLeDiff, Int.reduceEq, Int.reduceNe, Int.reduceLT, Int.reduceLE, Int.reduceBEq, Int.reduceBNe, Int.reduceToNat, hcc, hca]
    refine call_use hn ?_
    intro r h hs
    simp (disch := omega) only [go_sem, reduceCtorEq, ↓reduceIte, Nat.reduceEqDiff, Nat.reduceAdd, Nat.reduceSub, Nat.reduceMul, Nat.reduceLT, Nat.reduceLeDiff, Int.reduceEq, Int.reduceNe, Int.reduceLT, Int.reduceLE, Int.reduceBEq, Int.reduceBNe, Int.reduceToNat, he, m1]
    exact ⟨by omega, hs⟩
  · have hi : i = W.l.length := by omega
    subst hi
    rw [List.take_length] at hs
    obtain ⟨ix', vm', cv', L', X', hok', hs2⟩ := mvN.1 hs
    have hq := hs2.at
    simp (disch := omega) only [go_sem, reduceCtorEq, ↓reduceIte, Nat.reduceEqDiff, Nat.reduceAdd, Nat.reduceSub, Nat.reduceMul, Nat.reduceLT, Nat.reduceLeDiff, Int.reduceEq, Int.reduceNe, Int.reduceLT, Int.reduceLE, Int.reduceBEq, Int.reduceBNe, Int.reduceToNat, he, hq]
    rw [← hnow] at hs
    exact hs.d1
theorem mvWKeysR {lo hi : Key} (hs : sat h (WtP w s A W :: StP s A o :: F)) (hz : A.old.length + A.chs.length + W.l.length ≤ 40000000) : Triple Try.prog 36 [.ptr w 4 0 0, .str lo, .str hi] h (fun r h => ∃ ks, WKeys A W lo hi ks ∧ r = strsV ks ∧ sat h (WtP w s A W :: StP s A o :: F)) := mvWKeys hs (by omega)
theorem mvDel {lo hi : Key} (hs : sat h (WtP w s A W :: StP s A (.ptr w 4 0 0) :: F)) (hz : A.old.length + A.chs.length + W.l.length ≤ 40000000) : Triple Try.prog 16 [.ptr w 4 0 0, .str lo, .str hi] h (fun r h => ∃ ks, WKeys A W lo hi ks ∧ r = .int .i64 (wDels W ks).1 ∧ sat h (WtP w s A (wDels W ks).2 :: StP s A (.ptr w 4 0 0) :: F)) := by
  have ok := MvP.ok hs.p1
  have hkey := now_keys ok
  refine t16 (Nat.le_of_ble_eq_true rfl) ?_
  simp (disch := omega) only [F16, go_sem, reduceCtorEq, ↓reduceIte, Nat.reduceEqDiff, Nat.reduceAdd, Nat.reduceSub, Nat.reduceMul, Nat.reduceLT, Nat.reduceLeDiff, Int.reduceEq, Int.reduceNe, Int.reduceLT, Int.reduceLE, Int.reduceBEq, Int.reduceBNe, Int.reduceToNat]
  refine call_use (mvClosed hs) ?_
  rintro r h ⟨hr, hs⟩
  subst hr
  simp (disch := omega) only [go_sem, reduceCtorEq, ↓reduceIte, Nat.reduceEqDiff, Nat.reduceAdd, Nat.reduceSub, Nat.reduceMul, Nat.reduceLT, Nat.reduceLeDiff, Int.reduceEq, Int.reduceNe, Int.reduceLT, Int.reduceLE, Int.reduceBEq, Int.reduceBNe, Int.reduceToNat]
  refine call_use (mvWKeysR (lo := lo) (hi := hi) hs hz) ?_
  rintro v h ⟨ks, hk, hv, hs⟩
  subst hv
  have hw := WrP.ok hs
  have hkl := hk.2.1
  have lenK : lenL (strsV ks) = some (.int .i64 ks.length) := by simp [strsV, lenL]
  simp (disch := omega) only [go_sem, reduceCtorEq, ↓reduceIte, Nat.reduceEqDiff, Nat.reduceAdd, Nat.reduceSub, Nat.reduceMul, Nat.reduceLT, Nat.reduceLeDiff, Int.reduceEq, Int.reduceNe, Int.reduceLT, Int.reduceLE, Int.reduceBEq, Int.reduceBNe, Int.reduceToNat, lenK]
  refine run_up (N := ks.length) (fun i e h => sat h (WtP w s A (wDels W (ks.take i)).2 :: StP s A (.ptr w 4 0 0) :: F) ∧ (e 0 = .ptr w 4 0 0 ∧ e 7 = .int .i64 (wDels W (ks.take i)).1 ∧ e 19 = strsV ks ∧ e 20 = .int .i64 ks.length ∧ e 21 = .int .i64 i)) ⟨hs, rfl, rfl, rfl, rfl, rfl⟩ ?_
  clear hs
  rintro i e h hi ⟨hs, he⟩
  have m1 : (i : Int) + 1 = ((i + 1 : Nat) : Int) := by omega
  simp (disch := omega) only [go_sem, reduceCtorEq, ↓reduceIte, Nat.reduceEqDiff, Nat.reduceAdd, Nat.reduceSub, Nat.reduceMul, Nat.reduceLT, Nat.reduceLeDiff, Int.reduceEq, Int.reduceNe, Int.reduceLT, Int.reduceLE, Int.reduceBEq, Int.reduceBNe, Int.reduceToNat, he, m1]
  refine cnd_dec (fun h1 => ?_) (fun h1 => ?_)
  · have hi : i < ks.length := by omega
    have hik : iaA 1 (strsV ks) (.int .i64 (i : Int)) = some (.ro [.str ks[i]]) := ia_lst (f := fun k => [AV.str k]) hi fun _ => rfl
    have hst : wDels W (ks.take (i + 1)) = ((wDels W (ks.take i)).1 + (wDel1 (wDels W (ks.take i)).2 ks[i]).1, (wDel1 (wDels W (ks.take i)).2 ks[i]).2) := by
      rw [List.take_succ_eq_append_getElem hi]; exact wDels_snoc
    have hbnd := wDels_len (ks := ks.take i) (W := W)
    rw [List.length_take] at hbnd
    generalize hWi : wDels W (ks.take i) = Wi at hs he hst hbnd
    obtain ⟨ni, Wi⟩ := Wi
    simp only [] at hs he hst hbnd
    have hwi := WrP.ok hs
    obtain ⟨lv, bm, _, hs1⟩ := wrP.1 hs
    have hp := hs1.at
    obtain ⟨tw, hl⟩ : ∃ v, lkA true true .nili h (.map bm) (.str ks[i]) = some (.tup [v, .bool (wChg Wi ks[i])]) := by
      cases hc : wChg Wi ks[i] with
      | true =>
        obtain ⟨c, hcm, hck⟩ := wChg_t hc
        rw [← hck]
        exact ⟨_, lk_hit keyOK_str hs1.p2 hwi.nd hcm⟩
      | false => exact ⟨_, lk_miss keyOK_str hs1.p2 (wChg_f hc)⟩
    simp (disch := omega) only [go_sem, reduceCtorEq, ↓reduceIte, Nat.reduceEqDiff, Nat.reduceAdd, Nat.reduceSub, Nat.reduceMul, Nat.reduceLT, Nat.reduceLeDiff, Int.reduceEq, Int.reduceNe, Int.reduceLT, Int.reduceLE, Int.reduceBEq, Int.reduceBNe, Int.reduceToNat, he, hik, hp, hl]
    refine call_use (mvNow (key := ks[i]) hs (by omega)) ?_
    rintro r h ⟨hr, hs⟩
    subst hr
    simp (disch := omega) only [go_sem, reduceCtorEq, ↓reduceIte, Nat.reduceEqDiff, Nat.reduceAdd, Nat.reduceSub, Nat.reduceMul, Nat.reduceLT, Nat.reduceLeDiff, Int.reduceEq, Int.reduceNe, Int.reduceLT, Int.reduceLE, Int.reduceBEq, Int.reduceBNe, Int.reduceToNat]
    refine new_opq hs fun a h hs => ?_
    have ha := hs.at
    generalize hkv : (kvget Wi.cur ks[i]).getD kv0 = kv
    have hs2 := hs.set (o' := .row 6 [kvC kv] 1)
    simp only [kvC] at hs2
    simp (disch := omega) only [go_sem, reduceCtorEq, ↓reduceIte, Nat.reduceEqDiff, Nat.reduceAdd, Nat.reduceSub, Nat.reduceMul, Nat.reduceLT, Nat.reduceLeDiff, Int.reduceEq, Int.reduceNe, Int.reduceLT, Int.reduceLE, Int.reduceBEq, Int.reduceBNe, Int.reduceToNat, ha, kvC, he]
    generalize Hp.set h a _ = h2 at hs2 ⊢
    by_cases hskip : wChg Wi ks[i] = true ∨ kvget Wi.cur ks[i] = none
    · have e1 : wDel1 Wi ks[i] = (0, Wi) := by rw [wDel1, if_pos hskip]
      rw [e1] at hst
      simp only [Nat.add_zero] at hst
      rw [hst]
      cases hg : kvget Wi.cur ks[i] with
      | none =>
        simp (disch := omega) only [go_sem, reduceCtorEq, ↓reduceIte, Nat.reduceEqDiff, Nat.reduceAdd, Nat.reduceSub, Nat.reduceMul, Nat.reduceLT, Nat.reduceLeDiff, Int.reduceEq, Int.reduceNe, Int.reduceLT, Int.reduceLE, Int.reduceBEq, Int.reduceBNe, Int.reduceToNat, Option.isSome_none, he, m1]
        exact ⟨by omega, hs2.drop⟩
      | some y =>
        have hc : wChg Wi ks[i] = true := by rcases hskip with h | h; exact h; rw [hg] at h; cases h
        simp (disch := omega) only [go_sem, reduceCtorEq, ↓reduceIte, Nat.reduceEqDiff, Nat.reduceAdd, Nat.reduceSub, Nat.reduceMul, Nat.reduceLT, Nat.reduceLeDiff, Int.reduceEq, Int.reduceNe, Int.reduceLT, Int.reduceLE, Int.reduceBEq, Int.reduceBNe, Int.reduceToNat, Option.isSome_some, hc, he, m1]
        exact ⟨by omega, hs2.drop⟩
    · have hc : wChg Wi ks[i] = false := by simpa using fun h => hskip (.inl h)
      obtain ⟨y, hy⟩ : ∃ y, kvget Wi.cur ks[i] = some y := by
        cases hg : kvget Wi.cur ks[i] with
        | none => exact absurd (.inr hg) hskip
        | some y => exact ⟨y, rfl⟩
      have e1 : wDel1 Wi ks[i] = (1, ⟨done Wi.cur (.del ks[i]), Wi.l ++ [.del ks[i]]⟩) := by rw [wDel1, if_neg hskip]
      rw [e1] at hst
      rw [hst]
      have hyk : ks[i] ≠ [] ∧ ks[i].length ≤ 100 := by
        have h3 := hy
        rw [now_same ok hwi hc] at h3
        obtain ⟨h4, h5⟩ := kvget_some h3
        rw [← h5]; exact hkey y h4
      simp (disch := omega) only [go_sem, reduceCtorEq, ↓reduceIte, Nat.reduceEqDiff, Nat.reduceAdd, Nat.reduceSub, Nat.reduceMul, Nat.reduceLT, Nat.reduceLeDiff, Int.reduceEq, Int.reduceNe, Int.reduceLT, Int.reduceLE, Int.reduceBEq, Int.reduceBNe, Int.reduceToNat, hy, Option.isSome_some, hc, he]
      obtain ⟨lv2, bm2, _, hs3⟩ := wrP.1 hs2.p1
      have hlay : Triple Try.prog 34 [.ptr w 4 0 0, chV tp td (.del ks[i])] _ _ := mvLay hwi hs3 (by omega) hc hyk (fun _ => by show kvget Wi.cur ks[i] ≠ none; rw [hy]; simp) (fun _ h => by cases h)
      refine call_use hlay ?_
      rintro r h ⟨lv4, hok', hs⟩
      have hp := hs.at
      have hpos : 0 < Wi.cur.length := List.length_pos_of_mem (kvget_some hy).1
      have hcl := cur_le hwi
      have m3 : (ni : Int) + 1 = ((ni + 1 : Nat) : Int) := by omega
      simp (disch := omega) only [go_sem, reduceCtorEq, ↓reduceIte, Nat.reduceEqDiff, Nat.reduceAdd, Nat.reduceSub, Nat.reduceMul, Nat.reduceLT, Nat.reduceLeDiff, Int.reduceEq, Int.reduceNe, Int.reduceLT, Int.reduceLE, Int.reduceBEq, Int.reduceBNe, Int.reduceToNat, he, hp, m1, m3]
      have hdl := done_len (c := .del ks[i]) (hwi.srt ok)
      rw [show (Ch.del ks[i]).key = ks[i] from rfl, hy] at hdl
      have hdl2 : ((done Wi.cur (.del ks[i])).length : Int) = (Wi.cur.length : Int) - 1 := by rw [hdl]; simp [Ch.kv]; omega
      refine ⟨by omega, wrP.2 ⟨lv4, bm2, hok', ?_⟩⟩
      rw [hdl2]
      exact hs.set.p3.drop.p3.p3.p3.p3
  · have hi : i = ks.length := by omega
    subst hi
    rw [List.take_length] at hs he
    simp (disch := omega) only [go_sem, reduceCtorEq, ↓reduceIte, Nat.reduceEqDiff, Nat.reduceAdd, Nat.reduceSub, Nat.reduceMul, Nat.reduceLT, Nat.reduceLeDiff, Int.reduceEq, Int.reduceNe, Int.reduceLT, Int.reduceLE, Int.reduceBEq, Int.reduceBNe, Int.reduceToNat, he]
    exact ⟨ks, hk, rfl, hs⟩
end
end Go.Proofs.Ytkclojjeepomfaa
/- within, the chapter's example. -/
set_option linter.unusedSimpArgs false
set_option linter.unusedVariables false
set_option maxRecDepth 10000
namespace Go.Proofs.Ytkclojjeepomfaa
open Go.Hz

/-- A number from 0 to n - 1. -/
theorem within8 {h : Hp} {F : List Asr} (hs : sat h F) {a : Int} {n : Nat} (h1 : -9223372036854775808 ≤ a) (h2 : a ≤ 9223372036854775807) (hn : 0 < n) (hn2 : n ≤ 4611686018427387904) :
    Triple Try.prog 12 [.int .i64 a, .int .i64 n] h (fun r h => ∃ k : Nat, r = .int .i64 k ∧ (k : Int) = a % n ∧ k < n ∧ sat h F) := by
  have m1 := Int.tmod_lt_of_pos a (b := n) (by omega)
  have m2 : -(n : Int) < a.tmod n := by
    have := Int.tmod_lt_of_pos (-a) (b := n) (by omega)
    rw [Int.neg_tmod] at this
    omega
  have hn0 : ¬ (n : Int) = 0 := by omega
  have e := Int.mul_tdiv_add_tmod a n
  have em : a % n = (a.tmod n) % n := by
    conv => lhs; rw [← e]
    rw [Int.mul_add_emod_self_left]
  refine t12 (Nat.le_of_ble_eq_true rfl) ?_
  simp (disch := omega) only [F12, hn0, go_sem, reduceCtorEq, ↓reduceIte, Nat.reduceEqDiff, Nat.reduceAdd, Nat.reduceSub, Nat.reduceMul, Nat.reduceLT, Nat.reduceLeDiff, Int.reduceEq, Int.reduceNe, Int.reduceLT, Int.reduceLE, Int.reduceBEq, Int.reduceBNe, Int.reduceToNat]
  refine cnd_dec (fun hc => ?_) (fun hc => ?_)
  · simp (disch := omega) only [go_sem, reduceCtorEq, ↓reduceIte, Nat.reduceEqDiff, Nat.reduceAdd, Nat.reduceSub, Nat.reduceMul, Nat.reduceLT, Nat.reduceLeDiff, Int.reduceEq, Int.reduceNe, Int.reduceLT, Int.reduceLE, Int.reduceBEq, Int.reduceBNe, Int.reduceToNat]
    refine ⟨(a.tmod n + n).toNat, by congr 1; omega, ?_, by omega, hs⟩
    rw [em, ← Int.add_emod_right, Int.emod_eq_of_lt (by omega) (by omega)]
    omega
  · simp (disch := omega) only [go_sem, reduceCtorEq, ↓reduceIte, Nat.reduceEqDiff, Nat.reduceAdd, Nat.reduceSub, Nat.reduceMul, Nat.reduceLT, Nat.reduceLeDiff, Int.reduceEq, Int.reduceNe, Int.reduceLT, Int.reduceLE, Int.reduceBEq, Int.reduceBNe, Int.reduceToNat]
    refine ⟨(a.tmod n).toNat, by congr 1; omega, ?_, by omega, hs⟩
    rw [em, Int.emod_eq_of_lt (by omega) (by omega)]
    omega

def KA (i : Nat) : Sto := ⟨i, 0, [], (List.range i).map fun (j : Nat) => ⟨(j : Int) + 1, .put ⟨[97], [120], 1, (j : Int) + 1, (j : Int) + 1, 0⟩⟩⟩
theorem KA_step0 : stDone (KA 0) (wPut ((KA 0).rev + 1) ⟨(KA 0).now, []⟩ [97] [120] 0).2 = KA 1 := by rfl
theorem KA_step1 : stDone (KA 1) (wPut ((KA 1).rev + 1) ⟨(KA 1).now, []⟩ [97] [120] 0).2 = KA 2 := by rfl
section
variable {h : Hp} {F : List Asr}
theorem known8 (hs : sat h F) : Triple Try.prog 10 [] h (fun r h => r = .bool true ∧ sat h F) := by
  refine t10 (Nat.le_of_ble_eq_true rfl) ?_
  simp (disch := omega) only [F10, go_sem, reduceCtorEq, ↓reduceIte, Nat.reduceEqDiff, Nat.reduceAdd, Nat.reduceSub, Nat.reduceMul, Nat.reduceLT, Nat.reduceLeDiff, Int.reduceEq, Int.reduceNe, Int.reduceLT, Int.reduceLE, Int.reduceBEq, Int.reduceBNe, Int.reduceToNat]
  refine call_use (mvNew hs) ?_
  rintro r h ⟨s, hr, hs⟩
  subst hr
  simp (disch := omega) only [go_sem, reduceCtorEq, ↓reduceIte, Nat.reduceEqDiff, Nat.reduceAdd, Nat.reduceSub, Nat.reduceMul, Nat.reduceLT, Nat.reduceLeDiff, Int.reduceEq, Int.reduceNe, Int.reduceLT, Int.reduceLE, Int.reduceBEq, Int.reduceBNe, Int.reduceToNat]
  refine blk_join (Q := fun e h => ∃ o, sat h (StP s (KA 2) o :: F) ∧ (e 1 = .ptr s 7 0 0)) ?_ ?_
  · refine run_up (N := 2) (fun i e h => ∃ o, sat h (StP s (KA i) o :: F) ∧ (e 1 = .ptr s 7 0 0 ∧ e 2 = .int .i64 i)) ⟨.nilp, hs, rfl, rfl⟩ ?_
    clear hs
    rintro i e h hi ⟨o, hs, he⟩
    have m1 : (i : Int) + 1 = ((i + 1 : Nat) : Int) := by omega
    simp (disch := omega) only [go_sem, reduceCtorEq, ↓reduceIte, Nat.reduceEqDiff, Nat.reduceAdd, Nat.reduceSub, Nat.reduceMul, Nat.reduceLT, Nat.reduceLeDiff, Int.reduceEq, Int.reduceNe, Int.reduceLT, Int.reduceLE, Int.reduceBEq, Int.reduceBNe, Int.reduceToNat, he, m1]
    refine cnd_dec (fun h1 => ?_) (fun h1 => ?_)
    · have hi : i < 2 := by omega
      simp (disch := omega) only [go_sem, reduceCtorEq, ↓reduceIte, Nat.reduceEqDiff, Nat.reduceAdd, Nat.reduceSub, Nat.reduceMul, Nat.reduceLT, Nat.reduceLeDiff, Int.reduceEq, Int.reduceNe, Int.reduceLT, Int.reduceLE, Int.reduceBEq, Int.reduceBNe, Int.reduceToNat, he]
      refine call_use (mvWrite hs) ?_
      rintro r h ⟨w, hr, hs⟩
      subst hr
      simp (disch := omega) only [go_sem, reduceCtorEq, ↓reduceIte, Nat.reduceEqDiff, Nat.reduceAdd, Nat.reduceSub, Nat.reduceMul, Nat.reduceLT, Nat.reduceLeDiff, Int.reduceEq, Int.reduceNe, Int.reduceLT, Int.reduceLE, Int.reduceBEq, Int.reduceBNe, Int.reduceToNat, he]
      have hKl : (KA i).chs.length = i := by simp [KA]
      have hKn : (KA i).now.length ≤ i := by
        have := doneL_le (cs := (KA i).chs.map Ver.c) (l := (KA i).old)
        rw [List.length_map, hKl] at this
        simpa [Sto.now, KA] using this
      refine call_use (mvPut (key := [97]) (val := [120]) (lease := 0) hs (by omega) (by simp) (by show (KA i).now.length ≤ _; omega) (by show (i : Int) ≤ _; omega)) ?_
      rintro r h ⟨hr, hs⟩
      subst hr
      simp (disch := omega) only [go_sem, reduceCtorEq, ↓reduceIte, Nat.reduceEqDiff, Nat.reduceAdd, Nat.reduceSub, Nat.reduceMul, Nat.reduceLT, Nat.reduceLeDiff, Int.reduceEq, Int.reduceNe, Int.reduceLT, Int.reduceLE, Int.reduceBEq, Int.reduceBNe, Int.reduceToNat, he]
      refine call_use (mvDone hs ?_ (by show (i : Int) ≤ _; omega)) ?_
      · have : (wPut ((KA i).rev + 1) ⟨(KA i).now, []⟩ [97] [120] 0).2.l.length ≤ 1 := by
          unfold wPut; split <;> (try split) <;> (try split) <;> (try split) <;> simp
        have h0 : (KA i).old.length = 0 := rfl
        omega
      rintro r h ⟨hr, hs⟩
      subst hr
      simp (disch := omega) only [go_sem, reduceCtorEq, ↓reduceIte, Nat.reduceEqDiff, Nat.reduceAdd, Nat.reduceSub, Nat.reduceMul, Nat.reduceLT, Nat.reduceLeDiff, Int.reduceEq, Int.reduceNe, Int.reduceLT, Int.reduceLE, Int.reduceBEq, Int.reduceBNe, Int.reduceToNat, he, m1]
      refine ⟨by omega, .nilp, ?_⟩
      match i, hi, hs with
      | 0, _, hs => rw [KA_step0] at hs; exact hs
      | 1, _, hs => rw [KA_step1] at hs; exact hs
    · have hi : i = 2 := by omega
      subst hi
      simp (disch := omega) only [go_sem, reduceCtorEq, ↓reduceIte, Nat.reduceEqDiff, Nat.reduceAdd, Nat.reduceSub, Nat.reduceMul, Nat.reduceLT, Nat.reduceLeDiff, Int.reduceEq, Int.reduceNe, Int.reduceLT, Int.reduceLE, Int.reduceBEq, Int.reduceBNe, Int.reduceToNat, he]
      exact ⟨o, hs⟩
  clear hs
  rintro e h ⟨o, hs, he⟩
  simp (disch := omega) only [go_sem, reduceCtorEq, ↓reduceIte, Nat.reduceEqDiff, Nat.reduceAdd, Nat.reduceSub, Nat.reduceMul, Nat.reduceLT, Nat.reduceLeDiff, Int.reduceEq, Int.reduceNe, Int.reduceLT, Int.reduceLE, Int.reduceBEq, Int.reduceBNe, Int.reduceToNat, he]
  have e1 : stRange (KA 2) [97] [] 1 0 = ([⟨[97], [120], 1, 1, 1, 0⟩], 1, 0) := by rfl
  refine call_use (mvRange (lo := [97]) (hi := []) (rev := 1) (lim := 0) hs (by decide)) ?_
  rintro r h ⟨hr, hs⟩
  subst hr
  simp (disch := omega) only [go_sem, reduceCtorEq, ↓reduceIte, Nat.reduceEqDiff, Nat.reduceAdd, Nat.reduceSub, Nat.reduceMul, Nat.reduceLT, Nat.reduceLeDiff, Int.reduceEq, Int.reduceNe, Int.reduceLT, Int.reduceLE, Int.reduceBEq, Int.reduceBNe, Int.reduceToNat, e1, he]
  refine call_use (mvWrite hs) ?_
  rintro r h ⟨w, hr, hs⟩
  subst hr
  have ei : iaA 6 (kvsV [⟨[97], [120], 1, 1, 1, 0⟩]) (.int .i64 0) = some (.ro [AV.str [97], .str [120], .int .i64 1, .int .i64 1, .int .i64 1, .int .i64 0]) := by rfl
  simp (disch := omega) only [go_sem, reduceCtorEq, ↓reduceIte, Nat.reduceEqDiff, Nat.reduceAdd, Nat.reduceSub, Nat.reduceMul, Nat.reduceLT, Nat.reduceLeDiff, Int.reduceEq, Int.reduceNe, Int.reduceLT, Int.reduceLE, Int.reduceBEq, Int.reduceBNe, Int.reduceToNat, he, kvC, ei]
  have hrv := mvRev hs.p1
  refine call_use hrv ?_
  rintro r h ⟨hr, hs⟩
  subst hr
  have e2 : (((KA 2).rev) == 2) = true := rfl
  simp (disch := omega) only [go_sem, reduceCtorEq, ↓reduceIte, Nat.reduceEqDiff, Nat.reduceAdd, Nat.reduceSub, Nat.reduceMul, Nat.reduceLT, Nat.reduceLeDiff, Int.reduceEq, Int.reduceNe, Int.reduceLT, Int.reduceLE, Int.reduceBEq, Int.reduceBNe, Int.reduceToNat, e2]
  refine call_use (mvDel (lo := [97]) (hi := []) hs.p1 (by decide)) ?_
  rintro r h ⟨ks, hk, hr, hs⟩
  subst hr
  have hk2 := hk.2.2
  rw [if_pos rfl] at hk2
  subst hk2
  have e3 : ((((wDels ⟨(KA 2).now, []⟩ [[97]]).1 : Nat) : Int) == 1) = true := by rfl
  simp (disch := omega) only [go_sem, reduceCtorEq, ↓reduceIte, Nat.reduceEqDiff, Nat.reduceAdd, Nat.reduceSub, Nat.reduceMul, Nat.reduceLT, Nat.reduceLeDiff, Int.reduceEq, Int.reduceNe, Int.reduceLT, Int.reduceLE, Int.reduceBEq, Int.reduceBNe, Int.reduceToNat, e3]
  refine call_use (mvDone hs (by decide) (by decide)) ?_
  rintro r h ⟨hr, hs⟩
  subst hr
  have e4 : ((stDone (KA 2) (wDels ⟨(KA 2).now, []⟩ [[97]]).2).rev == 3) = true := by rfl
  simp (disch := omega) only [go_sem, reduceCtorEq, ↓reduceIte, Nat.reduceEqDiff, Nat.reduceAdd, Nat.reduceSub, Nat.reduceMul, Nat.reduceLT, Nat.reduceLeDiff, Int.reduceEq, Int.reduceNe, Int.reduceLT, Int.reduceLE, Int.reduceBEq, Int.reduceBNe, Int.reduceToNat, e4]
  exact hs.drop
end
end Go.Proofs.Ytkclojjeepomfaa
/- The law MvccRanges, walked. -/
set_option linter.unusedSimpArgs false
set_option linter.unusedVariables false
set_option maxRecDepth 10000
namespace Go.Proofs.Ytkclojjeepomfaa
open Go.Hz

theorem wPut_cases {r : Int} {W : Wr} {key val : Key} {lease : Int} : ((wPut r W key val lease).1 = 0 ∧ (wPut r W key val lease).2 = ⟨done W.cur (.put (wNew r W key val lease)), W.l ++ [.put (wNew r W key val lease)]⟩) ∨ ((wPut r W key val lease).1 ≠ 0 ∧ (wPut r W key val lease).2 = W) := by
  unfold wPut
  split
  · exact .inr ⟨by simp, rfl⟩
  split
  · exact .inr ⟨by simp, rfl⟩
  split
  · exact .inr ⟨by simp, rfl⟩
  split
  · exact .inr ⟨by simp, rfl⟩
  · exact .inl ⟨rfl, rfl⟩
section
end
end Go.Proofs.Ytkclojjeepomfaa
/- The law MvccFull, walked. -/
set_option linter.unusedSimpArgs false
set_option linter.unusedVariables false
set_option maxRecDepth 10000
namespace Go.Proofs.Ytkclojjeepomfaa
open Go.Hz

/-! ### so many keys, rising -/
def kf (i : Nat) : Key := [107, UInt8.ofNat (i / 256), UInt8.ofNat (i % 256)]
theorem u8_lt {a b : Nat} (ha : a < 256) (hb : b < 256) : (UInt8.ofNat a < UInt8.ofNat b) ↔ a < b := by
  rw [UInt8.lt_iff_toNat_lt, UInt8.toNat_ofNat', UInt8.toNat_ofNat']
  omega
theorem u8_eq {a b : Nat} (ha : a < 256) (hb : b < 256) : (UInt8.ofNat a = UInt8.ofNat b) ↔ a = b := by
  rw [← UInt8.toNat_inj, UInt8.toNat_ofNat', UInt8.toNat_ofNat']
  omega
theorem kf_lt {i j : Nat} (hi : i < 65536) (hj : j < 65536) : ltK (kf i) (kf j) = decide (i < j) := by
  have h1 := u8_lt (a := i / 256) (b := j / 256) (by omega) (by omega)
  have h2 := u8_eq (a := i / 256) (b := j / 256) (by omega) (by omega)
  have h3 := u8_lt (a := i % 256) (b := j % 256) (by omega) (by omega)
  have e : ltK (kf i) (kf j) = (decide (UInt8.ofNat (i / 256) < UInt8.ofNat (j / 256)) || (UInt8.ofNat (i / 256) == UInt8.ofNat (j / 256) && decide (UInt8.ofNat (i % 256) < UInt8.ofNat (j % 256)))) := by
    unfold ltK kf
    simp [Op.bytesLess]
  rw [e, Bool.eq_iff_iff]
  simp only [Bool.or_eq_true, Bool.and_eq_true, decide_eq_true_eq, beq_iff_eq, h1, h2, h3]
  omega
theorem kf_inj {i j : Nat} (hi : i < 65536) (hj : j < 65536) (h : kf i = kf j) : i = j := by
  have h1 := kf_lt hi hj
  have h2 := kf_lt hj hi
  rw [h, ltK_irrefl] at h1 h2
  have h1 := of_decide_eq_false h1.symm
  have h2 := of_decide_eq_false h2.symm
  omega
def kvF (i : Nat) : Kv := ⟨kf i, [], 1, 1, 1, 0⟩
def KF (n : Nat) : List Kv := (List.range n).map kvF
def WF (n : Nat) : Wr := ⟨KF n, (KF n).map .put⟩
theorem done_last {l : List Kv} {c : Ch} (h : ∀ x ∈ l, ltK x.key c.key = true) : done l c = l ++ c.kv.toList := by
  unfold done
  have e2 : l.dropWhile (fun x => ltK x.key c.key) = [] := by
    induction l with
    | nil => rfl
    | cons y l ih =>
      rw [List.dropWhile_cons, if_pos (h y (by simp))]
      exact ih fun x hx => h x (List.mem_cons_of_mem _ hx)
  have e1 : l.takeWhile (fun x => ltK x.key c.key) = l := by
    have := List.takeWhile_append_dropWhile (p := fun x : Kv => ltK x.key c.key) (l := l)
    rwa [e2, List.append_nil] at this
  rw [e1, e2]; simp
theorem KF_succ {n : Nat} : KF (n + 1) = KF n ++ [kvF n] := by simp [KF, List.range_succ]
theorem KF_len {n : Nat} : (KF n).length = n := by simp [KF]
theorem KF_mem {n : Nat} {x : Kv} : x ∈ KF n ↔ ∃ i, i < n ∧ x = kvF i := by
  simp only [KF, List.mem_map, List.mem_range]
  exact ⟨fun ⟨i, h, e⟩ => ⟨i, h, e.symm⟩, fun ⟨i, h, e⟩ => ⟨i, h, e.symm⟩⟩
theorem KF_none {n m : Nat} (hn : n ≤ m) (hm : m < 65536) : kvget (KF n) (kf m) = none := by
  refine kvget_none.2 fun x hx e => ?_
  obtain ⟨i, hi, rfl⟩ := KF_mem.1 hx
  have := kf_inj (i := i) (j := m) (by omega) hm e
  omega
theorem WF_put {n m : Nat} (hn : n ≤ m) (hm : m < 65536) (h4 : n ≤ 4096) (hf : n < 4096 → n = m) : wPut ((0 : Int) + 1) (WF n) (kf m) [] 0 = if n < 4096 then (0, WF (n + 1)) else (14, WF n) := by
  have hc : wChg (WF n) (kf m) = false := by
    unfold wChg WF
    rw [List.any_map, List.any_eq_false]
    intro x hx e
    obtain ⟨i, hi, rfl⟩ := KF_mem.1 hx
    have := kf_inj (i := i) (j := m) (by omega) hm (eq_of_beq e)
    omega
  have hg : kvget (WF n).cur (kf m) = none := KF_none hn hm
  have hl : (WF n).cur.length = n := KF_len
  rw [wPut, if_neg (by simp [kf]), if_neg (by simp), if_neg (by simp [hc]), hl]
  by_cases h5 : n < 4096
  · have hnm := hf h5
    subst hnm
    have hnew : wNew ((0 : Int) + 1) (WF n) (kf n) [] 0 = kvF n := by unfold wNew; rw [hg]; rfl
    have hd : done (WF n).cur (.put (kvF n)) = KF (n + 1) := by
      rw [KF_succ]
      refine done_last fun x hx => ?_
      obtain ⟨i, hi, rfl⟩ := KF_mem.1 hx
      show ltK (kf i) (kf n) = true
      rw [kf_lt (by omega) hm]; simpa using hi
    have hl2 : (WF n).l ++ [.put (kvF n)] = (KF (n + 1)).map .put := by rw [KF_succ]; simp [WF]
    rw [hnew, hd, hl2, if_neg (by rintro ⟨_, h⟩; omega), if_pos h5]; rfl
  · rw [if_pos ⟨hg, by omega⟩, if_neg h5]
theorem wDels_all {A : Sto} (ok : StoOK A) (hk : ∀ x ∈ A.now, x.key ≠ [] ∧ x.key.length ≤ 100) : ∀ {ks : List Key} {W : Wr}, WrOK A W → ks.Nodup → (∀ k ∈ ks, wChg W k = false ∧ kvget W.cur k ≠ none) →
    (wDels W ks).1 = ks.length ∧ (wDels W ks).2.cur.length + ks.length = W.cur.length ∧ (wDels W ks).2.l = W.l ++ ks.map Ch.del ∧ ∀ k, kvget W.cur k = none → kvget (wDels W ks).2.cur k = none
  | [], W, _, _, _ => ⟨rfl, rfl, by simp [wDels], fun k h => h⟩
  | k :: ks, W, hw, hn, h => by
    obtain ⟨h1, h2⟩ := List.nodup_cons.1 hn
    obtain ⟨h3, h4⟩ := h k (by simp)
    have e : wDel1 W k = (1, ⟨done W.cur (.del k), W.l ++ [.del k]⟩) := by rw [wDel1, if_neg (by simp [h3, h4])]
    have hok := wDel1_ok (k := k) ok hk hw
    rw [e] at hok
    have hsrt := hw.srt ok
    have ih := wDels_all ok hk (ks := ks) hok h2 fun q hq => by
      obtain ⟨h5, h6⟩ := h q (List.mem_cons_of_mem _ hq)
      have hne : q ≠ k := fun e => h1 (e ▸ hq)
      refine ⟨?_, ?_⟩
      · show (W.l ++ [Ch.del k]).any _ = false
        rw [List.any_append, show W.l.any (fun c => c.key == q) = false from h5]
        simp [Ch.key]; exact fun e => hne e.symm
      · show kvget (done W.cur (.del k)) q ≠ none
        rw [kvget_done hsrt, if_neg (show ¬ q = (Ch.del k).key from hne)]; exact h6
    have hdl := done_len (c := .del k) hsrt
    simp only [wDels, e]
    obtain ⟨i1, i2, i3, i4⟩ := ih
    refine ⟨by rw [i1, List.length_cons]; omega, ?_, ?_, ?_⟩
    · rw [List.length_cons]
      have h7 : (done W.cur (.del k)).length + 1 = W.cur.length := by
        cases hg : kvget W.cur k with
        | none => exact absurd hg h4
        | some y =>
          have := List.length_pos_of_mem (kvget_some hg).1
          rw [show (Ch.del k).key = k from rfl, hg] at hdl
          rw [hdl]; simp [Ch.kv]; omega
      have : (wDels ⟨done W.cur (.del k), W.l ++ [.del k]⟩ ks).2.cur.length + ks.length = (done W.cur (.del k)).length := i2
      omega
    · rw [i3]; simp
    · intro q hq
      refine i4 q ?_
      show kvget (done W.cur (.del k)) q = none
      rw [kvget_done hsrt]; split
      · rfl
      · exact hq
section
variable {h : Hp} {F : List Asr}
theorem u8w {i : Nat} : IntKind.u8.wrap (i : Int) = ((UInt8.ofNat i).toNat : Int) := by
  rw [UInt8.toNat_ofNat']
  simp only [IntKind.wrap, IntKind.signed, IntKind.bits]
  simp
theorem full8 {a b : Int} (ha : -9223372036854775808 ≤ a ∧ a ≤ 9223372036854775807) (hb : -9223372036854775808 ≤ b ∧ b ≤ 9223372036854775807) :
    Triple Try.prog 3 [.int .i64 a, .int .i64 b] Hp.emp (fun r _ => r = .bool true) := by
  have hs : sat Hp.emp [] := trivial
  refine t3 (Nat.le_of_ble_eq_true rfl) ?_
  simp (disch := omega) only [F3, go_sem, reduceCtorEq, ↓reduceIte, Nat.reduceEqDiff, Nat.reduceAdd, Nat.reduceSub, Nat.reduceMul, Nat.reduceLT, Nat.reduceLeDiff, Int.reduceEq, Int.reduceNe, Int.reduceLT, Int.reduceLE, Int.reduceBEq, Int.reduceBNe, Int.reduceToNat]
  refine call_use (known8 hs) ?_
  rintro r h ⟨hr, hs⟩
  subst hr
  simp (disch := omega) only [go_sem, reduceCtorEq, ↓reduceIte, Nat.reduceEqDiff, Nat.reduceAdd, Nat.reduceSub, Nat.reduceMul, Nat.reduceLT, Nat.reduceLeDiff, Int.reduceEq, Int.reduceNe, Int.reduceLT, Int.reduceLE, Int.reduceBEq, Int.reduceBNe, Int.reduceToNat]
  refine call_use (mvNew hs) ?_
  rintro r h ⟨s, hr, hs⟩
  subst hr
  simp (disch := omega) only [go_sem, reduceCtorEq, ↓reduceIte, Nat.reduceEqDiff, Nat.reduceAdd, Nat.reduceSub, Nat.reduceMul, Nat.reduceLT, Nat.reduceLeDiff, Int.reduceEq, Int.reduceNe, Int.reduceLT, Int.reduceLE, Int.reduceBEq, Int.reduceBNe, Int.reduceToNat]
  refine call_use (within8 hs ha.1 ha.2 (n := 4) (by omega) (by omega)) ?_
  rintro r h ⟨n, hr, hn, hn2, hs⟩
  subst hr
  simp (disch := omega) only [go_sem, reduceCtorEq, ↓reduceIte, Nat.reduceEqDiff, Nat.reduceAdd, Nat.reduceSub, Nat.reduceMul, Nat.reduceLT, Nat.reduceLeDiff, Int.reduceEq, Int.reduceNe, Int.reduceLT, Int.reduceLE, Int.reduceBEq, Int.reduceBNe, Int.reduceToNat]
  refine call_use (mvWrite hs) ?_
  rintro r h ⟨w, hr, hs⟩
  subst hr
  simp (disch := omega) only [go_sem, reduceCtorEq, ↓reduceIte, Nat.reduceEqDiff, Nat.reduceAdd, Nat.reduceSub, Nat.reduceMul, Nat.reduceLT, Nat.reduceLeDiff, Int.reduceEq, Int.reduceNe, Int.reduceLT, Int.reduceLE, Int.reduceBEq, Int.reduceBNe, Int.reduceToNat]
  obtain ⟨m, hm⟩ : ∃ m, m = min (4094 + n) 4096 := ⟨_, rfl⟩
  refine blk_join (Q := fun e h => sat h [WtP w s ⟨0, 0, [], []⟩ (WF m), StP s ⟨0, 0, [], []⟩ (.ptr w 4 0 0)] ∧ (e 0 = .int .i64 n ∧ e 1 = .int .i64 b ∧ e 5 = .ptr s 7 0 0 ∧ e 6 = .ptr w 4 0 0)) ?_ ?_
  · refine run_up (N := 4094 + n) (fun i e h => sat h [WtP w s ⟨0, 0, [], []⟩ (WF (min i 4096)), StP s ⟨0, 0, [], []⟩ (.ptr w 4 0 0)] ∧ (e 0 = .int .i64 n ∧ e 1 = .int .i64 b ∧ e 5 = .ptr s 7 0 0 ∧ e 6 = .ptr w 4 0 0 ∧ e 7 = .int .i64 i))
      ⟨hs, rfl, rfl, rfl, rfl, rfl⟩ ?_
    clear hs
    rintro i e h hi30 ⟨hs, he⟩
    have m1 : (i : Int) + 1 = ((i + 1 : Nat) : Int) := by omega
    simp (disch := omega) only [go_sem, reduceCtorEq, ↓reduceIte, Nat.reduceEqDiff, Nat.reduceAdd, Nat.reduceSub, Nat.reduceMul, Nat.reduceLT, Nat.reduceLeDiff, Int.reduceEq, Int.reduceNe, Int.reduceLT, Int.reduceLE, Int.reduceBEq, Int.reduceBNe, Int.reduceToNat, he, m1]
    refine cnd_dec (fun h1 => ?_) (fun h1 => ?_)
    · have hi : i < 4094 + n := by omega
      have r1 : (i : Int).tdiv 256 = ((i / 256 : Nat) : Int) := by rw [Int.tdiv_eq_ediv_of_nonneg (by omega)]; omega
      have r2 : (i : Int).tmod 256 = ((i % 256 : Nat) : Int) := by rw [Int.tmod_eq_emod_of_nonneg (by omega)]; omega
      simp (disch := omega) only [go_sem, reduceCtorEq, ↓reduceIte, Nat.reduceEqDiff, Nat.reduceAdd, Nat.reduceSub, Nat.reduceMul, Nat.reduceLT, Nat.reduceLeDiff, Int.reduceEq, Int.reduceNe, Int.reduceLT, Int.reduceLE, Int.reduceBEq, Int.reduceBNe, Int.reduceToNat, he, r1, r2, u8w]
      refine new_opq hs fun x h hs => ?_
      have hbs : Bts h (.arr x 1 0 3 3) (kf i) := by
        have := (hs.ow (s := 1) (cap := 3) (es := (kf i).map eb) (by simp [kf])).bts
        simpa [kf] using this
      simp (disch := omega) only [go_sem, reduceCtorEq, ↓reduceIte, Nat.reduceEqDiff, Nat.reduceAdd, Nat.reduceSub, Nat.reduceMul, Nat.reduceLT, Nat.reduceLeDiff, Int.reduceEq, Int.reduceNe, Int.reduceLT, Int.reduceLE, Int.reduceBEq, Int.reduceBNe, Int.reduceToNat, hbs.bstr, he]
      have hput := mvPut (key := kf i) (val := []) (lease := 0) hs.drop (by simp) (by simp [WF, KF_len]; omega) (by simp [WF, KF_len]; omega) (by simp)
      rw [WF_put (n := min i 4096) (m := i) (by omega) (by omega) (by omega) (by omega)] at hput
      refine call_use hput ?_
      rintro r h ⟨hr, hs⟩
      subst hr
      by_cases h4 : i < 4096
      · rw [if_pos (by omega)] at hs ⊢
        have d1 : ((i : Int) < 4096) = True := by simp; omega
        have e1 : min i 4096 + 1 = min (i + 1) 4096 := by omega
        rw [e1] at hs
        simp (disch := omega) only [go_sem, reduceCtorEq, ↓reduceIte, Nat.reduceEqDiff, Nat.reduceAdd, Nat.reduceSub, Nat.reduceMul, Nat.reduceLT, Nat.reduceLeDiff, Int.reduceEq, Int.reduceNe, Int.reduceLT, Int.reduceLE, Int.reduceBEq, Int.reduceBNe, Int.reduceToNat, he, d1, m1]
        exact ⟨by omega, hs⟩
      · rw [if_neg (by omega)] at hs ⊢
        have d1 : ((i : Int) < 4096) = False := by simp; omega
        have e1 : min i 4096 = min (i + 1) 4096 := by omega
        rw [e1] at hs
        simp (disch := omega) only [go_sem, reduceCtorEq, ↓reduceIte, Nat.reduceEqDiff, Nat.reduceAdd, Nat.reduceSub, Nat.reduceMul, Nat.reduceLT, Nat.reduceLeDiff, Int.reduceEq, Int.reduceNe, Int.reduceLT, Int.reduceLE, Int.reduceBEq, Int.reduceBNe, Int.reduceToNat, he, d1, m1]
        exact ⟨by omega, hs⟩
    · have hi : i = 4094 + n := by omega
      subst hi
      rw [← hm] at hs
      simp (disch := omega) only [go_sem, reduceCtorEq, ↓reduceIte, Nat.reduceEqDiff, Nat.reduceAdd, Nat.reduceSub, Nat.reduceMul, Nat.reduceLT, Nat.reduceLeDiff, Int.reduceEq, Int.reduceNe, Int.reduceLT, Int.reduceLE, Int.reduceBEq, Int.reduceBNe, Int.reduceToNat, he]
      exact hs
  clear hs
  rintro e h ⟨hs, he⟩
  have hw0 := WrP.ok hs
  have ok0 := MvP.ok hs.p1
  have hm1 : 4094 ≤ m ∧ m ≤ 4096 := by omega
  simp (disch := omega) only [go_sem, reduceCtorEq, ↓reduceIte, Nat.reduceEqDiff, Nat.reduceAdd, Nat.reduceSub, Nat.reduceMul, Nat.reduceLT, Nat.reduceLeDiff, Int.reduceEq, Int.reduceNe, Int.reduceLT, Int.reduceLE, Int.reduceBEq, Int.reduceBNe, Int.reduceToNat, he]
  refine call_use (mvDone hs (by simp [WF, KF_len]; omega) (by simp)) ?_
  rintro r h ⟨hr, hs⟩
  subst hr
  have ok1 := stDone_ok ok0 hw0
  have hnow : (stDone ⟨0, 0, [], []⟩ (WF m)).now = KF m := stDone_now hw0
  have hl0 : (WF m).l ≠ [] := by
    intro h
    have := congrArg List.length h
    simp [WF, KF_len] at this; omega
  have ed : stDone ⟨0, 0, [], []⟩ (WF m) = ⟨1, 0, [], (KF m).map fun x => ⟨1, .put x⟩⟩ := by
    rw [stDone, if_neg hl0]; simp [WF, Function.comp_def]
  have hrev : (stDone ⟨0, 0, [], []⟩ (WF m)).rev = 1 := by rw [ed]
  have hlen : (stDone ⟨0, 0, [], []⟩ (WF m)).old.length + (stDone ⟨0, 0, [], []⟩ (WF m)).chs.length ≤ 4096 := by
    rw [ed]; simp [KF_len]; omega
  have hvers : ∀ k, (stDone ⟨0, 0, [], []⟩ (WF m)).vers k ≠ [] ↔ ∃ j, j < m ∧ k = kf j := by
    intro k
    rw [ed]
    unfold Sto.vers
    rw [show kvget ([] : List Kv) k = none from rfl]
    simp only [Option.map_none, Option.toList_none, List.nil_append, ne_eq, List.filter_eq_nil_iff]
    constructor
    · intro h
      refine Classical.byContradiction fun hc => h fun v hv => ?_
      obtain ⟨x, hx, rfl⟩ := List.mem_map.1 hv
      obtain ⟨j, hj, rfl⟩ := KF_mem.1 hx
      intro e
      exact hc ⟨j, hj, (eq_of_beq e).symm⟩
    · rintro ⟨j, hj, rfl⟩ h
      exact h _ (List.mem_map_of_mem (KF_mem.2 ⟨j, hj, rfl⟩)) (by simp [Ch.key, kvF])
  clear ed hl0 hw0 ok0
  generalize stDone ⟨0, 0, [], []⟩ (WF m) = A at *
  have e1 : (A.rev != 1) = false := by rw [hrev]; rfl
  simp (disch := omega) only [go_sem, reduceCtorEq, ↓reduceIte, Nat.reduceEqDiff, Nat.reduceAdd, Nat.reduceSub, Nat.reduceMul, Nat.reduceLT, Nat.reduceLeDiff, Int.reduceEq, Int.reduceNe, Int.reduceLT, Int.reduceLE, Int.reduceBEq, Int.reduceBNe, Int.reduceToNat, he, e1]
  refine call_use (mvWrite hs) ?_
  rintro r h ⟨w2, hr, hs⟩
  subst hr
  simp (disch := omega) only [go_sem, reduceCtorEq, ↓reduceIte, Nat.reduceEqDiff, Nat.reduceAdd, Nat.reduceSub, Nat.reduceMul, Nat.reduceLT, Nat.reduceLeDiff, Int.reduceEq, Int.reduceNe, Int.reduceLT, Int.reduceLE, Int.reduceBEq, Int.reduceBNe, Int.reduceToNat, he]
  have hg0 : ∀ j, j < m → kvget (KF m) (kf j) ≠ none := by
    intro j hj h
    exact kvget_none.1 h (kvF j) (KF_mem.2 ⟨j, hj, rfl⟩) rfl
  have hp0 : (wPut (A.rev + 1) ⟨A.now, []⟩ [107, 0, 0] [120] 0).1 = 0 := by
    rw [hnow, wPut, if_neg (by simp), if_neg (by simp), if_neg (by simp [wChg]), if_neg]
    rintro ⟨h, _⟩
    exact hg0 0 (by omega) h
  refine call_use (mvPut (key := [107, 0, 0]) (val := [120]) (lease := 0) hs (by omega) (by simp) (by rw [hnow]; simp [KF_len]; omega) (by omega)) ?_
  rintro r h ⟨hr, hs⟩
  subst hr
  simp (disch := omega) only [go_sem, reduceCtorEq, ↓reduceIte, Nat.reduceEqDiff, Nat.reduceAdd, Nat.reduceSub, Nat.reduceMul, Nat.reduceLT, Nat.reduceLeDiff, Int.reduceEq, Int.reduceNe, Int.reduceLT, Int.reduceLE, Int.reduceBEq, Int.reduceBNe, Int.reduceToNat, hp0, he]
  obtain ⟨x, hxk, hW⟩ : ∃ x : Kv, x.key = kf 0 ∧ (wPut (A.rev + 1) ⟨A.now, []⟩ [107, 0, 0] [120] 0).2 = ⟨done (KF m) (.put x), [.put x]⟩ := by
    rcases wPut_cases (r := A.rev + 1) (W := ⟨A.now, []⟩) (key := [107, 0, 0]) (val := [120]) (lease := 0) with ⟨_, h2⟩ | ⟨h1, _⟩
    · rw [h2, hnow]; exact ⟨_, wNew_key, rfl⟩
    · exact absurd hp0 h1
  rw [hW] at hs
  have hw3 := WrP.ok hs
  have hsrtK : SrtK (KF m) := by rw [← hnow]; exact now_srt ok1
  have hdl := done_len (c := .put x) hsrtK
  have hl3 : (done (KF m) (.put x)).length = m := by
    rw [hdl, show (Ch.put x).key = kf 0 from hxk]
    cases hg : kvget (KF m) (kf 0) with
    | none => exact absurd hg (hg0 0 (by omega))
    | some y => simp [Ch.kv, KF_len]
  have hg3 : ∀ j, j < m → kvget (done (KF m) (.put x)) (kf j) ≠ none := by
    intro j hj
    rw [kvget_done hsrtK]; split
    · simp [Ch.kv]
    · exact hg0 j hj
  have hz3 : ∀ j : Nat, kvget (done (KF m) (.put x)) [122, UInt8.ofNat j] = none := by
    intro j
    rw [kvget_done hsrtK, if_neg (by rw [show (Ch.put x).key = kf 0 from hxk]; simp [kf])]
    refine kvget_none.2 fun y hy => ?_
    obtain ⟨i, _, rfl⟩ := KF_mem.1 hy
    simp [kvF, kf]
  refine call_use (within8 hs hb.1 hb.2 (n := 5) (by omega) (by omega)) ?_
  rintro r h ⟨g, hr, hg, hg2, hs⟩
  subst hr
  simp (disch := omega) only [go_sem, reduceCtorEq, ↓reduceIte, Nat.reduceEqDiff, Nat.reduceAdd, Nat.reduceSub, Nat.reduceMul, Nat.reduceLT, Nat.reduceLeDiff, Int.reduceEq, Int.reduceNe, Int.reduceLT, Int.reduceLE, Int.reduceBEq, Int.reduceBNe, Int.reduceToNat, he, u8w]
  refine new_opq hs fun q h hs => ?_
  have hbs : Bts h (.arr q 1 0 3 3) [107, 1, UInt8.ofNat g] := by
    have := (hs.ow (s := 1) (cap := 3) (es := ([107, 1, UInt8.ofNat g] : List UInt8).map eb) (by simp)).bts
    simpa using this
  have hbstr := hbs.bstr
  simp (disch := omega) only [go_sem, reduceCtorEq, ↓reduceIte, Nat.reduceEqDiff, Nat.reduceAdd, Nat.reduceSub, Nat.reduceMul, Nat.reduceLT, Nat.reduceLeDiff, Int.reduceEq, Int.reduceNe, Int.reduceLT, Int.reduceLE, Int.reduceBEq, Int.reduceBNe, Int.reduceToNat, hbstr, he]
  have k256 : kf 256 = [107, 1, 0] := rfl
  have kg : kf (256 + g) = [107, 1, UInt8.ofNat g] := by
    unfold kf
    rw [show (256 + g) / 256 = 1 by omega, show (256 + g) % 256 = g by omega]; rfl
  refine call_use (mvDel (lo := [107, 1, 0]) (hi := [107, 1, UInt8.ofNat g]) hs.drop (by simp; omega)) ?_
  rintro r h ⟨ks, hk, hr, hs⟩
  subst hr
  have hk3 := hk.2.2
  rw [if_neg (by simp), ← k256, ← kg] at hk3
  have hks : ks = (List.range g).map fun j => kf (256 + j) := by
    refine srts_ext hk.1 ?_ fun y => ?_
    · unfold SrtS
      rw [List.pairwise_map]
      refine (List.pairwise_lt_range (n := g)).imp_of_mem ?_
      intro a b ha hb h
      have := List.mem_range.1 ha
      have := List.mem_range.1 hb
      rw [kf_lt (by omega) (by omega)]; simpa using h
    · rw [hk3, hvers]
      have hin : ∀ j, j < 65536 → (inR (kf 256) (kf (256 + g)) (kf j) = true ↔ 256 ≤ j ∧ j < 256 + g) := by
        intro j hj
        unfold inR
        rw [kf_lt hj (by omega), kf_lt hj (by omega)]
        have : (kf (256 + g) == []) = false := rfl
        rw [this]
        simp
      constructor
      · rintro ⟨h1, h2⟩
        obtain ⟨j, hj, rfl⟩ : ∃ j, j < m ∧ y = kf j := by
          rcases h1 with h1 | h1
          · exact h1
          · obtain ⟨c, hc, rfl⟩ := wChg_t h1
            simp at hc; subst hc
            exact ⟨0, by omega, hxk⟩
        have := (hin j (by omega)).1 h2
        exact List.mem_map.2 ⟨j - 256, List.mem_range.2 (by omega), by rw [show 256 + (j - 256) = j by omega]⟩
      · intro h
        obtain ⟨j, hj, rfl⟩ := List.mem_map.1 h
        have := List.mem_range.1 hj
        exact ⟨.inl ⟨256 + j, by omega, rfl⟩, (hin _ (by omega)).2 ⟨by omega, by omega⟩⟩
  have hksl : ks.length = g := by rw [hks]; simp
  have hsrtN : ∀ y ∈ A.now, y.key ≠ [] ∧ y.key.length ≤ 100 := now_keys ok1
  obtain ⟨d1, d2, d3, d4⟩ := wDels_all ok1 hsrtN (ks := ks) hw3 (SrtS.nodup hk.1) fun k hkm => by
    rw [hks] at hkm
    obtain ⟨j, hj, rfl⟩ := List.mem_map.1 hkm
    have := List.mem_range.1 hj
    refine ⟨?_, hg3 _ (by omega)⟩
    simp only [wChg, List.any_cons, List.any_nil, Bool.or_false]
    rw [show (Ch.put x).key = kf 0 from hxk, beq_eq_false_iff_ne]
    intro e
    have := kf_inj (i := 0) (j := 256 + j) (by omega) (by omega) e
    omega
  have hwz : ∀ j : Nat, wChg (wDels ⟨done (KF m) (.put x), [.put x]⟩ ks).2 [122, UInt8.ofNat j] = false := by
    intro j
    rw [wChg, d3, List.any_append]
    simp only [List.any_cons, List.any_nil, Bool.or_false, Bool.or_eq_false_iff]
    refine ⟨?_, ?_⟩
    · rw [show (Ch.put x).key = kf 0 from hxk]; rfl
    · rw [List.any_map, List.any_eq_false]
      intro y hy e
      rw [hks] at hy
      obtain ⟨i, _, rfl⟩ := List.mem_map.1 hy
      have := eq_of_beq e
      simp [Ch.key, kf] at this
  have hll : (wDels ⟨done (KF m) (.put x), [.put x]⟩ ks).2.l.length ≤ 5 := by rw [d3]; simp [hksl]; omega
  have hln : (wDels ⟨done (KF m) (.put x), [.put x]⟩ ks).2.l ≠ [] := by rw [d3]; simp
  rw [hksl] at d1 d2
  rw [hl3] at d2
  have hz4 : ∀ j : Nat, kvget (wDels ⟨done (KF m) (.put x), [.put x]⟩ ks).2.cur [122, UInt8.ofNat j] = none := fun j => d4 _ (hz3 j)
  rw [d1]
  generalize (wDels ⟨done (KF m) (.put x), [.put x]⟩ ks).2 = W4 at hs d2 hwz hll hln hz4
  clear hk hk3 hks hbs hbstr d1 d3 d4
  simp (disch := omega) only [go_sem, reduceCtorEq, ↓reduceIte, Nat.reduceEqDiff, Nat.reduceAdd, Nat.reduceSub, Nat.reduceMul, Nat.reduceLT, Nat.reduceLeDiff, Int.reduceEq, Int.reduceNe, Int.reduceLT, Int.reduceLE, Int.reduceBEq, Int.reduceBNe, Int.reduceToNat, he]
  refine cnd_join (Q := fun e h => sat h [WtP w2 s A W4, StP s A (.ptr w2 4 0 0)] ∧ (e 0 = .int .i64 n ∧ e 6 = .ptr w2 4 0 0 ∧ e 10 = .int .i64 g)) ?_ ?_
  · by_cases g0 : g = 0
    · have c1 : ((g : Int) == 0) = true := by simp; omega
      simp (disch := omega) only [go_sem, reduceCtorEq, ↓reduceIte, Nat.reduceEqDiff, Nat.reduceAdd, Nat.reduceSub, Nat.reduceMul, Nat.reduceLT, Nat.reduceLeDiff, Int.reduceEq, Int.reduceNe, Int.reduceLT, Int.reduceLE, Int.reduceBEq, Int.reduceBNe, Int.reduceToNat, c1, he]
      exact ⟨hs, by rw [g0]; rfl⟩
    · have c1 : ((g : Int) == 0) = false := by simp; omega
      simp (disch := omega) only [go_sem, reduceCtorEq, ↓reduceIte, Nat.reduceEqDiff, Nat.reduceAdd, Nat.reduceSub, Nat.reduceMul, Nat.reduceLT, Nat.reduceLeDiff, Int.reduceEq, Int.reduceNe, Int.reduceLT, Int.reduceLE, Int.reduceBEq, Int.reduceBNe, Int.reduceToNat, c1, he]
      exact hs
  clear hs he
  rintro e h ⟨hs, he⟩
  simp (disch := omega) only [go_sem, reduceCtorEq, ↓reduceIte, Nat.reduceEqDiff, Nat.reduceAdd, Nat.reduceSub, Nat.reduceMul, Nat.reduceLT, Nat.reduceLeDiff, Int.reduceEq, Int.reduceNe, Int.reduceLT, Int.reduceLE, Int.reduceBEq, Int.reduceBNe, Int.reduceToNat, he]
  refine blk_join (Q := fun e h => ∃ W, sat h [WtP w2 s A W, StP s A (.ptr w2 4 0 0)] ∧ W.l ≠ [] ∧ W.l.length ≤ 10 ∧ (e 6 = .ptr w2 4 0 0)) ?_ ?_
  · refine run_up (N := 5) (fun i e h => ∃ W, sat h [WtP w2 s A W, StP s A (.ptr w2 4 0 0)] ∧ W.l ≠ [] ∧ W.l.length ≤ 5 + i ∧ W.cur.length = min (m - g + i) 4096 ∧ (∀ j, i ≤ j → j < 5 → wChg W [122, UInt8.ofNat j] = false ∧ kvget W.cur [122, UInt8.ofNat j] = none) ∧
      (e 0 = .int .i64 n ∧ e 6 = .ptr w2 4 0 0 ∧ e 10 = .int .i64 g ∧ e 11 = .int .i64 i)) ⟨W4, hs, hln, by omega, by omega, fun j _ _ => ⟨hwz j, hz4 j⟩, ?_⟩ ?_
    · simp [Env.upd_apply, he]
    clear hs he
    rintro i e h hi5 ⟨W, hs, hWn, hWl, hWc, hWz, he⟩
    have m1 : (i : Int) + 1 = ((i + 1 : Nat) : Int) := by omega
    simp (disch := omega) only [go_sem, reduceCtorEq, ↓reduceIte, Nat.reduceEqDiff, Nat.reduceAdd, Nat.reduceSub, Nat.reduceMul, Nat.reduceLT, Nat.reduceLeDiff, Int.reduceEq, Int.reduceNe, Int.reduceLT, Int.reduceLE, Int.reduceBEq, Int.reduceBNe, Int.reduceToNat, he, m1]
    refine cnd_dec (fun h1 => ?_) (fun h1 => ?_)
    · have hi : i < 5 := by omega
      simp (disch := omega) only [go_sem, reduceCtorEq, ↓reduceIte, Nat.reduceEqDiff, Nat.reduceAdd, Nat.reduceSub, Nat.reduceMul, Nat.reduceLT, Nat.reduceLeDiff, Int.reduceEq, Int.reduceNe, Int.reduceLT, Int.reduceLE, Int.reduceBEq, Int.reduceBNe, Int.reduceToNat, he, u8w]
      refine new_opq hs fun q h hs => ?_
      have hbs : Bts h (.arr q 1 0 2 2) [122, UInt8.ofNat i] := by
        have := (hs.ow (s := 1) (cap := 2) (es := ([122, UInt8.ofNat i] : List UInt8).map eb) (by simp)).bts
        simpa using this
      have hbstr := hbs.bstr
      simp (disch := omega) only [go_sem, reduceCtorEq, ↓reduceIte, Nat.reduceEqDiff, Nat.reduceAdd, Nat.reduceSub, Nat.reduceMul, Nat.reduceLT, Nat.reduceLeDiff, Int.reduceEq, Int.reduceNe, Int.reduceLT, Int.reduceLE, Int.reduceBEq, Int.reduceBNe, Int.reduceToNat, hbstr, he]
      have hw := WrP.ok hs.p1
      have hsrt := hw.srt ok1
      obtain ⟨z1, z2⟩ := hWz i (Nat.le_refl _) hi
      have em : (if (4096 : Int) < 4094 + n then (4096 : Int) else 4094 + n) = (m : Int) := by split <;> omega
      have hput := mvPut (key := [122, UInt8.ofNat i]) (val := []) (lease := 0) hs.drop (by omega) (by omega) (by omega) (by omega)
      by_cases h4 : W.cur.length < 4096
      · obtain ⟨y, hy⟩ : ∃ y, wNew (A.rev + 1) W [122, UInt8.ofNat i] [] 0 = y := ⟨_, rfl⟩
        have hyk : y.key = [122, UInt8.ofNat i] := by rw [← hy]; exact wNew_key
        have ep : wPut (A.rev + 1) W [122, UInt8.ofNat i] [] 0 = (0, ⟨done W.cur (.put y), W.l ++ [.put y]⟩) := by
          rw [wPut, if_neg (by simp), if_neg (by simp), if_neg (by simp [z1]), if_neg (by rintro ⟨_, h⟩; omega), hy]
        rw [ep] at hput
        refine call_use hput ?_
        rintro r h ⟨hr, hs⟩
        subst hr
        have c1 : ((m : Int) - g + i < 4096) = True := by simp; omega
        have hdl := done_len (c := .put y) hsrt
        rw [show (Ch.put y).key = [122, UInt8.ofNat i] from hyk, z2] at hdl
        simp (disch := omega) only [go_sem, reduceCtorEq, ↓reduceIte, Nat.reduceEqDiff, Nat.reduceAdd, Nat.reduceSub, Nat.reduceMul, Nat.reduceLT, Nat.reduceLeDiff, Int.reduceEq, Int.reduceNe, Int.reduceLT, Int.reduceLE, Int.reduceBEq, Int.reduceBNe, Int.reduceToNat, he, em, c1, m1]
        refine ⟨by omega, ⟨done W.cur (.put y), W.l ++ [.put y]⟩, hs, by simp, by simp; omega, ?_, ?_⟩
        · show (done W.cur (.put y)).length = _
          rw [hdl]; simp [Ch.kv]; omega
        · intro j hj hj5
          obtain ⟨z3, z4⟩ := hWz j (by omega) hj5
          have hne : ([122, UInt8.ofNat j] : Key) ≠ [122, UInt8.ofNat i] := by
            intro e
            simp only [List.cons.injEq, and_true, true_and] at e
            have := (u8_eq (a := j) (b := i) (by omega) (by omega)).1 e
            omega
          refine ⟨?_, ?_⟩
          · show (W.l ++ [Ch.put y]).any _ = false
            rw [List.any_append, show W.l.any (fun c => c.key == ([122, UInt8.ofNat j] : Key)) = false from z3]
            simp only [List.any_cons, List.any_nil, Bool.or_false, Bool.false_or]
            rw [show (Ch.put y).key = [122, UInt8.ofNat i] from hyk, beq_eq_false_iff_ne]
            exact fun e => hne e.symm
          · show kvget (done W.cur (.put y)) _ = none
            rw [kvget_done hsrt, if_neg (by rw [show (Ch.put y).key = [122, UInt8.ofNat i] from hyk]; exact hne)]
            exact z4
      · have ep : wPut (A.rev + 1) W [122, UInt8.ofNat i] [] 0 = (14, W) := by
          rw [wPut, if_neg (by simp), if_neg (by simp), if_neg (by simp [z1]), if_pos ⟨z2, by omega⟩]
        rw [ep] at hput
        refine call_use hput ?_
        rintro r h ⟨hr, hs⟩
        subst hr
        have c1 : ((m : Int) - g + i < 4096) = False := by simp; omega
        simp (disch := omega) only [go_sem, reduceCtorEq, ↓reduceIte, Nat.reduceEqDiff, Nat.reduceAdd, Nat.reduceSub, Nat.reduceMul, Nat.reduceLT, Nat.reduceLeDiff, Int.reduceEq, Int.reduceNe, Int.reduceLT, Int.reduceLE, Int.reduceBEq, Int.reduceBNe, Int.reduceToNat, he, em, c1, m1]
        exact ⟨by omega, W, hs, hWn, by omega, by omega, fun j hj hj5 => hWz j (by omega) hj5⟩
    · have hi : i = 5 := by omega
      subst hi
      simp (disch := omega) only [go_sem, reduceCtorEq, ↓reduceIte, Nat.reduceEqDiff, Nat.reduceAdd, Nat.reduceSub, Nat.reduceMul, Nat.reduceLT, Nat.reduceLeDiff, Int.reduceEq, Int.reduceNe, Int.reduceLT, Int.reduceLE, Int.reduceBEq, Int.reduceBNe, Int.reduceToNat, he]
      exact ⟨W, hs, hWn, hWl⟩
  clear hs he
  rintro e h ⟨W, hs, hWn, hWl, he⟩
  simp (disch := omega) only [go_sem, reduceCtorEq, ↓reduceIte, Nat.reduceEqDiff, Nat.reduceAdd, Nat.reduceSub, Nat.reduceMul, Nat.reduceLT, Nat.reduceLeDiff, Int.reduceEq, Int.reduceNe, Int.reduceLT, Int.reduceLE, Int.reduceBEq, Int.reduceBNe, Int.reduceToNat, he]
  refine call_use (mvDone hs (by omega) (by omega)) ?_
  rintro r h ⟨hr, hs⟩
  subst hr
  have e2 : ((stDone A W).rev == 2) = true := by rw [stDone, if_neg hWn]; show (A.rev + 1 == 2) = true; rw [hrev]; rfl
  simp (disch := omega) only [go_sem, reduceCtorEq, ↓reduceIte, Nat.reduceEqDiff, Nat.reduceAdd, Nat.reduceSub, Nat.reduceMul, Nat.reduceLT, Nat.reduceLeDiff, Int.reduceEq, Int.reduceNe, Int.reduceLT, Int.reduceLE, Int.reduceBEq, Int.reduceBNe, Int.reduceToNat, e2]
theorem mvccFull_law (vs : List AV) (h : Ty.ones [.int .i64, .int .i64] vs) : Triple Try.prog 3 vs Hp.emp (fun r _ => r = .bool true) := by
  obtain ⟨a, _, rfl, ha, h⟩ := ones_cons h
  obtain ⟨b, _, rfl, hb, h⟩ := ones_cons h
  obtain rfl := ones_nil h
  obtain ⟨n, rfl, h1, h2⟩ := int_of ha
  obtain ⟨m, rfl, h3, h4⟩ := int_of hb
  exact full8 ⟨h1, h2⟩ ⟨h3, h4⟩
end
end Go.Proofs.Ytkclojjeepomfaa
