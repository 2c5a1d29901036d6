/- net: the document's writer of messages. -/
import Derived.Test.YtfbflmiipepmiaaR2NetC
set_option linter.unusedSimpArgs false
set_option linter.unusedVariables false
set_option maxRecDepth 10000
namespace Go.Proofs.Ytfbflmiipepmiaa
open Go.Hz

section
variable {h : Hp} {F : List Asr}

theorem flag (hs : sat h F) (b : Bool) : Triple Try.prog 46 [.bool b] h (fun r h => r = .int .i64 (flagN b) ∧ sat h F) := by
  refine t46 (Nat.le_of_ble_eq_true rfl) ?_
  simp (disch := omega) only [F46, go_sem, reduceCtorEq, ↓reduceIte, Nat.reduceEqDiff, Nat.reduceAdd, Nat.reduceSub, Nat.reduceMul, Nat.reduceLT, Nat.reduceLeDiff, Int.reduceEq, Int.reduceNe, Int.reduceLT, Int.reduceLE, Int.reduceBEq, Int.reduceBNe, Int.reduceToNat]
  cases b
  · simp (disch := omega) only [go_sem, reduceCtorEq, ↓reduceIte, Nat.reduceEqDiff, Nat.reduceAdd, Nat.reduceSub, Nat.reduceMul, Nat.reduceLT, Nat.reduceLeDiff, Int.reduceEq, Int.reduceNe, Int.reduceLT, Int.reduceLE, Int.reduceBEq, Int.reduceBNe, Int.reduceToNat]
    exact ⟨rfl, hs⟩
  · simp (disch := omega) only [go_sem, reduceCtorEq, ↓reduceIte, Nat.reduceEqDiff, Nat.reduceAdd, Nat.reduceSub, Nat.reduceMul, Nat.reduceLT, Nat.reduceLeDiff, Int.reduceEq, Int.reduceNe, Int.reduceLT, Int.reduceLE, Int.reduceBEq, Int.reduceBNe, Int.reduceToNat]
    exact ⟨rfl, hs⟩

theorem xMetaW {v : AV} {bs : List UInt8} (hs : sat h (Ow 1 v (bs.map eb) :: F)) (i t : Int) (l : List Int) (hl : bs.length + 8 * l.length ≤ 100000000000) :
    Triple Try.prog 47 [v, .agg (metaC i t l)] h (fun r h => sat h (Ow 1 r ((bs ++ beB 8 i ++ beB 8 t ++ beB 1 l.length ++ l.flatMap (beB 8)).map eb) :: F)) := by
  refine t47 (Nat.le_of_ble_eq_true rfl) ?_
  simp (disch := omega) only [F47, metaC, go_sem, reduceCtorEq, ↓reduceIte, Nat.reduceEqDiff, Nat.reduceAdd, Nat.reduceSub, Nat.reduceMul, Nat.reduceLT, Nat.reduceLeDiff, Int.reduceEq, Int.reduceNe, Int.reduceLT, Int.reduceLE, Int.reduceBEq, Int.reduceBNe, Int.reduceToNat]
  refine new_opq hs fun n h hs => ?_
  simp (disch := omega) only [go_sem, reduceCtorEq, ↓reduceIte, Nat.reduceEqDiff, Nat.reduceAdd, Nat.reduceSub, Nat.reduceMul, Nat.reduceLT, Nat.reduceLeDiff, Int.reduceEq, Int.reduceNe, Int.reduceLT, Int.reduceLE, Int.reduceBEq, Int.reduceBNe, Int.reduceToNat, hs.at]
  refine call_use' (xInt hs.p1 i (by omega)) ?_
  intro r h hs
  simp (disch := omega) only [go_sem, reduceCtorEq, ↓reduceIte, Nat.reduceEqDiff, Nat.reduceAdd, Nat.reduceSub, Nat.reduceMul, Nat.reduceLT, Nat.reduceLeDiff, Int.reduceEq, Int.reduceNe, Int.reduceLT, Int.reduceLE, Int.reduceBEq, Int.reduceBNe, Int.reduceToNat, hs.p1.at]
  refine call_use' (xInt hs t (by simp only [List.length_append, beB_length, txB_length, List.length_nil]; omega)) ?_
  intro r h hs
  simp (disch := omega) only [go_sem, reduceCtorEq, ↓reduceIte, Nat.reduceEqDiff, Nat.reduceAdd, Nat.reduceSub, Nat.reduceMul, Nat.reduceLT, Nat.reduceLeDiff, Int.reduceEq, Int.reduceNe, Int.reduceLT, Int.reduceLE, Int.reduceBEq, Int.reduceBNe, Int.reduceToNat, hs.p1.at]
  refine call_use (xU8 hs l.length (by simp only [List.length_append, beB_length, txB_length, List.length_nil]; omega)) ?_
  intro r h hs
  simp (disch := omega) only [go_sem, reduceCtorEq, ↓reduceIte, Nat.reduceEqDiff, Nat.reduceAdd, Nat.reduceSub, Nat.reduceMul, Nat.reduceLT, Nat.reduceLeDiff, Int.reduceEq, Int.reduceNe, Int.reduceLT, Int.reduceLE, Int.reduceBEq, Int.reduceBNe, Int.reduceToNat]
  generalize hpre : bs ++ beB 8 i ++ beB 8 t ++ beB 1 l.length = pre at hs ⊢
  have hpl : pre.length = bs.length + 17 := by rw [← hpre]; simp only [List.length_append, beB_length]
  refine run_up (N := l.length) (fun i e h => sat h (Ow 1 (e 0) ((pre ++ (l.take i).flatMap (beB 8)).map eb) :: pto n (.row 3 [[.int .i64 _, .int .i64 t, intsV l]] 1) :: F) ∧ (e 3 = .ptr n 3 0 0 ∧ e 5 = .int .i64 i)) ⟨by simpa [Env.upd_apply] using hs, rfl, rfl⟩ ?_
  rintro j e h hj ⟨hs, he⟩
  generalize hv : e 0 = v at hs
  simp (disch := omega) only [go_sem, reduceCtorEq, ↓reduceIte, Nat.reduceEqDiff, Nat.reduceAdd, Nat.reduceSub, Nat.reduceMul, Nat.reduceLT, Nat.reduceLeDiff, Int.reduceEq, Int.reduceNe, Int.reduceLT, Int.reduceLE, Int.reduceBEq, Int.reduceBNe, Int.reduceToNat, he, hs.p1.at, hv]
  refine cnd_dec (fun hc => ?_) (fun hc => ?_)
  · have hj' : j < l.length := by omega
    have hle : ((l.take j).flatMap (beB 8)).length = 8 * j := by
      rw [flat8, List.length_take]
      omega
    simp (disch := omega) only [go_sem, reduceCtorEq, ↓reduceIte, Nat.reduceEqDiff, Nat.reduceAdd, Nat.reduceSub, Nat.reduceMul, Nat.reduceLT, Nat.reduceLeDiff, Int.reduceEq, Int.reduceNe, Int.reduceLT, Int.reduceLE, Int.reduceBEq, Int.reduceBNe, Int.reduceToNat, he, hs.p1.at, hv, intsV_at hj']
    refine call_use (xInt hs _ (by simp only [List.length_append]; omega)) ?_
    intro r h hs
    simp (disch := omega) only [go_sem, reduceCtorEq, ↓reduceIte, Nat.reduceEqDiff, Nat.reduceAdd, Nat.reduceSub, Nat.reduceMul, Nat.reduceLT, Nat.reduceLeDiff, Int.reduceEq, Int.reduceNe, Int.reduceLT, Int.reduceLE, Int.reduceBEq, Int.reduceBNe, Int.reduceToNat, he]
    refine ⟨by omega, ?_, rfl⟩
    rw [flatMap_succ hj', ← List.append_assoc]
    exact hs
  · have : j = l.length := by omega
    subst this
    rw [List.take_length] at hs
    simp (disch := omega) only [go_sem, reduceCtorEq, ↓reduceIte, Nat.reduceEqDiff, Nat.reduceAdd, Nat.reduceSub, Nat.reduceMul, Nat.reduceLT, Nat.reduceLeDiff, Int.reduceEq, Int.reduceNe, Int.reduceLT, Int.reduceLE, Int.reduceBEq, Int.reduceBNe, Int.reduceToNat, he, hv]
    exact hs.d1

theorem xEncodeO (hs : sat h F) {m : Ms} (hr : m.room) (hB : m.B.length ≤ 1000000000) :
    Triple Try.prog 15 [.agg m.cells] h (fun r h => ∃ v, r = .tup [v, .int .i64 m.e] ∧ sat h (Ow 1 v (m.enc.map eb) :: F)) := by
  obtain ⟨hr1, hr2⟩ := hr
  have fin : ∀ (x : AV) (k : Int) (h : Hp) (G : List Asr), m.e = k → sat h (Ow 1 x (m.enc.map eb) :: F) →
      ∃ v, AV.tup [x, .int .i64 k] = .tup [v, .int .i64 m.e] ∧ sat h (Ow 1 v (m.enc.map eb) :: F) := by
    intro x k h G hk hs
    subst hk
    exact ⟨x, rfl, hs⟩
  have err : ∀ (k : Int) (h : Hp), m.e = k → k ≠ 0 → sat h F →
      ∃ v, AV.tup [.nils, .int .i64 k] = .tup [v, .int .i64 m.e] ∧ sat h (Ow 1 v (m.enc.map eb) :: F) := by
    intro k h hk h0 hs
    refine fin .nils k h [] hk ?_
    have : m.enc = [] := by unfold Ms.enc; rw [hk, if_neg h0]
    rw [this]
    exact hs.add ow_nil
  refine t15 (Nat.le_of_ble_eq_true rfl) ?_
  simp (disch := omega) only [F15, Ms.cells, go_sem, reduceCtorEq, ↓reduceIte, Nat.reduceEqDiff, Nat.reduceAdd, Nat.reduceSub, Nat.reduceMul, Nat.reduceLT, Nat.reduceLeDiff, Int.reduceEq, Int.reduceNe, Int.reduceLT, Int.reduceLE, Int.reduceBEq, Int.reduceBNe, Int.reduceToNat]
  refine new_opq hs fun n h hs => ?_
  simp (disch := omega) only [go_sem, reduceCtorEq, ↓reduceIte, Nat.reduceEqDiff, Nat.reduceAdd, Nat.reduceSub, Nat.reduceMul, Nat.reduceLT, Nat.reduceLeDiff, Int.reduceEq, Int.reduceNe, Int.reduceLT, Int.reduceLE, Int.reduceBEq, Int.reduceBNe, Int.reduceToNat, hs.at]
  refine cnd_dec (fun c1 => ?_) (fun c1 => ?_)
  · simp (disch := omega) only [go_sem, reduceCtorEq, ↓reduceIte, Nat.reduceEqDiff, Nat.reduceAdd, Nat.reduceSub, Nat.reduceMul, Nat.reduceLT, Nat.reduceLeDiff, Int.reduceEq, Int.reduceNe, Int.reduceLT, Int.reduceLE, Int.reduceBEq, Int.reduceBNe, Int.reduceToNat, hs.at, c1]
    exact err 3 _ (by unfold Ms.e; rw [if_pos (by omega)]) (by omega) hs.drop
  simp (disch := omega) only [go_sem, reduceCtorEq, ↓reduceIte, Nat.reduceEqDiff, Nat.reduceAdd, Nat.reduceSub, Nat.reduceMul, Nat.reduceLT, Nat.reduceLeDiff, Int.reduceEq, Int.reduceNe, Int.reduceLT, Int.reduceLE, Int.reduceBEq, Int.reduceBNe, Int.reduceToNat, hs.at, c1]
  refine cnd_dec (fun c2 => ?_) (fun c2 => ?_)
  · simp (disch := omega) only [go_sem, reduceCtorEq, ↓reduceIte, Nat.reduceEqDiff, Nat.reduceAdd, Nat.reduceSub, Nat.reduceMul, Nat.reduceLT, Nat.reduceLeDiff, Int.reduceEq, Int.reduceNe, Int.reduceLT, Int.reduceLE, Int.reduceBEq, Int.reduceBNe, Int.reduceToNat, hs.at, c1, c2]
    exact err 3 _ (by unfold Ms.e; rw [if_pos (by omega)]) (by omega) hs.drop
  have k1 : ¬ (m.kind < 1 ∨ 5 < m.kind) := by omega
  simp (disch := omega) only [go_sem, reduceCtorEq, ↓reduceIte, Nat.reduceEqDiff, Nat.reduceAdd, Nat.reduceSub, Nat.reduceMul, Nat.reduceLT, Nat.reduceLeDiff, Int.reduceEq, Int.reduceNe, Int.reduceLT, Int.reduceLE, Int.reduceBEq, Int.reduceBNe, Int.reduceToNat, hs.at, c1, c2]
  refine cnd_dec (fun c3 => ?_) (fun c3 => ?_)
  · simp (disch := omega) only [go_sem, reduceCtorEq, ↓reduceIte, Nat.reduceEqDiff, Nat.reduceAdd, Nat.reduceSub, Nat.reduceMul, Nat.reduceLT, Nat.reduceLeDiff, Int.reduceEq, Int.reduceNe, Int.reduceLT, Int.reduceLE, Int.reduceBEq, Int.reduceBNe, Int.reduceToNat, hs.at, c3]
    exact err 4 _ (by unfold Ms.e; rw [if_neg k1, if_pos (by omega)]) (by omega) hs.drop
  simp (disch := omega) only [go_sem, reduceCtorEq, ↓reduceIte, Nat.reduceEqDiff, Nat.reduceAdd, Nat.reduceSub, Nat.reduceMul, Nat.reduceLT, Nat.reduceLeDiff, Int.reduceEq, Int.reduceNe, Int.reduceLT, Int.reduceLE, Int.reduceBEq, Int.reduceBNe, Int.reduceToNat, hs.at, c3]
  refine cnd_dec (fun c4 => ?_) (fun c4 => ?_)
  · simp (disch := omega) only [go_sem, reduceCtorEq, ↓reduceIte, Nat.reduceEqDiff, Nat.reduceAdd, Nat.reduceSub, Nat.reduceMul, Nat.reduceLT, Nat.reduceLeDiff, Int.reduceEq, Int.reduceNe, Int.reduceLT, Int.reduceLE, Int.reduceBEq, Int.reduceBNe, Int.reduceToNat, hs.at, c3, c4]
    exact err 4 _ (by unfold Ms.e; rw [if_neg k1, if_pos (by omega)]) (by omega) hs.drop
  have k2 : ¬ (255 < m.es.length ∨ 255 < m.vs.length) := by omega
  simp (disch := omega) only [go_sem, reduceCtorEq, ↓reduceIte, Nat.reduceEqDiff, Nat.reduceAdd, Nat.reduceSub, Nat.reduceMul, Nat.reduceLT, Nat.reduceLeDiff, Int.reduceEq, Int.reduceNe, Int.reduceLT, Int.reduceLE, Int.reduceBEq, Int.reduceBNe, Int.reduceToNat, hs.at, c3, c4]
  refine call_use (xU8 (bs := []) (hs.add ow_nil) m.kind (by simp)) ?_
  intro r h hs
  simp (disch := omega) only [go_sem, reduceCtorEq, ↓reduceIte, Nat.reduceEqDiff, Nat.reduceAdd, Nat.reduceSub, Nat.reduceMul, Nat.reduceLT, Nat.reduceLeDiff, Int.reduceEq, Int.reduceNe, Int.reduceLT, Int.reduceLE, Int.reduceBEq, Int.reduceBNe, Int.reduceToNat, hs.p1.at]
  refine new_opq hs fun b h hs => ?_
  simp (disch := omega) only [go_sem, reduceCtorEq, ↓reduceIte, Nat.reduceEqDiff, Nat.reduceAdd, Nat.reduceSub, Nat.reduceMul, Nat.reduceLT, Nat.reduceLeDiff, Int.reduceEq, Int.reduceNe, Int.reduceLT, Int.reduceLE, Int.reduceBEq, Int.reduceBNe, Int.reduceToNat, hs.at]
  have hfive : sat h (pto b (.row 1 (five m.frm m.to m.term m.index m.lterm) 5) :: Ow 1 r (([] ++ beB 1 m.kind).map eb) :: pto n (.row 15 [m.cells] 1) :: F) := hs
  have l5 : m.five.length = 5 := rfl
  refine run_up (N := 5) (fun i e h => sat h (Ow 1 (e 4) ((beB 1 m.kind ++ (m.five.take i).flatMap (beB 8)).map eb) :: pto b (.row 1 (five m.frm m.to m.term m.index m.lterm) 5) :: pto n (.row 15 [m.cells] 1) :: F) ∧
    (beB 1 m.kind ++ (m.five.take i).flatMap (beB 8)).length = 1 + 8 * i ∧
    (e 1 = .ptr n 15 0 0 ∧ e 5 = .arr b 1 0 5 5 ∧ e 6 = .int .i64 i)) ⟨by simpa [Env.upd_apply] using hfive.p1, by simp [beB_length], rfl, rfl, rfl⟩ ?_
  rintro i e h hi ⟨hs, hln, he⟩
  generalize hv : e 4 = v at hs
  simp (disch := omega) only [go_sem, reduceCtorEq, ↓reduceIte, Nat.reduceEqDiff, Nat.reduceAdd, Nat.reduceSub, Nat.reduceMul, Nat.reduceLT, Nat.reduceLeDiff, Int.reduceEq, Int.reduceNe, Int.reduceLT, Int.reduceLE, Int.reduceBEq, Int.reduceBNe, Int.reduceToNat, he]
  refine cnd_dec (fun hc => ?_) (fun hc => ?_)
  · have hi' : i < 5 := by omega
    simp (disch := omega) only [go_sem, reduceCtorEq, ↓reduceIte, Nat.reduceEqDiff, Nat.reduceAdd, Nat.reduceSub, Nat.reduceMul, Nat.reduceLT, Nat.reduceLeDiff, Int.reduceEq, Int.reduceNe, Int.reduceLT, Int.reduceLE, Int.reduceBEq, Int.reduceBNe, Int.reduceToNat, he, hv, hs.p1.at, five_at m hi', Int.toNat_natCast]
    refine call_use (xInt hs _ (by omega)) ?_
    intro r h hs
    simp (disch := omega) only [go_sem, reduceCtorEq, ↓reduceIte, Nat.reduceEqDiff, Nat.reduceAdd, Nat.reduceSub, Nat.reduceMul, Nat.reduceLT, Nat.reduceLeDiff, Int.reduceEq, Int.reduceNe, Int.reduceLT, Int.reduceLE, Int.reduceBEq, Int.reduceBNe, Int.reduceToNat, he]
    refine ⟨by omega, ?_, ?_, rfl⟩
    · rw [flatMap_succ (by rw [l5]; exact hi'), ← List.append_assoc]
      exact hs
    · simp only [List.length_append, beB_length, flat8, List.length_take, l5]
      omega
  · have : i = 5 := by omega
    subst this
    rw [show m.five.take 5 = m.five from rfl] at hs hln
    have hs := hs.d1
    have hn := hs.p1.at
    simp only [Ms.cells] at hn
    simp (disch := omega) only [go_sem, reduceCtorEq, ↓reduceIte, Nat.reduceEqDiff, Nat.reduceAdd, Nat.reduceSub, Nat.reduceMul, Nat.reduceLT, Nat.reduceLeDiff, Int.reduceEq, Int.reduceNe, Int.reduceLT, Int.reduceLE, Int.reduceBEq, Int.reduceBNe, Int.reduceToNat, he, hn, hv]
    refine call_use (xU8 hs m.es.length (by omega)) ?_
    intro r h hs
    simp (disch := omega) only [go_sem, reduceCtorEq, ↓reduceIte, Nat.reduceEqDiff, Nat.reduceAdd, Nat.reduceSub, Nat.reduceMul, Nat.reduceLT, Nat.reduceLeDiff, Int.reduceEq, Int.reduceNe, Int.reduceLT, Int.reduceLE, Int.reduceBEq, Int.reduceBNe, Int.reduceToNat, he, hs.p1.at, Ms.cells]
    have hBl : m.B.length = (beB 1 m.kind ++ m.five.flatMap (beB 8) ++ beB 1 m.es.length).length + (m.es.flatMap En.B).length + (m.vs.flatMap (beB 8)).length + m.data.length + 46 := by
      simp only [Ms.B, List.length_append, beB_length, txB_length]
      omega
    have hvl := flat8 m.vs
    generalize hpre : beB 1 m.kind ++ m.five.flatMap (beB 8) ++ beB 1 m.es.length = pre at hs hBl
    refine run_up (N := m.es.length) (fun i e h => sat h (Ow 1 (e 4) ((pre ++ (m.es.take i).flatMap En.B).map eb) :: pto n (.row 15 [m.cells] 1) :: F) ∧ (∀ x ∈ m.es.take i, x.bad = false) ∧
      (e 1 = .ptr n 15 0 0 ∧ e 7 = .int .i64 i)) ⟨by simpa [Env.upd_apply] using hs, by simp, by simp [Env.upd_apply, he], rfl⟩ ?_
    rintro i e h hi ⟨hs, hall, he⟩
    generalize hv : e 4 = v at hs
    simp (disch := omega) only [go_sem, reduceCtorEq, ↓reduceIte, Nat.reduceEqDiff, Nat.reduceAdd, Nat.reduceSub, Nat.reduceMul, Nat.reduceLT, Nat.reduceLeDiff, Int.reduceEq, Int.reduceNe, Int.reduceLT, Int.reduceLE, Int.reduceBEq, Int.reduceBNe, Int.reduceToNat, he, hs.p1.at, Ms.cells]
    refine cnd_dec (fun hc => ?_) (fun hc => ?_)
    · have hi' : i < m.es.length := by omega
      have hle := flatMap_take_le (f := En.B) (l := m.es) (i + 1)
      rw [flatMap_succ hi', List.length_append] at hle
      have hb : (m.es[i].B).length = 21 + m.es[i].data.length := by simp [En.B, beB_length, txB_length]; omega
      simp (disch := omega) only [go_sem, reduceCtorEq, ↓reduceIte, Nat.reduceEqDiff, Nat.reduceAdd, Nat.reduceSub, Nat.reduceMul, Nat.reduceLT, Nat.reduceLeDiff, Int.reduceEq, Int.reduceNe, Int.reduceLT, Int.reduceLE, Int.reduceBEq, Int.reduceBNe, Int.reduceToNat, he, hs.p1.at, Ms.cells, ensV_at hi', En.row]
      refine new_opq hs fun x h hs => ?_
      simp (disch := omega) only [go_sem, reduceCtorEq, ↓reduceIte, Nat.reduceEqDiff, Nat.reduceAdd, Nat.reduceSub, Nat.reduceMul, Nat.reduceLT, Nat.reduceLeDiff, Int.reduceEq, Int.reduceNe, Int.reduceLT, Int.reduceLE, Int.reduceBEq, Int.reduceBNe, Int.reduceToNat, hs.at, he, hs.at]
      have hs : sat _ (pto x (.row 4 [m.es[i].row] 1) :: _) := hs.set (o' := .row 4 [m.es[i].row] 1)
      have bad : m.es[i].bad = true → m.e = 3 := by
        intro hb
        unfold Ms.e
        rw [if_neg k1, if_neg k2, if_pos (List.any_eq_true.2 ⟨_, List.getElem_mem hi', hb⟩)]
      refine cnd_dec (fun c6 => ?_) (fun c6 => ?_)
      · simp (disch := omega) only [go_sem, reduceCtorEq, ↓reduceIte, Nat.reduceEqDiff, Nat.reduceAdd, Nat.reduceSub, Nat.reduceMul, Nat.reduceLT, Nat.reduceLeDiff, Int.reduceEq, Int.reduceNe, Int.reduceLT, Int.reduceLE, Int.reduceBEq, Int.reduceBNe, Int.reduceToNat, he, c6]
        exact err 3 _ (bad (by simp [En.bad, c6])) (by omega) hs.drop.drop.drop
      simp (disch := omega) only [go_sem, reduceCtorEq, ↓reduceIte, Nat.reduceEqDiff, Nat.reduceAdd, Nat.reduceSub, Nat.reduceMul, Nat.reduceLT, Nat.reduceLeDiff, Int.reduceEq, Int.reduceNe, Int.reduceLT, Int.reduceLE, Int.reduceBEq, Int.reduceBNe, Int.reduceToNat, he, c6]
      refine cnd_dec (fun c7 => ?_) (fun c7 => ?_)
      · simp (disch := omega) only [go_sem, reduceCtorEq, ↓reduceIte, Nat.reduceEqDiff, Nat.reduceAdd, Nat.reduceSub, Nat.reduceMul, Nat.reduceLT, Nat.reduceLeDiff, Int.reduceEq, Int.reduceNe, Int.reduceLT, Int.reduceLE, Int.reduceBEq, Int.reduceBNe, Int.reduceToNat, he, c6, c7]
        exact err 3 _ (bad (by simp [En.bad, c7])) (by omega) hs.drop.drop.drop
      have hx := hs.at
      simp only [En.row] at hx
      simp (disch := omega) only [go_sem, reduceCtorEq, ↓reduceIte, Nat.reduceEqDiff, Nat.reduceAdd, Nat.reduceSub, Nat.reduceMul, Nat.reduceLT, Nat.reduceLeDiff, Int.reduceEq, Int.reduceNe, Int.reduceLT, Int.reduceLE, Int.reduceBEq, Int.reduceBNe, Int.reduceToNat, he, hv, c6, c7]
      refine call_use' (xInt hs.p1 _ (by simp only [List.length_append]; omega)) ?_
      intro r h hs
      simp (disch := omega) only [go_sem, reduceCtorEq, ↓reduceIte, Nat.reduceEqDiff, Nat.reduceAdd, Nat.reduceSub, Nat.reduceMul, Nat.reduceLT, Nat.reduceLeDiff, Int.reduceEq, Int.reduceNe, Int.reduceLT, Int.reduceLE, Int.reduceBEq, Int.reduceBNe, Int.reduceToNat, he, hs.p1.at, En.row]
      refine call_use' (xInt hs _ (by simp only [List.length_append, beB_length]; omega)) ?_
      intro r h hs
      simp (disch := omega) only [go_sem, reduceCtorEq, ↓reduceIte, Nat.reduceEqDiff, Nat.reduceAdd, Nat.reduceSub, Nat.reduceMul, Nat.reduceLT, Nat.reduceLeDiff, Int.reduceEq, Int.reduceNe, Int.reduceLT, Int.reduceLE, Int.reduceBEq, Int.reduceBNe, Int.reduceToNat, he, hs.p1.at, En.row]
      refine call_use' (xU8 hs _ (by simp only [List.length_append, beB_length]; omega)) ?_
      intro r h hs
      simp (disch := omega) only [go_sem, reduceCtorEq, ↓reduceIte, Nat.reduceEqDiff, Nat.reduceAdd, Nat.reduceSub, Nat.reduceMul, Nat.reduceLT, Nat.reduceLeDiff, Int.reduceEq, Int.reduceNe, Int.reduceLT, Int.reduceLE, Int.reduceBEq, Int.reduceBNe, Int.reduceToNat, he, hs.p1.at, En.row]
      refine call_use (xText hs _ (by simp only [List.length_append, beB_length]; omega) (by omega)) ?_
      intro r h hs
      simp (disch := omega) only [go_sem, reduceCtorEq, ↓reduceIte, Nat.reduceEqDiff, Nat.reduceAdd, Nat.reduceSub, Nat.reduceMul, Nat.reduceLT, Nat.reduceLeDiff, Int.reduceEq, Int.reduceNe, Int.reduceLT, Int.reduceLE, Int.reduceBEq, Int.reduceBNe, Int.reduceToNat, he]
      refine ⟨by omega, ?_, ?_, rfl⟩
      · rw [flatMap_succ hi', ← List.append_assoc]
        simpa [En.B, Ms.cells] using hs.d1
      · intro y hy
        rw [List.take_succ_eq_append_getElem hi'] at hy
        rcases List.mem_append.1 hy with hy | hy
        · exact hall y hy
        · simp at hy; subst hy; simp [En.bad]; omega
    · have : i = m.es.length := by omega
      subst this
      rw [List.take_length] at hs hall
      have k3 : ¬ m.es.any En.bad = true := by
        rw [List.any_eq_false.2 fun x hx => by rw [hall x hx]; simp]
        simp
      simp (disch := omega) only [go_sem, reduceCtorEq, ↓reduceIte, Nat.reduceEqDiff, Nat.reduceAdd, Nat.reduceSub, Nat.reduceMul, Nat.reduceLT, Nat.reduceLeDiff, Int.reduceEq, Int.reduceNe, Int.reduceLT, Int.reduceLE, Int.reduceBEq, Int.reduceBNe, Int.reduceToNat, he, hv, hs.p1.at, Ms.cells]
      refine call_use' (xInt hs m.commit (by simp only [List.length_append]; omega)) ?_
      intro r h hs
      simp (disch := omega) only [go_sem, reduceCtorEq, ↓reduceIte, Nat.reduceEqDiff, Nat.reduceAdd, Nat.reduceSub, Nat.reduceMul, Nat.reduceLT, Nat.reduceLeDiff, Int.reduceEq, Int.reduceNe, Int.reduceLT, Int.reduceLE, Int.reduceBEq, Int.reduceBNe, Int.reduceToNat, he, hs.p1.at, Ms.cells]
      refine call_use' (xInt hs m.seq (by simp only [List.length_append, beB_length]; omega)) ?_
      intro r h hs
      simp (disch := omega) only [go_sem, reduceCtorEq, ↓reduceIte, Nat.reduceEqDiff, Nat.reduceAdd, Nat.reduceSub, Nat.reduceMul, Nat.reduceLT, Nat.reduceLeDiff, Int.reduceEq, Int.reduceNe, Int.reduceLT, Int.reduceLE, Int.reduceBEq, Int.reduceBNe, Int.reduceToNat, he, hs.p1.at, Ms.cells]
      refine call_use' (flag hs m.ok) ?_
      rintro r h ⟨hr, hs⟩
      subst hr
      simp (disch := omega) only [go_sem, reduceCtorEq, ↓reduceIte, Nat.reduceEqDiff, Nat.reduceAdd, Nat.reduceSub, Nat.reduceMul, Nat.reduceLT, Nat.reduceLeDiff, Int.reduceEq, Int.reduceNe, Int.reduceLT, Int.reduceLE, Int.reduceBEq, Int.reduceBNe, Int.reduceToNat, he, hs.p1.at, Ms.cells]
      refine call_use' (xU8 hs (flagN m.ok) (by simp only [List.length_append, beB_length]; omega)) ?_
      intro r h hs
      simp (disch := omega) only [go_sem, reduceCtorEq, ↓reduceIte, Nat.reduceEqDiff, Nat.reduceAdd, Nat.reduceSub, Nat.reduceMul, Nat.reduceLT, Nat.reduceLeDiff, Int.reduceEq, Int.reduceNe, Int.reduceLT, Int.reduceLE, Int.reduceBEq, Int.reduceBNe, Int.reduceToNat, he, hs.p1.at, Ms.cells]
      refine call_use (xInt hs m.mtch (by simp only [List.length_append, beB_length]; omega)) ?_
      intro r h hs
      simp (disch := omega) only [go_sem, reduceCtorEq, ↓reduceIte, Nat.reduceEqDiff, Nat.reduceAdd, Nat.reduceSub, Nat.reduceMul, Nat.reduceLT, Nat.reduceLeDiff, Int.reduceEq, Int.reduceNe, Int.reduceLT, Int.reduceLE, Int.reduceBEq, Int.reduceBNe, Int.reduceToNat, he, hs.p1.at, Ms.cells]
      refine call_use' (xMetaW hs m.mi m.mt m.vs (by simp only [List.length_append, beB_length]; omega)) ?_
      intro r h hs
      simp (disch := omega) only [go_sem, reduceCtorEq, ↓reduceIte, Nat.reduceEqDiff, Nat.reduceAdd, Nat.reduceSub, Nat.reduceMul, Nat.reduceLT, Nat.reduceLeDiff, Int.reduceEq, Int.reduceNe, Int.reduceLT, Int.reduceLE, Int.reduceBEq, Int.reduceBNe, Int.reduceToNat, he, hs.p1.at, Ms.cells]
      refine call_use (xText hs m.data (by simp only [List.length_append, beB_length]; omega) (by omega)) ?_
      intro r h hs
      simp (disch := omega) only [go_sem, reduceCtorEq, ↓reduceIte, Nat.reduceEqDiff, Nat.reduceAdd, Nat.reduceSub, Nat.reduceMul, Nat.reduceLT, Nat.reduceLeDiff, Int.reduceEq, Int.reduceNe, Int.reduceLT, Int.reduceLE, Int.reduceBEq, Int.reduceBNe, Int.reduceToNat, he]
      have hBe : pre ++ m.es.flatMap En.B ++ beB 8 m.commit ++ beB 8 m.seq ++ beB 1 (flagN m.ok) ++ beB 8 m.mtch ++ beB 8 m.mi ++ beB 8 m.mt ++ beB 1 m.vs.length ++ m.vs.flatMap (beB 8) ++ txB m.data = m.B := by
        rw [← hpre]
        simp [Ms.B]
      rw [hBe] at hs
      simp (disch := omega) only [go_sem, reduceCtorEq, ↓reduceIte, Nat.reduceEqDiff, Nat.reduceAdd, Nat.reduceSub, Nat.reduceMul, Nat.reduceLT, Nat.reduceLeDiff, Int.reduceEq, Int.reduceNe, Int.reduceLT, Int.reduceLE, Int.reduceBEq, Int.reduceBNe, Int.reduceToNat, Bts.len hs.bts]
      refine cnd_dec (fun c6 => ?_) (fun c6 => ?_)
      · simp (disch := omega) only [go_sem, reduceCtorEq, ↓reduceIte, Nat.reduceEqDiff, Nat.reduceAdd, Nat.reduceSub, Nat.reduceMul, Nat.reduceLT, Nat.reduceLeDiff, Int.reduceEq, Int.reduceNe, Int.reduceLT, Int.reduceLE, Int.reduceBEq, Int.reduceBNe, Int.reduceToNat]
        exact err 5 _ (by unfold Ms.e; rw [if_neg k1, if_neg k2, if_neg k3, if_pos (by omega)]) (by omega) hs.drop.drop
      · simp (disch := omega) only [go_sem, reduceCtorEq, ↓reduceIte, Nat.reduceEqDiff, Nat.reduceAdd, Nat.reduceSub, Nat.reduceMul, Nat.reduceLT, Nat.reduceLeDiff, Int.reduceEq, Int.reduceNe, Int.reduceLT, Int.reduceLE, Int.reduceBEq, Int.reduceBNe, Int.reduceToNat]
        have h0 : m.e = 0 := by unfold Ms.e; rw [if_neg k1, if_neg k2, if_neg k3, if_neg (by omega)]
        refine call_use (xFrame hs (fun _ hs => hs.bts) (by omega)) ?_
        intro r h hs
        simp (disch := omega) only [go_sem, reduceCtorEq, ↓reduceIte, Nat.reduceEqDiff, Nat.reduceAdd, Nat.reduceSub, Nat.reduceMul, Nat.reduceLT, Nat.reduceLeDiff, Int.reduceEq, Int.reduceNe, Int.reduceLT, Int.reduceLE, Int.reduceBEq, Int.reduceBNe, Int.reduceToNat]
        refine fin _ 0 _ [] h0 ?_
        have : m.enc = frameB m.B := by unfold Ms.enc; rw [if_pos h0]
        rw [this]
        exact hs.d1.d1
theorem xEncode (hs : sat h F) {m : Ms} (hr : m.room) (hB : m.B.length ≤ 1000000000) :
    Triple Try.prog 15 [.agg m.cells] h (fun r h => r = .tup [bytesV m.enc, .int .i64 m.e] ∧ sat h F) :=
  Triple.lst1 1 ((xEncodeO hs hr hB).mono fun r h ⟨v, hr, hs⟩ => ⟨v, _, _, F, hr, hs, fun h hs => ⟨rfl, hs⟩⟩)

end
end Go.Proofs.Ytfbflmiipepmiaa
