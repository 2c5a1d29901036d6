/- net: messages are written. -/
import Derived.Test.YtfbflmiipepmiaaR2NetB
set_option linter.unusedSimpArgs false
set_option linter.unusedVariables false
set_option maxRecDepth 10000
namespace Go.Proofs.Ytfbflmiipepmiaa
open Go.Hz

section
variable {h : Hp} {F : List Asr}

def five (a b c d e : Int) : List (List AV) := [[.int .i64 a], [.int .i64 b], [.int .i64 c], [.int .i64 d], [.int .i64 e]]
theorem five_at (m : Ms) {i : Nat} (hi : i < 5) : (five m.frm m.to m.term m.index m.lterm)[i]? = some [.int .i64 (m.five[i]'(by simp [Ms.five]; omega))] := by
  match i, hi with
  | 0, _ => rfl
  | 1, _ => rfl
  | 2, _ => rfl
  | 3, _ => rfl
  | 4, _ => rfl

theorem pEncode (hs : sat h F) {m : Ms} (hr : m.room) (hB : m.B.length ≤ 1000000000) :
    Triple Try.prog 20 [.agg m.cells] h (fun r h => r = .tup [bytesV m.enc, .int .i64 m.e] ∧ sat h F) := by
  obtain ⟨hr1, hr2⟩ := hr
  have fin : ∀ (x : AV) (k : Int) (h : Hp) (G : List Asr), m.e = k → sat h (Ow 1 x (m.enc.map eb) :: F) →
      ∃ v rest es F', AV.tup [x, .int .i64 k] = .tup (v :: rest) ∧ sat h (Ow 1 v es :: F') ∧ ∀ h'', sat h'' F' → (fun (r : AV) h => r = .tup [bytesV m.enc, .int .i64 m.e] ∧ sat h F) (.tup (.lst es :: rest)) h'' := by
    intro x k h G hk hs
    subst hk
    exact ⟨x, _, _, F, rfl, hs, fun h hs => ⟨rfl, hs⟩⟩
  have err : ∀ (k : Int) (h : Hp), m.e = k → k ≠ 0 → sat h F →
      ∃ v rest es F', AV.tup [.nils, .int .i64 k] = .tup (v :: rest) ∧ sat h (Ow 1 v es :: F') ∧ ∀ h'', sat h'' F' → (fun (r : AV) h => r = .tup [bytesV m.enc, .int .i64 m.e] ∧ sat h F) (.tup (.lst es :: rest)) h'' := by
    intro k h hk h0 hs
    refine fin .nils k h [] hk ?_
    have : m.enc = [] := by unfold Ms.enc; rw [hk, if_neg h0]
    rw [this]
    exact hs.add ow_nil
  refine Triple.lst1 1 ?_
  refine t20 (Nat.le_of_ble_eq_true rfl) ?_
  simp (disch := omega) only [F20, Ms.cells, go_sem, reduceCtorEq, ↓reduceIte, Nat.reduceEqDiff, Nat.reduceAdd, Nat.reduceSub, Nat.reduceMul, Nat.reduceLT, Nat.reduceLeDiff, Int.reduceEq, Int.reduceNe, Int.reduceLT, Int.reduceLE, Int.reduceBEq, Int.reduceBNe, Int.reduceToNat]
  refine new_opq hs fun n h hs => ?_
  simp (disch := omega) only [go_sem, reduceCtorEq, ↓reduceIte, Nat.reduceEqDiff, Nat.reduceAdd, Nat.reduceSub, Nat.reduceMul, Nat.reduceLT, Nat.reduceLeDiff, Int.reduceEq, Int.reduceNe, Int.reduceLT, Int.reduceLE, Int.reduceBEq, Int.reduceBNe, Int.reduceToNat, hs.at]
  refine cnd_dec (fun c1 => ?_) (fun c1 => ?_)
  · simp (disch := omega) only [go_sem, reduceCtorEq, ↓reduceIte, Nat.reduceEqDiff, Nat.reduceAdd, Nat.reduceSub, Nat.reduceMul, Nat.reduceLT, Nat.reduceLeDiff, Int.reduceEq, Int.reduceNe, Int.reduceLT, Int.reduceLE, Int.reduceBEq, Int.reduceBNe, Int.reduceToNat, hs.at, c1]
    exact err 3 _ (by unfold Ms.e; rw [if_pos (by omega)]) (by omega) hs.drop
  simp (disch := omega) only [go_sem, reduceCtorEq, ↓reduceIte, Nat.reduceEqDiff, Nat.reduceAdd, Nat.reduceSub, Nat.reduceMul, Nat.reduceLT, Nat.reduceLeDiff, Int.reduceEq, Int.reduceNe, Int.reduceLT, Int.reduceLE, Int.reduceBEq, Int.reduceBNe, Int.reduceToNat, hs.at, c1]
  refine cnd_dec (fun c2 => ?_) (fun c2 => ?_)
  · simp (disch := omega) only [go_sem, reduceCtorEq, ↓reduceIte, Nat.reduceEqDiff, Nat.reduceAdd, Nat.reduceSub, Nat.reduceMul, Nat.reduceLT, Nat.reduceLeDiff, Int.reduceEq, Int.reduceNe, Int.reduceLT, Int.reduceLE, Int.reduceBEq, Int.reduceBNe, Int.reduceToNat, hs.at, c1, c2]
    exact err 3 _ (by unfold Ms.e; rw [if_pos (by omega)]) (by omega) hs.drop
  have k1 : ¬ (m.kind < 1 ∨ 5 < m.kind) := by omega
  simp (disch := omega) only [go_sem, reduceCtorEq, ↓reduceIte, Nat.reduceEqDiff, Nat.reduceAdd, Nat.reduceSub, Nat.reduceMul, Nat.reduceLT, Nat.reduceLeDiff, Int.reduceEq, Int.reduceNe, Int.reduceLT, Int.reduceLE, Int.reduceBEq, Int.reduceBNe, Int.reduceToNat, hs.at, c1, c2]
  refine cnd_dec (fun c3 => ?_) (fun c3 => ?_)
  · simp (disch := omega) only [go_sem, reduceCtorEq, ↓reduceIte, Nat.reduceEqDiff, Nat.reduceAdd, Nat.reduceSub, Nat.reduceMul, Nat.reduceLT, Nat.reduceLeDiff, Int.reduceEq, Int.reduceNe, Int.reduceLT, Int.reduceLE, Int.reduceBEq, Int.reduceBNe, Int.reduceToNat, hs.at, c3]
    exact err 4 _ (by unfold Ms.e; rw [if_neg k1, if_pos (by omega)]) (by omega) hs.drop
  simp (disch := omega) only [go_sem, reduceCtorEq, ↓reduceIte, Nat.reduceEqDiff, Nat.reduceAdd, Nat.reduceSub, Nat.reduceMul, Nat.reduceLT, Nat.reduceLeDiff, Int.reduceEq, Int.reduceNe, Int.reduceLT, Int.reduceLE, Int.reduceBEq, Int.reduceBNe, Int.reduceToNat, hs.at, c3]
  refine cnd_dec (fun c4 => ?_) (fun c4 => ?_)
  · simp (disch := omega) only [go_sem, reduceCtorEq, ↓reduceIte, Nat.reduceEqDiff, Nat.reduceAdd, Nat.reduceSub, Nat.reduceMul, Nat.reduceLT, Nat.reduceLeDiff, Int.reduceEq, Int.reduceNe, Int.reduceLT, Int.reduceLE, Int.reduceBEq, Int.reduceBNe, Int.reduceToNat, hs.at, c3, c4]
    exact err 4 _ (by unfold Ms.e; rw [if_neg k1, if_pos (by omega)]) (by omega) hs.drop
  have k2 : ¬ (255 < m.es.length ∨ 255 < m.vs.length) := by omega
  simp (disch := omega) only [go_sem, reduceCtorEq, ↓reduceIte, Nat.reduceEqDiff, Nat.reduceAdd, Nat.reduceSub, Nat.reduceMul, Nat.reduceLT, Nat.reduceLeDiff, Int.reduceEq, Int.reduceNe, Int.reduceLT, Int.reduceLE, Int.reduceBEq, Int.reduceBNe, Int.reduceToNat, hs.at, c3, c4]
  refine call_use (containsBad hs hr1) ?_
  rintro r h ⟨hr, hs⟩
  subst hr
  simp (disch := omega) only [go_sem, reduceCtorEq, ↓reduceIte, Nat.reduceEqDiff, Nat.reduceAdd, Nat.reduceSub, Nat.reduceMul, Nat.reduceLT, Nat.reduceLeDiff, Int.reduceEq, Int.reduceNe, Int.reduceLT, Int.reduceLE, Int.reduceBEq, Int.reduceBNe, Int.reduceToNat]
  refine cnd_bool (fun c5 => ?_) (fun c5 => ?_)
  · simp (disch := omega) only [go_sem, reduceCtorEq, ↓reduceIte, Nat.reduceEqDiff, Nat.reduceAdd, Nat.reduceSub, Nat.reduceMul, Nat.reduceLT, Nat.reduceLeDiff, Int.reduceEq, Int.reduceNe, Int.reduceLT, Int.reduceLE, Int.reduceBEq, Int.reduceBNe, Int.reduceToNat, hs.at, c5]
    exact err 3 _ (by unfold Ms.e; rw [if_neg k1, if_neg k2, if_pos c5]) (by omega) hs.drop
  simp (disch := omega) only [go_sem, reduceCtorEq, ↓reduceIte, Nat.reduceEqDiff, Nat.reduceAdd, Nat.reduceSub, Nat.reduceMul, Nat.reduceLT, Nat.reduceLeDiff, Int.reduceEq, Int.reduceNe, Int.reduceLT, Int.reduceLE, Int.reduceBEq, Int.reduceBNe, Int.reduceToNat, hs.at, c5]
  refine call_use (newWriter hs) ?_
  rintro r h ⟨p, hr, hs⟩
  subst hr
  simp (disch := omega) only [go_sem, reduceCtorEq, ↓reduceIte, Nat.reduceEqDiff, Nat.reduceAdd, Nat.reduceSub, Nat.reduceMul, Nat.reduceLT, Nat.reduceLeDiff, Int.reduceEq, Int.reduceNe, Int.reduceLT, Int.reduceLE, Int.reduceBEq, Int.reduceBNe, Int.reduceToNat, hs.p1.at]
  refine call_use (wU8 hs m.kind (by omega)) ?_
  rintro r h ⟨hr, hs⟩
  subst hr
  simp (disch := omega) only [go_sem, reduceCtorEq, ↓reduceIte, Nat.reduceEqDiff, Nat.reduceAdd, Nat.reduceSub, Nat.reduceMul, Nat.reduceLT, Nat.reduceLeDiff, Int.reduceEq, Int.reduceNe, Int.reduceLT, Int.reduceLE, Int.reduceBEq, Int.reduceBNe, Int.reduceToNat, hs.p1.at]
  refine new_opq hs fun b h hs => ?_
  simp (disch := omega) only [go_sem, reduceCtorEq, ↓reduceIte, Nat.reduceEqDiff, Nat.reduceAdd, Nat.reduceSub, Nat.reduceMul, Nat.reduceLT, Nat.reduceLeDiff, Int.reduceEq, Int.reduceNe, Int.reduceLT, Int.reduceLE, Int.reduceBEq, Int.reduceBNe, Int.reduceToNat, hs.at]
  have hfive : sat h (pto b (.row 1 (five m.frm m.to m.term m.index m.lterm) 5) :: Wr p ([] ++ beB 1 m.kind) (0 + 1) :: pto n (.row 15 [m.cells] 1) :: F) := hs
  have l5 : m.five.length = 5 := rfl
  refine run_up (N := 5) (fun i e h => sat h (Wr p (beB 1 m.kind ++ (m.five.take i).flatMap (beB 8)) (1 + 8 * i) :: pto b (.row 1 (five m.frm m.to m.term m.index m.lterm) 5) :: pto n (.row 15 [m.cells] 1) :: F) ∧
    (e 1 = .ptr n 15 0 0 ∧ e 4 = .ptr p 1 0 0 ∧ e 53 = .arr b 1 0 5 5 ∧ e 54 = .int .i64 5 ∧ e 55 = .int .i64 i)) ⟨by simpa using hfive.p1, rfl, rfl, rfl, rfl, rfl⟩ ?_
  rintro i e h hi ⟨hs, he⟩
  simp (disch := omega) only [go_sem, reduceCtorEq, ↓reduceIte, Nat.reduceEqDiff, Nat.reduceAdd, Nat.reduceSub, Nat.reduceMul, Nat.reduceLT, Nat.reduceLeDiff, Int.reduceEq, Int.reduceNe, Int.reduceLT, Int.reduceLE, Int.reduceBEq, Int.reduceBNe, Int.reduceToNat, he]
  refine cnd_dec (fun hc => ?_) (fun hc => ?_)
  · have hi' : i < 5 := by omega
    simp (disch := omega) only [go_sem, reduceCtorEq, ↓reduceIte, Nat.reduceEqDiff, Nat.reduceAdd, Nat.reduceSub, Nat.reduceMul, Nat.reduceLT, Nat.reduceLeDiff, Int.reduceEq, Int.reduceNe, Int.reduceLT, Int.reduceLE, Int.reduceBEq, Int.reduceBNe, Int.reduceToNat, he, hs.p1.at, five_at m hi', Int.toNat_natCast]
    refine call_use (wInt hs _ (by omega)) ?_
    rintro r h ⟨hr, hs⟩
    subst hr
    simp (disch := omega) only [go_sem, reduceCtorEq, ↓reduceIte, Nat.reduceEqDiff, Nat.reduceAdd, Nat.reduceSub, Nat.reduceMul, Nat.reduceLT, Nat.reduceLeDiff, Int.reduceEq, Int.reduceNe, Int.reduceLT, Int.reduceLE, Int.reduceBEq, Int.reduceBNe, Int.reduceToNat, he]
    refine ⟨by omega, ?_, rfl⟩
    rw [flatMap_succ (by rw [l5]; exact hi'), ← List.append_assoc]
    exact hs
  · have : i = 5 := by omega
    subst this
    rw [show m.five.take 5 = m.five from rfl] at hs
    have hs := hs.d1
    have hn := hs.p1.at
    simp only [Ms.cells] at hn
    simp (disch := omega) only [go_sem, reduceCtorEq, ↓reduceIte, Nat.reduceEqDiff, Nat.reduceAdd, Nat.reduceSub, Nat.reduceMul, Nat.reduceLT, Nat.reduceLeDiff, Int.reduceEq, Int.reduceNe, Int.reduceLT, Int.reduceLE, Int.reduceBEq, Int.reduceBNe, Int.reduceToNat, he, hn]
    refine call_use (wU8 hs m.es.length (by omega)) ?_
    rintro r h ⟨hr, hs⟩
    subst hr
    simp (disch := omega) only [go_sem, reduceCtorEq, ↓reduceIte, Nat.reduceEqDiff, Nat.reduceAdd, Nat.reduceSub, Nat.reduceMul, Nat.reduceLT, Nat.reduceLeDiff, Int.reduceEq, Int.reduceNe, Int.reduceLT, Int.reduceLE, Int.reduceBEq, Int.reduceBNe, Int.reduceToNat, he, hs.p1.at, Ms.cells]
    have l2 : (beB 1 m.kind ++ m.five.flatMap (beB 8) ++ beB 1 m.es.length).length + (m.es.flatMap En.B).length + (m.vs.flatMap (beB 8)).length + m.data.length ≤ 1000000000 := by
      have : m.B.length = (beB 1 m.kind ++ m.five.flatMap (beB 8) ++ beB 1 m.es.length).length + (m.es.flatMap En.B).length + (m.vs.flatMap (beB 8)).length + m.data.length + 46 := by
        simp only [Ms.B, List.length_append, beB_length, txB_length]
        omega
      omega
    generalize hpre : beB 1 m.kind ++ m.five.flatMap (beB 8) ++ beB 1 m.es.length = pre at hs l2
    refine run_up (N := m.es.length) (fun i e h => sat h (Wr p (pre ++ (m.es.take i).flatMap En.B) 1000000000 :: pto n (.row 15 [m.cells] 1) :: F) ∧
      (e 1 = .ptr n 15 0 0 ∧ e 4 = .ptr p 1 0 0 ∧ e 69 = ensV m.es ∧ e 70 = .int .i64 m.es.length ∧ e 71 = .int .i64 i)) ⟨by simpa using Wr.wk (k' := 1000000000) hs (by omega), by simp [Env.upd_apply, he], by simp [Env.upd_apply, he], rfl, rfl, rfl⟩ ?_
    rintro i e h hi ⟨hs, he⟩
    simp (disch := omega) only [go_sem, reduceCtorEq, ↓reduceIte, Nat.reduceEqDiff, Nat.reduceAdd, Nat.reduceSub, Nat.reduceMul, Nat.reduceLT, Nat.reduceLeDiff, Int.reduceEq, Int.reduceNe, Int.reduceLT, Int.reduceLE, Int.reduceBEq, Int.reduceBNe, Int.reduceToNat, he]
    refine cnd_dec (fun hc => ?_) (fun hc => ?_)
    · have hi' : i < m.es.length := by omega
      have hle := flatMap_take_le (f := En.B) (l := m.es) (i + 1)
      rw [flatMap_succ hi', List.length_append] at hle
      have hb : (m.es[i].B).length = 21 + m.es[i].data.length := by simp [En.B, beB_length, txB_length]; omega
      simp (disch := omega) only [go_sem, reduceCtorEq, ↓reduceIte, Nat.reduceEqDiff, Nat.reduceAdd, Nat.reduceSub, Nat.reduceMul, Nat.reduceLT, Nat.reduceLeDiff, Int.reduceEq, Int.reduceNe, Int.reduceLT, Int.reduceLE, Int.reduceBEq, Int.reduceBNe, Int.reduceToNat, he, ensV_at hi', En.row]
      refine new_opq hs fun x h hs => ?_
      simp (disch := omega) only [go_sem, reduceCtorEq, ↓reduceIte, Nat.reduceEqDiff, Nat.reduceAdd, Nat.reduceSub, Nat.reduceMul, Nat.reduceLT, Nat.reduceLeDiff, Int.reduceEq, Int.reduceNe, Int.reduceLT, Int.reduceLE, Int.reduceBEq, Int.reduceBNe, Int.reduceToNat, hs.at, he, hs.at]
      refine call_use (wInt hs.set.p1 _ (by omega)) ?_
      rintro r h ⟨hr, hs⟩
      subst hr
      simp (disch := omega) only [go_sem, reduceCtorEq, ↓reduceIte, Nat.reduceEqDiff, Nat.reduceAdd, Nat.reduceSub, Nat.reduceMul, Nat.reduceLT, Nat.reduceLeDiff, Int.reduceEq, Int.reduceNe, Int.reduceLT, Int.reduceLE, Int.reduceBEq, Int.reduceBNe, Int.reduceToNat, he, hs.p1.at]
      refine call_use (wInt hs _ (by omega)) ?_
      rintro r h ⟨hr, hs⟩
      subst hr
      simp (disch := omega) only [go_sem, reduceCtorEq, ↓reduceIte, Nat.reduceEqDiff, Nat.reduceAdd, Nat.reduceSub, Nat.reduceMul, Nat.reduceLT, Nat.reduceLeDiff, Int.reduceEq, Int.reduceNe, Int.reduceLT, Int.reduceLE, Int.reduceBEq, Int.reduceBNe, Int.reduceToNat, he, hs.p1.at]
      refine call_use (wU8 hs _ (by omega)) ?_
      rintro r h ⟨hr, hs⟩
      subst hr
      simp (disch := omega) only [go_sem, reduceCtorEq, ↓reduceIte, Nat.reduceEqDiff, Nat.reduceAdd, Nat.reduceSub, Nat.reduceMul, Nat.reduceLT, Nat.reduceLeDiff, Int.reduceEq, Int.reduceNe, Int.reduceLT, Int.reduceLE, Int.reduceBEq, Int.reduceBNe, Int.reduceToNat, he, hs.p1.at]
      refine call_use (wText hs _ (Nat.le_refl _) (by omega)) ?_
      rintro r h ⟨hr, hs⟩
      subst hr
      simp (disch := omega) only [go_sem, reduceCtorEq, ↓reduceIte, Nat.reduceEqDiff, Nat.reduceAdd, Nat.reduceSub, Nat.reduceMul, Nat.reduceLT, Nat.reduceLeDiff, Int.reduceEq, Int.reduceNe, Int.reduceLT, Int.reduceLE, Int.reduceBEq, Int.reduceBNe, Int.reduceToNat, he, hs.p1.at]
      refine ⟨by omega, ?_, rfl⟩
      rw [flatMap_succ hi', ← List.append_assoc]
      have hs := hs.d1
      have := Wr.wk (k' := 1000000000) hs (by simp only [List.length_append, beB_length, txB_length]; simp only [En.B, List.length_append, beB_length, txB_length] at hle; omega)
      simpa [En.B] using this
    · have : i = m.es.length := by omega
      subst this
      rw [List.take_length] at hs
      simp (disch := omega) only [go_sem, reduceCtorEq, ↓reduceIte, Nat.reduceEqDiff, Nat.reduceAdd, Nat.reduceSub, Nat.reduceMul, Nat.reduceLT, Nat.reduceLeDiff, Int.reduceEq, Int.reduceNe, Int.reduceLT, Int.reduceLE, Int.reduceBEq, Int.reduceBNe, Int.reduceToNat, he, hs.p1.at, Ms.cells]
      refine call_use (wInt hs m.commit (by omega)) ?_
      rintro r h ⟨hr, hs⟩
      subst hr
      simp (disch := omega) only [go_sem, reduceCtorEq, ↓reduceIte, Nat.reduceEqDiff, Nat.reduceAdd, Nat.reduceSub, Nat.reduceMul, Nat.reduceLT, Nat.reduceLeDiff, Int.reduceEq, Int.reduceNe, Int.reduceLT, Int.reduceLE, Int.reduceBEq, Int.reduceBNe, Int.reduceToNat, he, hs.p1.at, Ms.cells]
      refine call_use (wInt hs m.seq (by omega)) ?_
      rintro r h ⟨hr, hs⟩
      subst hr
      simp (disch := omega) only [go_sem, reduceCtorEq, ↓reduceIte, Nat.reduceEqDiff, Nat.reduceAdd, Nat.reduceSub, Nat.reduceMul, Nat.reduceLT, Nat.reduceLeDiff, Int.reduceEq, Int.reduceNe, Int.reduceLT, Int.reduceLE, Int.reduceBEq, Int.reduceBNe, Int.reduceToNat, he, hs.p1.at, Ms.cells]
      rcases Bool.eq_false_or_eq_true m.ok with hk | hk
      all_goals
        have hfl := congrArg flagN hk
        first | rw [show flagN true = 1 from rfl] at hfl | rw [show flagN false = 0 from rfl] at hfl
        simp (disch := omega) only [go_sem, reduceCtorEq, ↓reduceIte, Nat.reduceEqDiff, Nat.reduceAdd, Nat.reduceSub, Nat.reduceMul, Nat.reduceLT, Nat.reduceLeDiff, Int.reduceEq, Int.reduceNe, Int.reduceLT, Int.reduceLE, Int.reduceBEq, Int.reduceBNe, Int.reduceToNat, he, hs.p1.at, Ms.cells, hk]
        refine call_use (wU8 hs _ (by omega)) ?_
        rintro r h ⟨hr, hs⟩
        subst hr
        simp (disch := omega) only [go_sem, reduceCtorEq, ↓reduceIte, Nat.reduceEqDiff, Nat.reduceAdd, Nat.reduceSub, Nat.reduceMul, Nat.reduceLT, Nat.reduceLeDiff, Int.reduceEq, Int.reduceNe, Int.reduceLT, Int.reduceLE, Int.reduceBEq, Int.reduceBNe, Int.reduceToNat, he, hs.p1.at, Ms.cells]
        rw [← hfl] at hs
        refine call_use (wInt hs m.mtch (by omega)) ?_
        rintro r h ⟨hr, hs⟩
        subst hr
        simp (disch := omega) only [go_sem, reduceCtorEq, ↓reduceIte, Nat.reduceEqDiff, Nat.reduceAdd, Nat.reduceSub, Nat.reduceMul, Nat.reduceLT, Nat.reduceLeDiff, Int.reduceEq, Int.reduceNe, Int.reduceLT, Int.reduceLE, Int.reduceBEq, Int.reduceBNe, Int.reduceToNat, he, hs.p1.at, Ms.cells]
        refine call_use (wInt hs m.mi (by omega)) ?_
        rintro r h ⟨hr, hs⟩
        subst hr
        simp (disch := omega) only [go_sem, reduceCtorEq, ↓reduceIte, Nat.reduceEqDiff, Nat.reduceAdd, Nat.reduceSub, Nat.reduceMul, Nat.reduceLT, Nat.reduceLeDiff, Int.reduceEq, Int.reduceNe, Int.reduceLT, Int.reduceLE, Int.reduceBEq, Int.reduceBNe, Int.reduceToNat, he, hs.p1.at, Ms.cells]
        refine call_use (wInt hs m.mt (by omega)) ?_
        rintro r h ⟨hr, hs⟩
        subst hr
        simp (disch := omega) only [go_sem, reduceCtorEq, ↓reduceIte, Nat.reduceEqDiff, Nat.reduceAdd, Nat.reduceSub, Nat.reduceMul, Nat.reduceLT, Nat.reduceLeDiff, Int.reduceEq, Int.reduceNe, Int.reduceLT, Int.reduceLE, Int.reduceBEq, Int.reduceBNe, Int.reduceToNat, he, hs.p1.at, Ms.cells]
        refine call_use (wU8 hs m.vs.length (by omega)) ?_
        rintro r h ⟨hr, hs⟩
        subst hr
        simp (disch := omega) only [go_sem, reduceCtorEq, ↓reduceIte, Nat.reduceEqDiff, Nat.reduceAdd, Nat.reduceSub, Nat.reduceMul, Nat.reduceLT, Nat.reduceLeDiff, Int.reduceEq, Int.reduceNe, Int.reduceLT, Int.reduceLE, Int.reduceBEq, Int.reduceBNe, Int.reduceToNat, he, hs.p1.at, Ms.cells]
        generalize hpr2 : pre ++ m.es.flatMap En.B ++ beB 8 m.commit ++ beB 8 m.seq ++ beB 1 (flagN m.ok) ++ beB 8 m.mtch ++ beB 8 m.mi ++ beB 8 m.mt ++ beB 1 m.vs.length = pr2 at hs
        have l3 : pr2.length + (m.vs.flatMap (beB 8)).length + m.data.length ≤ 1000000100 := by
          rw [← hpr2]
          simp only [List.length_append, beB_length] at l2 ⊢
          omega
        refine run_up (N := m.vs.length) (fun i e h => sat h (Wr p (pr2 ++ (m.vs.take i).flatMap (beB 8)) 1000000100 :: pto n (.row 15 [m.cells] 1) :: F) ∧
          (e 1 = .ptr n 15 0 0 ∧ e 4 = .ptr p 1 0 0 ∧ e 128 = intsV m.vs ∧ e 129 = .int .i64 m.vs.length ∧ e 130 = .int .i64 i)) ⟨by simpa using Wr.wk (k' := 1000000100) hs (by omega), by simp [Env.upd_apply, he], by simp [Env.upd_apply, he], rfl, rfl, rfl⟩ ?_
        rintro i e h hi ⟨hs, he⟩
        simp (disch := omega) only [go_sem, reduceCtorEq, ↓reduceIte, Nat.reduceEqDiff, Nat.reduceAdd, Nat.reduceSub, Nat.reduceMul, Nat.reduceLT, Nat.reduceLeDiff, Int.reduceEq, Int.reduceNe, Int.reduceLT, Int.reduceLE, Int.reduceBEq, Int.reduceBNe, Int.reduceToNat, he]
        refine cnd_dec (fun hc => ?_) (fun hc => ?_)
        · have hi' : i < m.vs.length := by omega
          have hle := flatMap_take_le (f := beB 8) (l := m.vs) (i + 1)
          rw [flatMap_succ hi', List.length_append] at hle
          simp (disch := omega) only [go_sem, reduceCtorEq, ↓reduceIte, Nat.reduceEqDiff, Nat.reduceAdd, Nat.reduceSub, Nat.reduceMul, Nat.reduceLT, Nat.reduceLeDiff, Int.reduceEq, Int.reduceNe, Int.reduceLT, Int.reduceLE, Int.reduceBEq, Int.reduceBNe, Int.reduceToNat, he, intsV_at hi']
          refine call_use (wInt hs _ (by omega)) ?_
          rintro r h ⟨hr, hs⟩
          subst hr
          simp (disch := omega) only [go_sem, reduceCtorEq, ↓reduceIte, Nat.reduceEqDiff, Nat.reduceAdd, Nat.reduceSub, Nat.reduceMul, Nat.reduceLT, Nat.reduceLeDiff, Int.reduceEq, Int.reduceNe, Int.reduceLT, Int.reduceLE, Int.reduceBEq, Int.reduceBNe, Int.reduceToNat, he, hs.p1.at]
          refine ⟨by omega, ?_, rfl⟩
          rw [flatMap_succ hi', ← List.append_assoc]
          exact Wr.wk (k' := 1000000100) hs (by simp only [List.length_append, beB_length] at hle ⊢; omega)
        · have : i = m.vs.length := by omega
          subst this
          rw [List.take_length] at hs
          simp (disch := omega) only [go_sem, reduceCtorEq, ↓reduceIte, Nat.reduceEqDiff, Nat.reduceAdd, Nat.reduceSub, Nat.reduceMul, Nat.reduceLT, Nat.reduceLeDiff, Int.reduceEq, Int.reduceNe, Int.reduceLT, Int.reduceLE, Int.reduceBEq, Int.reduceBNe, Int.reduceToNat, he, hs.p1.at, Ms.cells]
          refine call_use (wText hs m.data (Nat.le_refl _) (by omega)) ?_
          rintro r h ⟨hr, hs⟩
          subst hr
          simp (disch := omega) only [go_sem, reduceCtorEq, ↓reduceIte, Nat.reduceEqDiff, Nat.reduceAdd, Nat.reduceSub, Nat.reduceMul, Nat.reduceLT, Nat.reduceLeDiff, Int.reduceEq, Int.reduceNe, Int.reduceLT, Int.reduceLE, Int.reduceBEq, Int.reduceBNe, Int.reduceToNat, he]
          refine call_use (wDone hs (by omega)) ?_
          rintro r h ⟨hr, hs⟩
          subst hr
          simp (disch := omega) only [go_sem, reduceCtorEq, ↓reduceIte, Nat.reduceEqDiff, Nat.reduceAdd, Nat.reduceSub, Nat.reduceMul, Nat.reduceLT, Nat.reduceLeDiff, Int.reduceEq, Int.reduceNe, Int.reduceLT, Int.reduceLE, Int.reduceBEq, Int.reduceBNe, Int.reduceToNat]
          have hBe : pr2 ++ m.vs.flatMap (beB 8) ++ txB m.data = m.B := by
            rw [← hpr2, ← hpre]
            simp [Ms.B]
          have hBl := congrArg List.length hBe
          simp only [List.length_append] at hBl
          rw [hBe]
          have k3 : ¬ m.es.any En.bad = true := by rw [c5]; simp
          refine cnd_dec (fun c6 => ?_) (fun c6 => ?_)
          · simp (disch := omega) only [go_sem, reduceCtorEq, ↓reduceIte, Nat.reduceEqDiff, Nat.reduceAdd, Nat.reduceSub, Nat.reduceMul, Nat.reduceLT, Nat.reduceLeDiff, Int.reduceEq, Int.reduceNe, Int.reduceLT, Int.reduceLE, Int.reduceBEq, Int.reduceBNe, Int.reduceToNat]
            exact err 5 _ (by unfold Ms.e; rw [if_neg k1, if_neg k2, if_neg k3, if_pos (by omega)]) (by omega) hs.drop.drop
          · simp (disch := omega) only [go_sem, reduceCtorEq, ↓reduceIte, Nat.reduceEqDiff, Nat.reduceAdd, Nat.reduceSub, Nat.reduceMul, Nat.reduceLT, Nat.reduceLeDiff, Int.reduceEq, Int.reduceNe, Int.reduceLT, Int.reduceLE, Int.reduceBEq, Int.reduceBNe, Int.reduceToNat]
            have h0 : m.e = 0 := by unfold Ms.e; rw [if_neg k1, if_neg k2, if_neg k3, if_neg (by omega)]
            refine call_use (pFrame hs (fun _ _ => Els.lst (eb_one m.B)) (by omega)) ?_
            intro r h hs
            simp (disch := omega) only [go_sem, reduceCtorEq, ↓reduceIte, Nat.reduceEqDiff, Nat.reduceAdd, Nat.reduceSub, Nat.reduceMul, Nat.reduceLT, Nat.reduceLeDiff, Int.reduceEq, Int.reduceNe, Int.reduceLT, Int.reduceLE, Int.reduceBEq, Int.reduceBNe, Int.reduceToNat]
            refine fin r 0 h [] h0 ?_
            have : m.enc = frameB m.B := by unfold Ms.enc; rw [if_pos h0]
            rw [this]
            exact hs.d1.d1
end
end Go.Proofs.Ytfbflmiipepmiaa
