/- net: messages apart, messages on their way. -/
import Derived.Test.YtfbflmiipepmiaaR2NetH
import Derived.Test.YtfbflmiipepmiaaHzSl
set_option linter.unusedSimpArgs false
set_option linter.unusedVariables false
set_option maxRecDepth 10000
namespace Go.Proofs.Ytfbflmiipepmiaa
open Go.Hz

section
variable {h : Hp} {F : List Asr} {n : Nat} {w : AV} {l : List Ms}

theorem cloneB (hs : sat h F) {l : List UInt8} (hl : l.length ≤ 1000000000000) : Triple Try.prog 87 [bytesV l] h (fun r h => r = bytesV l ∧ sat h F) :=
  Triple.lst 1 ((clone hs (fun _ _ => Els.lst (eb_one _)) hl).mono fun r h hs => ⟨_, F, hs, fun h hs => ⟨rfl, hs⟩⟩)

theorem atoms_ints (l : List Int) : AtomsL (l.map fun k => [AV.int .i64 k]) := by
  intro e he v hv
  obtain ⟨k, _, rfl⟩ := List.mem_map.1 he
  simp at hv; subst hv; rfl

theorem cloneI (hs : sat h F) {l : List Int} (hl : l.length ≤ 1000000000000) : Triple Try.prog 100 [intsV l] h (fun r h => r = intsV l ∧ sat h F) := by
  refine Triple.lst 1 ?_
  have key : ∀ v : AV, v ≠ .lst [] → (∀ h, sat h F → Els h 1 v (l.map fun k => [AV.int .i64 k])) → Triple Try.prog 100 [v] h (fun r h' => ∃ es F', sat h' (Ow 1 r es :: F') ∧ ∀ h'', sat h'' F' → ((AV.lst es) = intsV l ∧ sat h'' F)) := by
    intro v hn hE
    refine t100 (Nat.le_of_ble_eq_true rfl) ?_
    rcases Els.nil (hE _ hs) hn with ⟨rfl, he⟩ | ⟨_, hq⟩
    · simp (disch := omega) only [F100, go_sem, reduceCtorEq, ↓reduceIte, Nat.reduceEqDiff, Nat.reduceAdd, Nat.reduceSub, Nat.reduceMul, Nat.reduceLT, Nat.reduceLeDiff, Int.reduceEq, Int.reduceNe, Int.reduceLT, Int.reduceLE, Int.reduceBEq, Int.reduceBNe, Int.reduceToNat]
      have : l = [] := by simpa using he
      subst this
      exact ⟨[], F, hs.add ow_nil, fun h hs => ⟨rfl, hs⟩⟩
    · simp (disch := omega) only [F100, go_sem, reduceCtorEq, ↓reduceIte, Nat.reduceEqDiff, Nat.reduceAdd, Nat.reduceSub, Nat.reduceMul, Nat.reduceLT, Nat.reduceLeDiff, Int.reduceEq, Int.reduceNe, Int.reduceLT, Int.reduceLE, Int.reduceBEq, Int.reduceBNe, Int.reduceToNat, hq]
      refine new_sat hs fun n hn hs => ?_
      simp (disch := omega) only [go_sem, reduceCtorEq, ↓reduceIte, Nat.reduceEqDiff, Nat.reduceAdd, Nat.reduceSub, Nat.reduceMul, Nat.reduceLT, Nat.reduceLeDiff, Int.reduceEq, Int.reduceNe, Int.reduceLT, Int.reduceLE, Int.reduceBEq, Int.reduceBNe, Int.reduceToNat]
      have hy := (hE _ hs.drop).1
      refine app_sat (hs.ow (Nat.zero_le _)) hy (atoms_ints _) (by simp; omega) fun v' h hs hc' ha' => ?_
      simp (disch := omega) only [go_sem, reduceCtorEq, ↓reduceIte, Nat.reduceEqDiff, Nat.reduceAdd, Nat.reduceSub, Nat.reduceMul, Nat.reduceLT, Nat.reduceLeDiff, Int.reduceEq, Int.reduceNe, Int.reduceLT, Int.reduceLE, Int.reduceBEq, Int.reduceBNe, Int.reduceToNat, hc']
      exact ⟨_, F, hs, fun h hs => ⟨by simp [intsV], hs⟩⟩
  by_cases hn : l = []
  · subst hn
    exact Triple.lst0 (pre := []) (suf := []) (key .nils (by simp) fun _ _ => ⟨rfl, by simp⟩) (key .emp (by simp) fun _ _ => ⟨rfl, by simp⟩)
  · exact key _ (by simp [intsV, hn]) fun _ _ => Els.lst fun e he => by
      obtain ⟨k, _, rfl⟩ := List.mem_map.1 he; rfl

theorem twin (hs : sat h F) {m : Ms} (hm : m.es.length ≤ 1048576 ∧ m.vs.length ≤ 1048576 ∧ m.data.length + sumD m.es ≤ 1048576) : Triple Try.prog 71 [.agg m.cells] h (fun r h => r = .agg m.cells ∧ sat h F) := by
  obtain ⟨h1, h2, h3⟩ := hm
  refine Triple.view ?_
  refine t71 (Nat.le_of_ble_eq_true rfl) ?_
  simp (disch := omega) only [F71, Ms.cells, go_sem, reduceCtorEq, ↓reduceIte, Nat.reduceEqDiff, Nat.reduceAdd, Nat.reduceSub, Nat.reduceMul, Nat.reduceLT, Nat.reduceLeDiff, Int.reduceEq, Int.reduceNe, Int.reduceLT, Int.reduceLE, Int.reduceBEq, Int.reduceBNe, Int.reduceToNat]
  refine new_opq hs fun n1 h hs => ?_
  simp (disch := omega) only [go_sem, reduceCtorEq, ↓reduceIte, Nat.reduceEqDiff, Nat.reduceAdd, Nat.reduceSub, Nat.reduceMul, Nat.reduceLT, Nat.reduceLeDiff, Int.reduceEq, Int.reduceNe, Int.reduceLT, Int.reduceLE, Int.reduceBEq, Int.reduceBNe, Int.reduceToNat, hs.at]
  refine new_opq hs fun n2 h hs => ?_
  simp (disch := omega) only [go_sem, reduceCtorEq, ↓reduceIte, Nat.reduceEqDiff, Nat.reduceAdd, Nat.reduceSub, Nat.reduceMul, Nat.reduceLT, Nat.reduceLeDiff, Int.reduceEq, Int.reduceNe, Int.reduceLT, Int.reduceLE, Int.reduceBEq, Int.reduceBNe, Int.reduceToNat, hs.at, hs.p1.at]
  refine msl_use hs (by omega) (by omega) fun b h hs => ?_
  simp (disch := omega) only [go_sem, reduceCtorEq, ↓reduceIte, Nat.reduceEqDiff, Nat.reduceAdd, Nat.reduceSub, Nat.reduceMul, Nat.reduceLT, Nat.reduceLeDiff, Int.reduceEq, Int.reduceNe, Int.reduceLT, Int.reduceLE, Int.reduceBEq, Int.reduceBNe, Int.reduceToNat, hs.p2.at]
  have hel : srcN 4 h (ensV m.es) (min m.es.length m.es.length) = some (m.es.map En.row) := by
    rw [Nat.min_self]
    have := srcN_of (n := m.es.length) (Els.lst (s := 4) (h := h) (es := m.es.map En.row) fun e he => by obtain ⟨k, _, rfl⟩ := List.mem_map.1 he; rfl).1 (by simp)
    rw [List.take_of_length_le (by simp)] at this
    exact this
  refine cp_use hs (Nat.zero_le _) (by omega) (Nat.le_refl _) (by simp [lenN, ensV]) hel ?_ fun h hs => ?_
  · intro e he v hv
    obtain ⟨k, _, rfl⟩ := List.mem_map.1 he
    simp only [En.row, List.mem_cons, List.not_mem_nil, or_false] at hv
    rcases hv with rfl | rfl | rfl | rfl <;> rfl
  simp only [List.take_zero, List.nil_append, Nat.min_self, Nat.zero_add] at hs
  rw [List.drop_eq_nil_of_le (by simp), List.append_nil] at hs
  simp (disch := omega) only [go_sem, reduceCtorEq, ↓reduceIte, Nat.reduceEqDiff, Nat.reduceAdd, Nat.reduceSub, Nat.reduceMul, Nat.reduceLT, Nat.reduceLeDiff, Int.reduceEq, Int.reduceNe, Int.reduceLT, Int.reduceLE, Int.reduceBEq, Int.reduceBNe, Int.reduceToNat]
  generalize hzz : [AV.int .i64 0, .int .i64 0, .int .i64 0, .int .i64 0, .int .i64 0, .int .i64 0, .nils, .int .i64 0, .int .i64 0, .bool false, .int .i64 0, .int .i64 0, .int .i64 0, .nils, .nils] = zz at hs
  have hs0 : sat h (pto b (.row 4 (m.es.map En.row) m.es.length) :: pto n2 (.row 15 [zz] 1) :: pto n1 (.row 15 [m.cells] 1) :: F) := hs
  refine run_up (N := m.es.length) (fun i e h => sat h (pto b (.row 4 (m.es.map En.row) m.es.length) :: pto n2 (.row 15 [zz] 1) :: pto n1 (.row 15 [m.cells] 1) :: F) ∧
    (e 1 = .ptr n1 15 0 0 ∧ e 2 = .ptr n2 15 0 0 ∧ e 3 = .arr b 4 0 m.es.length m.es.length ∧ e 14 = .int .i64 m.es.length ∧ e 15 = .int .i64 i)) ⟨hs0, by refine ⟨?_, ?_, ?_, ?_, ?_⟩ <;> rfl⟩ ?_
  rintro i e h hi ⟨hs, he⟩
  simp (disch := omega) only [go_sem, reduceCtorEq, ↓reduceIte, Nat.reduceEqDiff, Nat.reduceAdd, Nat.reduceSub, Nat.reduceMul, Nat.reduceLT, Nat.reduceLeDiff, Int.reduceEq, Int.reduceNe, Int.reduceLT, Int.reduceLE, Int.reduceBEq, Int.reduceBNe, Int.reduceToNat, he]
  refine cnd_dec (fun hc => ?_) (fun hc => ?_)
  · have hi' : i < m.es.length := by omega
    have hrow : (m.es.map En.row)[i]? = some [.int .i64 m.es[i].idx, .int .i64 m.es[i].term, .int .i64 m.es[i].kind, bytesV m.es[i].data] := by simp [hi', En.row]
    have hdl := data_le (List.getElem_mem hi')
    simp (disch := omega) only [go_sem, reduceCtorEq, ↓reduceIte, Nat.reduceEqDiff, Nat.reduceAdd, Nat.reduceSub, Nat.reduceMul, Nat.reduceLT, Nat.reduceLeDiff, Int.reduceEq, Int.reduceNe, Int.reduceLT, Int.reduceLE, Int.reduceBEq, Int.reduceBNe, Int.reduceToNat, he, hs.at, hrow, Int.toNat_natCast]
    refine call_use (cloneB hs (l := m.es[i].data) (by omega)) ?_
    rintro r h ⟨hr, hs⟩
    subst hr
    simp (disch := omega) only [go_sem, reduceCtorEq, ↓reduceIte, Nat.reduceEqDiff, Nat.reduceAdd, Nat.reduceSub, Nat.reduceMul, Nat.reduceLT, Nat.reduceLeDiff, Int.reduceEq, Int.reduceNe, Int.reduceLT, Int.reduceLE, Int.reduceBEq, Int.reduceBNe, Int.reduceToNat, he, hs.at, hrow, Int.toNat_natCast]
    refine ⟨hi', ?_, rfl⟩
    have e1 : (m.es.map En.row).set i [.int .i64 m.es[i].idx, .int .i64 m.es[i].term, .int .i64 m.es[i].kind, bytesV m.es[i].data] = m.es.map En.row := by
      apply List.ext_getElem (by simp)
      intro j h1 h2
      rw [List.getElem_set]
      split
      · rename_i hij; subst hij; simp [En.row]
      · rfl
    rw [e1]
    have := hs.set (o' := .row 4 (m.es.map En.row) m.es.length)
    exact this
  · simp (disch := omega) only [go_sem, reduceCtorEq, ↓reduceIte, Nat.reduceEqDiff, Nat.reduceAdd, Nat.reduceSub, Nat.reduceMul, Nat.reduceLT, Nat.reduceLeDiff, Int.reduceEq, Int.reduceNe, Int.reduceLT, Int.reduceLE, Int.reduceBEq, Int.reduceBNe, Int.reduceToNat, he, hs.p2.at, Ms.cells]
    refine call_use (cloneI hs.p2.set (l := m.vs) (by omega)) ?_
    rintro r h ⟨hr, hs⟩
    subst hr
    simp (disch := omega) only [go_sem, reduceCtorEq, ↓reduceIte, Nat.reduceEqDiff, Nat.reduceAdd, Nat.reduceSub, Nat.reduceMul, Nat.reduceLT, Nat.reduceLeDiff, Int.reduceEq, Int.reduceNe, Int.reduceLT, Int.reduceLE, Int.reduceBEq, Int.reduceBNe, Int.reduceToNat, he, hs.at]
    refine call_use (cloneB hs.set (l := m.data) (by omega)) ?_
    rintro r h ⟨hr, hs⟩
    subst hr
    simp (disch := omega) only [go_sem, reduceCtorEq, ↓reduceIte, Nat.reduceEqDiff, Nat.reduceAdd, Nat.reduceSub, Nat.reduceMul, Nat.reduceLT, Nat.reduceLeDiff, Int.reduceEq, Int.reduceNe, Int.reduceLT, Int.reduceLE, Int.reduceBEq, Int.reduceBNe, Int.reduceToNat, he, hs.at]
    subst hzz
    simp (disch := omega) only [go_sem, reduceCtorEq, ↓reduceIte, Nat.reduceEqDiff, Nat.reduceAdd, Nat.reduceSub, Nat.reduceMul, Nat.reduceLT, Nat.reduceLeDiff, Int.reduceEq, Int.reduceNe, Int.reduceLT, Int.reduceLE, Int.reduceBEq, Int.reduceBNe, Int.reduceToNat, he, hs.set.p2.at]
    have g := ((hs.set (o' := .row 15 [[.int .i64 m.kind, .int .i64 m.frm, .int .i64 m.to, .int .i64 m.term, .int .i64 m.index, .int .i64 m.lterm, .arr b 4 0 m.es.length m.es.length, .int .i64 m.commit, .int .i64 m.seq, .bool m.ok,
      .int .i64 m.mtch, .int .i64 m.mi, .int .i64 m.mt, intsV m.vs, bytesV m.data]] 1)).p2.set (o' := .row 15 [[.int .i64 m.kind, .int .i64 m.frm, .int .i64 m.to, .int .i64 m.term, .int .i64 m.index, .int .i64 m.lterm, .arr b 4 0 m.es.length m.es.length, .int .i64 m.commit, .int .i64 m.seq, .bool m.ok,
      .int .i64 m.mtch, .int .i64 m.mi, .int .i64 m.mt, intsV m.vs, bytesV m.data]] 1)).p2
    refine ⟨_, _, GV.agg [.int .i64 m.kind, .int .i64 m.frm, .int .i64 m.to, .int .i64 m.term, .int .i64 m.index, .int .i64 m.lterm] [.int .i64 m.commit, .int .i64 m.seq, .bool m.ok,
      .int .i64 m.mtch, .int .i64 m.mi, .int .i64 m.mt, intsV m.vs, bytesV m.data] (GV.arr g.at (by simp) (Nat.le_refl _)), rfl, ?_⟩
    exact g.del.drop.drop

theorem atoms_ms (l : List Ms) : AtomsL (l.map Ms.cells) := by
  intro e he v hv
  obtain ⟨m, _, rfl⟩ := List.mem_map.1 he
  simp only [Ms.cells, List.mem_cons, List.not_mem_nil, or_false] at hv
  rcases hv with rfl | rfl | rfl | rfl | rfl | rfl | rfl | rfl | rfl | rfl | rfl | rfl | rfl | rfl | rfl <;> rfl

theorem del15 {b cap i N : Nat} {es : List (List AV)} (hs : sat h (pto b (.row 15 es cap) :: F)) (hN : N = es.length) (hi : i < es.length) (hc : es.length ≤ cap) (hl : es.length ≤ 1000000000) (ha : AtomsL es) :
    Triple Try.prog 73 [.arr b 15 0 N cap, .int .i64 i, .int .i64 ((i : Int) + 1)] h (fun r h => r = .arr b 15 0 (N - 1) cap ∧ sat h (pto b (.row 15 (es.eraseIdx i) cap) :: F)) := by
  subst hN
  refine Triple.view ?_
  refine t73 (Nat.le_of_ble_eq_true rfl) ?_
  simp (disch := omega) only [F73, go_sem, reduceCtorEq, ↓reduceIte, Nat.reduceEqDiff, Nat.reduceAdd, Nat.reduceSub, Nat.reduceMul, Nat.reduceLT, Nat.reduceLeDiff, Int.reduceEq, Int.reduceNe, Int.reduceLT, Int.reduceLE, Int.reduceBEq, Int.reduceBNe, Int.reduceToNat]
  simp (disch := omega) only [go_sem, reduceCtorEq, ↓reduceIte, Nat.reduceEqDiff, Nat.reduceAdd, Nat.reduceSub, Nat.reduceMul, Nat.reduceLT, Nat.reduceLeDiff, Int.reduceEq, Int.reduceNe, Int.reduceLT, Int.reduceLE, Int.reduceBEq, Int.reduceBNe, Int.reduceToNat, slcM_go]
  have hq : ((i : Int) == (i : Int) + 1) = false := by
    rw [beq_eq_false_iff_ne]; omega
  have t1 : ((i : Int) + 1).toNat = i + 1 := by omega
  simp (disch := omega) only [go_sem, reduceCtorEq, ↓reduceIte, Nat.reduceEqDiff, Nat.reduceAdd, Nat.reduceSub, Nat.reduceMul, Nat.reduceLT, Nat.reduceLeDiff, Int.reduceEq, Int.reduceNe, Int.reduceLT, Int.reduceLE, Int.reduceBEq, Int.reduceBNe, Int.reduceToNat, hq, slcL_hi, slcL_lo, t1, Int.toNat_natCast]
  refine app_del hs rfl (by omega) (by omega) hc ha (by omega) fun h hs => ?_
  have e1 : i + (es.length - (i + 1)) = es.length - 1 := by omega
  have t2 : ((es.length - 1 : Nat) : Int).toNat = es.length - 1 := by omega
  have t3 : ((es.length : Int)).toNat = es.length := by omega
  simp (disch := omega) only [go_sem, reduceCtorEq, ↓reduceIte, Nat.reduceEqDiff, Nat.reduceAdd, Nat.reduceSub, Nat.reduceMul, Nat.reduceLT, Nat.reduceLeDiff, Int.reduceEq, Int.reduceNe, Int.reduceLT, Int.reduceLE, Int.reduceBEq, Int.reduceBNe, Int.reduceToNat, e1, slcL_lohi, t2, t3]
  have hl2 : (es.take i ++ es.drop (i + 1)).length = es.length - 1 := by simp; omega
  refine clr_use hs (by omega) (by omega) fun h hs => ?_
  simp (disch := omega) only [go_sem, reduceCtorEq, ↓reduceIte, Nat.reduceEqDiff, Nat.reduceAdd, Nat.reduceSub, Nat.reduceMul, Nat.reduceLT, Nat.reduceLeDiff, Int.reduceEq, Int.reduceNe, Int.reduceLT, Int.reduceLE, Int.reduceBEq, Int.reduceBNe, Int.reduceToNat]
  refine ⟨_, _, GV.trim _ (es.length - 1) hs.at, rfl, ?_⟩
  have := hs.set (o' := .row 15 (es.eraseIdx i) cap)
  have e2 : ∀ zs : List AV, List.take (es.length - 1) (List.take (es.length - 1) (es.take i ++ es.drop (i + 1)) ++ List.replicate (es.length - (es.length - 1)) zs ++ List.drop (es.length - 1 + (es.length - (es.length - 1))) (es.take i ++ es.drop (i + 1))) = es.eraseIdx i := fun zs => by
    rw [List.append_assoc, List.take_append_of_le_length (by rw [List.length_take]; omega), List.take_take, Nat.min_self, List.take_of_length_le (by omega), List.eraseIdx_eq_take_drop_succ]
  rw [e2]
  exact this

/-- What is on its way. -/
theorem nNew (hs : sat h F) : Triple Try.prog 22 [] h (fun r h => ∃ n, r = .ptr n 1 0 0 ∧ sat h (pto n (.row 1 [[.nils]] 1) :: F)) := by
  refine t22 (Nat.le_of_ble_eq_true rfl) ?_
  simp (disch := omega) only [F22, go_sem, reduceCtorEq, ↓reduceIte, Nat.reduceEqDiff, Nat.reduceAdd, Nat.reduceSub, Nat.reduceMul, Nat.reduceLT, Nat.reduceLeDiff, Int.reduceEq, Int.reduceNe, Int.reduceLT, Int.reduceLE, Int.reduceBEq, Int.reduceBNe, Int.reduceToNat]
  refine new_opq hs fun n h hs => ?_
  simp (disch := omega) only [go_sem, reduceCtorEq, ↓reduceIte, Nat.reduceEqDiff, Nat.reduceAdd, Nat.reduceSub, Nat.reduceMul, Nat.reduceLT, Nat.reduceLeDiff, Int.reduceEq, Int.reduceNe, Int.reduceLT, Int.reduceLE, Int.reduceBEq, Int.reduceBNe, Int.reduceToNat, hs.at]
  exact ⟨n, rfl, hs⟩

theorem nLen (hs : sat h (pto n (.row 1 [[w]] 1) :: Ow 15 w (l.map Ms.cells) :: F)) : Triple Try.prog 27 [.ptr n 1 0 0] h (fun r h => r = .int .i64 l.length ∧ sat h (pto n (.row 1 [[w]] 1) :: Ow 15 w (l.map Ms.cells) :: F)) := by
  refine t27 (Nat.le_of_ble_eq_true rfl) ?_
  simp (disch := omega) only [F27, go_sem, reduceCtorEq, ↓reduceIte, Nat.reduceEqDiff, Nat.reduceAdd, Nat.reduceSub, Nat.reduceMul, Nat.reduceLT, Nat.reduceLeDiff, Int.reduceEq, Int.reduceNe, Int.reduceLT, Int.reduceLE, Int.reduceBEq, Int.reduceBNe, Int.reduceToNat]
  have hl := Els.len hs.p1.els
  simp (disch := omega) only [go_sem, reduceCtorEq, ↓reduceIte, Nat.reduceEqDiff, Nat.reduceAdd, Nat.reduceSub, Nat.reduceMul, Nat.reduceLT, Nat.reduceLeDiff, Int.reduceEq, Int.reduceNe, Int.reduceLT, Int.reduceLE, Int.reduceBEq, Int.reduceBNe, Int.reduceToNat, hs.at, hl]
  exact hs

theorem nPlace0 (hs : sat h (pto n (.row 1 [[w]] 1) :: Ow 15 w (([] : List Ms).map Ms.cells) :: F)) (k : Int) :
    Triple Try.prog 72 [.ptr n 1 0 0, .int .i64 k] h (fun r h => r = .tup [.int .i64 0, .bool false] ∧ sat h (pto n (.row 1 [[w]] 1) :: Ow 15 w (([] : List Ms).map Ms.cells) :: F)) := by
  refine t72 (Nat.le_of_ble_eq_true rfl) ?_
  simp (disch := omega) only [F72, go_sem, reduceCtorEq, ↓reduceIte, Nat.reduceEqDiff, Nat.reduceAdd, Nat.reduceSub, Nat.reduceMul, Nat.reduceLT, Nat.reduceLeDiff, Int.reduceEq, Int.reduceNe, Int.reduceLT, Int.reduceLE, Int.reduceBEq, Int.reduceBNe, Int.reduceToNat]
  have hl := Els.len hs.p1.els
  simp only [List.map_nil, List.length_nil] at hl
  simp (disch := omega) only [go_sem, reduceCtorEq, ↓reduceIte, Nat.reduceEqDiff, Nat.reduceAdd, Nat.reduceSub, Nat.reduceMul, Nat.reduceLT, Nat.reduceLeDiff, Int.reduceEq, Int.reduceNe, Int.reduceLT, Int.reduceLE, Int.reduceBEq, Int.reduceBNe, Int.reduceToNat, hs.at, hl]
  exact hs

theorem nPlace (hs : sat h (pto n (.row 1 [[w]] 1) :: Ow 15 w (l.map Ms.cells) :: F)) (hl0 : 0 < l.length) (hl1 : l.length ≤ 1000000000) {k : Int} (hk : inI k) :
    Triple Try.prog 72 [.ptr n 1 0 0, .int .i64 k] h (fun r h => ∃ j : Nat, r = .tup [.int .i64 j, .bool true] ∧ (j : Int) = k % l.length ∧ j < l.length ∧ sat h (pto n (.row 1 [[w]] 1) :: Ow 15 w (l.map Ms.cells) :: F)) := by
  refine t72 (Nat.le_of_ble_eq_true rfl) ?_
  simp (disch := omega) only [F72, go_sem, reduceCtorEq, ↓reduceIte, Nat.reduceEqDiff, Nat.reduceAdd, Nat.reduceSub, Nat.reduceMul, Nat.reduceLT, Nat.reduceLeDiff, Int.reduceEq, Int.reduceNe, Int.reduceLT, Int.reduceLE, Int.reduceBEq, Int.reduceBNe, Int.reduceToNat]
  have hl := Els.len hs.p1.els
  have hz : ((l.length : Int) == 0) = false := by rw [beq_eq_false_iff_ne]; omega
  have m1 := Int.tmod_lt_of_pos k (b := l.length) (by omega)
  have m2 : -(l.length : Int) < k.tmod l.length := by
    have := Int.tmod_lt_of_pos (-k) (b := l.length) (by omega)
    rw [Int.neg_tmod] at this
    omega
  have hn0 : ¬ (l.length : Int) = 0 := by omega
  have e := Int.mul_tdiv_add_tmod k l.length
  have em : k % l.length = (k.tmod l.length) % l.length := by
    conv => lhs; rw [← e]
    rw [Int.mul_add_emod_self_left]
  simp (disch := omega) only [go_sem, reduceCtorEq, ↓reduceIte, Nat.reduceEqDiff, Nat.reduceAdd, Nat.reduceSub, Nat.reduceMul, Nat.reduceLT, Nat.reduceLeDiff, Int.reduceEq, Int.reduceNe, Int.reduceLT, Int.reduceLE, Int.reduceBEq, Int.reduceBNe, Int.reduceToNat, hs.at, hl, hz, hn0]
  have e2 : (k.tmod l.length + l.length).tmod l.length = k % l.length := by
    rw [Int.tmod_eq_emod_of_nonneg (by omega), Int.add_emod_right, ← em]
  have e3 := Int.emod_nonneg k hn0
  have e4 := Int.emod_lt_of_pos k (b := l.length) (by omega)
  rw [e2]
  exact ⟨(k % l.length).toNat, by congr 3; omega, by omega, by omega, hs⟩

theorem nDeliver0 (hs : sat h (pto n (.row 1 [[w]] 1) :: Ow 15 w (([] : List Ms).map Ms.cells) :: F)) (k : Int) :
    Triple Try.prog 24 [.ptr n 1 0 0, .int .i64 k] h (fun r h => r = .tup [.agg Ms.zero.cells, .int .i64 2] ∧ sat h (pto n (.row 1 [[w]] 1) :: Ow 15 w (([] : List Ms).map Ms.cells) :: F)) := by
  refine Triple.view ?_
  refine t24 (Nat.le_of_ble_eq_true rfl) ?_
  simp (disch := omega) only [F24, go_sem, reduceCtorEq, ↓reduceIte, Nat.reduceEqDiff, Nat.reduceAdd, Nat.reduceSub, Nat.reduceMul, Nat.reduceLT, Nat.reduceLeDiff, Int.reduceEq, Int.reduceNe, Int.reduceLT, Int.reduceLE, Int.reduceBEq, Int.reduceBNe, Int.reduceToNat]
  refine new_opq hs fun n4 h hs => ?_
  simp (disch := omega) only [go_sem, reduceCtorEq, ↓reduceIte, Nat.reduceEqDiff, Nat.reduceAdd, Nat.reduceSub, Nat.reduceMul, Nat.reduceLT, Nat.reduceLeDiff, Int.reduceEq, Int.reduceNe, Int.reduceLT, Int.reduceLE, Int.reduceBEq, Int.reduceBNe, Int.reduceToNat, hs.at]
  refine call_use (nPlace0 hs.p2.p2 k) ?_
  rintro r h ⟨hr, hs⟩
  subst hr
  simp (disch := omega) only [go_sem, reduceCtorEq, ↓reduceIte, Nat.reduceEqDiff, Nat.reduceAdd, Nat.reduceSub, Nat.reduceMul, Nat.reduceLT, Nat.reduceLeDiff, Int.reduceEq, Int.reduceNe, Int.reduceLT, Int.reduceLE, Int.reduceBEq, Int.reduceBNe, Int.reduceToNat, hs.p2.at]
  exact ⟨_, _, GV.zeroM _ _, rfl, hs.p2.set.drop⟩

theorem nDeliver (hs : sat h (pto n (.row 1 [[w]] 1) :: Ow 15 w (l.map Ms.cells) :: F)) (hl0 : 0 < l.length) (hl1 : l.length ≤ 1000000000) {k : Int} (hk : inI k) :
    Triple Try.prog 24 [.ptr n 1 0 0, .int .i64 k] h (fun r h => ∃ (j : Nat) (hj : j < l.length) (w' : AV), (j : Int) = k % l.length ∧ r = .tup [.agg l[j].cells, .int .i64 0] ∧ sat h (pto n (.row 1 [[w']] 1) :: Ow 15 w' ((l.eraseIdx j).map Ms.cells) :: F)) := by
  refine t24 (Nat.le_of_ble_eq_true rfl) ?_
  simp (disch := omega) only [F24, go_sem, reduceCtorEq, ↓reduceIte, Nat.reduceEqDiff, Nat.reduceAdd, Nat.reduceSub, Nat.reduceMul, Nat.reduceLT, Nat.reduceLeDiff, Int.reduceEq, Int.reduceNe, Int.reduceLT, Int.reduceLE, Int.reduceBEq, Int.reduceBNe, Int.reduceToNat]
  refine new_opq hs fun n4 h hs => ?_
  simp (disch := omega) only [go_sem, reduceCtorEq, ↓reduceIte, Nat.reduceEqDiff, Nat.reduceAdd, Nat.reduceSub, Nat.reduceMul, Nat.reduceLT, Nat.reduceLeDiff, Int.reduceEq, Int.reduceNe, Int.reduceLT, Int.reduceLE, Int.reduceBEq, Int.reduceBNe, Int.reduceToNat, hs.at]
  refine call_use (nPlace hs.p2.p2 hl0 hl1 hk) ?_
  rintro r h ⟨j, hr, hj, hjl, hs⟩
  subst hr
  have hs := hs.p1
  rcases hs.cases with ⟨_, h0, _⟩ | ⟨bl, cap, hv, g, hcap⟩
  · have : l = [] := by simpa using h0
    subst this
    simp at hl0
  rw [List.length_map] at hv hcap
  have hrow : (l.map Ms.cells)[j]? = some l[j].cells := by simp [hjl]
  simp (disch := omega) only [go_sem, reduceCtorEq, ↓reduceIte, Nat.reduceEqDiff, Nat.reduceAdd, Nat.reduceSub, Nat.reduceMul, Nat.reduceLT, Nat.reduceLeDiff, Int.reduceEq, Int.reduceNe, Int.reduceLT, Int.reduceLE, Int.reduceBEq, Int.reduceBNe, Int.reduceToNat, g.p1.at, hv, g.at, hrow, Int.toNat_natCast]
  have hs := g
  refine new_opq hs fun n8 h hs => ?_
  simp (disch := omega) only [go_sem, reduceCtorEq, ↓reduceIte, Nat.reduceEqDiff, Nat.reduceAdd, Nat.reduceSub, Nat.reduceMul, Nat.reduceLT, Nat.reduceLeDiff, Int.reduceEq, Int.reduceNe, Int.reduceLT, Int.reduceLE, Int.reduceBEq, Int.reduceBNe, Int.reduceToNat, hs.at, hs.set.p2.at, hv]
  refine call_use (del15 (N := l.length) hs.set.p1 (by simp) (by simpa using hjl) (by simpa using hcap) (by simpa using hl1) (atoms_ms _)) ?_
  rintro r h ⟨hr, hs⟩
  subst hr
  simp (disch := omega) only [go_sem, reduceCtorEq, ↓reduceIte, Nat.reduceEqDiff, Nat.reduceAdd, Nat.reduceSub, Nat.reduceMul, Nat.reduceLT, Nat.reduceLeDiff, Int.reduceEq, Int.reduceNe, Int.reduceLT, Int.reduceLE, Int.reduceBEq, Int.reduceBNe, Int.reduceToNat, hs.p2.at]
  have g8 := (hs.p2.set (o' := .row 1 [[.arr bl 15 0 (l.length - 1) cap]] 1)).p2
  simp (disch := omega) only [go_sem, reduceCtorEq, ↓reduceIte, Nat.reduceEqDiff, Nat.reduceAdd, Nat.reduceSub, Nat.reduceMul, Nat.reduceLT, Nat.reduceLeDiff, Int.reduceEq, Int.reduceNe, Int.reduceLT, Int.reduceLE, Int.reduceBEq, Int.reduceBNe, Int.reduceToNat, g8.at, g8.p3.at, Ms.cells]
  have em : (l.map Ms.cells).eraseIdx j = (l.eraseIdx j).map Ms.cells := by simp [List.eraseIdx_eq_take_drop_succ, List.map_take, List.map_drop]
  have el : ((l.eraseIdx j).map Ms.cells).length = l.length - 1 := by rw [List.length_map, List.length_eraseIdx_of_lt hjl]
  rw [em] at g8
  have g4 := (g8.p3.set (o' := .row 15 [l[j].cells] 1)).p3.ow (by rw [el]; omega)
  rw [el] at g4
  exact ⟨j, hjl, .arr bl 15 0 (l.length - 1) cap, hj, rfl, g4.p3.d2.d2⟩

/-- One message is sent. -/
theorem nSend {b c : Nat} {m : Ms} (hs : sat h (pto n (.row 1 [[w]] 1) :: Ow 15 w (l.map Ms.cells) :: pto b (.row 15 [m.cells] c) :: F)) (hm : m.es.length ≤ 1048576 ∧ m.vs.length ≤ 1048576 ∧ m.data.length + sumD m.es ≤ 1048576) (hl1 : l.length ≤ 1000000000) :
    Triple Try.prog 23 [.ptr n 1 0 0, .arr b 15 0 1 1] h (fun r h => ∃ w', sat h (pto n (.row 1 [[w']] 1) :: Ow 15 w' ((l ++ [m]).map Ms.cells) :: F)) := by
  refine t23 (Nat.le_of_ble_eq_true rfl) ?_
  simp (disch := omega) only [F23, go_sem, reduceCtorEq, ↓reduceIte, Nat.reduceEqDiff, Nat.reduceAdd, Nat.reduceSub, Nat.reduceMul, Nat.reduceLT, Nat.reduceLeDiff, Int.reduceEq, Int.reduceNe, Int.reduceLT, Int.reduceLE, Int.reduceBEq, Int.reduceBNe, Int.reduceToNat]
  refine run_up (N := 1) (fun i e h => ∃ w, sat h (pto n (.row 1 [[w]] 1) :: Ow 15 w ((l ++ [m].take i).map Ms.cells) :: pto b (.row 15 [m.cells] c) :: F) ∧ (e 0 = .ptr n 1 0 0 ∧ e 6 = .arr b 15 0 1 1 ∧ e 7 = .int .i64 1 ∧ e 8 = .int .i64 i)) ⟨w, by simpa using hs, rfl, rfl, rfl, rfl⟩ ?_
  rintro i e h hi ⟨w, hs, he⟩
  simp (disch := omega) only [go_sem, reduceCtorEq, ↓reduceIte, Nat.reduceEqDiff, Nat.reduceAdd, Nat.reduceSub, Nat.reduceMul, Nat.reduceLT, Nat.reduceLeDiff, Int.reduceEq, Int.reduceNe, Int.reduceLT, Int.reduceLE, Int.reduceBEq, Int.reduceBNe, Int.reduceToNat, he]
  refine cnd_dec (fun hc => ?_) (fun hc => ?_)
  · have : i = 0 := by omega
    subst this
    simp (disch := omega) only [go_sem, reduceCtorEq, ↓reduceIte, Nat.reduceEqDiff, Nat.reduceAdd, Nat.reduceSub, Nat.reduceMul, Nat.reduceLT, Nat.reduceLeDiff, Int.reduceEq, Int.reduceNe, Int.reduceLT, Int.reduceLE, Int.reduceBEq, Int.reduceBNe, Int.reduceToNat, he, hs.p2.at, Ms.cells]
    refine new_opq hs fun n5 h hs => ?_
    simp (disch := omega) only [go_sem, reduceCtorEq, ↓reduceIte, Nat.reduceEqDiff, Nat.reduceAdd, Nat.reduceSub, Nat.reduceMul, Nat.reduceLT, Nat.reduceLeDiff, Int.reduceEq, Int.reduceNe, Int.reduceLT, Int.reduceLE, Int.reduceBEq, Int.reduceBNe, Int.reduceToNat, hs.at, he, hs.set.p1.at]
    refine call_use' (twin hs.set (m := m) hm) ?_
    rintro r h ⟨hr, hs⟩
    subst hr
    simp (disch := omega) only [go_sem, reduceCtorEq, ↓reduceIte, Nat.reduceEqDiff, Nat.reduceAdd, Nat.reduceSub, Nat.reduceMul, Nat.reduceLT, Nat.reduceLeDiff, Int.reduceEq, Int.reduceNe, Int.reduceLT, Int.reduceLE, Int.reduceBEq, Int.reduceBNe, Int.reduceToNat, he, hs.p1.at]
    refine new_opq hs fun nb h hs => ?_
    simp (disch := omega) only [go_sem, reduceCtorEq, ↓reduceIte, Nat.reduceEqDiff, Nat.reduceAdd, Nat.reduceSub, Nat.reduceMul, Nat.reduceLT, Nat.reduceLeDiff, Int.reduceEq, Int.reduceNe, Int.reduceLT, Int.reduceLE, Int.reduceBEq, Int.reduceBNe, Int.reduceToNat, hs.at, he]
    have hx : srcA 15 h (.arr nb 15 0 1 1) = some [m.cells] := src_one hs.at
    refine app_sat hs.p3 hx (atoms_ms [m]) (by simp; omega) fun v' h hs hc' ha' => ?_
    simp (disch := omega) only [go_sem, reduceCtorEq, ↓reduceIte, Nat.reduceEqDiff, Nat.reduceAdd, Nat.reduceSub, Nat.reduceMul, Nat.reduceLT, Nat.reduceLeDiff, Int.reduceEq, Int.reduceNe, Int.reduceLT, Int.reduceLE, Int.reduceBEq, Int.reduceBNe, Int.reduceToNat, he, hs.p3.at, hc', ha']
    refine ⟨v', ?_, rfl⟩
    have := (hs.p3.set (o' := .row 1 [[v']] 1)).d2.d2
    rw [List.take_zero, List.append_nil] at this
    rw [List.map_append]
    exact this
  · have : i = 1 := by omega
    subst this
    simp (disch := omega) only [go_sem, reduceCtorEq, ↓reduceIte, Nat.reduceEqDiff, Nat.reduceAdd, Nat.reduceSub, Nat.reduceMul, Nat.reduceLT, Nat.reduceLeDiff, Int.reduceEq, Int.reduceNe, Int.reduceLT, Int.reduceLE, Int.reduceBEq, Int.reduceBNe, Int.reduceToNat, he]
    exact ⟨w, by simpa using hs.d2⟩

theorem nDrop0 (hs : sat h (pto n (.row 1 [[w]] 1) :: Ow 15 w (([] : List Ms).map Ms.cells) :: F)) (k : Int) :
    Triple Try.prog 25 [.ptr n 1 0 0, .int .i64 k] h (fun r h => r = .int .i64 2 ∧ sat h (pto n (.row 1 [[w]] 1) :: Ow 15 w (([] : List Ms).map Ms.cells) :: F)) := by
  refine t25 (Nat.le_of_ble_eq_true rfl) ?_
  simp (disch := omega) only [F25, go_sem, reduceCtorEq, ↓reduceIte, Nat.reduceEqDiff, Nat.reduceAdd, Nat.reduceSub, Nat.reduceMul, Nat.reduceLT, Nat.reduceLeDiff, Int.reduceEq, Int.reduceNe, Int.reduceLT, Int.reduceLE, Int.reduceBEq, Int.reduceBNe, Int.reduceToNat]
  refine call_use (nDeliver0 hs k) ?_
  rintro r h ⟨hr, hs⟩
  subst hr
  simp (disch := omega) only [go_sem, reduceCtorEq, ↓reduceIte, Nat.reduceEqDiff, Nat.reduceAdd, Nat.reduceSub, Nat.reduceMul, Nat.reduceLT, Nat.reduceLeDiff, Int.reduceEq, Int.reduceNe, Int.reduceLT, Int.reduceLE, Int.reduceBEq, Int.reduceBNe, Int.reduceToNat]
  refine new_opq hs fun n5 h hs => ?_
  simp (disch := omega) only [go_sem, reduceCtorEq, ↓reduceIte, Nat.reduceEqDiff, Nat.reduceAdd, Nat.reduceSub, Nat.reduceMul, Nat.reduceLT, Nat.reduceLeDiff, Int.reduceEq, Int.reduceNe, Int.reduceLT, Int.reduceLE, Int.reduceBEq, Int.reduceBNe, Int.reduceToNat, hs.at]
  exact hs.set.drop
theorem nDrop (hs : sat h (pto n (.row 1 [[w]] 1) :: Ow 15 w (l.map Ms.cells) :: F)) (hl0 : 0 < l.length) (hl1 : l.length ≤ 1000000000) {k : Int} (hk : inI k) :
    Triple Try.prog 25 [.ptr n 1 0 0, .int .i64 k] h (fun r h => ∃ (j : Nat) (hj : j < l.length) (w' : AV), (j : Int) = k % l.length ∧ r = .int .i64 0 ∧ sat h (pto n (.row 1 [[w']] 1) :: Ow 15 w' ((l.eraseIdx j).map Ms.cells) :: F)) := by
  refine t25 (Nat.le_of_ble_eq_true rfl) ?_
  simp (disch := omega) only [F25, go_sem, reduceCtorEq, ↓reduceIte, Nat.reduceEqDiff, Nat.reduceAdd, Nat.reduceSub, Nat.reduceMul, Nat.reduceLT, Nat.reduceLeDiff, Int.reduceEq, Int.reduceNe, Int.reduceLT, Int.reduceLE, Int.reduceBEq, Int.reduceBNe, Int.reduceToNat]
  refine call_use (nDeliver hs hl0 hl1 hk) ?_
  rintro r h ⟨j, hj, w', hje, hr, hs⟩
  subst hr
  simp (disch := omega) only [go_sem, reduceCtorEq, ↓reduceIte, Nat.reduceEqDiff, Nat.reduceAdd, Nat.reduceSub, Nat.reduceMul, Nat.reduceLT, Nat.reduceLeDiff, Int.reduceEq, Int.reduceNe, Int.reduceLT, Int.reduceLE, Int.reduceBEq, Int.reduceBNe, Int.reduceToNat]
  refine new_opq hs fun n5 h hs => ?_
  simp (disch := omega) only [go_sem, reduceCtorEq, ↓reduceIte, Nat.reduceEqDiff, Nat.reduceAdd, Nat.reduceSub, Nat.reduceMul, Nat.reduceLT, Nat.reduceLeDiff, Int.reduceEq, Int.reduceNe, Int.reduceLT, Int.reduceLE, Int.reduceBEq, Int.reduceBNe, Int.reduceToNat, hs.at, Ms.cells]
  exact ⟨j, hj, w', hje, hs.set.drop⟩
theorem nDouble0 (hs : sat h (pto n (.row 1 [[w]] 1) :: Ow 15 w (([] : List Ms).map Ms.cells) :: F)) (k : Int) :
    Triple Try.prog 26 [.ptr n 1 0 0, .int .i64 k] h (fun r h => r = .int .i64 2 ∧ sat h (pto n (.row 1 [[w]] 1) :: Ow 15 w (([] : List Ms).map Ms.cells) :: F)) := by
  refine t26 (Nat.le_of_ble_eq_true rfl) ?_
  simp (disch := omega) only [F26, go_sem, reduceCtorEq, ↓reduceIte, Nat.reduceEqDiff, Nat.reduceAdd, Nat.reduceSub, Nat.reduceMul, Nat.reduceLT, Nat.reduceLeDiff, Int.reduceEq, Int.reduceNe, Int.reduceLT, Int.reduceLE, Int.reduceBEq, Int.reduceBNe, Int.reduceToNat]
  refine call_use (nPlace0 hs k) ?_
  rintro r h ⟨hr, hs⟩
  subst hr
  simp (disch := omega) only [go_sem, reduceCtorEq, ↓reduceIte, Nat.reduceEqDiff, Nat.reduceAdd, Nat.reduceSub, Nat.reduceMul, Nat.reduceLT, Nat.reduceLeDiff, Int.reduceEq, Int.reduceNe, Int.reduceLT, Int.reduceLE, Int.reduceBEq, Int.reduceBNe, Int.reduceToNat]
  exact hs
theorem nDouble (hs : sat h (pto n (.row 1 [[w]] 1) :: Ow 15 w (l.map Ms.cells) :: F)) (hl0 : 0 < l.length) (hl1 : l.length ≤ 1000000000) {k : Int} (hk : inI k) (hm : ∀ m ∈ l, m.es.length ≤ 1048576 ∧ m.vs.length ≤ 1048576 ∧ m.data.length + sumD m.es ≤ 1048576) :
    Triple Try.prog 26 [.ptr n 1 0 0, .int .i64 k] h (fun r h => ∃ (j : Nat) (hj : j < l.length) (w' : AV), (j : Int) = k % l.length ∧ r = .int .i64 0 ∧ sat h (pto n (.row 1 [[w']] 1) :: Ow 15 w' ((l ++ [l[j]]).map Ms.cells) :: F)) := by
  refine t26 (Nat.le_of_ble_eq_true rfl) ?_
  simp (disch := omega) only [F26, go_sem, reduceCtorEq, ↓reduceIte, Nat.reduceEqDiff, Nat.reduceAdd, Nat.reduceSub, Nat.reduceMul, Nat.reduceLT, Nat.reduceLeDiff, Int.reduceEq, Int.reduceNe, Int.reduceLT, Int.reduceLE, Int.reduceBEq, Int.reduceBNe, Int.reduceToNat]
  refine call_use (nPlace hs hl0 hl1 hk) ?_
  rintro r h ⟨j, hr, hj, hjl, hs⟩
  subst hr
  rcases hs.p1.cases with ⟨_, h0, _⟩ | ⟨bl, cap, hv, g, hcap⟩
  · have : l = [] := by simpa using h0
    subst this
    simp at hl0
  rw [List.length_map] at hv hcap
  have hrow : (l.map Ms.cells)[j]? = some l[j].cells := by simp [hjl]
  simp (disch := omega) only [go_sem, reduceCtorEq, ↓reduceIte, Nat.reduceEqDiff, Nat.reduceAdd, Nat.reduceSub, Nat.reduceMul, Nat.reduceLT, Nat.reduceLeDiff, Int.reduceEq, Int.reduceNe, Int.reduceLT, Int.reduceLE, Int.reduceBEq, Int.reduceBNe, Int.reduceToNat, hs.at, hv, g.at, hrow, Int.toNat_natCast, Ms.cells]
  refine new_opq hs fun nb h hs => ?_
  simp (disch := omega) only [go_sem, reduceCtorEq, ↓reduceIte, Nat.reduceEqDiff, Nat.reduceAdd, Nat.reduceSub, Nat.reduceMul, Nat.reduceLT, Nat.reduceLeDiff, Int.reduceEq, Int.reduceNe, Int.reduceLT, Int.reduceLE, Int.reduceBEq, Int.reduceBNe, Int.reduceToNat, hs.at]
  refine call_use (nSend hs.p2.p2 (m := l[j]) (hm _ (List.getElem_mem _)) hl1) ?_
  rintro r h ⟨w', hs⟩
  simp (disch := omega) only [go_sem, reduceCtorEq, ↓reduceIte, Nat.reduceEqDiff, Nat.reduceAdd, Nat.reduceSub, Nat.reduceMul, Nat.reduceLT, Nat.reduceLeDiff, Int.reduceEq, Int.reduceNe, Int.reduceLT, Int.reduceLE, Int.reduceBEq, Int.reduceBNe, Int.reduceToNat]
  exact ⟨j, hjl, w', hj, hs⟩
end
end Go.Proofs.Ytfbflmiipepmiaa
