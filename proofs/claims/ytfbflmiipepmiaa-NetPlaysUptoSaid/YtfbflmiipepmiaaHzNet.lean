/- Messages: their bytes, and what bytes are read as. -/
import Derived.Test.YtfbflmiipepmiaaHzCrc
set_option linter.unusedSimpArgs false
set_option linter.unusedVariables false
set_option maxRecDepth 10000
namespace Go.Hz

structure En where
  idx : Int
  term : Int
  kind : Int
  data : List UInt8
  deriving DecidableEq
structure Ms where
  kind : Int
  frm : Int
  to : Int
  term : Int
  index : Int
  lterm : Int
  es : List En
  commit : Int
  seq : Int
  ok : Bool
  mtch : Int
  mi : Int
  mt : Int
  vs : List Int
  data : List UInt8
  deriving DecidableEq

def bytesV (b : List UInt8) : AV := .lst (b.map eb)
def En.row (e : En) : List AV := [.int .i64 e.idx, .int .i64 e.term, .int .i64 e.kind, bytesV e.data]
def ensV (l : List En) : AV := .lst (l.map En.row)
def intsV (l : List Int) : AV := .lst (l.map fun k => [AV.int .i64 k])
def Ms.cells (m : Ms) : List AV :=
  [.int .i64 m.kind, .int .i64 m.frm, .int .i64 m.to, .int .i64 m.term, .int .i64 m.index, .int .i64 m.lterm, ensV m.es, .int .i64 m.commit, .int .i64 m.seq, .bool m.ok, .int .i64 m.mtch,
   .int .i64 m.mi, .int .i64 m.mt, intsV m.vs, bytesV m.data]
def Ms.zero : Ms := ⟨0, 0, 0, 0, 0, 0, [], 0, 0, false, 0, 0, 0, [], []⟩

theorem bytesV_len {b : List UInt8} : lenL (bytesV b) = some (.int .i64 b.length) := by simp [bytesV, lenL]
theorem bytesV_str {h : Hp} {b : List UInt8} : bstrA h (bytesV b) = some (.str b) := bstr_lst
theorem bytesV_cells {b : List UInt8} : (bytesV b).cells = [bytesV b] := rfl
theorem bytesV_atom {b : List UInt8} : (bytesV b).isAtom = true := rfl
theorem ensV_len {l : List En} : lenL (ensV l) = some (.int .i64 l.length) := by simp [ensV, lenL]
theorem ensV_cells {l : List En} : (ensV l).cells = [ensV l] := rfl
theorem ensV_atom {l : List En} : (ensV l).isAtom = true := rfl
theorem ensV_at {l : List En} {i : Nat} (hi : i < l.length) : iaA 4 (ensV l) (.int .i64 (i : Int)) = some (.ro l[i].row) := ia_lst hi fun _ => rfl
theorem intsV_len {l : List Int} : lenL (intsV l) = some (.int .i64 l.length) := by simp [intsV, lenL]
theorem intsV_cells {l : List Int} : (intsV l).cells = [intsV l] := rfl
theorem intsV_atom {l : List Int} : (intsV l).isAtom = true := rfl
theorem intsV_at {l : List Int} {i : Nat} (hi : i < l.length) : iaA 1 (intsV l) (.int .i64 (i : Int)) = some (.ro [.int .i64 l[i]]) := ia_lst (f := fun k => [AV.int .i64 k]) hi fun _ => rfl
attribute [go_sem] bytesV_len bytesV_str bytesV_cells bytesV_atom ensV_len ensV_cells ensV_atom intsV_len intsV_cells intsV_atom

theorem Ms.cells_all {m : Ms} : m.cells.all AV.isAtom = true := rfl
theorem Ms.cells_len {m : Ms} : m.cells.length = 15 := rfl
theorem Ms.cells_take {m : Ms} : m.cells.take 15 = m.cells := rfl
attribute [go_sem] Ms.cells_all Ms.cells_len Ms.cells_take
/-- No message is longer. -/
def Ms.room (m : Ms) : Prop := m.es.length ≤ 1000000000000 ∧ m.vs.length ≤ 1000000000000

theorem atoms_En (l : List En) : AtomsL (l.map En.row) := by
  intro e he v hv
  obtain ⟨x, _, rfl⟩ := List.mem_map.1 he
  simp only [En.row, List.mem_cons, List.not_mem_nil, or_false] at hv
  rcases hv with rfl | rfl | rfl | rfl <;> rfl
theorem atoms_int (l : List Int) : AtomsL (l.map fun k => [AV.int .i64 k]) := by
  intro e he v hv
  obtain ⟨x, _, rfl⟩ := List.mem_map.1 he
  simp only [List.mem_cons, List.not_mem_nil, or_false] at hv
  subst hv; rfl

/-! ### bytes -/

def En.B (e : En) : List UInt8 := beB 8 e.idx ++ (beB 8 e.term ++ (beB 1 e.kind ++ txB e.data))
def Ms.five (m : Ms) : List Int := [m.frm, m.to, m.term, m.index, m.lterm]
def flagN (b : Bool) : Int := if b then 1 else 0
def Ms.B (m : Ms) : List UInt8 :=
  beB 1 m.kind ++ (m.five.flatMap (beB 8) ++ (beB 1 m.es.length ++ (m.es.flatMap En.B ++ (beB 8 m.commit ++ (beB 8 m.seq ++ (beB 1 (flagN m.ok) ++ (beB 8 m.mtch ++ (beB 8 m.mi ++ (beB 8 m.mt ++
    (beB 1 m.vs.length ++ (m.vs.flatMap (beB 8) ++ txB m.data)))))))))))
def En.bad (e : En) : Bool := decide (e.kind < 0) || decide (255 < e.kind)
def Ms.e (m : Ms) : Int :=
  if m.kind < 1 ∨ 5 < m.kind then 3 else if 255 < m.es.length ∨ 255 < m.vs.length then 4 else if m.es.any En.bad then 3 else if 16777216 < m.B.length then 5 else 0
def Ms.enc (m : Ms) : List UInt8 := if m.e = 0 then frameB m.B else []

theorem flatMap_succ {α β : Type} {f : α → List β} {l : List α} {i : Nat} (hi : i < l.length) : (l.take (i + 1)).flatMap f = (l.take i).flatMap f ++ f l[i] := by
  rw [List.take_succ_eq_append_getElem hi, List.flatMap_append]
  simp
theorem flatMap_drop {α β : Type} {f : α → List β} {l : List α} {i : Nat} (hi : i < l.length) : (l.drop i).flatMap f = f l[i] ++ (l.drop (i + 1)).flatMap f := by
  rw [List.drop_eq_getElem_cons hi]
  rfl
theorem flatMap_take_le {α β : Type} {f : α → List β} {l : List α} (i : Nat) : ((l.take i).flatMap f).length ≤ (l.flatMap f).length := by
  have : l.flatMap f = (l.take i).flatMap f ++ (l.drop i).flatMap f := by rw [← List.flatMap_append, List.take_append_drop]
  rw [this, List.length_append]
  omega

theorem flat8 (l : List Int) : (l.flatMap (beB 8)).length = 8 * l.length := by
  induction l with
  | nil => rfl
  | cons x l ih => rw [List.flatMap_cons, List.length_append, ih, beB_length, List.length_cons]; omega

/-! ### reading -/

def entP : Nat → RS → List En × RS
  | 0, s => ([], s)
  | n + 1, s => if s.err = 0 then
      (⟨s.val 8, (s.adv 8).val 8, ((s.adv 8).adv 8).val 1, (((s.adv 8).adv 8).adv 1).tx⟩ :: (entP n (((s.adv 8).adv 8).adv 1).atx).1, (entP n (((s.adv 8).adv 8).adv 1).atx).2) else ([], s)
def votP : Nat → RS → List Int × RS
  | 0, s => ([], s)
  | n + 1, s => if s.err = 0 then (s.val 8 :: (votP n (s.adv 8)).1, (votP n (s.adv 8)).2) else ([], s)
/-- A message's inside, from its second number on: the states of the reader on the way. -/
structure RdP where
  s1 : RS
  es : List En
  s2 : RS
  vs : List Int
  s3 : RS
def RS.v (s : RS) (n : Nat) : Nat := (s.val n).toNat
def rdP (s : RS) : RdP :=
  let s1 := (((((s.adv 1).adv 8).adv 8).adv 8).adv 8).adv 8
  let E := entP (s1.v 1) (s1.adv 1)
  let s2 := (((((E.2.adv 8).adv 8).adv 1).adv 8).adv 8).adv 8
  let V := votP (s2.v 1) (s2.adv 1)
  ⟨s1, E.1, E.2, V.1, V.2⟩
def msP (s : RS) : Ms :=
  let r := rdP s
  ⟨s.val 1, (s.adv 1).val 8, ((s.adv 1).adv 8).val 8, (((s.adv 1).adv 8).adv 8).val 8, ((((s.adv 1).adv 8).adv 8).adv 8).val 8, (((((s.adv 1).adv 8).adv 8).adv 8).adv 8).val 8,
   r.es, r.s2.val 8, (r.s2.adv 8).val 8, ((r.s2.adv 8).adv 8).val 1 == 1, (((r.s2.adv 8).adv 8).adv 1).val 8, ((((r.s2.adv 8).adv 8).adv 1).adv 8).val 8, (((((r.s2.adv 8).adv 8).adv 1).adv 8).adv 8).val 8,
   r.vs, r.s3.tx⟩
/-- What is wrong with a message's inside. -/
def erP (s : RS) : Int :=
  let r := rdP s
  if (s.adv 1).err = 0 ∧ (s.val 1 < 1 ∨ 5 < s.val 1) then 3
  else if (((r.s2.adv 8).adv 8).adv 1).err = 0 ∧ 1 < ((r.s2.adv 8).adv 8).val 1 then 11
  else if r.s3.atx.err ≠ 0 then 8
  else if r.s3.atx.a < s.b.length then 9 else 0
/-- What bytes are read as. -/
def parE (b : List UInt8) : Int := if (unF b).2.2 ≠ 0 then (unF b).2.2 else if (unF b).2.1 < b.length then 9 else erP ⟨(unF b).1, 0, 0⟩
def parM (b : List UInt8) : Ms := if parE b = 0 then msP ⟨(unF b).1, 0, 0⟩ else Ms.zero

theorem entP_b (n : Nat) : ∀ s, (entP n s).2.b = s.b := by
  induction n with
  | zero => intro s; rfl
  | succ n ih =>
    intro s
    unfold entP
    split
    · simp only [ih, RS.atx_b]; rfl
    · rfl
theorem votP_b (n : Nat) : ∀ s, (votP n s).2.b = s.b := by
  induction n with
  | zero => intro s; rfl
  | succ n ih =>
    intro s
    unfold votP
    split
    · simp only [ih]; rfl
    · rfl
theorem RS.v_val (s : RS) : s.val 1 = (s.v 1 : Int) ∧ s.v 1 < 256 := by
  obtain ⟨k, h1, h2⟩ := s.val_lt 1 (by omega)
  unfold RS.v
  rw [h1]
  exact ⟨by simp, by simpa using h2⟩
/-- No message, as it is made. -/
def zeroM : List AV := [.int .i64 0, .int .i64 0, .int .i64 0, .int .i64 0, .int .i64 0, .int .i64 0, .nils, .int .i64 0, .int .i64 0, .bool false, .int .i64 0, .int .i64 0, .int .i64 0, .nils, .nils]
theorem GV.zeroM (h : Hp) (k : AV) : GV (.tup [.agg zeroM, k]) h (.tup [.agg Ms.zero.cells, k]) h := by
  refine GV.tup [] [k] ?_
  refine GV.trans (GV.agg [.int .i64 0, .int .i64 0, .int .i64 0, .int .i64 0, .int .i64 0, .int .i64 0] [.int .i64 0, .int .i64 0, .bool false, .int .i64 0, .int .i64 0, .int .i64 0, .nils, .nils] GV.nils) ?_
  refine GV.trans (GV.agg [.int .i64 0, .int .i64 0, .int .i64 0, .int .i64 0, .int .i64 0, .int .i64 0, .lst [], .int .i64 0, .int .i64 0, .bool false, .int .i64 0, .int .i64 0, .int .i64 0] [.nils] GV.nils) ?_
  exact GV.agg [.int .i64 0, .int .i64 0, .int .i64 0, .int .i64 0, .int .i64 0, .int .i64 0, .lst [], .int .i64 0, .int .i64 0, .bool false, .int .i64 0, .int .i64 0, .int .i64 0, .lst []] [] GV.nils
end Go.Hz
