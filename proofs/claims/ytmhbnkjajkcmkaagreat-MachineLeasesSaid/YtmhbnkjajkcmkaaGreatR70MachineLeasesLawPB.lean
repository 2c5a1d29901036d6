/- Maps. -/
import Derived.Test.YtmhbnkjajkcmkaaGreatR70MachineLeasesLawPA
import Derived.Maps.RangeRun
import Derived.Laws.StructEq
import GoSem.ClaimJoined
import Derived.ChangeArms
import Derived.DataReads
import Derived.WideShapes
import Derived.Below
import Derived.ProofKit
import Derived.WalkKit
import Derived.OpenShut
import Derived.ShutString
import Derived.ChangeOld
import Derived.Carry
import Derived.RowKit
import Derived.Handed
import Derived.Sort.AssemblyPlain
set_option linter.unusedSimpArgs false
set_option linter.unusedVariables false
set_option linter.unusedSectionVars false
namespace Go.Hz
section
variable {P:Program} {o:Oper}
abbrev KV:=AV × AV × Nat
def keyEq (str:Bool) : AV → AV → Option Bool
 | .int k a,.int k' b => if k = k'∧str = false then some (a == b) else none
 | .str a,.str b => if str = true then some (a == b) else none
 | _,_ => none
def findK (str:Bool) (k:AV) : List KV → Nat → Option (Option (Nat × AV))
 | [],_ => some none
 | e :: es,i => match keyEq str k e.1 with
  | some true => some (some (i,e.2.1))
  | some false => findK str k es (i + 1)
  | none => none
def keyDesc (str:Bool) : TypeDesc → Bool
 | .int _ => !str
 | .string => str
 | _ => false
def keyAV (str:Bool) : AV → Bool
 | .int _ _ => !str
 | .str _ => str
 | _ => false
theorem byteArray_beq (a b : List UInt8) : ((ByteArray.mk a.toArray) == (ByteArray.mk b.toArray)) = (a == b):=by
 show (a.toArray == b.toArray) = (a == b)
 simp
theorem byteArray_eq {a b : ByteArray} (h:(a == b) = true) : a = b:=by
 cases a with
 | mk l => cases b with
  | mk m =>
   have h2 : (l == m) = true:=h
   have h3 : l = m:=by simpa using h2
   rw [h3]
theorem keyEq_ok {str:Bool} {d:TypeDesc} (hd : keyDesc str d = true) {fz:Nat → Prop} {H:Array Obj} {a b : AV} {ca cb : Value} (ha:VR fz H a ca) (hb:VR fz H b cb) {r:Bool} (h : keyEq str a b = some r) :
  Instr.sameNow d ca cb = some r:=by
 unfold keyEq at h
 split at h <;> first | (cases h; done) | skip
 ·split at h <;> first | (cases h; done) | skip
  rename_i hc
  obtain ⟨rfl,rfl⟩:=hc
  cases h; cases ha.int_inv; cases hb.int_inv
  cases d <;> simp [keyDesc] at hd
  simp [Instr.sameNow]
 ·split at h <;> first | (cases h; done) | skip
  rename_i hc
  subst hc
  cases h; cases ha.str_inv; cases hb.str_inv
  cases d <;> simp [keyDesc] at hd
  simp only [Instr.sameNow]
  rw [byteArray_beq]
theorem findK_ok {str:Bool} {d:TypeDesc} (hd : keyDesc str d = true) {fz:Nat → Prop} {H:Array Obj} {k:AV} {ck:Value} (hk:VR fz H k ck) :
  ∀ (kvs:List KV) (es:List MapEntry) (i:Nat) (r:Option (Nat × AV)),EntriesR fz H kvs es → findK str k kvs i = some r →
   match r with
   | none => Instr.findNow d ck es i = some none
   | some (j,v) => ∃ cv,Instr.findNow d ck es i = some (some (j,cv))∧VR fz H v cv∧i ≤ j∧j < i + kvs.length∧(∃ e,es[j - i]? = some e∧e.val = cv∧Instr.sameNow d ck e.key = some true)∧∃ q,kvs[j - i]? = some q∧q.2.1 = v
 | [],es,i,r,he,h => by
  cases h
  have : es = []:=List.eq_nil_of_length_eq_zero he.1.symm
  subst this; rfl
 | q :: kvs,[],i,r,he,h => by have:=he.1; simp at this
 | q :: kvs,e :: es,i,r,he,h => by
  have h0:=he.2 0 (by simp) (by simp)
  have hrest : EntriesR fz H kvs es:=⟨by have:=he.1; simpa using this,fun j a b => by have:=he.2 (j + 1) (by simpa using a) (by simpa using b); simpa using this⟩
  unfold findK at h
  split at h <;> first | (cases h; done) | skip
  ·rename_i hq
   have:=keyEq_ok hd hk h0.1 hq
   cases h
   refine ⟨e.val,?_,h0.2.1,Nat.le_refl _,by simp,⟨e,by simp,rfl,this⟩,q,by simp,rfl⟩
   unfold Instr.findNow
   simp only [List.getElem_cons_zero] at this
   rw [this]
  ·rename_i hq
   have h2:=keyEq_ok hd hk h0.1 hq
   have ih:=findK_ok hd hk kvs es (i + 1) r hrest h
   have e1 : Instr.findNow d ck (e :: es) i = Instr.findNow d ck es (i + 1):=by
    conv => lhs; unfold Instr.findNow
    simp only [List.getElem_cons_zero] at h2
    rw [h2]
   cases r with
   | none => simp only at ih ⊢; rw [e1]; exact ih
   | some p =>
    obtain ⟨j,v⟩:=p
    obtain ⟨cv,a1,a2,a3,a4,⟨e',a5,a6,a7⟩,q',a8,a9⟩:=ih
    have e2 : j - i = (j - (i + 1)) + 1:=by omega
    refine ⟨cv,by rw [e1]; exact a1,a2,by omega,by simp; omega,⟨e',by rw [e2,List.getElem?_cons_succ]; exact a5,a6,a7⟩,q',by rw [e2,List.getElem?_cons_succ]; exact a8,a9⟩
theorem run_findKey {str:Bool} {kt:TypeId} {d:TypeDesc} (hu:P.underlying kt = some d) {ck:Value} {es:List MapEntry} {r:Option (Nat × Value)} (h:Instr.findNow d ck es 0 = some r) {w:World} : (Instr.findKey kt ck es).run P w = .ok r w:=by
 unfold Instr.findKey
 rw [run_bind,run_underlying hu,Result.andThen_ok,h]
 rfl
theorem run_checkKey {str:Bool} {kt:TypeId} {d:TypeDesc} (hu:P.underlying kt = some d) (hd : keyDesc str d = true) (em:Bool) (v:Value) (w:World) : (Instr.checkKey em 10000 kt v).run P w = .ok () w:=by
 rw [show (10000:Nat) = 9999 + 1 from rfl]
 unfold Instr.checkKey
 rw [run_bind,run_underlying hu,Result.andThen_ok]
 cases d <;> simp [keyDesc] at hd <;> rfl
theorem Rel.mp {fz:Nat → Prop} {h:Hp} {w:World} (r:Rel fz h w) {b clock : Nat} {kvs:List KV} (hb : h b = some (.mp kvs clock)) : ¬ fz b∧∃ es,w.heap[b]? = some (.map es clock)∧EntriesR fz w.heap kvs es.toList:=by
 obtain ⟨h1,c,h2,h3⟩:=r.own b _ hb
 cases h3 with
 | mp _ es _ h => exact ⟨h1,es,h2,h⟩
theorem run_getObj {b:Nat} {w:World} {ob:Obj} (hb : w.heap[b]? = some ob) (hn:∀ c T fr,ob ≠ .cells c T fr) : (getObj b).run P w = .ok ob w:=by
 cases ob <;> first | (exact absurd rfl (hn _ _ _)) | simp only [getObj,Sem.run,hb]
theorem run_setObj {b:Nat} {w:World} {ob ob' : Obj} (hb : w.heap[b]? = some ob) (hn:∀ c T fr,ob ≠ .cells c T fr) : (setObj b ob').run P w = .ok () (withBlock w b ob'):=by
 cases ob <;> first | (exact absurd rfl (hn _ _ _)) | (simp only [setObj,Sem.run,hb]; rfl)
theorem sim_mkm {t:TypeId} (ho : o.op = .makeMap t none) : OpOK P o (.mk fun _ => some (.inr (.mp [] 0,fun n => .map n))):=by
 intro fz e h a w K he hr hh
 obtain ⟨r,h1,h2⟩:=hh
 cases h1
 have hor : OR fz w.heap (.mp [] 0) (.map #[] 0):=.mp _ _ _ ⟨rfl,fun i a _ => absurd a (by simp)⟩
 obtain ⟨m1,m2,m3⟩:=hr.make hor
 refine OutOK.of_run (cv:=.map (some w.heap.size)) (w':=pushed w (.map #[] 0)) ?_ ⟨_,_,fz,h2 w.heap.size m1,.map _,m2,m3⟩
 simp only [execOp,ho,Option.map_none]
 exact run_value _ rfl
def lenM (h:Hp) : AV → Option AV
 | .nilm => some (.int .i64 0)
 | .map b => match h b with
  | some (.mp kvs _) => some (.int .i64 kvs.length)
  | _ => none
 | _ => none
theorem sim_lenM {ats:Array TypeId} {t kt el : TypeId} {x:Operand} {x' : AE} (ho : o.op = .call { callee:=.builtin .len,args := #[x],argTypes:=ats }) (ht : ats[0]? = some t) (hd:P.underlying t = some (.map kt el)) (hx:AE.of x = some x') :
  OpOK P o (.load fun e h => lenM h (x'.ev e)):=by
 refine OpOK.of_load fun fz e h a w he hr v hv => ?_
 have h1:=AE.of_ok hx he
 have key : ∀ (cv:Value),(Builtin.len_ ats o.type #[a.eval x]).run P w = .ok cv w → (execOp a.eval o).run P w = .ok (.value cv) w:=fun cv h => by
  simp only [execOp,ho,resolve,List.map_toArray,List.map_cons,List.map_nil]
  rw [run_bind,run_pure,Result.andThen_ok]
  exact run_value _ h
 generalize a.eval x = cx at *
 generalize x'.ev e = ax at *
 unfold lenM at hv
 split at hv <;> first | (cases hv; done) | skip
 ·cases hv; cases h1.nilm_inv
  refine ⟨.int .i64 0,key _ ?_,.int _ _⟩
  unfold Builtin.len_
  simp [ht,run_underlying hd]; rfl
 ·rename_i b
  cases h1.map_inv
  split at hv <;> first | (cases hv; done) | skip
  rename_i kvs clock hb
  cases hv
  obtain ⟨_,es,e1,e2⟩:=hr.mp hb
  refine ⟨.int .i64 kvs.length,key _ ?_,.int _ _⟩
  unfold Builtin.len_
  simp only [ht]
  rw [show (#[Value.map (some b)] : Array Value)[0]? = some (.map (some b)) from rfl]
  simp only []
  rw [run_bind,run_underlying hd,Result.andThen_ok]
  simp only []
  rw [run_bind,run_getObj e1 (fun _ _ _ h => by cases h),Result.andThen_ok,e2.1]
  simp [goInt]
def lkA (str ok : Bool) (zero:AV) (h:Hp) (x k : AV) : Option AV :=
 let out (v:AV) (b:Bool) : AV:=if ok then .tup [v,.bool b] else v
 if keyAV str k = true then match x with
  | .nilm => some (out zero false)
  | .map b => match h b with
   | some (.mp kvs _) => match findK str k kvs 0 with
    | some (some (_,v)) => some (out v true)
    | some none => some (out zero false)
    | none => none
   | _ => none
  | _ => none
 else none
theorem VR.tup3 {fz:Nat → Prop} {H:Array Obj} {a b c : AV} {ca cb cc : Value} (h1:VR fz H a ca) (h2:VR fz H b cb) (h3:VR fz H c cc) : VR fz H (.tup [a,b,c]) (.tuple #[ca,cb,cc]) :=
 .tup _ _ rfl fun i a b => by
  match i with
  | 0 => exact h1
  | 1 => exact h2
  | 2 => exact h3
theorem sim_lkp {t kt el : TypeId} {kd:TypeDesc} {i:TypeInfo} {z:Value} {za:AV} {str ok : Bool} {x k : Operand} {x' k' : AE} (ho : o.op = .lookup t x k ok) (hd:P.underlying t = some (.map kt el)) (hk:P.underlying kt = some kd) (hkd : keyDesc str kd = true)
  (hi:P.info? el = some i) (hz : i.zero = some z) (hza : avOf z = some za) (hx:AE.of x = some x') (hkk:AE.of k = some k') : OpOK P o (.load fun e h => lkA str ok za h (x'.ev e) (k'.ev e)):=by
 refine OpOK.of_load fun fz e h a w he hr v hv => ?_
 have h1:=AE.of_ok hx he
 have h2:=AE.of_ok hkk he
 simp only [execOp,ho]
 generalize a.eval x = cx at *
 generalize a.eval k = ck at *
 generalize x'.ev e = ax at *
 generalize k'.ev e = ak at *
 have hzr : ∀ H,VR fz H za z:=fun H => avOf_ok hza fz H
 have out : ∀ (v:AV) (cv:Value) (b:Bool),VR fz w.heap v cv → VR fz w.heap (if ok then .tup [v,.bool b] else v) (if ok then .tuple #[cv,.bool b] else cv):=fun v cv b h => by
  cases ok
  ·exact h
  ·exact .tup2 h (.bool b)
 unfold lkA at hv
 simp only at hv
 split at hv <;> first | (cases hv; done) | skip
 rename_i hkv
 split at hv <;> first | (cases hv; done) | skip
 ·cases hv; cases h1.nilm_inv
  refine ⟨_,run_value _ ?_,out _ z false (hzr _)⟩
  unfold Instr.lookup
  rw [run_bind,run_underlying hd,Result.andThen_ok]
  simp only []
  rw [run_bind,run_pure,Result.andThen_ok,run_bind,run_checkKey hk hkd,Result.andThen_ok,run_bind,run_findKey (str:=str) hk (r:=none) rfl,Result.andThen_ok]
  simp only []
  rw [run_bind,run_zero hi hz,Result.andThen_ok]
  rfl
 ·rename_i b
  cases h1.map_inv
  split at hv <;> first | (cases hv; done) | skip
  rename_i kvs clock hb
  obtain ⟨_,es,e1,e2⟩:=hr.mp hb
  have hg:=run_getObj (P:=P) e1 (fun _ _ _ h => by cases h)
  split at hv <;> first | (cases hv; done) | skip
  ·rename_i j v' hf
   have:=findK_ok hkd h2 kvs es.toList 0 _ e2 hf
   obtain ⟨cv,a1,a2,_⟩:=this
   cases hv
   refine ⟨_,run_value _ ?_,out _ cv true a2⟩
   unfold Instr.lookup
   rw [run_bind,run_underlying hd,Result.andThen_ok]
   simp only []
   rw [run_bind,hg,Result.andThen_ok]
   simp only []
   rw [run_bind,run_pure,Result.andThen_ok,run_bind,run_checkKey hk hkd,Result.andThen_ok,run_bind,run_findKey (str:=str) hk a1,Result.andThen_ok]
   simp only []
   rw [run_bind,run_pure,Result.andThen_ok]
   rfl
  ·rename_i hf
   have:=findK_ok hkd h2 kvs es.toList 0 _ e2 hf
   cases hv
   refine ⟨_,run_value _ ?_,out _ z false (hzr _)⟩
   unfold Instr.lookup
   rw [run_bind,run_underlying hd,Result.andThen_ok]
   simp only []
   rw [run_bind,hg,Result.andThen_ok]
   simp only []
   rw [run_bind,run_pure,Result.andThen_ok,run_bind,run_checkKey hk hkd,Result.andThen_ok,run_bind,run_findKey (str:=str) hk this,Result.andThen_ok]
   simp only []
   rw [run_bind,run_zero hi hz,Result.andThen_ok]
   rfl
def mupE (str:Bool) (x k v : AV) (h:Hp) (K:AV → Hp → Prop) : Prop :=
 keyAV str k = true∧match x with
 | .map b => match h b with
  | some (.mp kvs c) => match findK str k kvs 0 with
   | some (some (i,_)) => K (.tup []) (h.set b (.mp (kvs.modify i fun e => (k,v,e.2.2)) c))
   | some none => K (.tup []) (h.set b (.mp (kvs ++ [(k,v,c)]) (c + 1)))
   | none => False
  | _ => False
 | _ => False
def delE (str:Bool) (x k : AV) (h:Hp) (K:AV → Hp → Prop) : Prop :=
 keyAV str k = true∧match x with
 | .nilm => K (.tup []) h
 | .map b => match h b with
  | some (.mp kvs c) => match findK str k kvs 0 with
   | some (some (i,_)) => K (.tup []) (h.set b (.mp (kvs.eraseIdx i) c))
   | some none => K (.tup []) (h.set b (.mp kvs c))
   | none => False
  | _ => False
 | _ => False
theorem sameBits_key {str:Bool} {d:TypeDesc} {k:AV} {ck old : Value} {fz:Nat → Prop} {H:Array Obj} (hd : keyDesc str d = true) (h:VR fz H k ck) (hs:Instr.sameNow d ck old = some true) : Instr.sameBits 10000 old ck = true:=by
 unfold Instr.sameNow at hs
 split at hs <;> first | (cases hs; done) | skip
 ·split at hs <;> first | (cases hs; done) | skip
  rename_i a _ b hk
  have hab : a = b:=by simpa using hs
  subst hk hab
  simp [Instr.sameBits]
 ·rename_i a b
  have hab : a = b:=by
   have : (a == b) = true:=Option.some.inj hs
   exact byteArray_eq this
  subst hab
  have : (a == a) = true:=by
   cases a with
   | mk l => have:=byteArray_beq l.toList l.toList; simpa using this
  simp [Instr.sameBits,this]
 ·simp [keyDesc] at hd
theorem EntriesR.modify {fz:Nat → Prop} {H:Array Obj} {kvs:List KV} {es:List MapEntry} {i:Nat} {k v : AV} {ck cv : Value} (h:EntriesR fz H kvs es) (hk:VR fz H k ck) (hv:VR fz H v cv) :
  EntriesR fz H (kvs.modify i fun e => (k,v,e.2.2)) (es.modify i fun e => { e with key:=ck,val:=cv }):=by
 refine ⟨by simp [h.1],fun j a b => ?_⟩
 have q:=h.2 j (by simpa using a) (by simpa using b)
 simp only [List.getElem_modify]
 split
 ·exact ⟨hk,hv,q.2.2⟩
 ·exact q
theorem EntriesR.push {fz:Nat → Prop} {H:Array Obj} {kvs:List KV} {es:List MapEntry} {c:Nat} {k v : AV} {ck cv : Value} (h:EntriesR fz H kvs es) (hk:VR fz H k ck) (hv:VR fz H v cv) :
  EntriesR fz H (kvs ++ [(k,v,c)]) (es ++ [{ key:=ck,val:=cv,born:=c }]):=by
 refine ⟨by simp [h.1],fun j a b => ?_⟩
 simp only [List.length_append,List.length_cons,List.length_nil] at a
 have hl:=h.1
 by_cases hj : j < kvs.length
 ·have q:=h.2 j hj (by omega)
  rw [List.getElem_append_left hj,List.getElem_append_left (by omega)]
  exact q
 ·have : j = kvs.length:=by omega
  subst this
  rw [List.getElem_append_right (Nat.le_refl _),List.getElem_append_right (by omega)]
  simp only [Nat.sub_self,hl,List.getElem_cons_zero]
  exact ⟨hk,hv,by simp⟩
theorem EntriesR.erase {fz:Nat → Prop} {H:Array Obj} {kvs:List KV} {es:List MapEntry} {i:Nat} (h:EntriesR fz H kvs es) : EntriesR fz H (kvs.eraseIdx i) (es.eraseIdx i):=by
 have hl:=h.1
 refine ⟨by simp [List.length_eraseIdx,hl],fun j a b => ?_⟩
 have ha : j < (kvs.eraseIdx i).length:=a
 rw [List.length_eraseIdx] at ha
 rw [List.getElem_eraseIdx,List.getElem_eraseIdx]
 split
 ·exact h.2 j (by split at ha <;> omega) (by split at ha <;> omega)
 ·split at ha <;> exact h.2 (j + 1) (by omega) (by omega)
theorem sim_mup {t kt el : TypeId} {kd:TypeDesc} {str:Bool} {x k v : Operand} {x' k' v' : AE} (ho : o.op = .mapUpdate t x k v) (hd:P.underlying t = some (.map kt el)) (hk:P.underlying kt = some kd) (hkd : keyDesc str kd = true)
  (hx:AE.of x = some x') (hkk:AE.of k = some k') (hvv:AE.of v = some v') : OpOK P o (.eff fun e h K => mupE str (x'.ev e) (k'.ev e) (v'.ev e) h K):=by
 intro fz e h a w K he hr hh
 have h1:=AE.of_ok hx he
 have h2:=AE.of_ok hkk he
 have h3:=AE.of_ok hvv he
 change mupE str (x'.ev e) (k'.ev e) (v'.ev e) h K at hh
 have key : ∀ w',(Instr.mapUpdate t (a.eval x) (a.eval k) (a.eval v)).run P w = .ok () w' → After fz h w K undef w' → OutOK P (execOp a.eval o) w (After fz h w K):=fun w' hrun hA => by
  refine OutOK.of_skip (w':=w') ?_ hA
  simp only [execOp,ho]
  rw [run_bind,hrun]
  rfl
 generalize a.eval x = cx at *
 generalize a.eval k = ck at *
 generalize a.eval v = cv at *
 generalize x'.ev e = ax at *
 generalize k'.ev e = ak at *
 generalize v'.ev e = av at *
 unfold mupE at hh
 obtain ⟨hkv,hh⟩:=hh
 split at hh <;> first | exact hh.elim | skip
 rename_i b
 cases h1.map_inv
 split at hh <;> first | exact hh.elim | skip
 rename_i kvs c hb
 obtain ⟨hnf,es,e1,e2⟩:=hr.mp hb
 have hg:=run_getObj (P:=P) e1 (fun _ _ _ h => by cases h)
 split at hh <;> first | exact hh.elim | skip
 ·rename_i i q hf
  obtain ⟨cq,a1,a2,_,a3,⟨eo,a4,a5,a6⟩,_⟩:=findK_ok hkd h2 kvs es.toList 0 _ e2 hf
  simp only [Nat.sub_zero] at a4
  have hor : OR fz w.heap (.mp (kvs.modify i fun e => (ak,av,e.2.2)) c) (.map (es.modify i fun e => { e with key:=ck,val:=cv }) c):=.mp _ _ _ (by
   have:=e2.modify (i:=i) h2 h3
   simpa using this)
  obtain ⟨r1,r2⟩:=hr.turn hb hor
  refine key _ ?_ ⟨_,_,fz,hh,?_,r1,r2⟩
  ·unfold Instr.mapUpdate
   rw [run_bind,run_underlying hd,Result.andThen_ok]
   simp only []
   rw [run_bind,hg,Result.andThen_ok]
   simp only []
   rw [run_bind,run_checkKey hk hkd,Result.andThen_ok,run_bind,run_findKey (str:=str) hk a1,Result.andThen_ok]
   simp only []
   have hko : (((es[i]?).map (·.key)).getD ck) = eo.key:=by
    rw [← Array.getElem?_toList,a4]; rfl
   have hst : (Instr.keyThatStays eo.key ck).run P w = .ok ck w:=by
    unfold Instr.keyThatStays
    rw [if_pos (sameBits_key hkd h2 a6)]; rfl
   rw [hko,run_bind,hst,Result.andThen_ok]
   exact run_setObj e1 (fun _ _ _ h => by cases h)
  ·exact .tup _ _ rfl fun i a b => absurd a (by simp)
 ·rename_i hf
  have a1:=findK_ok hkd h2 kvs es.toList 0 _ e2 hf
  have hor : OR fz w.heap (.mp (kvs ++ [(ak,av,c)]) (c + 1)) (.map (es.push { key:=ck,val:=cv,born:=c }) (c + 1)):=.mp _ _ _ (by
   have:=e2.push (c:=c) h2 h3
   simpa using this)
  obtain ⟨r1,r2⟩:=hr.turn hb hor
  refine key _ ?_ ⟨_,_,fz,hh,?_,r1,r2⟩
  ·unfold Instr.mapUpdate
   rw [run_bind,run_underlying hd,Result.andThen_ok]
   simp only []
   rw [run_bind,hg,Result.andThen_ok]
   simp only []
   rw [run_bind,run_checkKey hk hkd,Result.andThen_ok,run_bind,run_findKey (str:=str) hk a1,Result.andThen_ok]
   exact run_setObj e1 (fun _ _ _ h => by cases h)
  ·exact .tup _ _ rfl fun i a b => absurd a (by simp)
end
end Go.Hz
/- Maps: what is taken out; ranges. -/
namespace Go.Hz
section
variable {P:Program} {o:Oper}
theorem sim_del {ats:Array TypeId} {t kt el : TypeId} {kd:TypeDesc} {str:Bool} {x k : Operand} {x' k' : AE} (ho : o.op = .call { callee:=.builtin .delete,args := #[x,k],argTypes:=ats }) (ht : ats[0]? = some t)
  (hd:P.underlying t = some (.map kt el)) (hk:P.underlying kt = some kd) (hkd : keyDesc str kd = true) (hx:AE.of x = some x') (hkk:AE.of k = some k') : OpOK P o (.eff fun e h K => delE str (x'.ev e) (k'.ev e) h K):=by
 intro fz e h a w K he hr hh
 have h1:=AE.of_ok hx he
 have h2:=AE.of_ok hkk he
 change delE str (x'.ev e) (k'.ev e) h K at hh
 have key : ∀ w',(Builtin.delete_ ats o.type #[a.eval x,a.eval k]).run P w = .ok (.tuple #[]) w' → After fz h w K (.tuple #[]) w' → OutOK P (execOp a.eval o) w (After fz h w K):=fun w' hrun hA => by
  refine OutOK.of_run (cv:=.tuple #[]) (w':=w') ?_ hA
  simp only [execOp,ho,resolve,List.map_toArray,List.map_cons,List.map_nil]
  rw [run_bind,run_pure,Result.andThen_ok]
  exact run_value _ hrun
 generalize a.eval x = cx at *
 generalize a.eval k = ck at *
 generalize x'.ev e = ax at *
 generalize k'.ev e = ak at *
 have hu : ∀ H,VR fz H (.tup []) (.tuple #[]):=fun H => .tup _ _ rfl fun i a b => absurd a (by simp)
 unfold delE at hh
 obtain ⟨hkv,hh⟩:=hh
 split at hh <;> first | exact hh.elim | skip
 ·cases h1.nilm_inv
  refine key w ?_ ⟨_,_,fz,hh,hu _,hr,Ext.refl _ _ _⟩
  unfold Builtin.delete_
  simp only [ht]
  rw [show (#[Value.map none,ck] : Array Value)[0]? = some (.map none) from rfl,show (#[Value.map none,ck] : Array Value)[1]? = some ck from rfl]
  simp only []
  rw [run_bind,run_underlying hd,Result.andThen_ok]
  simp only []
  rw [run_bind,run_checkKey hk hkd,Result.andThen_ok]
  rfl
 ·rename_i b
  cases h1.map_inv
  split at hh <;> first | exact hh.elim | skip
  rename_i kvs c hb
  obtain ⟨hnf,es,e1,e2⟩:=hr.mp hb
  have hg:=run_getObj (P:=P) e1 (fun _ _ _ h => by cases h)
  split at hh <;> first | exact hh.elim | skip
  ·rename_i i q hf
   obtain ⟨cq,a1,a2,a0,a3,⟨eo,a4,a5,a6⟩,_⟩:=findK_ok hkd h2 kvs es.toList 0 _ e2 hf
   have hor : OR fz w.heap (.mp (kvs.eraseIdx i) c) (.map (es.eraseIdxIfInBounds i) c):=.mp _ _ _ (by
    have:=e2.erase (i:=i)
    simpa using this)
   obtain ⟨r1,r2⟩:=hr.turn hb hor
   refine key _ ?_ ⟨_,_,fz,hh,hu _,r1,r2⟩
   unfold Builtin.delete_
   simp only [ht]
   rw [show (#[Value.map (some b),ck] : Array Value)[0]? = some (.map (some b)) from rfl,show (#[Value.map (some b),ck] : Array Value)[1]? = some ck from rfl]
   simp only []
   rw [run_bind,run_underlying hd,Result.andThen_ok]
   simp only []
   rw [run_bind,hg,Result.andThen_ok]
   simp only []
   rw [run_bind,run_checkKey hk hkd,Result.andThen_ok,run_bind,run_findKey (str:=str) hk a1,Result.andThen_ok]
   simp only []
   rw [run_bind,run_setObj e1 (fun _ _ _ h => by cases h),Result.andThen_ok]
   rfl
  ·rename_i hf
   have a1:=findK_ok hkd h2 kvs es.toList 0 _ e2 hf
   have hor : OR fz w.heap (.mp kvs c) (.map es c):=.mp _ _ _ e2
   obtain ⟨r1,r2⟩:=hr.turn hb hor
   refine key _ ?_ ⟨_,_,fz,hh,hu _,r1,r2⟩
   unfold Builtin.delete_
   simp only [ht]
   rw [show (#[Value.map (some b),ck] : Array Value)[0]? = some (.map (some b)) from rfl,show (#[Value.map (some b),ck] : Array Value)[1]? = some ck from rfl]
   simp only []
   rw [run_bind,run_underlying hd,Result.andThen_ok]
   simp only []
   rw [run_bind,hg,Result.andThen_ok]
   simp only []
   rw [run_bind,run_checkKey hk hkd,Result.andThen_ok,run_bind,run_findKey (str:=str) hk a1,Result.andThen_ok]
   simp only []
   rw [run_bind,run_setObj e1 (fun _ _ _ h => by cases h),Result.andThen_ok]
   rfl
def rngE (x:AV) (h:Hp) (K:AV → Hp → Prop) : Prop :=
 match x with
 | .nilm => ∀ n,h n = none → K (.ptr n 1 0 0) (h.set n (.itr none 0 [] 0))
 | .map m => match h m with
  | some (.mp _ c) => ∀ n,h n = none → K (.ptr n 1 0 0) (h.set n (.itr (some m) c [] c))
  | _ => False
 | _ => False
def nxtE (x:AV) (h:Hp) (K:AV → Hp → Prop) : Prop :=
 match x with
 | .ptr r _ 0 0 => match h r with
  | some (.itr none _ _ _) => K (.tup [.bool false]) h
  | some (.itr (some m) since seen st) => match h m with
   | some (.mp kvs c) => since ≤ st∧(∀ e ∈ kvs,e.2.2 < since)∧(∀ e ∈ kvs,e.2.2 ∉ seen → K (.tup [.bool true,e.1,e.2.1]) (h.set r (.itr (some m) since (seen ++ [e.2.2]) c))) ∧
     ((∀ e ∈ kvs,e.2.2 ∈ seen) → K (.tup [.bool false]) h)
   | _ => False
  | _ => False
 | _ => False
theorem sim_rng {t kt el : TypeId} {x:Operand} {x' : AE} (ho : o.op = .range t x) (hd:P.underlying t = some (.map kt el)) (hx:AE.of x = some x') : OpOK P o (.eff fun e h K => rngE (x'.ev e) h K):=by
 intro fz e h a w K he hr hh
 have h1:=AE.of_ok hx he
 change rngE (x'.ev e) h K at hh
 have key : ∀ ob,(Instr.range t (a.eval x)).run P w = .ok (.pointer (some ⟨w.heap.size,0,none⟩)) (pushed w ob) → After fz h w K (.pointer (some ⟨w.heap.size,0,none⟩)) (pushed w ob) → OutOK P (execOp a.eval o) w (After fz h w K):=fun ob hrun hA => by
  refine OutOK.of_run (cv:=.pointer (some ⟨w.heap.size,0,none⟩)) (w':=pushed w ob) ?_ hA
  simp only [execOp,ho]
  exact run_value _ hrun
 generalize a.eval x = cx at *
 generalize x'.ev e = ax at *
 have hp : ∀ H,VR fz H (.ptr w.heap.size 1 0 0) (.pointer (some ⟨w.heap.size,0,none⟩)):=fun H => .ptr w.heap.size 1 0 0
 unfold rngE at hh
 split at hh <;> first | exact hh.elim | skip
 ·cases h1.nilm_inv
  have hor : OR fz w.heap (.itr none 0 [] 0) (.mapIter none 0 #[] 0):=.itr _ _ _ _
  obtain ⟨m1,m2,m3⟩:=hr.make hor
  refine key (.mapIter none 0 #[] 0) ?_ ⟨_,_,fz,hh _ m1,hp _,m2,m3⟩
  unfold Instr.range
  rw [run_bind,run_underlying hd,Result.andThen_ok]
  rfl
 ·rename_i m
  cases h1.map_inv
  split at hh <;> first | exact hh.elim | skip
  rename_i kvs c hb
  obtain ⟨hnf,es,e1,e2⟩:=hr.mp hb
  have hg:=run_getObj (P:=P) e1 (fun _ _ _ h => by cases h)
  have hor : OR fz w.heap (.itr (some m) c [] c) (.mapIter (some m) c #[] c):=.itr _ _ _ _
  obtain ⟨m1,m2,m3⟩:=hr.make hor
  refine key (.mapIter (some m) c #[] c) ?_ ⟨_,_,fz,hh _ m1,hp _,m2,m3⟩
  unfold Instr.range
  rw [run_bind,run_underlying hd,Result.andThen_ok]
  simp only []
  rw [run_bind,hg,Result.andThen_ok]
  rfl
theorem Rel.itr {fz:Nat → Prop} {h:Hp} {w:World} (r:Rel fz h w) {b since st : Nat} {m:Option Nat} {seen:List Nat} (hb : h b = some (.itr m since seen st)) : ¬ fz b∧w.heap[b]? = some (.mapIter m since seen.toArray st):=by
 obtain ⟨h1,c,h2,h3⟩:=r.own b _ hb
 cases h3 with
 | itr => exact ⟨h1,h2⟩
theorem VR.tup1 {fz:Nat → Prop} {H:Array Obj} {a:AV} {c:Value} (h1:VR fz H a c) : VR fz H (.tup [a]) (.tuple #[c]) :=
 .tup _ _ rfl fun i a b => by
  match i with
  | 0 => exact h1
theorem mem_left {es:Array MapEntry} {seen:Array Nat} {e:MapEntry} : e ∈ (leftOf es seen).toList ↔ e ∈ es.toList∧e.born ∉ seen.toList:=by
 unfold leftOf
 simp
theorem sim_nxt {x:Operand} {x' : AE} (ho : o.op = .next x false) (hx:AE.of x = some x') : OpOK P o (.eff fun e h K => nxtE (x'.ev e) h K):=by
 intro fz e h a w K he hr hh
 have h1:=AE.of_ok hx he
 change nxtE (x'.ev e) h K at hh
 have key : ∀ cv w',(Instr.next (a.eval x) false o.type).run P w = .ok cv w' → After fz h w K cv w' → OutOK P (execOp a.eval o) w (After fz h w K):=fun cv w' hrun hA => by
  refine OutOK.of_run (cv:=cv) (w':=w') ?_ hA
  simp only [execOp,ho]
  exact run_value _ hrun
 generalize a.eval x = cx at *
 generalize x'.ev e = ax at *
 unfold nxtE at hh
 split at hh <;> first | exact hh.elim | skip
 rename_i r s
 have e0 : cx = .pointer (some ⟨r,0,none⟩):=by cases h1; simp
 subst e0
 split at hh <;> first | exact hh.elim | skip
 ·rename_i hb
  obtain ⟨_,g⟩:=hr.itr hb
  refine key (.tuple #[.bool false]) w ?_ ⟨_,_,fz,hh,.tup1 (.bool _),hr,Ext.refl _ _ _⟩
  unfold Instr.next
  simp only []
  rw [run_bind,run_getObj g (fun _ _ _ h => by cases h),Result.andThen_ok]
  rfl
 ·rename_i m since seen st hb
  obtain ⟨_,g⟩:=hr.itr hb
  split at hh <;> first | exact hh.elim | skip
  rename_i kvs c hm
  obtain ⟨_,es,e1,e2⟩:=hr.mp hm
  obtain ⟨k1,k2,k3,k4⟩:=hh
  have hold : ∀ x ∈ es.toList,x.born < since:=fun x hx => by
   obtain ⟨i,hi,rfl⟩:=List.getElem_of_mem hx
   have hi2 : i < kvs.length:=by rw [e2.1]; exact hi
   rw [(e2.2 i hi2 hi).2.2]
   exact k2 _ (List.getElem_mem hi2)
  rcases run_next_at (P:=P) w o.type r m since st seen.toArray es c g e1 hold k1 with ⟨hz,hrun⟩ | ⟨en,hen,w1,hw1,hrun⟩
  ·refine key _ w hrun ⟨_,_,fz,k4 ?_,.tup1 (.bool _),hr,Ext.refl _ _ _⟩
   intro e he
   obtain ⟨i,hi,rfl⟩:=List.getElem_of_mem he
   have hi2 : i < es.toList.length:=by rw [← e2.1]; exact hi
   by_cases hs : kvs[i].2.2 ∈ seen
   ·exact hs
   ·exfalso
    have : es.toList[i] ∈ (leftOf es seen.toArray).toList:=mem_left.2 ⟨List.getElem_mem hi2,by rw [(e2.2 i hi hi2).2.2]; simpa using hs⟩
    have h0 : (leftOf es seen.toArray).toList = []:=by
     have:=Array.eq_empty_of_size_eq_zero hz
     rw [this]
    rw [h0] at this; cases this
  ·obtain ⟨g1,g2⟩:=mem_left.1 hen
   obtain ⟨i,hi,rfl⟩:=List.getElem_of_mem g1
   have hi2 : i < kvs.length:=by rw [e2.1]; exact hi
   obtain ⟨q1,q2,q3⟩:=e2.2 i hi2 hi
   have hns : kvs[i].2.2 ∉ seen:=by rw [← q3]; simpa using g2
   have hw1' : w1 = w ∨ w1 = { w with drawn:=w.drawn + 1 }:=hw1
   have hr1 : Rel fz h w1∧Ext fz h w fz h w1∧w1.heap = w.heap:=by
    rcases hw1' with rfl | rfl
    ·exact ⟨hr,Ext.refl _ _ _,rfl⟩
    ·exact ⟨hr.drew,Ext.drew,rfl⟩
   obtain ⟨s1,s2,s3⟩:=hr1
   have hor : OR fz w1.heap (.itr (some m) since (seen ++ [kvs[i].2.2]) c) (.mapIter (some m) since (seen.toArray.push es.toList[i].born) c):=by
    have : seen.toArray.push es.toList[i].born = (seen ++ [kvs[i].2.2]).toArray:=by rw [q3]; simp
    rw [this]; exact .itr _ _ _ _
   obtain ⟨t1,t2⟩:=s1.turn hb hor
   refine key _ _ hrun ⟨_,_,fz,k3 _ (List.getElem_mem hi2) hns,?_,t1,s2.trans t2⟩
   have q1' : VR fz w1.heap kvs[i].1 es.toList[i].key:=by rw [s3]; exact q1
   have q2' : VR fz w1.heap kvs[i].2.1 es.toList[i].val:=by rw [s3]; exact q2
   exact (VR.tup3 (.bool true) q1' q2').ext s1 t2
def entE (x:AV) (h:Hp) : Option AV :=
 match x with
 | .ptr r _ 0 0 => match h r with
  | some (.itr (some m) _ seen st) => match seen.getLast? with
   | some stamp => match h m with
    | some (.mp kvs c) => if c = st then (kvs.find? fun e => e.2.2 == stamp).map fun e => .tup [e.1,e.2.1] else none
    | _ => none
   | none => none
  | _ => none
 | _ => none
theorem find_entries {fz:Nat → Prop} {H:Array Obj} {stamp:Nat} : ∀ {kvs:List KV} {es:List MapEntry} {e:KV},EntriesR fz H kvs es → kvs.find? (fun e => e.2.2 == stamp) = some e →
  ∃ en,es.find? (·.born == stamp) = some en∧VR fz H e.1 en.key∧VR fz H e.2.1 en.val
 | [],_,_,_,h => by cases h
 | k :: kvs,[],_,hr,_ => by have:=hr.1; simp at this
 | k :: kvs,en :: es,e,hr,h => by
  have h0:=hr.2 0 (by simp) (by simp)
  have hr' : EntriesR fz H kvs es:=⟨by simpa using hr.1,fun i a b => hr.2 (i + 1) (by simpa using a) (by simpa using b)⟩
  simp only [List.getElem_cons_zero] at h0
  rw [List.find?_cons] at h ⊢
  rw [h0.2.2]
  cases hk : (k.2.2 == stamp) with
  | true =>
   rw [hk] at h
   cases h
   exact ⟨en,rfl,h0.1,h0.2.1⟩
  | false =>
   rw [hk] at h
   exact find_entries hr' h
theorem eff_of_load {f:Env → Hp → Option AV} (h:OpOK P o (.load f)) : OpOK P o (.eff fun e h K => ∃ v,f e h = some v∧K v h):=h
theorem sim_ent {x:Operand} {x' : AE} (ho : o.op = .entry x) (hx:AE.of x = some x') : OpOK P o (.eff fun e h K => ∃ v,entE (x'.ev e) h = some v∧K v h):=by
 refine eff_of_load (OpOK.of_load fun fz e h a w he hr v hv => ?_)
 have h1:=AE.of_ok hx he
 simp only [execOp,ho]
 generalize a.eval x = cx at *
 generalize x'.ev e = ax at *
 unfold entE at hv
 split at hv <;> first | (cases hv; done) | skip
 rename_i r s
 have e0 : cx = .pointer (some ⟨r,0,none⟩):=by cases h1; simp
 subst e0
 split at hv <;> first | (cases hv; done) | skip
 rename_i m since seen st hb
 obtain ⟨_,g⟩:=hr.itr hb
 split at hv <;> first | (cases hv; done) | skip
 rename_i stamp hst
 split at hv <;> first | (cases hv; done) | skip
 rename_i kvs c hm
 obtain ⟨_,es,e1,e2⟩:=hr.mp hm
 split at hv <;> first | (cases hv; done) | skip
 rename_i hc
 subst hc
 cases hf : kvs.find? fun e => e.2.2 == stamp with
 | none => rw [hf] at hv; cases hv
 | some kv =>
  rw [hf] at hv
  cases hv
  obtain ⟨en,f1,f2,f3⟩:=find_entries e2 hf
  refine ⟨_,run_value _ ?_,.tup2 f2 f3⟩
  have hback : seen.toArray.back? = some stamp:=by simpa using hst
  have hfa : es.find? (·.born == stamp) = some en:=by rw [← Array.find?_toList]; exact f1
  unfold Instr.entry
  simp only []
  rw [run_bind,run_getObj g (fun _ _ _ h => by cases h),Result.andThen_ok]
  simp only [hback]
  rw [run_bind,run_getObj e1 (fun _ _ _ h => by cases h),Result.andThen_ok]
  simp only [hfa,bne_self_eq_false,Bool.false_eq_true,if_false]
  rfl
def mref : AV → List Nat
 | .map b => [b]
 | _ => []
theorem good_lenM {x:AE} : (Sm.load fun e h => lenM h (x.ev e)).good x.looks:=by
 refine ⟨fun e e' h hh => ?_,fun e h v n ob hf hn => ?_,fun e => ⟨mref (x.ev e),fun h h' hh => ?_⟩⟩
 ·dsimp only; rw [AE.ev_congr (y:=x) fun t ht => hh t ht]
 ·dsimp only at hf ⊢
  generalize x.ev e = ax at *
  unfold lenM at *
  split at hf <;> first | (cases hf; done) | skip
  ·exact hf
  ·rename_i b
   have hbn : b ≠ n:=fun hh => by rw [hh,hn] at hf; cases hf
   rw [Hp.set_ne _ _ hbn]; exact hf
 ·dsimp only
  generalize x.ev e = ax at *
  unfold lenM
  split <;> first | rfl | skip
  rename_i b
  rw [hh b (by simp [mref])]
theorem good_lkp {str ok : Bool} {z:AV} {x k : AE} : (Sm.load fun e h => lkA str ok z h (x.ev e) (k.ev e)).good (x.looks ++ k.looks):=by
 refine ⟨fun e e' h hh => ?_,fun e h v n ob hf hn => ?_,fun e => ⟨mref (x.ev e),fun h h' hh => ?_⟩⟩
 ·dsimp only; rw [AE.ev_congr (y:=x) fun t ht => hh t (by simp [ht]),AE.ev_congr (y:=k) fun t ht => hh t (by simp [ht])]
 ·dsimp only at hf ⊢
  generalize x.ev e = ax at *
  generalize k.ev e = ak at *
  unfold lkA at *
  simp only at hf ⊢
  split at hf <;> first | (cases hf; done) | skip
  rename_i hk
  rw [if_pos hk]
  split at hf <;> first | (cases hf; done) | skip
  ·exact hf
  ·rename_i b
   have hbn : b ≠ n:=fun hh => by rw [hh,hn] at hf; cases hf
   rw [Hp.set_ne _ _ hbn]; exact hf
 ·dsimp only
  generalize x.ev e = ax at *
  generalize k.ev e = ak at *
  unfold lkA
  simp only
  split <;> first | rfl | skip
  split <;> first | rfl | skip
  rename_i b
  rw [hh b (by simp [mref])]
theorem entE_set {x:AV} {h:Hp} {v:AV} {n:Nat} {ob:AObj} (hf : entE x h = some v) (hn : h n = none) : entE x (h.set n ob) = some v:=by
 unfold entE at *
 split at hf <;> first | (cases hf; done) | skip
 rename_i r s
 have hbn : r ≠ n:=fun hh => by rw [hh,hn] at hf; cases hf
 rw [Hp.set_ne _ _ hbn]
 split at hf <;> first | (cases hf; done) | skip
 rename_i m since seen st hb
 split at hf <;> first | (cases hf; done) | skip
 rename_i stamp hst
 have hmn : m ≠ n:=fun hh => by rw [hh,hn] at hf; cases hf
 rw [Hp.set_ne _ _ hmn]
 exact hf
theorem good_ent {x:AE} : (Sm.eff fun e h K => ∃ v,entE (x.ev e) h = some v∧K v h).good x.looks:=by
 refine ⟨fun e e' h K hh hf => ?_,fun e h K K' hk hf => ?_,fun e h K n ob hn hf => ?_⟩
 ·dsimp only at hf ⊢
  rwa [← AE.ev_congr (y:=x) hh]
 ·obtain ⟨v,h1,h2⟩:=hf; exact ⟨v,h1,hk _ _ h2⟩
 ·obtain ⟨v,h1,h2⟩:=hf; exact ⟨v,entE_set h1 hn,h,hn,rfl,h2⟩
theorem good_mup {str:Bool} {x k v : AE} : (Sm.eff fun e h K => mupE str (x.ev e) (k.ev e) (v.ev e) h K).good (x.looks ++ (k.looks ++ v.looks)):=by
 refine ⟨fun e e' h K hh hf => ?_,fun e h K K' hk hf => ?_,fun e h K n ob hn hf => ?_⟩
 ·dsimp only at hf ⊢
  rwa [← AE.ev_congr (y:=x) fun t ht => hh t (by simp [ht]),← AE.ev_congr (y:=k) fun t ht => hh t (by simp [ht]),← AE.ev_congr (y:=v) fun t ht => hh t (by simp [ht])]
 ·dsimp only at hf ⊢
  unfold mupE at *
  refine ⟨hf.1,?_⟩
  replace hf:=hf.2
  split at hf <;> first | exact hf.elim | skip
  split at hf <;> first | exact hf.elim | skip
  split at hf <;> first | exact hf.elim | exact hk _ _ hf
 ·dsimp only at hf ⊢
  unfold mupE at *
  refine ⟨hf.1,?_⟩
  replace hf:=hf.2
  split at hf <;> first | exact hf.elim | skip
  rename_i b _
  have hbn : b ≠ n:=fun hh => by rw [hh,hn] at hf; exact hf.elim
  rw [Hp.set_ne _ _ hbn]
  split at hf <;> first | exact hf.elim | skip
  split at hf <;> first | exact hf.elim | exact ⟨_,by rw [Hp.set_ne _ _ (Ne.symm hbn)]; exact hn,Hp.set_comm _ _ _ (Ne.symm hbn),hf⟩
theorem good_del {str:Bool} {x k : AE} : (Sm.eff fun e h K => delE str (x.ev e) (k.ev e) h K).good (x.looks ++ k.looks):=by
 refine ⟨fun e e' h K hh hf => ?_,fun e h K K' hk hf => ?_,fun e h K n ob hn hf => ?_⟩
 ·dsimp only at hf ⊢
  rwa [← AE.ev_congr (y:=x) fun t ht => hh t (by simp [ht]),← AE.ev_congr (y:=k) fun t ht => hh t (by simp [ht])]
 ·dsimp only at hf ⊢
  unfold delE at *
  refine ⟨hf.1,?_⟩
  replace hf:=hf.2
  split at hf <;> first | exact hf.elim | exact hk _ _ hf | skip
  split at hf <;> first | exact hf.elim | skip
  split at hf <;> first | exact hf.elim | exact hk _ _ hf
 ·dsimp only at hf ⊢
  unfold delE at *
  refine ⟨hf.1,?_⟩
  replace hf:=hf.2
  split at hf <;> first | exact hf.elim | exact ⟨h,hn,rfl,hf⟩ | skip
  rename_i b _
  have hbn : b ≠ n:=fun hh => by rw [hh,hn] at hf; exact hf.elim
  rw [Hp.set_ne _ _ hbn]
  split at hf <;> first | exact hf.elim | skip
  split at hf <;> first | exact hf.elim | exact ⟨_,by rw [Hp.set_ne _ _ (Ne.symm hbn)]; exact hn,Hp.set_comm _ _ _ (Ne.symm hbn),hf⟩
theorem good_rng {x:AE} : (Sm.eff fun e h K => rngE (x.ev e) h K).good x.looks:=by
 refine ⟨fun e e' h K hh hf => ?_,fun e h K K' hk hf => ?_,fun e h K n ob hn hf => ?_⟩
 ·dsimp only at hf ⊢
  rwa [← AE.ev_congr (y:=x) hh]
 ·dsimp only at hf ⊢
  unfold rngE at *
  split at hf <;> first | exact hf.elim | exact fun n hn => hk _ _ (hf n hn) | skip
  split at hf <;> first | exact hf.elim | exact fun n hn => hk _ _ (hf n hn)
 ·dsimp only at hf ⊢
  unfold rngE at *
  have push : ∀ (m:Nat) (o' : AObj) (v:AV),(h.set n ob) m = none → (h m = none → K v (h.set m o')) → ∃ h',h' n = none∧(h.set n ob).set m o' = h'.set n ob∧K v h':=fun m o' v hm hkk => by
   have hmn : m ≠ n:=fun hh => by rw [hh,Hp.set_same] at hm; cases hm
   rw [Hp.set_ne _ _ hmn] at hm
   exact ⟨_,by rw [Hp.set_ne _ _ (Ne.symm hmn)]; exact hn,Hp.set_comm _ _ _ (Ne.symm hmn),hkk hm⟩
  split at hf <;> first | exact hf.elim | skip
  ·exact fun m hm => push m _ _ hm (hf m)
  ·rename_i b _
   have hbn : b ≠ n:=fun hh => by rw [hh,hn] at hf; exact hf.elim
   rw [Hp.set_ne _ _ hbn]
   split at hf <;> first | exact hf.elim | skip
   exact fun m hm => push m _ _ hm (hf m)
theorem good_nxt {x:AE} : (Sm.eff fun e h K => nxtE (x.ev e) h K).good x.looks:=by
 refine ⟨fun e e' h K hh hf => ?_,fun e h K K' hk hf => ?_,fun e h K n ob hn hf => ?_⟩
 ·dsimp only at hf ⊢
  rwa [← AE.ev_congr (y:=x) hh]
 ·dsimp only at hf ⊢
  unfold nxtE at *
  split at hf <;> first | exact hf.elim | skip
  split at hf <;> first | exact hf.elim | exact hk _ _ hf | skip
  split at hf <;> first | exact hf.elim | skip
  exact ⟨hf.1,hf.2.1,fun e he hs => hk _ _ (hf.2.2.1 e he hs),fun hh => hk _ _ (hf.2.2.2 hh)⟩
 ·dsimp only at hf ⊢
  unfold nxtE at *
  split at hf <;> first | exact hf.elim | skip
  rename_i r s _
  have hbn : r ≠ n:=fun hh => by rw [hh,hn] at hf; exact hf.elim
  rw [Hp.set_ne _ _ hbn]
  split at hf <;> first | exact hf.elim | exact ⟨h,hn,rfl,hf⟩ | skip
  rename_i m since seen st hb
  have hmn : m ≠ n:=fun hh => by rw [hh,hn] at hf; exact hf.elim
  rw [Hp.set_ne _ _ hmn]
  split at hf <;> first | exact hf.elim | skip
  exact ⟨hf.1,hf.2.1,fun e he hs => ⟨_,by rw [Hp.set_ne _ _ (Ne.symm hbn)]; exact hn,Hp.set_comm _ _ _ (Ne.symm hbn),hf.2.2.1 e he hs⟩,fun hh => ⟨h,hn,rfl,hf.2.2.2 hh⟩⟩
end
end Go.Hz
/- Methods of what an interface holds; structs of plain fields, compared. -/
namespace Go.Hz
section
variable {P:Program} {o:Oper}
def isPtrD : TypeDesc → Bool
 | .pointer _ => true
 | _ => false
def methOf (P:Program) (t:TypeId) (name:String) : Option FuncId :=
 match P.info? t with
 | some i => match i.methods.find? (·.name == name),P.underlying t with
  | some m,some d => match m.func with
   | some (f,b) => if m.path.isEmpty = true∧isPtrD d = b then some f else none
   | _ => none
  | _,_ => none
 | none => none
def invE (P:Program) (name:String) (x:AV) (args:List AV) (h:Hp) (K:AV → Hp → Prop) : Prop :=
 match x with
 | .iface t v => match methOf P t name with
  | some f => FnOK P f∧Triple P f (v :: args) h K
  | none => False
 | _ => False
theorem method_run {t:TypeId} {v:Value} {name:String} {f:FuncId} (hf : methOf P t name = some f) (n:Nat) (w:World) : (method (n + 1) t v name).run P w = .ok (f,v) w:=by
 unfold methOf at hf
 split at hf <;> first | (cases hf; done) | skip
 rename_i i hi
 split at hf <;> first | (cases hf; done) | skip
 rename_i m d hm hd
 split at hf <;> first | (cases hf; done) | skip
 rename_i f' b hfun
 split at hf <;> first | (cases hf; done) | skip
 rename_i hc
 cases hf
 obtain ⟨hp,hnp⟩:=hc
 have hp : m.path = #[]:=by simpa using hp
 unfold method
 rw [run_bind,run_typeInfo hi,Result.andThen_ok]
 simp only [hm,hp,hfun]
 rw [run_bind]
 simp only [follow]
 rw [run_pure,Result.andThen_ok]
 simp only []
 rw [run_bind]
 have : (receiverAt t (.val v) b (if (#[] : Array FieldStep).isEmpty = true then some ((name.splitOn ".").getLastD name) else none)).run P w = .ok v w:=by
  unfold receiverAt
  rw [run_bind,run_underlying hd,Result.andThen_ok]
  cases d <;> cases b <;> first | (cases hnp; done) | rfl
 rw [this,Result.andThen_ok]
 rfl
theorem sim_inv {name:String} {x:Operand} {x' : AE} {args:Array Operand} {ats:Array TypeId} {args' : List AE} (ho : o.op = .call { callee:=.invoke x name,args,argTypes:=ats }) (hx:AE.of x = some x') (ha:AE.ofL args.toList = some args') :
  OpOK P o (.eff fun e h K => invE P name (x'.ev e) (args'.map (·.ev e)) h K):=by
 intro fz e h a w K he hr hh
 have h0:=AE.of_ok hx he
 have h1:=AE.ofL_ok he ha
 change invE P name (x'.ev e) (args'.map (·.ev e)) h K at hh
 unfold invE at hh
 split at hh <;> first | exact hh.elim | skip
 rename_i t v heq
 split at hh <;> first | exact hh.elim | skip
 rename_i f hf
 obtain ⟨⟨fn,hfn,hn,hb⟩,ht⟩:=hh
 rw [heq] at h0
 obtain ⟨cv,h2,h3⟩ : ∃ cv,a.eval x = .iface t cv∧VR fz w.heap v cv:=by
  generalize a.eval x = cx at h0
  cases h0 with
  | iface _ _ cv hcv => exact ⟨cv,rfl,hcv⟩
 have hrun : (execOp a.eval o).run P w = .ok (.enter f (#[cv] ++ Array.map a.eval args)) w:=by
  simp only [execOp,ho,resolve,h2]
  rw [run_bind,run_pure,Result.andThen_ok]
  unfold invoke
  have e0 : (#[Value.iface t cv] ++ Array.map a.eval args)[0]? = some (.iface t cv):=by rw [Array.getElem?_append_left (by simp)]; rfl
  have e1 : (#[Value.iface t cv] ++ Array.map a.eval args).extract 1 (#[Value.iface t cv] ++ Array.map a.eval args).size = Array.map a.eval args:=by
   apply Array.ext'
   simp
   rw [List.take_of_length_le (by simp)]
  simp only [e0,e1]
  unfold callMethod
  simp only []
  obtain ⟨nn,hnn⟩ : ∃ nn,P.types.size + Made.depth = nn + 1:=⟨P.types.size + Made.depth - 1,by
   have : 0 < Made.depth:=by decide
   omega⟩
  rw [run_bind]
  have hprog : (program).run P w = .ok P w:=rfl
  rw [hprog,Result.andThen_ok,hnn,run_bind,method_run hf,Result.andThen_ok]
  exact callFunc_run hfn hn hb _ _
 refine OutOK.of_enter hrun ?_
 refine (ht fz w (#[cv] ++ Array.map a.eval args) hr (by
  have:=VRs.cons h3 (show VRs fz w.heap (args'.map (·.ev e)) (Array.map a.eval args).toList by rw [Array.toList_map]; exact h1)
  simpa using this)).mono ?_
 rintro ed w' ⟨cv,rv,h',fz',rfl,h2,h3,h4,h5⟩
 exact ⟨cv,rfl,rv,h',fz',h5,h2,h3,h4⟩
theorem good_inv {name:String} {x:AE} {args:List AE} : (Sm.eff fun e h K => invE P name (x.ev e) (args.map (·.ev e)) h K).good (x.looks ++ args.flatMap AE.looks):=by
 refine ⟨fun e e' h K hh hf => ?_,fun e h K K' hk hf => ?_,fun e h K n ob hn hf => ?_⟩
 ·dsimp only at hf ⊢
  rwa [← AE.ev_congr (y:=x) fun t ht => hh t (by simp [ht]),← evs_congr fun t ht => hh t (by simp only [List.mem_append]; exact .inr ht)]
 ·dsimp only at hf ⊢
  unfold invE at *
  split at hf <;> first | exact hf.elim | skip
  split at hf <;> first | exact hf.elim | skip
  exact ⟨hf.1,hf.2.mono hk⟩
 ·dsimp only at hf ⊢
  unfold invE at *
  split at hf <;> first | exact hf.elim | skip
  split at hf <;> first | exact hf.elim | skip
  exact ⟨hf.1,hf.2.frame hn⟩
end
end Go.Hz
/- Structs of plain fields, compared. -/
namespace Go.Hz
inductive PK where
 | b | i | s
 deriving DecidableEq
section
variable {P:Program} {o:Oper}
def eqC : PK → AV → AV → Option Bool
 | .b,.bool a,.bool b => some (a == b)
 | .i,.int k a,.int k' b => if k = k' then some (a == b) else none
 | .s,.str a,.str b => some (a == b)
 | _,_,_ => none
def eqCs : List PK → List AV → List AV → Option Bool
 | [],[],[] => some true
 | k :: ks,a :: xs,b :: ys => match eqC k a b,eqCs ks xs ys with
  | some p,some q => some (p && q)
  | _,_ => none
 | _,_,_ => none
def plainF (P:Program) (g:TypeId → Option (List PK)) : List Field → Nat → Option (List PK)
 | [],_ => some []
 | f :: fs,acc => match g f.type with
  | some n => if f.name ≠ "_" ∧ f.offset = acc∧0 < n.length then (plainF P g fs (acc + n.length)).map (n ++ ·) else none
  | none => none
def plainT (P:Program) : Nat → TypeId → Option (List PK)
 | 0,_ => none
 | d + 1,t => match P.underlying t,P.info? t with
  | some dd,some i => match dd with
   | .bool => some [.b]
   | .int _ => some [.i]
   | .string => some [.s]
   | .struct fs => if P.stoodInHeld t = false then (match plainF P (plainT P d) fs.toList 0 with
    | some n => if n.length = i.size then some n else none
    | none => none) else none
   | _ => none
  | _,_ => none
theorem eqCs_len : ∀ {ks:List PK} {xs ys : List AV} {r:Bool},eqCs ks xs ys = some r → xs.length = ks.length∧ys.length = ks.length
 | [],[],[],_,_ => ⟨rfl,rfl⟩
 | [],_ :: _,_,_,h => by cases h
 | [],[],_ :: _,_,h => by cases h
 | _ :: _,[],_,_,h => by cases h
 | _ :: _,_ :: _,[],_,h => by cases h
 | k :: ks,a :: xs,b :: ys,r,h => by
  simp only [eqCs] at h
  split at h <;> first | (cases h; done) | skip
  rename_i p q hp hq
  have:=eqCs_len hq
  simp [this.1,this.2]
theorem eqCs_cut : ∀ {k1 k2 : List PK} {xs ys : List AV} {r:Bool},eqCs (k1 ++ k2) xs ys = some r → ∃ p q,eqCs k1 (xs.take k1.length) (ys.take k1.length) = some p∧eqCs k2 (xs.drop k1.length) (ys.drop k1.length) = some q∧r = (p && q)
 | [],k2,xs,ys,r,h => ⟨true,r,by simp [eqCs],by simpa using h,by simp⟩
 | k :: k1,k2,[],ys,r,h => by cases ys <;> cases h
 | k :: k1,k2,x :: xs,[],r,h => by cases h
 | k :: k1,k2,x :: xs,y :: ys,r,h => by
  simp only [List.cons_append,eqCs] at h
  split at h <;> first | (cases h; done) | skip
  rename_i p q hp hq
  cases h
  obtain ⟨p2,q2,h1,h2,h3⟩:=eqCs_cut hq
  refine ⟨p && p2,q2,by simp [eqCs,hp,h1],by simpa using h2,by rw [h3,Bool.and_assoc]⟩
def valOf (d:TypeDesc) (cs:List AV) : AV:=if d.isAg = true then .agg cs else cs.getD 0 .undef
theorem partA_val {d:TypeDesc} {cs:List AV} {off n : Nat} (h : off + n ≤ cs.length) (h1 : d.isAg = false → 0 < n) : partA cs off n d.isAg = some (valOf d ((cs.drop off).take n)):=by
 unfold partA valOf
 cases hd : d.isAg with
 | true => simp [h]
 | false =>
  have:=h1 hd
  simp only [Bool.false_eq_true,if_false]
  rw [List.getElem?_eq_getElem (by omega),List.getD_eq_getElem?_getD,List.getElem?_take,if_pos this,List.getElem?_drop,Nat.add_zero,List.getElem?_eq_getElem (by omega)]
  rfl
theorem eqC_run {fz:Nat → Prop} {w:World} {k:PK} {a b : AV} {ca cb : Value} {r:Bool} {t:TypeId} {d:TypeDesc} (ht:P.underlying t = some d) (hd : match k with | .b => d = .bool | .i => ∃ j,d = .int j | .s => d = .string)
  (ha:VR fz w.heap a ca) (hb:VR fz w.heap b cb) (h : eqC k a b = some r) (n:Nat) : (Op.equalIn (n + 1) t ca cb).run P w = .ok r w:=by
 unfold eqC at h
 split at h <;> first | (cases h; done) | skip
 ·cases h; cases ha.bool_inv; cases hb.bool_inv
  subst hd
  exact run_equalIn_bool' w n t _ _ ht
 ·split at h <;> first | (cases h; done) | skip
  rename_i hk
  subst hk
  cases h; cases ha.int_inv; cases hb.int_inv
  obtain ⟨j,rfl⟩:=hd
  exact run_equalIn_int w n t _ _ _ _ ht
 ·cases h; cases ha.str_inv; cases hb.str_inv
  subst hd
  rw [run_equalIn_string w n t _ _ ht,byteArray_toList,byteArray_toList]
theorem eqF_run {fz:Nat → Prop} {w:World} {xs ys : List AV} {cxs cys : Array Value} {g:TypeId → Option (List PK)} {n:Nat} (hx:VRs fz w.heap xs cxs.toList) (hy:VRs fz w.heap ys cys.toList)
    (hg:∀ t ks,g t = some ks → ∃ d i,P.underlying t = some d∧P.info? t = some i∧(d.isAg = true → i.size = ks.length) ∧
      ∀ as2 bs2 ca cb r,VR fz w.heap (valOf d as2) ca → VR fz w.heap (valOf d bs2) cb → eqCs ks as2 bs2 = some r → (Op.equalIn n t ca cb).run P w = .ok r w) :
    ∀ (fs:List Field) (acc:Nat) (ks:List PK) (r:Bool),plainF P g fs acc = some ks → eqCs ks (xs.drop acc) (ys.drop acc) = some r → (Op.eqFields n cxs cys fs).run P w = .ok r w
  | [],acc,ks,r,hp,h => by
    cases hp
    have hl:=eqCs_len h
    have h1 : xs.drop acc = []:=List.length_eq_zero_iff.1 hl.1
    have h2 : ys.drop acc = []:=List.length_eq_zero_iff.1 hl.2
    rw [h1,h2] at h
    cases h
    rfl
  | f :: fs,acc,ks,r,hp,h => by
    simp only [plainF] at hp
    split at hp <;> first | (cases hp; done) | skip
    rename_i k1 hk1
    split at hp <;> first | (cases hp; done) | skip
    rename_i hc
    obtain ⟨hn,hoff,hpos⟩:=hc
    subst hoff
    cases hp2 : plainF P g fs (f.offset + k1.length) with
    | none => rw [hp2] at hp; cases hp
    | some k2 =>
      rw [hp2] at hp
      cases hp
      obtain ⟨p,q,e1,e2,e3⟩:=eqCs_cut h
      obtain ⟨d,i,g1,g2,g3,g5⟩:=hg _ _ hk1
      have hpp : ∀ cs : List AV,partA cs f.offset i.size d.isAg = partA cs f.offset k1.length d.isAg:=fun cs => by
        unfold partA
        cases hd : d.isAg with
        | true => rw [g3 hd]
        | false => rfl
      have l1:=eqCs_len e1
      have lx : f.offset + k1.length ≤ xs.length:=by
        have:=l1.1; rw [List.length_take,List.length_drop] at this; omega
      have ly : f.offset + k1.length ≤ ys.length:=by
        have:=l1.2; rw [List.length_take,List.length_drop] at this; omega
      obtain ⟨ca,a1,a2⟩:=part_run (P:=P) (off:=f.offset) g1 g2 hx (by rw [hpp]; exact partA_val lx fun _ => hpos)
      obtain ⟨cb,b1,b2⟩:=part_run (P:=P) (off:=f.offset) g1 g2 hy (by rw [hpp]; exact partA_val ly fun _ => hpos)
      have hr:=g5 _ _ ca cb p a2 b2 e1
      have ih:=eqF_run hx hy hg fs (f.offset + k1.length) k2 q hp2 (by rw [← List.drop_drop,← List.drop_drop]; exact e2)
      simp only [Op.eqFields]
      rw [if_pos hn,run_bind,a1,Result.andThen_ok,run_bind,b1,Result.andThen_ok,run_bind,hr,Result.andThen_ok]
      cases p with
      | false => rw [e3]; rfl
      | true => rw [e3,Bool.true_and]; simpa using ih
theorem plainT_run : ∀ (d:Nat) (t:TypeId) (ks:List PK),plainT P d t = some ks → ∃ dd i,P.underlying t = some dd∧P.info? t = some i∧(dd.isAg = true → i.size = ks.length) ∧
   ∀ (m:Nat) (fz:Nat → Prop) (w:World) as2 bs2 ca cb r,d ≤ m → VR fz w.heap (valOf dd as2) ca → VR fz w.heap (valOf dd bs2) cb → eqCs ks as2 bs2 = some r → (Op.equalIn m t ca cb).run P w = .ok r w
 | 0,_,_,h => by cases h
 | d + 1,t,ks,h => by
  simp only [plainT] at h
  split at h <;> first | (cases h; done) | skip
  rename_i dd i hd hi
  have one : ∀ k : PK,ks = [k] → (match k with | .b => dd = .bool | .i => ∃ j,dd = .int j | .s => dd = .string) → dd.isAg = false → ∃ dd i,P.underlying t = some dd∧P.info? t = some i∧(dd.isAg = true → i.size = ks.length) ∧
   ∀ (m:Nat) (fz:Nat → Prop) (w:World) as2 bs2 ca cb r,d + 1 ≤ m → VR fz w.heap (valOf dd as2) ca → VR fz w.heap (valOf dd bs2) cb → eqCs ks as2 bs2 = some r → (Op.equalIn m t ca cb).run P w = .ok r w:=by
   rintro k rfl hk hag
   refine ⟨dd,i,hd,hi,fun h => (by rw [hag] at h; cases h),fun m fz w as2 bs2 ca cb r hm ha hb he => ?_⟩
   obtain ⟨n,rfl⟩ : ∃ n,m = n + 1:=⟨m - 1,by omega⟩
   have hl:=eqCs_len he
   match as2,bs2,hl with
   | [a],[b],_ =>
    simp only [eqCs] at he
    split at he <;> first | (cases he; done) | skip
    rename_i p q hp hq
    cases hq; cases he
    rw [Bool.and_true]
    simp only [valOf,hag,Bool.false_eq_true,if_false,List.getD_cons_zero] at ha hb
    exact eqC_run hd hk ha hb hp n
  split at h
  ·cases h; exact one .b rfl rfl rfl
  ·rename_i j; cases h; exact one .i rfl ⟨j,rfl⟩ rfl
  ·cases h; exact one .s rfl rfl rfl
  ·rename_i fs
   split at h <;> first | (cases h; done) | skip
   rename_i hst
   split at h <;> first | (cases h; done) | skip
   rename_i n hn
   split at h <;> first | (cases h; done) | skip
   rename_i hsz
   cases h
   refine ⟨_,i,hd,hi,fun _ => hsz.symm,fun m fz w as2 bs2 ca cb r hm ha hb he => ?_⟩
   obtain ⟨m',rfl⟩ : ∃ n,m = n + 1:=⟨m - 1,by omega⟩
   have ha : VR fz w.heap (.agg as2) ca:=ha
   have hb : VR fz w.heap (.agg bs2) cb:=hb
   obtain ⟨vs,rfl,h2⟩ : ∃ vs,ca = .agg vs∧VRs fz w.heap as2 vs.toList:=by
    cases ha with
    | agg _ vs hl h => exact ⟨vs,rfl,by simpa using hl,fun i a b => by simpa using h i a (by simpa using b)⟩
   obtain ⟨us,rfl,h3⟩ : ∃ vs,cb = .agg vs∧VRs fz w.heap bs2 vs.toList:=by
    cases hb with
    | agg _ vs hl h => exact ⟨vs,rfl,by simpa using hl,fun i a b => by simpa using h i a (by simpa using b)⟩
   have hfo : P.fieldsOf t = fs:=by simp [Program.fieldsOf,hd]
   rw [run_equalIn_struct w m' t vs us (by rw [hfo]; exact hd) hst,hfo]
   refine eqF_run h2 h3 (fun t ks ht => ?_) fs.toList 0 ks r hn (by simpa using he)
   obtain ⟨d2,i2,q1,q2,q3,q5⟩:=plainT_run d t ks ht
   exact ⟨d2,i2,q1,q2,q3,fun as2 bs2 ca cb r a b e => q5 m' fz w as2 bs2 ca cb r (by omega) a b e⟩
  ·cases h
def eqsA (ks:List PK) (neg:Bool) (x y : AV) : Option AV :=
 match x,y with
 | .agg xs,.agg ys => (eqCs ks xs ys).map fun b => .bool (if neg then !b else b)
 | _,_ => none
theorem sim_eqs {neg:Bool} {t t' : TypeId} {x y : Operand} {x' y' : AE} {fs:Array Field} {ks:List PK} (ho : o.op = .binOp (if neg then .neq else .eql) t x y t') (hd:P.underlying t = some (.struct fs)) (hk : plainT P 20 t = some ks)
  (hg:P.eqGuardType P.depth t = false) (hx:AE.of x = some x') (hy:AE.of y = some y') : OpOK P o (.pure fun e => eqsA ks neg (x'.ev e) (y'.ev e)):=by
 refine OpOK.of_pure fun fz e a w he v hv => ?_
 have h1:=AE.of_ok hx he
 have h2:=AE.of_ok hy he
 generalize x'.ev e = ax at *
 generalize y'.ev e = ay at *
 unfold eqsA at hv
 split at hv <;> first | (cases hv; done) | skip
 rename_i xs ys
 cases hb : eqCs ks xs ys with
 | none => rw [hb] at hv; cases hv
 | some b =>
  rw [hb] at hv
  cases hv
  obtain ⟨dd,i,q1,q2,q3,q5⟩:=plainT_run 20 t ks hk
  rw [hd] at q1
  cases q1
  have hrun:=q5 10000 fz w xs ys _ _ b (by decide) h1 h2 hb
  refine ⟨.bool (if neg then !b else b),?_,.bool _⟩
  simp only [execOp,ho]
  generalize hcx : a.eval x = cx at *
  generalize hcy : a.eval y = cy at *
  obtain ⟨vs,rfl⟩ : ∃ vs,cx = .agg vs:=by cases h1 with | agg _ vs hl h => exact ⟨vs,rfl⟩
  obtain ⟨us,rfl⟩ : ∃ vs,cy = .agg vs:=by cases h2 with | agg _ vs hl h => exact ⟨vs,rfl⟩
  refine run_value _ ?_
  have hg' : (eqGuard (if neg then .neq else .eql) t x y (.agg vs) (.agg us)).run P w = .ok () w:=run_eqGuard_agg w _ t x y vs us hg
  rw [run_bind,hg',Result.andThen_ok]
  cases neg with
  | false =>
   simp only [binOp,Bool.false_eq_true,if_false]
   rw [run_bind]
   show ((Op.equalIn 10000 t (.agg vs) (.agg us)).run P w).andThen _ = _
   rw [hrun,Result.andThen_ok]; rfl
  | true =>
   simp only [binOp,if_true]
   rw [run_bind]
   show ((Op.equalIn 10000 t (.agg vs) (.agg us)).run P w).andThen _ = _
   rw [hrun,Result.andThen_ok]; rfl
end
end Go.Hz
/- The operations as data; what each means; from the model's operations to them. -/
namespace Go.Hz
inductive AOp where
 | mv (x:AE)
 | pick (c a b : AE)
 | bin (op:BinOp) (x y : AE)
 | eqn (k:NK) (neg:Bool) (x y : AE)
 | un (op:UnOp) (x:AE)
 | cvi (k:IntKind) (x:AE)
 | cvs (x:AE)
 | nilck (x:AE)
 | fa (off:Nat) (x:AE)
 | fld (off sz : Nat) (ag:Bool) (x:AE)
 | ixs (x i : AE)
 | ia (s:Nat) (x i : AE)
 | slcS (x:AE) (lo hi : Option AE)
 | slcL (s:Nat) (x:AE) (lo hi : Option AE)
 | lenS (x:AE)
 | lenL (x:AE)
 | capL (x:AE)
 | ext (n:Nat) (x:AE)
 | mkif (t:TypeId) (x:AE)
 | ta (t:TypeId) (ok:Bool) (zero:AV) (x:AE)
 | mkfn (f:FuncId) (caps:List AE)
 | mm (mx:Bool) (x y : AE)
 | bld (zero:List AV) (parts:List (Nat × Nat × AE))
 | ld (sz:Nat) (ag:Bool) (x:AE)
 | bstr (x:AE)
 | box (x:AE)
 | alloc (zero:List AV)
 | bsl (zero:List AV) (n:Nat) (parts:List (Nat × AE))
 | msl (bytes:Nat) (zero:List AV) (len cap : AE)
 | st (sz:Nat) (x y : AE)
 | app (s bytes : Nat) (x y : AE)
 | cp (s:Nat) (x y : AE)
 | strb (x:AE)
 | call (f:FuncId) (args:List AE)
 | callv (x:AE) (args:List AE)
 | iap (n s : Nat) (x i : AE)
 | ixa (n s : Nat) (ag:Bool) (x i : AE)
 | cvb (x:AE)
 | nop
 | slcM (s:Nat) (x:AE) (lo:Option AE) (hi mx : AE)
 | clr (s:Nat) (zero:List AV) (x:AE)
 | appz (s bytes : Nat) (zero:List AV) (x y : AE)
 | ovl (s:Nat) (x y : AE)
 | mkm
 | lenM (x:AE)
 | lkp (str ok : Bool) (zero:AV) (x k : AE)
 | mup (str:Bool) (x k v : AE)
 | del (str:Bool) (x k : AE)
 | rng (x:AE)
 | nxt (x:AE)
 | ent (x:AE)
 | inv (name:String) (x:AE) (args:List AE)
 | eqs (ks:List PK) (neg:Bool) (x y : AE)
instance : Inhabited AOp:=⟨.mv (.tm 0)⟩
def oev (e:Env) (x:Option AE) : Option AV:=x.map (·.ev e)
def olooks : Option AE → List Nat
 | none => []
 | some x => x.looks
def evs (e:Env) (xs:List AE) : List AV:=xs.map (·.ev e)
def AOp.sm (P:Program) : AOp → Sm
 | .mv x => .pure fun e => some (x.ev e)
 | .pick c a b => .pure fun e => pickA (c.ev e) (a.ev e) (b.ev e)
 | .bin op x y => .pure fun e => binA op (x.ev e) (y.ev e)
 | .eqn k neg x y => .pure fun e => (eqN k (x.ev e) (y.ev e)).map fun b => .bool (if neg then !b else b)
 | .un op x => .pure fun e => unA op (x.ev e)
 | .cvi k x => .pure fun e => cviA k (x.ev e)
 | .cvs x => .pure fun e => strA (x.ev e)
 | .nilck x => .pure fun e => ckA (x.ev e)
 | .fa off x => .pure fun e => faA off (x.ev e)
 | .fld off sz ag x => .pure fun e => fldA off sz ag (x.ev e)
 | .ixs x i => .pure fun e => ixsA (x.ev e) (i.ev e)
 | .ia s x i => .pure fun e => iaA s (x.ev e) (i.ev e)
 | .slcS x lo hi => .pure fun e => Hz.slcS (x.ev e) (oev e lo) (oev e hi)
 | .slcL s x lo hi => .pure fun e => Hz.slcL s (x.ev e) (oev e lo) (oev e hi)
 | .lenS x => .pure fun e => Hz.lenS (x.ev e)
 | .lenL x => .pure fun e => Hz.lenL (x.ev e)
 | .capL x => .pure fun e => Hz.capL (x.ev e)
 | .ext n x => .pure fun e => extA n (x.ev e)
 | .mkif t x => .pure fun e => some (.iface t (x.ev e))
 | .ta t ok z x => .pure fun e => taA t ok z (x.ev e)
 | .mkfn f caps => .pure fun e => some (.fn f (evs e caps))
 | .mm mx x y => .pure fun e => mmA mx (x.ev e) (y.ev e)
 | .bld z ps => .pure fun e => (fillA z (evParts e ps)).map .agg
 | .ld sz ag x => .load fun e h => ldA sz ag h (x.ev e)
 | .bstr x => .load fun e h => bstrA h (x.ev e)
 | .box x => .mk fun e => if ((x.ev e).cells.all AV.isAtom) = true then some (.inr (.row (x.ev e).cells.length [(x.ev e).cells] 1,fun n => .ptr n (x.ev e).cells.length 0 0)) else none
 | .alloc z => .mk fun _ => some (.inr (.row z.length [z] 1,fun n => .ptr n z.length 0 0))
 | .bsl z n ps => .mk fun e => (setL z.length (List.replicate n z) (evIdx e ps)).map fun es => .inr (.row z.length es n,fun b => .arr b z.length 0 n n)
 | .msl bytes z l c => .mk fun e => mslA z.length bytes z (l.ev e) (c.ev e)
 | .st sz x y => .eff fun e h K => ∃ h',stA sz h (x.ev e) (y.ev e) = some h'∧K (.tup []) h'
 | .app s bytes x y => .eff fun e h K => appE s bytes (x.ev e) (y.ev e) h K
 | .cp s x y => .eff fun e h K => cpE s (x.ev e) (y.ev e) h K
 | .strb x => .eff fun e h K => strbE (x.ev e) h K
 | .call f args => .eff fun e h K => Triple P f (evs e args) h K
 | .callv x args => .eff fun e h K => callvE P (x.ev e) (evs e args) h K
 | .iap n s x i => .pure fun e => iapA n s (x.ev e) (i.ev e)
 | .ixa n s ag x i => .pure fun e => ixaA n s ag (x.ev e) (i.ev e)
 | .cvb x => .eff fun e h K => cvbE (x.ev e) h K
 | .nop => .eff fun _ h K => K (.tup []) h
 | .slcM s x lo hi mx => .pure fun e => Hz.slcM s (x.ev e) (oev e lo) (hi.ev e) (mx.ev e)
 | .clr s z x => .eff fun e h K => clrE s z (x.ev e) h K
 | .appz s bytes z x y => .eff fun e h K => appzE s bytes z (x.ev e) (y.ev e) h K
 | .ovl s x y => .eff fun e h K => ovlE s (x.ev e) (y.ev e) h K
 | .mkm => .mk fun _ => some (.inr (.mp [] 0,fun n => .map n))
 | .lenM x => .load fun e h => Hz.lenM h (x.ev e)
 | .lkp str ok z x k => .load fun e h => lkA str ok z h (x.ev e) (k.ev e)
 | .mup str x k v => .eff fun e h K => mupE str (x.ev e) (k.ev e) (v.ev e) h K
 | .del str x k => .eff fun e h K => delE str (x.ev e) (k.ev e) h K
 | .rng x => .eff fun e h K => rngE (x.ev e) h K
 | .nxt x => .eff fun e h K => nxtE (x.ev e) h K
 | .ent x => .eff fun e h K => ∃ v,entE (x.ev e) h = some v∧K v h
 | .inv name x args => .eff fun e h K => invE P name (x.ev e) (evs e args) h K
 | .eqs ks neg x y => .pure fun e => eqsA ks neg (x.ev e) (y.ev e)
def AOp.looks : AOp → List Nat
 | .mv x | .un _ x | .cvi _ x | .cvs x | .nilck x | .fa _ x | .fld _ _ _ x | .lenS x | .lenL x | .capL x | .ext _ x | .mkif _ x | .ta _ _ _ x | .ld _ _ x | .bstr x | .box x | .strb x | .cvb x | .clr _ _ x => x.looks
 | .pick c a b => c.looks ++ (a.looks ++ b.looks)
 | .bin _ x y | .eqn _ _ x y | .ixs x y | .ia _ x y | .mm _ x y | .st _ x y | .app _ _ x y | .cp _ x y | .msl _ _ x y | .iap _ _ x y | .ixa _ _ _ x y | .appz _ _ _ x y | .ovl _ x y => x.looks ++ y.looks
 | .slcS x lo hi | .slcL _ x lo hi => x.looks ++ (olooks lo ++ olooks hi)
 | .slcM _ x lo hi mx => x.looks ++ (olooks lo ++ (hi.looks ++ mx.looks))
 | .mkfn _ caps => caps.flatMap AE.looks
 | .bld _ ps => ps.flatMap fun p => p.2.2.looks
 | .alloc _ => []
 | .nop => []
 | .bsl _ _ ps => ps.flatMap fun p => p.2.looks
 | .call _ args => args.flatMap AE.looks
 | .callv x args => x.looks ++ args.flatMap AE.looks
 | .mkm => []
 | .lenM x | .rng x | .nxt x | .ent x => x.looks
 | .lkp _ _ _ x k | .del _ x k | .eqs _ _ x k => x.looks ++ k.looks
 | .mup _ x k v => x.looks ++ (k.looks ++ v.looks)
 | .inv _ x args => x.looks ++ args.flatMap AE.looks
inductive Kind where
 | pure | load | mk | eff
 deriving DecidableEq
def AOp.kind : AOp → Kind
 | .ld .. | .bstr .. | .lenM .. | .lkp .. => .load
 | .box .. | .alloc .. | .bsl .. | .msl .. | .mkm => .mk
 | .st .. | .app .. | .cp .. | .strb .. | .call .. | .callv .. | .cvb .. | .nop | .clr .. | .appz .. | .ovl .. | .mup .. | .del .. | .rng .. | .nxt .. | .ent .. | .inv .. => .eff
 | _ => .pure
theorem oev_congr {x:Option AE} {e e' : Env} (h:∀ t ∈ olooks x,e t = e' t) : oev e x = oev e' x:=by
 cases x with
 | none => rfl
 | some x => simp only [oev,Option.map_some]; rw [AE.ev_congr h]
theorem evParts_congr {ps:List (Nat × Nat × AE)} {e e' : Env} (h:∀ t ∈ ps.flatMap (fun p => p.2.2.looks),e t = e' t) : evParts e ps = evParts e' ps :=
 List.map_congr_left fun x hx => by rw [AE.ev_congr fun t ht => h t (List.mem_flatMap.2 ⟨x,hx,ht⟩)]
theorem evIdx_congr {ps:List (Nat × AE)} {e e' : Env} (h:∀ t ∈ ps.flatMap (fun p => p.2.looks),e t = e' t) : evIdx e ps = evIdx e' ps :=
 List.map_congr_left fun x hx => by rw [AE.ev_congr fun t ht => h t (List.mem_flatMap.2 ⟨x,hx,ht⟩)]
theorem AOp.good (P:Program) (o:AOp) : (o.sm P).good o.looks:=by
 cases o with
 | ld sz ag x => exact good_ld
 | bstr x => exact good_bstr
 | st sz x y => exact good_st
 | app s b x y => exact good_app
 | cp s x y => exact good_cp
 | strb x => exact good_strb
 | call f args => exact good_call
 | callv x args => exact good_callv
 | cvb x => exact good_cvb
 | clr s z x => exact good_clr
 | appz s b z x y => exact good_appz
 | ovl s x y => exact good_ovl
 | mkm => intro e e' h; rfl
 | lenM x => exact good_lenM
 | lkp str ok z x k => exact good_lkp
 | mup str x k v => exact good_mup
 | del str x k => exact good_del
 | rng x => exact good_rng
 | nxt x => exact good_nxt
 | ent x => exact good_ent
 | inv name x args => exact good_inv
 | eqs ks neg x y => intro e e' h; simp only [AOp.looks,List.mem_append] at h; dsimp only; rw [AE.ev_congr (y:=x) fun t ht => h t (.inl ht),AE.ev_congr (y:=y) fun t ht => h t (.inr ht)]
 | slcM s x lo hi mx =>
  intro e e' h
  simp only [AOp.looks,List.mem_append] at h
  dsimp only
  rw [AE.ev_congr (y:=x) fun t ht => h t (.inl ht),oev_congr (x:=lo) fun t ht => h t (.inr (.inl ht)),AE.ev_congr (y:=hi) fun t ht => h t (.inr (.inr (.inl ht))),AE.ev_congr (y:=mx) fun t ht => h t (.inr (.inr (.inr ht)))]
 | nop => exact ⟨fun _ _ _ _ _ hf => hf,fun _ _ _ _ hk hf => hk _ _ hf,fun e h K n ob hn hf => ⟨h,hn,rfl,hf⟩⟩
 | iap n s x y => intro e e' h; simp only [AOp.looks,List.mem_append] at h; dsimp only; rw [AE.ev_congr (y:=x) fun t ht => h t (.inl ht),AE.ev_congr (y:=y) fun t ht => h t (.inr ht)]
 | ixa n s ag x y => intro e e' h; simp only [AOp.looks,List.mem_append] at h; dsimp only; rw [AE.ev_congr (y:=x) fun t ht => h t (.inl ht),AE.ev_congr (y:=y) fun t ht => h t (.inr ht)]
 | slcS x lo hi =>
  intro e e' h
  simp only [AOp.looks,List.mem_append] at h
  dsimp only
  rw [AE.ev_congr (y:=x) fun t ht => h t (.inl ht),oev_congr (x:=lo) fun t ht => h t (.inr (.inl ht)),oev_congr (x:=hi) fun t ht => h t (.inr (.inr ht))]
 | slcL s x lo hi =>
  intro e e' h
  simp only [AOp.looks,List.mem_append] at h
  dsimp only
  rw [AE.ev_congr (y:=x) fun t ht => h t (.inl ht),oev_congr (x:=lo) fun t ht => h t (.inr (.inl ht)),oev_congr (x:=hi) fun t ht => h t (.inr (.inr ht))]
 | pick c a b =>
  intro e e' h
  simp only [AOp.looks,List.mem_append] at h
  dsimp only
  rw [AE.ev_congr (y:=c) fun t ht => h t (.inl ht),AE.ev_congr (y:=a) fun t ht => h t (.inr (.inl ht)),AE.ev_congr (y:=b) fun t ht => h t (.inr (.inr ht))]
 | mkfn f caps => intro e e' h; dsimp only; rw [show evs e caps = evs e' caps from evs_congr h]
 | bld z ps => intro e e' h; dsimp only; rw [evParts_congr h]
 | bsl z n ps => intro e e' h; dsimp only; rw [evIdx_congr h]
 | alloc z => intro e e' h; rfl
 | bin op x y => intro e e' h; simp only [AOp.looks,List.mem_append] at h; dsimp only; rw [AE.ev_congr (y:=x) fun t ht => h t (.inl ht),AE.ev_congr (y:=y) fun t ht => h t (.inr ht)]
 | eqn k neg x y => intro e e' h; simp only [AOp.looks,List.mem_append] at h; dsimp only; rw [AE.ev_congr (y:=x) fun t ht => h t (.inl ht),AE.ev_congr (y:=y) fun t ht => h t (.inr ht)]
 | ixs x y => intro e e' h; simp only [AOp.looks,List.mem_append] at h; dsimp only; rw [AE.ev_congr (y:=x) fun t ht => h t (.inl ht),AE.ev_congr (y:=y) fun t ht => h t (.inr ht)]
 | ia s x y => intro e e' h; simp only [AOp.looks,List.mem_append] at h; dsimp only; rw [AE.ev_congr (y:=x) fun t ht => h t (.inl ht),AE.ev_congr (y:=y) fun t ht => h t (.inr ht)]
 | mm mx x y => intro e e' h; simp only [AOp.looks,List.mem_append] at h; dsimp only; rw [AE.ev_congr (y:=x) fun t ht => h t (.inl ht),AE.ev_congr (y:=y) fun t ht => h t (.inr ht)]
 | msl b z x y => intro e e' h; simp only [AOp.looks,List.mem_append] at h; dsimp only; rw [AE.ev_congr (y:=x) fun t ht => h t (.inl ht),AE.ev_congr (y:=y) fun t ht => h t (.inr ht)]
 | mv x => intro e e' h; dsimp only; rw [AE.ev_congr (y:=x) h]
 | un op x => intro e e' h; dsimp only; rw [AE.ev_congr (y:=x) h]
 | cvi k x => intro e e' h; dsimp only; rw [AE.ev_congr (y:=x) h]
 | cvs x => intro e e' h; dsimp only; rw [AE.ev_congr (y:=x) h]
 | nilck x => intro e e' h; dsimp only; rw [AE.ev_congr (y:=x) h]
 | fa off x => intro e e' h; dsimp only; rw [AE.ev_congr (y:=x) h]
 | fld off sz ag x => intro e e' h; dsimp only; rw [AE.ev_congr (y:=x) h]
 | lenS x => intro e e' h; dsimp only; rw [AE.ev_congr (y:=x) h]
 | lenL x => intro e e' h; dsimp only; rw [AE.ev_congr (y:=x) h]
 | capL x => intro e e' h; dsimp only; rw [AE.ev_congr (y:=x) h]
 | ext n x => intro e e' h; dsimp only; rw [AE.ev_congr (y:=x) h]
 | mkif t x => intro e e' h; dsimp only; rw [AE.ev_congr (y:=x) h]
 | ta t ok z x => intro e e' h; dsimp only; rw [AE.ev_congr (y:=x) h]
 | box x => intro e e' h; dsimp only; rw [AE.ev_congr (y:=x) h]
theorem AOp.kind_pure {P:Program} {o:AOp} (h : o.kind = .pure) : (o.sm P).isPure = true:=by cases o <;> first | rfl | cases h
theorem AOp.kind_load {P:Program} {o:AOp} (h : o.kind = .load) : (o.sm P).isLoad = true:=by cases o <;> first | rfl | cases h
theorem AOp.kind_mk {P:Program} {o:AOp} (h : o.kind = .mk) : (o.sm P).isMk = true:=by cases o <;> first | rfl | cases h
theorem AOp.kind_eff {P:Program} {o:AOp} (h : o.kind = .eff) : (o.sm P).isEff = true:=by cases o <;> first | rfl | cases h
def okFn (P:Program) (f:FuncId) : Bool :=
 match P.funcs[f]? with
 | some fn => fn.name != "runtime.NumGoroutine" && fn.body.isSome
 | none => false
def nkOf : TypeDesc → Option NK
 | .bool => some .bool
 | .pointer _ => some .ptr
 | .slice _ => some .sl
 | .map _ _ => some .mp
 | .func _ _ _ => some .fn
 | .interface _ => some .ifc
 | _ => none
def constO : Operand → Bool
 | .const _ => true
 | _ => false
def notIfc : NK → Bool
 | .ifc => false
 | _ => true
def o2 {α β γ : Type} (x:Option α) (y:Option β) (f : α → β → γ) : Option γ:=match x,y with | some a,some b => some (f a b) | _,_ => none
def isStrD : TypeDesc → Bool
 | .string => true
 | _ => false
def compBuiltin (P:Program) (b:Builtin) (args:List Operand) (ats:Array TypeId) : Option AOp :=
 match b,args with
 | .len,[x] => match AE.of x,ats[0]? with
  | some x',some t => match P.underlying t with
   | some .string => some (.lenS x')
   | some (.slice _) => some (.lenL x')
   | some (.map _ _) => some (.lenM x')
   | _ => none
  | _,_ => none
 | .cap,[x] => match AE.of x,ats[0]? with
  | some x',some t => match P.underlying t with
   | some (.slice _) => some (.capL x')
   | _ => none
  | _,_ => none
 | .max,[x,y] => match AE.of x,AE.of y with
  | some x',some y' => some (.mm true x' y')
  | _,_ => none
 | .min,[x,y] => match AE.of x,AE.of y with
  | some x',some y' => some (.mm false x' y')
  | _,_ => none
 | .append,[x,y] => match AE.of x,AE.of y,ats[0]?,ats[1]? with
  | some x',some y',some xt,some yt => match P.underlying xt,P.underlying yt with
   | some (.slice el),some dy => match P.info? el with
    | some i => match i.zero with
     | some z => if z.cells.size = i.size∧i.bytes ≠ 0 then (match dy with
      | .int _ => match zeroA z with
       | some zs => if zs.length = i.size then some (.appz i.size i.bytes zs x' y') else none
       | none => none
      | _ => some (.app i.size i.bytes x' y')) else none
     | none => none
    | none => none
   | _,_ => none
  | _,_,_,_ => none
 | .copy,[x,y] => match AE.of x,AE.of y,ats[0]? with
  | some x',some y',some xt => match P.underlying xt with
   | some (.slice el) => match P.info? el with
    | some i => some (.cp i.size x' y')
    | none => none
   | _ => none
  | _,_,_ => none
 | .delete,[x,y] => match AE.of x,AE.of y,ats[0]? with
  | some x',some y',some t => match P.underlying t with
   | some (.map kt _) => match P.underlying kt with
    | some kd => if keyDesc (isStrD kd) kd = true then some (.del (isStrD kd) x' y') else none
    | none => none
   | _ => none
  | _,_,_ => none
 | .clear,[x] => match AE.of x,ats[0]? with
  | some x',some xt => match P.underlying xt with
   | some (.slice el) => match P.info? el with
    | some i => match i.zero with
     | some z => match zeroA z with
      | some zs => if zs.length = i.size∧zs.all AV.isAtom = true then some (.clr i.size zs x') else none
      | none => none
     | none => none
    | none => none
   | _ => none
  | _,_ => none
 | _,_ => none
def compOp (P:Program) (o:Oper) : Option AOp :=
 match o.op with
 | .move x => (AE.of x).map .mv
 | .assign x => (AE.of x).map .mv
 | .pick c a b => match AE.of c,AE.of a,AE.of b with
  | some c',some a',some b' => some (.pick c' a' b')
  | _,_,_ => none
 | .binOp op t x y _ => match AE.of x,AE.of y,P.underlying t with
  | some x',some y',some d => match d with
   | .int _ => some (.bin op x' y')
   | .string => some (.bin op x' y')
   | .struct _ => match op,plainT P 20 t with
    | .eql,some ks => if P.eqGuardType P.depth t = false then some (.eqs ks false x' y') else none
    | .neq,some ks => if P.eqGuardType P.depth t = false then some (.eqs ks true x' y') else none
    | _,_ => none
   | d => match op,nkOf d with
    | .eql,some k => if (constO y = true ∨ notIfc k = true)∧elemOK P d = true then some (.eqn k false x' y') else none
    | .neq,some k => if (constO y = true ∨ notIfc k = true)∧elemOK P d = true then some (.eqn k true x' y') else none
    | _,_ => none
  | _,_,_ => none
 | .unOp op _ x => (AE.of x).map (.un op)
 | .convert s d x => match AE.of x,P.underlying s,P.underlying d with
  | some x',some ds,some dd => match ds,dd with
   | .string,.string => some (.cvs x')
   | .string,.slice el => match P.underlying el with
    | some (.int .u8) => some (.strb x')
    | _ => none
   | .slice el,.string => match P.underlying el with
    | some (.int .u8) => some (.bstr x')
    | _ => none
   | .int _,.int k => some (.cvi k x')
   | .slice el,.slice _ => if s = d then (match P.underlying el with
    | some (.int .u8) => some (.cvb x')
    | _ => none) else none
   | _,_ => none
  | _,_,_ => none
 | .nilCheck x => (AE.of x).map .nilck
 | .panic _ => some (.nilck (.cs .nilp))
 | .fieldAddr s x n => match AE.of x,P.underlying s with
  | some x',some (.struct fs) => match fs[n]? with
   | some fl => match P.info? fl.type with
    | some i => if i.size ≠ 0 then some (.fa fl.offset x') else none
    | none => none
   | none => none
  | _,_ => none
 | .field s x n => match AE.of x,P.underlying s with
  | some x',some (.struct fs) => match fs[n]? with
   | some fl => match P.info? fl.type,P.underlying fl.type with
    | some i,some d => some (.fld fl.offset i.size d.isAg x')
    | _,_ => none
   | none => none
  | _,_ => none
 | .index t x i => match AE.of x,AE.of i,P.underlying t with
  | some x',some i',some .string => some (.ixs x' i')
  | some x',some i',some (.array n el) => match P.info? el,P.underlying el with
   | some inf,some d => some (.ixa n inf.size d.isAg x' i')
   | _,_ => none
  | _,_,_ => none
 | .indexAddr t x i => match AE.of x,AE.of i,P.underlying t with
  | some x',some i',some (.slice el) => match P.info? el with
   | some inf => some (.ia inf.size x' i')
   | none => none
  | some x',some i',some (.array n el) => match P.info? el with
   | some inf => some (.iap n inf.size x' i')
   | none => none
  | _,_,_ => none
 | .slice t x lo hi none => match AE.of x,AE.ofO lo,AE.ofO hi,P.underlying t with
  | some x',some lo',some hi',some d => match d with
   | .string => some (.slcS x' lo' hi')
   | .slice el => match P.info? el with
    | some inf => some (.slcL inf.size x' lo' hi')
    | none => none
   | _ => none
  | _,_,_,_ => none
 | .slice t x lo (some hi) (some mx) => match AE.of x,AE.ofO lo,AE.of hi,AE.of mx,P.underlying t with
  | some x',some lo',some hi',some mx',some (.slice el) => match P.info? el with
   | some inf => some (.slcM inf.size x' lo' hi' mx')
   | none => none
  | _,_,_,_,_ => none
 | .extract x n => (AE.of x).map (.ext n)
 | .makeInterface t x => match AE.of x,P.underlying t with
  | some x',some d => match d with
   | .interface _ => none
   | _ => some (.mkif t x')
  | _,_ => none
 | .typeAssert x _ t ok => match AE.of x,P.underlying t,P.info? t with
  | some x',some d,some i => match d with
   | .interface _ => none
   | _ => match i.zero with
    | some z => match avOf z with
     | some za => some (.ta t ok za x')
     | none => none
    | none => none
  | _,_,_ => none
 | .makeFunc (.func f) first caps => if first = #[] then (AE.ofL caps.toList).map (.mkfn f) else none
 | .build t parts => match P.underlying t,P.info? t with
  | some (.struct fs),some i => match i.zero with
   | some z => match zeroA z with
    | some zs => if (fs.toList.all fun f => (P.info? f.type).isSome) = true then (AE.ofParts ((placesOf P fs)[·]?) parts.toList).map (.bld zs) else none
    | none => none
   | none => none
  | some (.array _ el),some i => match i.zero,P.info? el with
   | some z,some ie => match zeroA z with
    | some zs => (AE.ofParts (fun i => some (i * ie.size,ie.size)) parts.toList).map (.bld zs)
    | none => none
   | _,_ => none
  | _,_ => none
 | .load t x => match AE.of x,P.underlying t,P.info? t with
  | some x',some d,some i => some (.ld i.size d.isAg x')
  | _,_,_ => none
 | .box _ x => (AE.of x).map .box
 | .alloc t => match P.info? t with
  | some i => match i.zero with
   | some z => (zeroA z).map .alloc
   | none => none
  | none => none
 | .buildSlice t n parts => match P.underlying t with
  | some (.slice el) => match P.info? el with
   | some i => match i.zero with
    | some z => match zeroA z with
     | some zs => if zs.length = i.size∧n * i.size ≤ 16777216 then (AE.ofIdx parts.toList).map (.bsl zs n) else none
     | none => none
    | none => none
   | none => none
  | _ => none
 | .makeSlice t l c => match AE.of l,AE.of c,P.underlying t with
  | some l',some c',some (.slice el) => match P.info? el with
   | some i => match i.zero with
    | some z => match zeroA z with
     | some zs => if zs.length = i.size then some (.msl i.bytes zs l' c') else none
     | none => none
    | none => none
   | none => none
  | _,_,_ => none
 | .store t x y => match AE.of x,AE.of y,P.info? t with
  | some x',some y',some i => some (.st i.size x' y')
  | _,_,_ => none
 | .call c => match c.callee with
  | .value (.func f) => if okFn P f = true then (AE.ofL c.args.toList).map (.call f) else match c.args.toList with
   | [x,y] => match ovlOf P f,AE.of x,AE.of y with
    | some s,some x',some y' => some (.ovl s x' y')
    | _,_,_ => none
   | _ => none
  | .value x => match AE.of x,AE.ofL c.args.toList with
   | some x',some as => some (.callv x' as)
   | _,_ => none
  | .builtin b => compBuiltin P b c.args.toList c.argTypes
  | .invoke x name => match AE.of x,AE.ofL c.args.toList with
   | some x',some as => some (.inv name x' as)
   | _,_ => none
 | .makeMap _ none => some .mkm
 | .lookup t x k ok => match AE.of x,AE.of k,P.underlying t with
  | some x',some k',some (.map kt el) => match P.underlying kt,P.info? el with
   | some kd,some i => match i.zero with
    | some z => match avOf z with
     | some za => if keyDesc (isStrD kd) kd = true then some (.lkp (isStrD kd) ok za x' k') else none
     | none => none
    | none => none
   | _,_ => none
  | _,_,_ => none
 | .mapUpdate t x k v => match AE.of x,AE.of k,AE.of v,P.underlying t with
  | some x',some k',some v',some (.map kt _) => match P.underlying kt with
   | some kd => if keyDesc (isStrD kd) kd = true then some (.mup (isStrD kd) x' k' v') else none
   | none => none
  | _,_,_,_ => none
 | .range t x => match AE.of x,P.underlying t with
  | some x',some (.map _ _) => some (.rng x')
  | _,_ => none
 | .next x false => (AE.of x).map .nxt
 | .entry x => (AE.of x).map .ent
 | _ => none
end Go.Hz
/- What the model's operations are turned into does what they do. -/
namespace Go.Hz
section
variable {P:Program} {o:Oper} {ao:AOp}
theorem okFn_ok {f:FuncId} (h : okFn P f = true) : FnOK P f:=by
 unfold okFn at h
 split at h
 ·rename_i fn hf
  simp only [Bool.and_eq_true,bne_iff_ne,ne_eq] at h
  exact ⟨fn,hf,h.1,h.2⟩
 ·cases h
theorem nkOf_fits {d:TypeDesc} {k:NK} (h : nkOf d = some k) : k.fits d = true:=by
 cases d <;> simp [nkOf] at h <;> subst h <;> rfl
theorem compBuiltin_ok {b:Builtin} {args ats : Array _} (ho : o.op = .call { callee:=.builtin b,args,argTypes:=ats }) (h : compBuiltin P b args.toList ats = some ao) : OpOK P o (ao.sm P):=by
 have harr : ∀ l : List Operand,args.toList = l → args = l.toArray:=fun l hl => by rw [← hl]
 unfold compBuiltin at h
 split at h
 ·rename_i x heq
  have ha:=harr _ heq
  subst ha
  split at h <;> first | (cases h; done) | skip
  rename_i x' t hx ht
  split at h <;> first | (cases h; done) | skip
  ·rename_i hd; cases h; exact sim_lenS ho ht hd hx
  ·rename_i hd; cases h; exact sim_lenL ho ht hd hx
  ·rename_i hd; cases h; exact sim_lenM ho ht hd hx
 ·rename_i x heq
  have ha:=harr _ heq
  subst ha
  split at h <;> first | (cases h; done) | skip
  rename_i x' t hx ht
  split at h <;> first | (cases h; done) | skip
  rename_i hd; cases h; exact sim_capL ho ht hd hx
 ·rename_i x y heq
  have ha:=harr _ heq
  subst ha
  split at h <;> first | (cases h; done) | skip
  rename_i x' y' hx hy
  cases h
  exact sim_mm (mx:=true) ho hx hy
 ·rename_i x y heq
  have ha:=harr _ heq
  subst ha
  split at h <;> first | (cases h; done) | skip
  rename_i x' y' hx hy
  cases h
  exact sim_mm (mx:=false) ho hx hy
 ·rename_i x y heq
  have ha:=harr _ heq
  subst ha
  split at h <;> first | (cases h; done) | skip
  rename_i x' y' xt yt hx hy hxt hyt
  split at h <;> first | (cases h; done) | skip
  rename_i el dy hd hdy
  split at h <;> first | (cases h; done) | skip
  rename_i i hi
  split at h <;> first | (cases h; done) | skip
  rename_i z hz
  split at h <;> first | (cases h; done) | skip
  rename_i hc
  split at h
  ·split at h <;> first | (cases h; done) | skip
   rename_i zs hzs
   split at h <;> first | (cases h; done) | skip
   rename_i hsz
   cases h
   exact sim_appz ho hxt hyt hd hdy hi hz hzs hsz hc.2 hx hy
  ·rename_i hni
   cases h
   exact sim_app ho hxt hyt hd hdy (fun k hk => hni k hk) hi hz hc.1 hc.2 hx hy
 ·rename_i x y heq
  have ha:=harr _ heq
  subst ha
  split at h <;> first | (cases h; done) | skip
  rename_i x' y' xt hx hy hxt
  split at h <;> first | (cases h; done) | skip
  rename_i el hd
  split at h <;> first | (cases h; done) | skip
  rename_i i hi
  cases h
  exact sim_copy ho hxt hd hi hx hy
 ·rename_i x y heq
  have ha:=harr _ heq
  subst ha
  split at h <;> first | (cases h; done) | skip
  rename_i x' y' t hx hy ht
  split at h <;> first | (cases h; done) | skip
  rename_i kt el hd
  split at h <;> first | (cases h; done) | skip
  rename_i kd hkd
  split at h <;> first | (cases h; done) | skip
  rename_i hk
  cases h
  exact sim_del ho ht hd hkd hk hx hy
 ·rename_i x heq
  have ha:=harr _ heq
  subst ha
  split at h <;> first | (cases h; done) | skip
  rename_i x' xt hx hxt
  split at h <;> first | (cases h; done) | skip
  rename_i el hd
  split at h <;> first | (cases h; done) | skip
  rename_i i hi
  split at h <;> first | (cases h; done) | skip
  rename_i z hz
  split at h <;> first | (cases h; done) | skip
  rename_i zs hzs
  split at h <;> first | (cases h; done) | skip
  rename_i hc
  cases h
  exact sim_clear ho hxt hd hi hz hzs hc.1 hc.2 hx
 ·cases h
theorem omap {α:Type} {x:Option α} {f : α → AOp} (h : x.map f = some ao) : ∃ a,x = some a∧f a = ao:=by
 cases x with
 | none => cases h
 | some a => exact ⟨a,rfl,Option.some.inj h⟩
theorem compOp_ok (h : compOp P o = some ao) : OpOK P o (ao.sm P):=by
 unfold compOp at h
 split at h
 ·rename_i x ho; obtain ⟨x',hx,rfl⟩:=omap h; exact sim_mv (.inl ho) hx
 ·rename_i x ho; obtain ⟨x',hx,rfl⟩:=omap h; exact sim_mv (.inr ho) hx
 ·rename_i c a b ho
  split at h <;> first | (cases h; done) | skip
  rename_i c' a' b' hc ha hb
  cases h; exact sim_pick ho hc ha hb
 ·rename_i op t x y t' ho
  split at h <;> first | (cases h; done) | skip
  rename_i x' y' d hx hy hd
  split at h
  ·cases h; exact sim_bin ho hx hy
  ·cases h; exact sim_bin ho hx hy
  ·split at h <;> first | (cases h; done) | skip
   ·rename_i ks hk
    split at h <;> first | (cases h; done) | skip
    rename_i hg
    cases h; exact sim_eqs (neg:=false) ho hd hk hg hx hy
   ·rename_i ks hk
    split at h <;> first | (cases h; done) | skip
    rename_i hg
    cases h; exact sim_eqs (neg:=true) ho hd hk hg hx hy
  ·split at h
   ·rename_i k hk
    split at h <;> first | (cases h; done) | skip
    rename_i hc
    cases h
    exact sim_eqn (neg:=false) ho hd (nkOf_fits hk) hc.2 hx hy (by
     rcases hc.1 with hc | hc
     ·left; cases y <;> first | rfl | cases hc
     ·right; cases k <;> first | rfl | cases hc)
   ·rename_i k hk
    split at h <;> first | (cases h; done) | skip
    rename_i hc
    cases h
    exact sim_eqn (neg:=true) ho hd (nkOf_fits hk) hc.2 hx hy (by
     rcases hc.1 with hc | hc
     ·left; cases y <;> first | rfl | cases hc
     ·right; cases k <;> first | rfl | cases hc)
   ·cases h
 ·rename_i op t x ho; obtain ⟨x',hx,rfl⟩:=omap h; exact sim_un ho hx
 ·rename_i s d x ho
  split at h <;> first | (cases h; done) | skip
  rename_i x' ds dd hx hs hd
  split at h
  ·cases h; exact sim_cvs ho hs hd hx
  ·split at h <;> first | (cases h; done) | skip
   rename_i he
   cases h; exact sim_strb ho hs hd he hx
  ·split at h <;> first | (cases h; done) | skip
   rename_i he
   cases h; exact sim_bstr ho hs hd he hx
  ·cases h; exact sim_cvi ho hs hd hx
  ·split at h <;> first | (cases h; done) | skip
   rename_i hsd
   subst hsd
   split at h <;> first | (cases h; done) | skip
   rename_i he
   cases h; exact sim_cvb ho hs he hx
  ·cases h
 ·rename_i x ho; obtain ⟨x',hx,rfl⟩:=omap h; exact sim_nilck ho hx
 ·cases h
  rintro fz e h a w K _ _ ⟨v,hv,_⟩
  cases hv
 ·rename_i s x n ho
  split at h <;> first | (cases h; done) | skip
  rename_i x' fs hx hs
  split at h <;> first | (cases h; done) | skip
  rename_i fl hf
  split at h <;> first | (cases h; done) | skip
  rename_i i hi
  split at h <;> first | (cases h; done) | skip
  rename_i h0
  cases h; exact sim_fa ho hs hf hi h0 hx
 ·rename_i s x n ho
  split at h <;> first | (cases h; done) | skip
  rename_i x' fs hx hs
  split at h <;> first | (cases h; done) | skip
  rename_i fl hf
  split at h <;> first | (cases h; done) | skip
  rename_i i d hi hd
  cases h; exact sim_fld ho hs hf hd hi hx
 ·rename_i t x i ho
  split at h <;> first | (cases h; done) | skip
  ·rename_i x' i' hx hi ht
   cases h; exact sim_ixs ho ht hx hi
  ·rename_i x' i' n el hx hi ht
   split at h <;> first | (cases h; done) | skip
   rename_i inf d hinf hd
   cases h; exact sim_ixa ho ht hinf hd hx hi
 ·rename_i t x i ho
  split at h <;> first | (cases h; done) | skip
  ·rename_i x' i' el hx hi ht
   split at h <;> first | (cases h; done) | skip
   rename_i inf hinf
   cases h; exact sim_ia ho ht hinf hx hi
  ·rename_i x' i' n el hx hi ht
   split at h <;> first | (cases h; done) | skip
   rename_i inf hinf
   cases h; exact sim_iap ho ht hinf hx hi
 ·rename_i t x lo hi ho
  split at h <;> first | (cases h; done) | skip
  rename_i x' lo' hi' d hx hlo hhi hd
  split at h
  ·cases h; exact sim_slcS ho hd hx hlo hhi
  ·split at h <;> first | (cases h; done) | skip
   rename_i inf hinf
   cases h; exact sim_slcL ho hd hinf hx hlo hhi
  ·cases h
 ·rename_i t x lo hi mx ho
  split at h <;> first | (cases h; done) | skip
  rename_i x' lo' hi' mx' el hx hlo hhi hmx hd
  split at h <;> first | (cases h; done) | skip
  rename_i inf hinf
  cases h; exact sim_slcM ho hd hinf hx hlo hhi hmx
 ·rename_i x n ho; obtain ⟨x',hx,rfl⟩:=omap h; exact sim_ext ho hx
 ·rename_i t x ho
  split at h <;> first | (cases h; done) | skip
  rename_i x' d hx hd
  split at h <;> first | (cases h; done) | skip
  rename_i hn
  cases h; exact sim_mkif ho hd (fun ms hm => hn ms hm) hx
 ·rename_i x xt t ok ho
  split at h <;> first | (cases h; done) | skip
  rename_i x' d i hx hd hi
  split at h <;> first | (cases h; done) | skip
  rename_i hn
  split at h <;> first | (cases h; done) | skip
  rename_i z hz
  split at h <;> first | (cases h; done) | skip
  rename_i za hza
  cases h; exact sim_ta ho hd (fun ms hm => hn ms hm) hi hz hza hx
 ·rename_i f first caps ho
  split at h <;> first | (cases h; done) | skip
  rename_i hfi
  subst hfi
  obtain ⟨cs,hc,rfl⟩:=omap h
  exact sim_mkfn ho hc
 ·rename_i t parts ho
  split at h <;> first | (cases h; done) | skip
  ·rename_i fs i hd hi
   split at h <;> first | (cases h; done) | skip
   rename_i z hz
   split at h <;> first | (cases h; done) | skip
   rename_i zs hzs
   split at h <;> first | (cases h; done) | skip
   rename_i hall
   obtain ⟨qs,hq,rfl⟩:=omap h
   refine sim_bld ho hd hi hz hzs (fun f hf => ?_) hq
   have:=List.all_eq_true.1 hall f hf
   exact Option.isSome_iff_exists.1 this
  ·rename_i n el i hd hi
   split at h <;> first | (cases h; done) | skip
   rename_i z ie hz hie
   split at h <;> first | (cases h; done) | skip
   rename_i zs hzs
   obtain ⟨qs,hq,rfl⟩:=omap h
   exact sim_bldA ho hd hi hie hz hzs hq
 ·rename_i t x ho
  split at h <;> first | (cases h; done) | skip
  rename_i x' d i hx hd hi
  cases h; exact sim_ld ho hd hi hx
 ·rename_i t x ho; obtain ⟨x',hx,rfl⟩:=omap h; exact sim_box ho hx
 ·rename_i t ho
  split at h <;> first | (cases h; done) | skip
  rename_i i hi
  split at h <;> first | (cases h; done) | skip
  rename_i z hz
  obtain ⟨cs,hc,rfl⟩:=omap h
  exact sim_alloc ho hi hz hc
 ·rename_i t n parts ho
  split at h <;> first | (cases h; done) | skip
  rename_i el hd
  split at h <;> first | (cases h; done) | skip
  rename_i i hi
  split at h <;> first | (cases h; done) | skip
  rename_i z hz
  split at h <;> first | (cases h; done) | skip
  rename_i zs hzs
  split at h <;> first | (cases h; done) | skip
  rename_i hc
  obtain ⟨qs,hq,rfl⟩:=omap h
  exact sim_bsl ho hd hi hz hzs hc.1 hc.2 hq
 ·rename_i t l c ho
  split at h <;> first | (cases h; done) | skip
  rename_i l' c' el hl hc hd
  split at h <;> first | (cases h; done) | skip
  rename_i i hi
  split at h <;> first | (cases h; done) | skip
  rename_i z hz
  split at h <;> first | (cases h; done) | skip
  rename_i zs hzs
  split at h <;> first | (cases h; done) | skip
  rename_i hsz
  cases h; exact sim_msl ho hd hi hz hzs hsz hl hc
 ·rename_i t x y ho
  split at h <;> first | (cases h; done) | skip
  rename_i x' y' i hx hy hi
  cases h; exact sim_st ho hi hx hy
 ·rename_i c ho
  obtain ⟨callee,args,ats⟩:=c
  simp only at h
  split at h
  ·rename_i f
   split at h
   ·rename_i hok
    obtain ⟨as,ha,rfl⟩:=omap h
    obtain ⟨fn,hf,hn,hb⟩:=okFn_ok hok
    exact sim_call ho hf hn hb ha
   ·split at h <;> first | (cases h; done) | skip
    rename_i x y heq
    have hargs : args = #[x,y]:=by rw [← Array.toArray_toList (xs:=args),heq]
    subst hargs
    split at h <;> first | (cases h; done) | skip
    rename_i s x' y' hs hx hy
    cases h
    exact sim_ovl ho hs hx hy
  ·rename_i x _
   split at h <;> first | (cases h; done) | skip
   rename_i x' as hx ha
   cases h; exact sim_callv ho hx ha
  ·rename_i b
   exact compBuiltin_ok ho h
  ·rename_i x name
   split at h <;> first | (cases h; done) | skip
   rename_i x' as hx ha
   cases h; exact sim_inv ho hx ha
 ·rename_i t ho; cases h; exact sim_mkm ho
 ·rename_i t x k ok ho
  split at h <;> first | (cases h; done) | skip
  rename_i x' k' kt el hx hk hd
  split at h <;> first | (cases h; done) | skip
  rename_i kd i hkd hi
  split at h <;> first | (cases h; done) | skip
  rename_i z hz
  split at h <;> first | (cases h; done) | skip
  rename_i za hza
  split at h <;> first | (cases h; done) | skip
  rename_i hkk
  cases h; exact sim_lkp ho hd hkd hkk hi hz hza hx hk
 ·rename_i t x k v ho
  split at h <;> first | (cases h; done) | skip
  rename_i x' k' v' kt el hx hk hv hd
  split at h <;> first | (cases h; done) | skip
  rename_i kd hkd
  split at h <;> first | (cases h; done) | skip
  rename_i hkk
  cases h; exact sim_mup ho hd hkd hkk hx hk hv
 ·rename_i t x ho
  split at h <;> first | (cases h; done) | skip
  rename_i x' kt el hx hd
  cases h; exact sim_rng ho hd hx
 ·rename_i x ho; obtain ⟨x',hx,rfl⟩:=omap h; exact sim_nxt ho hx
 ·rename_i x ho; obtain ⟨x',hx,rfl⟩:=omap h; exact sim_ent ho hx
 ·cases h
end
end Go.Hz
/- Code over the proofs' values; functions; from a walk over it to what a call does. -/
namespace Go.Hz
structure AItem where
 d : Option Nat
 op : AOp
 g : Option (Nat × Bool):=none
instance : Inhabited AItem:=⟨⟨none,default,none⟩⟩
def AItem.item (P:Program) (x:AItem) : Item :=
 match x.g with
 | none => ⟨x.d,x.op.sm P,x.op.looks⟩
 | some (g,w) => ⟨x.d,(x.op.sm P).guard g w,g :: x.op.looks⟩
theorem AItem.good (P:Program) (x:AItem) : (x.item P).s.good (x.item P).looks:=by
 obtain ⟨d,op,g⟩:=x
 cases g with
 | none => exact op.good P
 | some gw => obtain ⟨g,w⟩:=gw; exact good_guard (op.good P)
theorem AItem.item_d (P:Program) (x:AItem) : (x.item P).d = x.d:=by
 obtain ⟨d,op,g⟩:=x
 cases g with
 | none => rfl
 | some gw => rfl
def stab (P:Program) (l:AItem) (e:Env) (h:Hp) : Prop :=
 match (l.item P).s,l.d with
 | .load f,some d => f e h = some (e d)
 | _,_ => False
def stepA (P:Program) (x:AItem) (obl:List AItem) (e:Env) (h:Hp) (K:Env → Hp → Prop) : Prop :=
 match (x.item P).s with
 | .pure f => ∃ v,f e = some v∧K (e.put x.d v) h
 | .load f => ∃ v,f e h = some v∧K (e.put x.d v) h
 | .mk f => ∃ r,f e = some r∧match r with
  | .inl v => K (e.put x.d v) h
  | .inr (o,g) => ∀ n,h n = none → K (e.put x.d (g n)) (h.set n o)
 | .eff f => f e h fun v h' => (∀ l ∈ obl,stab P l (e.put x.d v) h')∧K (e.put x.d v) h'
def wpS (P:Program) : List (AItem × List AItem) → Env → Hp → (Env → Hp → Prop) → Prop
 | [],e,h,K => K e h
 | (x,obl) :: l,e,h,K => stepA P x obl e h fun e' h' => wpS P l e' h' K
theorem wpS_I {P:Program} {items:Nat → AItem} {obl:Nat → List Nat} {K:Env → Hp → Prop} : ∀ (l:List Nat) (e:Env) (h:Hp),
  wpS P (l.map fun i => (items i,(obl i).map items)) e h K → wpI (fun i => (items i).item P) obl l e h K
 | [],_,_,hh => hh
 | i :: l,e,h,hh => by
  simp only [List.map_cons,wpS] at hh
  simp only [wpI]
  unfold stepA at hh
  unfold stepI
  have hg:=(items i).good P
  have hst : ∀ (j:Nat) (e:Env) (h:Hp),stab P (items j) e h → stable (fun i => (items i).item P) j e h:=fun j e h hs => by
   unfold stab at hs
   unfold stable
   rw [AItem.item_d]; exact hs
  rw [AItem.item_d]
  split <;> rename_i heq <;> simp only [heq] at hh hg
  ·obtain ⟨v,h1,h2⟩:=hh; exact ⟨v,h1,wpS_I l _ _ h2⟩
  ·obtain ⟨v,h1,h2⟩:=hh; exact ⟨v,h1,wpS_I l _ _ h2⟩
  ·obtain ⟨r,h1,h2⟩:=hh
   refine ⟨r,h1,?_⟩
   cases r with
   | inl v => exact wpS_I l _ _ h2
   | inr og => exact fun n hn => wpS_I l _ _ (h2 n hn)
  ·refine hg.2.1 _ _ _ _ (fun v h' ⟨a,b⟩ => ⟨fun j hj => hst j _ _ (a _ (List.mem_map_of_mem hj)),wpS_I l _ _ b⟩) hh
inductive ACode where
 | skip
 | reg (l:List (AItem × List AItem))
 | seq (a b : ACode)
 | cond (c:AE) (t f : ACode)
 | block (id:Nat) (b:ACode)
 | loop (b:ACode)
 | exit (id:Nat)
 | ret
 | rangeF (n:Nat) (g:AE) (ps:List Nat) (asg bd : Code)
def wpA (P:Program) : ACode → Env → Hp → (Env → Hp → Prop) → (Env → Hp → Prop) → (Nat → Env → Hp → Prop) → Prop
 | .skip,e,h,kn,_,_ => kn e h
 | .reg l,e,h,kn,_,_ => wpS P l e h kn
 | .seq a b,e,h,kn,kr,kx => wpA P a e h (fun e h => wpA P b e h kn kr kx) kr kx
 | .cond c t f,e,h,kn,kr,kx => ∃ b,c.ev e = .bool b∧(b = true → wpA P t e h kn kr kx)∧(b = false → wpA P f e h kn kr kx)
 | .block id b,e,h,kn,kr,kx => wpA P b e h kn kr fun i e h => if i = id then kn e h else kx i e h
 | .loop b,e,h,_,kr,kx => ∃ (I:Env → Hp → Prop) (μ:Env → Hp → Nat),I e h∧∀ e h,I e h → wpA P b e h (fun e' h' => I e' h'∧μ e' h' < μ e h) kr kx
 | .exit id,e,h,_,_,kx => kx id e h
 | .ret,e,h,_,kr,_ => kr e h
 | .rangeF n g ps asg bd,e,h,kn,_,_ => ∃ f caps,g.ev e = .fn f caps∧FnOK P f∧∀ l,h l = none → Triple P f (.yl l :: caps) (h.set l (.lp n e ps asg bd)) fun _ h' => h' l = some (.lp n e ps asg bd)∧kn e (h'.del l)
theorem stepA_mono {P:Program} {x:AItem} {obl:List AItem} {e:Env} {h:Hp} {K K' : Env → Hp → Prop} (hk:∀ e h,K e h → K' e h) (hh : stepA P x obl e h K) : stepA P x obl e h K':=by
 have hg:=x.good P
 unfold stepA at *
 split <;> rename_i heq <;> simp only [heq] at hh hg
 ·obtain ⟨v,h1,h2⟩:=hh; exact ⟨v,h1,hk _ _ h2⟩
 ·obtain ⟨v,h1,h2⟩:=hh; exact ⟨v,h1,hk _ _ h2⟩
 ·obtain ⟨r,h1,h2⟩:=hh
  refine ⟨r,h1,?_⟩
  cases r with
  | inl v => exact hk _ _ h2
  | inr og => exact fun n hn => hk _ _ (h2 n hn)
 ·exact hg.2.1 _ _ _ _ (fun v h' ⟨a,b⟩ => ⟨a,hk _ _ b⟩) hh
theorem wpS_mono {P:Program} {K K' : Env → Hp → Prop} (hk:∀ e h,K e h → K' e h) : ∀ (l:List (AItem × List AItem)) (e:Env) (h:Hp),wpS P l e h K → wpS P l e h K'
 | [],_,_,hh => hk _ _ hh
 | (_,_) :: l,_,_,hh => stepA_mono (fun e h => wpS_mono hk l e h) hh
def dstOK (n:Nat) : Option Nat → Bool
 | some d => decide (d < n)
 | none => true
def compItem (P:Program) (n:Nat) (ops:Array Oper) (o:Oper) : Option AItem :=
 match compOp P o with
 | some op => if dstOK n o.dst = true then
   match o.guard with
   | none => some ⟨o.dst,op,none⟩
   | some (j,w) => match (ops[j]?).bind (·.dst) with
    | some g => some ⟨o.dst,op,some (g,w)⟩
    | none => none
  else none
 | none => none
def compItems (P:Program) (n:Nat) (ops:Array Oper) : List Oper → Option (List AItem)
 | [] => some []
 | o :: l => match compItem P n ops o,compItems P n ops l with
  | some x,some xs => some (x :: xs)
  | _,_ => none
theorem compItem_sim {P:Program} {n:Nat} {ops:Array Oper} {o:Oper} {x:AItem} {i:Nat} {S:Nat → Item} (h : compItem P n ops o = some x) (ho : ops[i]? = some o) (hS:S i = x.item P) : Sim P ops n S i:=by
 unfold compItem at h
 split at h <;> first | (cases h; done) | skip
 rename_i op hop
 split at h <;> first | (cases h; done) | skip
 rename_i hd
 have hok:=compOp_ok hop
 have hd' : ∀ t,o.dst = some t → t < n:=fun t ht => by rw [ht] at hd; simpa [dstOK] using hd
 split at h
 ·rename_i hg
  cases h
  refine hok.sim ho hd' (by rw [hS]; rfl) (by rw [hS]; exact AItem.good P _) ?_
  rw [hg,hS]; rfl
 ·rename_i j w hg
  split at h <;> first | (cases h; done) | skip
  rename_i g hgd
  cases h
  refine hok.sim ho hd' (by rw [hS]; rfl) (by rw [hS]; exact AItem.good P _) ?_
  rw [hg,hS]
  exact ⟨g,hgd,rfl⟩
theorem compItems_get {P:Program} {n:Nat} {ops:Array Oper} : ∀ {l:List Oper} {xs:List AItem},compItems P n ops l = some xs → xs.length = l.length∧∀ i (h : i < l.length) (h' : i < xs.length),compItem P n ops l[i] = some xs[i]
 | [],xs,h => by cases h; exact ⟨rfl,fun i h => by simp at h⟩
 | o :: l,xs,h => by
  unfold compItems at h
  split at h <;> first | (cases h; done) | skip
  rename_i x xs' h1 h2
  cases h
  obtain ⟨g1,g2⟩:=compItems_get h2
  refine ⟨by simp [g1],fun i a b => ?_⟩
  cases i with
  | zero => exact h1
  | succ i => exact g2 i (by simpa using a) (by simpa using b)
def nopItem : AItem:=⟨none,.mv (.cs (.tup [])),none⟩
def getI (xs:List AItem) (i:Nat) : AItem:=xs.getD i nopItem
theorem sim_out {P:Program} {ops:Array Oper} {n:Nat} {S:Nat → Item} {i:Nat} (hi : ops[i]? = none) (hS:S i = nopItem.item P) : Sim P ops n S i:=by
 intro ro Q fz e h a w K hst hh next hk
 unfold wpOpIn
 rw [hi]
 unfold stepI at hh
 rw [hS] at hh
 obtain ⟨v,_,h2⟩:=hh
 exact hk fz _ h a w h2 hst (Ext.refl _ _ _) rfl
theorem items_sim {P:Program} {n:Nat} {ops:Array Oper} {xs:List AItem} (h : compItems P n ops ops.toList = some xs) (i:Nat) : Sim P ops n (fun i => (getI xs i).item P) i:=by
 obtain ⟨g1,g2⟩:=compItems_get h
 by_cases hi : i < ops.size
 ·have h1 : i < ops.toList.length:=by simpa using hi
  have h2 : i < xs.length:=by rw [g1]; exact h1
  refine compItem_sim (o:=ops[i]) (x:=xs[i]) (by simpa using g2 i h1 h2) (Array.getElem?_eq_getElem hi) ?_
  simp only [getI,List.getD_eq_getElem?_getD,List.getElem?_eq_getElem h2,Option.getD_some]
 ·refine sim_out (Array.getElem?_eq_none (by omega)) ?_
  have h2 : ¬ i < xs.length:=by rw [g1]; simpa using hi
  simp only [getI,List.getD_eq_getElem?_getD,List.getElem?_eq_none (by omega : xs.length ≤ i),Option.getD_none]
def Fin (n s0 : Nat) (fz0:Nat → Prop) (h0:Hp) (w0:World) (K:Env → Hp → Prop) (a:Act) (w:World) : Prop :=
 ∃ fz e h,St n fz e h a w∧K e h∧Ext fz0 h0 w0 fz h w∧Mks s0 fz h w a.defers
theorem ops_text {P:Program} {ro:Option Nat} {ops:Array Oper} {n:Nat} {S:Nat → Item} (hsim:∀ i,Sim P ops n S i) (hgood:∀ i,(S i).s.good (S i).looks) {Q:Exit → Act → World → Prop} {K:Env → Hp → Prop} : ∀ (l:List Nat) (fz:Nat → Prop) (e:Env) (h:Hp) (a:Act) (w:World),
  St n fz e h a w → wpI S (fun _ => []) l e h K → (∀ fz' e' h' a' w',K e' h' → St n fz' e' h' a' w' → Ext fz h w fz' h' w' → a'.defers = a.defers → Q .normal a' w') → wpOpsIn (FR ro) 0 P ops Q l a w
 | [],fz,e,h,a,w,hst,hh,hq => hq fz e h a w hh hst (Ext.refl _ _ _) rfl
 | i :: l,fz,e,h,a,w,hst,hh,hq => by
  rw [wpOpsIn_cons]
  refine hsim i ro Q fz e h a w _ hst hh _ fun fz' e' h' a' w' hk hst' hx hd => ?_
  exact ops_text hsim hgood l fz' e' h' a' w' hst' hk fun fz2 e2 h2 a2 w2 hk2 hst2 hx2 hd2 => hq fz2 e2 h2 a2 w2 hk2 hst2 (hx.trans hx2) (hd2.trans hd)
theorem region_text {P:Program} {ro:Option Nat} {id n : Nat} {ops:Array Oper} {xs:List AItem} (hx : compItems P n ops ops.toList = some xs) {Q:Exit → Act → World → Prop} {K:Env → Hp → Prop} {fz:Nat → Prop} {e:Env} {h:Hp} {a:Act} {w:World} (hst:St n fz e h a w)
  (hh : wpS P (xs.map fun x => (x,[])) e h K) (hq:∀ fz' e' h' a' w',K e' h' → St n fz' e' h' a' w' → Ext fz h w fz' h' w' → a'.defers = a.defers → Q .normal a' w') : (Code.region id ops false).wpIn (FR ro) 0 P Q a w:=by
 refine wpIn_region (ops_text (items_sim hx) (fun i => AItem.good P _) (List.range ops.size) fz e h a w hst ?_ hq)
 have hl:=(compItems_get hx).1
 have : xs.map (fun x => (x,([] : List AItem))) = (List.range ops.size).map fun i => (getI xs i,(([] : List Nat)).map (getI xs)):=by
  apply List.ext_getElem
  ·simp [hl]
  ·intro i h1 h2
   simp at h1
   simp [getI,h1]
 rw [this] at hh
 exact wpS_I _ _ _ hh
end Go.Hz
/- The order in which a region that may be done in any order is walked, and the look that this order serves. -/
namespace Go.Hz
def itLooks (x:AItem) : List Nat :=
 match x.g with
 | none => x.op.looks
 | some (g,_) => g :: x.op.looks
theorem itLooks_item (P:Program) (x:AItem) : (x.item P).looks = itLooks x:=by
 obtain ⟨d,op,g⟩:=x
 cases g <;> rfl
def noIn (d:Option Nat) (l:List Nat) : Bool:=match d with | some t => !l.contains t | none => true
def neD (d d' : Option Nat) : Bool:=match d with | some t => d' != some t | none => true
theorem noIn_ok {d:Option Nat} {l:List Nat} (h : noIn d l = true) : ∀ t,d = some t → t ∉ l:=fun t ht => by
 rw [ht] at h; simpa [noIn] using h
theorem neD_ok {d d' : Option Nat} (h : neD d d' = true) : ∀ t,d = some t → d' ≠ some t:=fun t ht => by
 rw [ht] at h; simpa [neD] using h
def kindsB (kx ky : Kind) (ob:Bool) : Bool :=
 match kx,ky with
 | .pure,_ => true
 | _,.pure => true
 | .load,.load => true
 | .load,.mk => true
 | .mk,.mk => true
 | .mk,.load => true
 | .load,.eff => ob
 | .eff,.mk => true
 | _,_ => false
def compatB (it:Nat → AItem) (obl:Nat → List Nat) (ix iy : Nat) : Bool :=
  let x:=it ix
  let y:=it iy
  noIn x.d (itLooks y) && (noIn y.d (itLooks x) && (neD x.d y.d && (noIn x.d (itLooks x) &&
  ((obl ix).all (fun l => noIn y.d (itLooks (it l)) && neD y.d (it l).d) &&
  kindsB x.op.kind y.op.kind ((obl iy).contains ix)))))
theorem kind_pure {P:Program} {x:AItem} (h : x.op.kind = .pure) : (x.item P).s.isPure = true:=by
 obtain ⟨d,op,g⟩:=x
 have:=AOp.kind_pure (P:=P) h
 cases g with
 | none => exact this
 | some gw =>
  obtain ⟨g,w⟩:=gw
  simp only [AItem.item]
  revert this
  cases op.sm P <;> simp [Sm.guard,Sm.isPure]
theorem kind_load {P:Program} {x:AItem} (h : x.op.kind = .load) : (x.item P).s.isLoad = true:=by
 obtain ⟨d,op,g⟩:=x
 have:=AOp.kind_load (P:=P) h
 cases g with
 | none => exact this
 | some gw =>
  obtain ⟨g,w⟩:=gw
  simp only [AItem.item]
  revert this
  cases op.sm P <;> simp [Sm.guard,Sm.isLoad]
theorem kind_mk {P:Program} {x:AItem} (h : x.op.kind = .mk) : (x.item P).s.isMk = true:=by
 obtain ⟨d,op,g⟩:=x
 have:=AOp.kind_mk (P:=P) h
 cases g with
 | none => exact this
 | some gw =>
  obtain ⟨g,w⟩:=gw
  simp only [AItem.item]
  revert this
  cases op.sm P <;> simp [Sm.guard,Sm.isMk]
theorem kind_eff {P:Program} {x:AItem} (h : x.op.kind = .eff) : (x.item P).s.isEff = true:=by
 obtain ⟨d,op,g⟩:=x
 have:=AOp.kind_eff (P:=P) h
 cases g with
 | none => exact this
 | some gw =>
  obtain ⟨g,w⟩:=gw
  simp only [AItem.item]
  revert this
  cases op.sm P <;> simp [Sm.guard,Sm.isEff]
theorem compatB_ok {P:Program} {it:Nat → AItem} {obl:Nat → List Nat} {ix iy : Nat} (h : compatB it obl ix iy = true) : Compat (fun i => (it i).item P) obl ix iy:=by
 simp only [compatB,Bool.and_eq_true,List.all_eq_true] at h
 obtain ⟨h1,h2,h3,h4,h5,h7⟩:=h
 refine ⟨⟨?_,?_,?_⟩,?_,?_,?_⟩
 ·simp only [AItem.item_d,itLooks_item]; exact noIn_ok h1
 ·simp only [AItem.item_d,itLooks_item]; exact noIn_ok h2
 ·simp only [AItem.item_d]; exact neD_ok h3
 ·simp only [AItem.item_d,itLooks_item]; exact noIn_ok h4
 ·intro l hl t ht
  simp only [AItem.item_d,itLooks_item] at ht ⊢
  exact ⟨noIn_ok (h5 l hl).1 t ht,neD_ok (h5 l hl).2 t ht⟩
 ·cases hx : (it ix).op.kind with
  | pure => exact .inl (kind_pure hx)
  | load =>
   cases hy : (it iy).op.kind with
   | pure => exact .inr (.inl (kind_pure hy))
   | load => exact .inr (.inr (.inl ⟨kind_load hx,.inl (kind_load hy)⟩))
   | mk => exact .inr (.inr (.inl ⟨kind_load hx,.inr (kind_mk hy)⟩))
   | eff =>
    rw [hx,hy] at h7
    exact .inr (.inr (.inr (.inr (.inl ⟨kind_load hx,kind_eff hy,by simpa [kindsB] using h7⟩))))
  | mk =>
   cases hy : (it iy).op.kind with
   | pure => exact .inr (.inl (kind_pure hy))
   | mk => exact .inr (.inr (.inr (.inl ⟨kind_mk hx,kind_mk hy⟩)))
   | load => exact .inr (.inr (.inr (.inr (.inr (.inr ⟨kind_mk hx,kind_load hy⟩)))))
   | eff => rw [hx,hy] at h7; simp [kindsB] at h7
  | eff =>
   cases hy : (it iy).op.kind with
   | pure => exact .inr (.inl (kind_pure hy))
   | mk => exact .inr (.inr (.inr (.inr (.inr (.inl ⟨kind_eff hx,kind_mk hy⟩)))))
   | load => rw [hx,hy] at h7; simp [kindsB] at h7
   | eff => rw [hx,hy] at h7; simp [kindsB] at h7
def pairsB (f:Nat → Nat → Bool) : List Nat → Bool
 | [] => true
 | x :: l => l.all (f x) && pairsB f l
theorem pairsB_ok {f:Nat → Nat → Bool} {R:Nat → Nat → Prop} (hf:∀ x y,f x y = true → R x y) : ∀ {l:List Nat},pairsB f l = true → l.Pairwise R
 | [],_ => List.Pairwise.nil
 | x :: l,h => by
  simp only [pairsB,Bool.and_eq_true,List.all_eq_true] at h
  exact List.pairwise_cons.2 ⟨fun y hy => hf x y (h.1 y hy),pairsB_ok hf h.2⟩
def force {α:Type} (n:Nat) (k:Nat → α) : α:=match n with | 0 => k 0 | m + 1 => k (m + 1)
theorem force_eq {α:Type} (n:Nat) (k:Nat → α) : force n k = k n:=by cases n <;> rfl
def edgeM (look:Nat → Nat) (es:List Edge) (s:Nat) : Nat:=es.foldl (fun s e => if Region.binds .any e then s ||| (2 ^ e.on ||| look e.on) else s) s
def lookL (acc:List Nat) (j i : Nat) : Nat:=if i < j then acc.getD (j - 1 - i) 0 else 0
def befK {α:Type} : List Oper → Nat → List Nat → (List Nat → α) → α
 | [],_,acc,k => k acc
 | o :: rest,j,acc,k => force (edgeM (lookL acc j) o.after.toList 0) fun v => befK rest (j + 1) (v :: acc) k
theorem edgeM_bit {look:Nat → Nat} {x:Nat} : ∀ (es:List Edge) (s:Nat),(edgeM look es s).testBit x = true ↔ s.testBit x = true ∨ ∃ e ∈ es,Region.binds .any e = true∧(e.on = x ∨ (look e.on).testBit x = true)
 | [],s => by simp [edgeM]
 | e :: es,s => by
  have ih:=edgeM_bit (look:=look) (x:=x) es
  unfold edgeM at ih ⊢
  rw [List.foldl_cons,ih]
  by_cases hb : Region.binds .any e = true
  ·rw [if_pos hb]
   simp only [Nat.testBit_or,Bool.or_eq_true,Nat.testBit_two_pow,decide_eq_true_eq,List.mem_cons,exists_eq_or_imp,hb,true_and]
   constructor
   ·rintro ((h | h | h) | h)
    ·exact .inl h
    ·exact .inr (.inl (.inl h))
    ·exact .inr (.inl (.inr h))
    ·exact .inr (.inr h)
   ·rintro (h | (h | h) | h)
    ·exact .inl (.inl h)
    ·exact .inl (.inr (.inl h))
    ·exact .inl (.inr (.inr h))
    ·exact .inr h
  ·rw [if_neg hb]
   simp only [List.mem_cons,exists_eq_or_imp,hb]
   simp
def BefOK (ops:List Oper) (acc:List Nat) (j:Nat) : Prop :=
 acc.length = j∧∀ y (hy : y < j) (hy' : y < ops.length),acc.getD (j - 1 - y) 0 = edgeM (fun i => if i < y then acc.getD (j - 1 - i) 0 else 0) ops[y].after.toList 0
theorem befK_eq {α:Type} {k:List Nat → α} {ops:List Oper} : ∀ (rest pre : List Oper) (acc:List Nat),ops = pre ++ rest → BefOK ops acc pre.length → ∃ acc',befK rest pre.length acc k = k acc'∧BefOK ops acc' ops.length
 | [],pre,acc,he,hb => ⟨acc,rfl,by rw [he]; simpa [he] using hb⟩
 | o :: rest,pre,acc,he,hb => by
  have hpl : (pre ++ [o]).length = pre.length + 1:=by simp
  have hstep : BefOK ops (edgeM (lookL acc pre.length) o.after.toList 0 :: acc) (pre ++ [o]).length:=by
   obtain ⟨h1,h2⟩:=hb
   refine ⟨by simp [h1],fun y hy hy' => ?_⟩
   rw [hpl] at hy ⊢
   have shift : ∀ i,i < pre.length → (edgeM (lookL acc pre.length) o.after.toList 0 :: acc).getD (pre.length + 1 - 1 - i) 0 = acc.getD (pre.length - 1 - i) 0:=fun i hi => by
    rw [show pre.length + 1 - 1 - i = (pre.length - 1 - i) + 1 from by omega]; rfl
   by_cases hyl : y = pre.length
   ·subst hyl
    have ho : ops[pre.length]'hy' = o:=by
     simp only [he]
     rw [List.getElem_append_right (by omega)]; simp
    rw [ho,show pre.length + 1 - 1 - pre.length = 0 from by omega]
    simp only [List.getD_cons_zero]
    congr 1
    funext i
    unfold lookL
    split
    ·rename_i hi; exact (shift i hi).symm
    ·rfl
   ·have hy2 : y < pre.length:=by omega
    rw [shift y hy2,h2 y hy2 hy']
    congr 1
    funext i
    split
    ·rename_i hi; exact (shift i (by omega)).symm
    ·rfl
  have:=befK_eq (k:=k) (ops:=ops) rest (pre ++ [o]) _ (by rw [he]; simp) hstep
  rw [hpl] at this
  obtain ⟨acc',h3,h4⟩:=this
  exact ⟨acc',by rw [befK,force_eq]; exact h3,h4⟩
def reachL (acc:List Nat) (n x y : Nat) : Bool:=(acc.getD (n - 1 - y) 0).testBit x && decide (y < n)
theorem reachL_ok {ops:Array Oper} {acc:List Nat} (h:BefOK ops.toList acc ops.size) : Reaches ops (reachL acc ops.size):=by
 intro listed x y
 induction y using Nat.strongRecOn with
 | _ y ih =>
  intro oy hc hy hall hr
  simp only [reachL,Bool.and_eq_true,decide_eq_true_eq] at hr
  have hyl : y < ops.toList.length:=by simpa using hr.2
  rw [h.2 y hr.2 hyl,edgeM_bit] at hr
  have hoy : ops.toList[y] = oy:=by
   rw [Array.getElem?_eq_getElem hr.2] at hy
   have:=Option.some.inj hy
   simpa using this
  rw [hoy] at hr
  rcases hr.1 with h0 | ⟨e,he,hb,h0⟩
  ·simp at h0
  ·have hl:=hall e (by simpa using he) hb
   rcases h0 with h0 | h0
   ·rw [← h0]; exact hl
   ·split at h0
    ·rename_i hlt
     have hel : e.on < ops.size:=by omega
     have hoe : ops[e.on]? = some ops[e.on]:=Array.getElem?_eq_getElem hel
     exact ih e.on hlt ops[e.on] hc hoe (fun e' he' hb' => hc e.on _ hoe hl e' he' hb') (by simp only [reachL,h0,hel,decide_true,Bool.and_self])
    ·simp at h0
theorem reachL_dep {ops:Array Oper} {acc:List Nat} (h:BefOK ops.toList acc ops.size) {x y : Nat} (hd : dep ops y x = true) : reachL acc ops.size x y = true:=by
 unfold dep at hd
 split at hd <;> first | (cases hd; done) | skip
 rename_i oj hj
 obtain ⟨e,he,hb⟩:=Array.any_eq_true'.1 hd
 simp only [Bool.and_eq_true,beq_iff_eq] at hb
 have hlt : y < ops.size:=(Array.getElem?_eq_some_iff.1 hj).1
 have hyl : y < ops.toList.length:=by simpa using hlt
 have hoy : ops.toList[y] = oj:=by
  rw [Array.getElem?_eq_getElem hlt] at hj
  have:=Option.some.inj hj
  simpa using this
 simp only [reachL,Bool.and_eq_true,decide_eq_true_eq]
 refine ⟨?_,hlt⟩
 rw [h.2 y hlt hyl,edgeM_bit,hoy]
 exact .inr ⟨e,by simpa using he,hb.1,.inl hb.2⟩
def clearB (rb:Nat → Nat → Bool) (it:Nat → AItem) (obl:Nat → List Nat) (x y : Nat) : Bool :=
 (obl y).all fun l => l == x || ((noIn (it x).d (itLooks (it l)) && neD (it x).d (it l).d) || rb x l)
def orderB (n:Nat) (acc:List Nat) (it:Nat → AItem) (obl:Nat → List Nat) (c:List Nat) : Bool :=
 pairsB (fun x y => x != y && ((reachL acc n x y || compatB it obl x y) && (!reachL acc n y x && (!(obl x).contains y && clearB (reachL acc n) it obl x y)))) c &&
  (c.all fun x => !reachL acc n x x && (decide (acc.getD (n - 1 - x) 0 < 2 ^ n) && (decide (x < n) && (obl x).all fun l => decide (l < n) && l != x))) && ((List.range n).all (fun i => c.contains i) && c.length == n)
theorem orderB_ok {P:Program} {ops:Array Oper} {acc:List Nat} (hb:BefOK ops.toList acc ops.size) {it:Nat → AItem} {obl:Nat → List Nat} {c:List Nat} (h : orderB ops.size acc it obl c = true) :
  OrderOK ops (reachL acc ops.size) (fun i => (it i).item P) obl c∧(∀ i ∈ c,i < ops.size)∧(∀ i,i < ops.size → i ∈ c)∧c.length = ops.size:=by
 simp only [orderB,Bool.and_eq_true,List.all_eq_true] at h
 obtain ⟨⟨h1,h2⟩,h3,h4⟩:=h
 have nod : ∀ x y,reachL acc ops.size y x = false → dep ops x y = false:=fun x y hr => by
  cases hd : dep ops x y with
  | false => rfl
  | true => rw [reachL_dep hb hd] at hr; cases hr
 refine ⟨⟨pairsB_ok (fun x y hxy => ?_) h1,pairsB_ok (fun x y hxy => ?_) h1,pairsB_ok (fun x y hxy => ?_) h1,pairsB_ok (fun x y hxy => ?_) h1,pairsB_ok (fun x y hxy => ?_) h1,fun y hy l hl => ?_,fun x hx => ?_,fun x hx oy hoy e he hbe => ?_⟩,fun i hi => ?_,fun i hi => ?_,by simpa using h4⟩
 ·simp only [Bool.and_eq_true,bne_iff_ne] at hxy; exact hxy.1
 ·simp only [Bool.and_eq_true,Bool.or_eq_true] at hxy
  exact hxy.2.1.symm.imp compatB_ok id
 ·simp only [Bool.and_eq_true,Bool.not_eq_true'] at hxy; exact nod _ _ hxy.2.2.1
 ·simp only [Bool.and_eq_true,Bool.not_eq_true'] at hxy; exact ⟨hxy.2.2.1,by simpa using hxy.2.2.2.1⟩
 ·simp only [Bool.and_eq_true] at hxy
  have:=hxy.2.2.2.2
  simp only [clearB,List.all_eq_true,Bool.or_eq_true,beq_iff_eq,Bool.and_eq_true] at this
  intro l hl
  rcases this l hl with h | h | h
  ·exact .inl h
  ·refine .inr (.inl fun t ht => ?_)
   simp only [AItem.item_d,itLooks_item] at ht ⊢
   exact ⟨noIn_ok h.1 t ht,neD_ok h.2 t ht⟩
  ·exact .inr (.inr h)
 ·have:=(h2 y hy).2.2.2
  have:=this l hl
  simpa using this
 ·exact nod _ _ (by simpa using (h2 x hx).1)
 ·have hx':=(h2 x hx).2.1
  have hr : reachL acc ops.size e.on x = true:=reachL_dep hb (by
   unfold dep
   rw [hoy]
   exact Array.any_eq_true'.2 ⟨e,he,by simp [hbe]⟩)
  simp only [reachL,Bool.and_eq_true] at hr
  simp only [decide_eq_true_eq] at hx'
  rcases Nat.lt_or_ge e.on ops.size with hlt | hge
  ·exact hlt
  ·have:=Nat.testBit_lt_two_pow (Nat.lt_of_lt_of_le hx' (Nat.pow_le_pow_right (by omega) hge))
   rw [this] at hr; cases hr.1
 ·simpa using (h2 i hi).2.2.1
 ·simpa using h3 i (List.mem_range.2 hi)
def rank : Kind → Nat
 | .pure => 0
 | .load => 0
 | .eff => 1
 | .mk => 2
def pickB (it:Nat → AItem) (l:List Nat) : Option Nat :=
 match l.find? (fun i => rank (it i).op.kind == 0),l.find? (fun i => rank (it i).op.kind == 1),l with
 | some i,_,_ => some i
 | none,some i,_ => some i
 | none,none,i :: _ => some i
 | none,none,[] => none
def readyL (n:Nat) (acc:List Nat) (done:Nat) : List Nat:=(List.range n).filter fun i => !done.testBit i && Nat.beq (Nat.land (acc.getD (n - 1 - i) 0) done) (acc.getD (n - 1 - i) 0)
def canonB (n:Nat) (acc:List Nat) (it:Nat → AItem) : Nat → Nat → List Nat → List Nat
 | 0,_,out => out.reverse
 | m + 1,done,out => match pickB it (readyL n acc done) with
  | some i => force (done ||| 2 ^ i) fun done' => canonB n acc it m done' (i :: out)
  | none => out.reverse
def oblB (n:Nat) (acc:List Nat) (it:Nat → AItem) (c:List Nat) (y:Nat) : List Nat :=
 match (it y).op.kind with
 | .eff => (c.takeWhile (fun x => !Nat.beq x y)).filter fun x => (match (it x).op.kind with | .load => true | _ => false) && !reachL acc n x y
 | _ => []
def assocL : List (Nat × List Nat) → Nat → List Nat
 | [],_ => []
 | (k,v) :: l,y => if Nat.beq k y = true then v else assocL l y
def compReg (P:Program) (n:Nat) (ops:Array Oper) (draw:Bool) : Option (List (AItem × List AItem)) :=
 match compItems P n ops ops.toList with
 | some xs =>
  if draw = true then befK ops.toList 0 [] fun acc =>
   let c:=canonB ops.size acc (getI xs) ops.size 0 []
   let ob:=assocL (c.map fun y => (y,oblB ops.size acc (getI xs) c y))
   if orderB ops.size acc (getI xs) ob c = true then some (c.map fun i => (getI xs i,(ob i).map (getI xs))) else none
  else some (xs.map fun x => (x,[]))
 | none => none
theorem compReg_ok {P:Program} {ro:Option Nat} {id n : Nat} {ops:Array Oper} {draw:Bool} {l:List (AItem × List AItem)} (hm:P.follows .mixedOrders = true) (hl : compReg P n ops draw = some l) {Q:Exit → Act → World → Prop} {K:Env → Hp → Prop} {fz:Nat → Prop} {e:Env} {h:Hp} {a:Act} {w:World}
  (hst:St n fz e h a w) (hh : wpS P l e h K) (hq:∀ fz' e' h' a' w',K e' h' → St n fz' e' h' a' w' → Ext fz h w fz' h' w' → a'.defers = a.defers → Q .normal a' w') : (Code.region id ops draw).wpIn (FR ro) 0 P Q a w:=by
 unfold compReg at hl
 split at hl <;> first | (cases hl; done) | skip
 rename_i xs hx
 cases draw with
 | false =>
  simp only [Bool.false_eq_true,if_false] at hl
  cases hl
  exact region_text hx hst hh hq
 | true =>
  simp only [if_true] at hl
  obtain ⟨acc,h0,hbo⟩:=befK_eq (k:=fun acc =>
   let c:=canonB ops.size acc (getI xs) ops.size 0 []
   let ob:=assocL (c.map fun y => (y,oblB ops.size acc (getI xs) c y))
   if orderB ops.size acc (getI xs) ob c = true then some (c.map fun i => (getI xs i,(ob i).map (getI xs))) else none) ops.toList [] [] rfl ⟨rfl,fun y hy => by simp at hy⟩
  have hl2:=h0.symm.trans hl
  clear h0 hl
  have hbo' : BefOK ops.toList acc ops.size:=by simpa using hbo
  simp only at hl2
  split at hl2 <;> first | (cases hl2; done) | skip
  rename_i hok
  cases hl2
  obtain ⟨h1,h2,h3,hlen⟩:=orderB_ok (P:=P) hbo' hok
  have hI:=wpS_I _ _ _ hh
  refine wpIn_region_any hm ?_
  generalize canonB ops.size acc (getI xs) ops.size 0 [] = c at *
  have hst1 : St n fz e h a { w with drawn:=w.drawn + 1 }:=⟨hst.size,hst.env,hst.rel.drew⟩
  have:=region_any (reachL_ok hbo') (fun i => AItem.good P _) (items_sim hx) ro (Q:=Q) ops.size c (Array.replicate ops.size false) hlen h1 (by simp) (fun j oj hj hl => by
   rcases Nat.lt_or_ge j ops.size with hh | hh
   ·simp [hh] at hl
   ·simp [hh] at hl) h2 (fun i hi => by simp [hi,h3 i hi]) fz e h a _ hst1 hI (fun fz' e' h' a' w' k s x d => hq fz' e' h' a' w' k s ((Ext.drew).trans x) d)
  exact this
end Go.Hz
/- Guarded operations as branches. -/
namespace Go.Hz
abbrev It:=AItem × List AItem
def unG (g:Nat) (w:Bool) (l:List It) : List It:=l.map fun x => if x.1.g = some (g,w) then ({ x.1 with g:=none },x.2) else x
def inSk (sk:List Nat) (gd:Option (Nat × Bool)) : Bool:=match gd with | some (g2,_) => sk.contains g2 | none => false
def addSk (d:Option Nat) (sk:List Nat) : List Nat:=match d with | some d => d :: sk | none => sk
def skG (g:Nat) (w:Bool) : List Nat → List It → List It
 | _,[] => []
 | sk,x :: l => if x.1.g = some (g,w) ∨ inSk sk x.1.g = true then (⟨x.1.d,(if x.2.isEmpty = true then .mv (.cs (.tup [])) else .nop),none⟩,x.2) :: skG g w (addSk x.1.d sk) l else x :: skG g w sk l
def noW (g:Nat) (l:List It) : Bool:=l.all fun x => x.1.d != some g
def nodupD : List It → Bool
 | [] => true
 | x :: l => (match x.1.d with | some d => noW d l | none => true) && nodupD l
section
variable {P:Program}
theorem stepA_put {x:AItem} {obl:List AItem} {e:Env} {h:Hp} {K:Env → Hp → Prop} (hh : stepA P x obl e h K) : stepA P x obl e h fun e' h' => K e' h'∧∃ v,e' = e.put x.d v:=by
 have hg:=x.good P
 unfold stepA at *
 split <;> rename_i heq <;> simp only [heq] at hh hg
 ·obtain ⟨v,h1,h2⟩:=hh; exact ⟨v,h1,h2,v,rfl⟩
 ·obtain ⟨v,h1,h2⟩:=hh; exact ⟨v,h1,h2,v,rfl⟩
 ·obtain ⟨r,h1,h2⟩:=hh
  refine ⟨r,h1,?_⟩
  cases r with
  | inl v => exact ⟨h2,v,rfl⟩
  | inr og => exact fun n hn => ⟨h2 n hn,_,rfl⟩
 ·exact hg.2.1 _ _ _ _ (fun v h' ⟨a,b⟩ => ⟨a,b,v,rfl⟩) hh
theorem stepA_un {d:Option Nat} {op:AOp} {g:Nat} {w:Bool} {obl:List AItem} {e:Env} {h:Hp} {K:Env → Hp → Prop} (hb : e g = .bool w) (hh : stepA P ⟨d,op,none⟩ obl e h K) :
  stepA P ⟨d,op,some (g,w)⟩ obl e h K:=by
 unfold stepA at *
 simp only [AItem.item] at hh ⊢
 cases hs : op.sm P with
 | pure f => rw [hs] at hh; simpa only [Sm.guard,hb,if_true] using hh
 | load f => rw [hs] at hh; simpa only [Sm.guard,hb,if_true] using hh
 | mk f => rw [hs] at hh; simpa only [Sm.guard,hb,if_true] using hh
 | eff f => rw [hs] at hh; simpa only [Sm.guard,hb,if_true] using hh
theorem stepA_sk {d:Option Nat} {op:AOp} {g:Nat} {w:Bool} {obl:List AItem} {e:Env} {h:Hp} {K:Env → Hp → Prop} (hb : e g = .bool (!w) ∨ e g = .tup []) (ho:∀ l ∈ obl,stab P l (e.put d (.tup [])) h) (hh:K (e.put d (.tup [])) h) :
  stepA P ⟨d,op,some (g,w)⟩ obl e h K:=by
 have hne : (!w) ≠ w:=by cases w <;> simp
 unfold stepA
 simp only [AItem.item]
 cases hs : op.sm P with
 | pure f => rcases hb with hb | hb <;> simp only [Sm.guard,hb,hne,if_false] <;> exact ⟨_,rfl,hh⟩
 | load f => rcases hb with hb | hb <;> simp only [Sm.guard,hb,hne,if_false] <;> exact ⟨_,rfl,hh⟩
 | mk f => rcases hb with hb | hb <;> simp only [Sm.guard,hb,hne,if_false] <;> exact ⟨_,rfl,hh⟩
 | eff f => rcases hb with hb | hb <;> simp only [Sm.guard,hb,hne,if_false] <;> exact ⟨ho,hh⟩
theorem wpS_append : ∀ (l l' : List It) (e:Env) (h:Hp) (K:Env → Hp → Prop),wpS P l e h (fun e h => wpS P l' e h K) → wpS P (l ++ l') e h K
 | [],_,_,_,_,hh => hh
 | (_,_) :: l,l',_,_,K,hh => stepA_mono (fun e h => wpS_append l l' e h K) hh
theorem wpS_un {g:Nat} {w:Bool} {K:Env → Hp → Prop} : ∀ (l:List It) (e:Env) (h:Hp),noW g l = true → e g = .bool w → wpS P (unG g w l) e h K → wpS P l e h K
 | [],_,_,_,_,hh => hh
 | (⟨d,op,gd⟩,obl) :: l,e,h,hn,hb,hh => by
  simp only [noW,List.all_cons,Bool.and_eq_true,bne_iff_ne,ne_eq] at hn
  have ih:=fun e' h' => wpS_un (w:=w) (K:=K) l e' h' hn.2
  have keep : ∀ v,(e.put d v) g = .bool w:=fun v => by rw [Env.put_apply _ _ hn.1]; exact hb
  simp only [unG,List.map_cons,wpS] at hh
  simp only [wpS]
  split at hh
  ·rename_i hg
   subst hg
   refine stepA_un hb (stepA_mono ?_ (stepA_put hh))
   rintro e' h' ⟨h1,v,rfl⟩
   exact ih _ _ (keep v) h1
  ·refine stepA_mono ?_ (stepA_put hh)
   rintro e' h' ⟨h1,v,rfl⟩
   exact ih _ _ (keep v) h1
theorem wpS_sk {g:Nat} {w:Bool} {K:Env → Hp → Prop} : ∀ (l:List It) (sk:List Nat) (e:Env) (h:Hp),noW g l = true → nodupD l = true → (∀ s ∈ sk,noW s l = true) → e g = .bool (!w) → (∀ s ∈ sk,e s = .tup []) →
  wpS P (skG g w sk l) e h K → wpS P l e h K
 | [],_,_,_,_,_,_,_,_,hh => hh
 | (⟨d,op,gd⟩,obl) :: l,sk,e,h,hn,hnd,hns,hb,hsk,hh => by
  simp only [noW,List.all_cons,Bool.and_eq_true,bne_iff_ne,ne_eq] at hn
  have hdl : ∀ t,d = some t → noW t l = true:=fun t ht => by
   subst ht
   simp only [nodupD,Bool.and_eq_true] at hnd; exact hnd.1
  have hnd2 : nodupD l = true:=by simp only [nodupD,Bool.and_eq_true] at hnd; exact hnd.2
  have hns1 : ∀ s ∈ sk,d ≠ some s:=fun s hs => by
   have:=hns s hs
   simp only [noW,List.all_cons,Bool.and_eq_true,bne_iff_ne,ne_eq] at this
   exact this.1
  have hns2 : ∀ s ∈ sk,noW s l = true:=fun s hs => by
   have:=hns s hs
   simp only [noW,List.all_cons,Bool.and_eq_true] at this
   exact this.2
  have keep : ∀ v,(e.put d v) g = .bool (!w):=fun v => by rw [Env.put_apply _ _ hn.1]; exact hb
  have keeps : ∀ v,∀ s ∈ sk,(e.put d v) s = .tup []:=fun v s hs => by rw [Env.put_apply _ _ (hns1 s hs)]; exact hsk s hs
  simp only [skG] at hh
  simp only [wpS]
  split at hh
  ·rename_i hc
   have hgd : ∃ g2 w2,gd = some (g2,w2)∧(e g2 = .bool (!w2) ∨ e g2 = .tup []):=by
    rcases hc with hc | hc
    ·exact ⟨g,w,hc,.inl hb⟩
    ·cases gd with
     | none => simp [inSk] at hc
     | some gw => exact ⟨gw.1,gw.2,rfl,.inr (hsk _ (by simpa [inSk] using hc))⟩
   obtain ⟨g2,w2,rfl,hb2⟩:=hgd
   simp only [wpS] at hh
   have hh' : (∀ l ∈ obl,stab P l (e.put d (.tup [])) h)∧wpS P (skG g w (addSk d sk) l) (e.put d (.tup [])) h K:=by
    cases obl with
    | nil =>
     obtain ⟨v,h1,h2⟩:=hh
     have : v = .tup []:=(Option.some.inj h1).symm
     subst this; exact ⟨fun l hl => by simp at hl,h2⟩
    | cons y ys => exact hh
   obtain ⟨hob,hh'⟩:=hh'
   refine stepA_sk hb2 hob ?_
   refine wpS_sk l (addSk d sk) _ h hn.2 hnd2 (fun s hs => ?_) (keep _) (fun s hs => ?_) hh'
   ·cases d with
    | none => exact hns2 s hs
    | some t =>
     rcases List.mem_cons.1 hs with rfl | hs
     ·exact hdl _ rfl
     ·exact hns2 s hs
   ·cases d with
    | none => exact keeps _ s hs
    | some t =>
     rcases List.mem_cons.1 hs with rfl | hs
     ·simp [Env.put,Env.upd]
     ·exact keeps _ s hs
  ·simp only [wpS] at hh
   refine stepA_mono ?_ (stepA_put hh)
   rintro e' h' ⟨h1,v,rfl⟩
   exact wpS_sk l sk _ h' hn.2 hnd2 hns2 (keep v) (keeps v) h1
end
def lastG (g:Nat) (w:Bool) : List It → Nat
 | [] => 0
 | x :: l => let k:=lastG g w l
  if k = 0 then (if x.1.g = some (g,w) then 1 else 0) else k + 1
def sq (a b : ACode) : ACode:=match a,b with
 | .skip,b => b
 | a,.skip => a
 | a,b => .seq a b
def rg (l:List It) : ACode:=match l with | [] => .skip | l => .reg l
def treeR : Nat → List It → Option ACode
 | 0,_ => none
 | n + 1,l =>
  let pre:=l.takeWhile fun x => x.1.g.isNone
  let rest:=l.dropWhile fun x => x.1.g.isNone
  match rest with
  | [] => some (rg pre)
  | x :: _ => match x.1.g with
   | none => none
   | some (g,w) =>
    let k:=lastG g w rest
    let blk:=rest.take k
    if (noW g blk && nodupD blk) = true then
     match treeR n (unG g w blk),treeR n (skG g w [] blk),treeR n (rest.drop k) with
     | some a,some b,some r => some (sq (rg pre) (sq (.cond (.tm g) (if w then a else b) (if w then b else a)) r))
     | _,_,_ => none
    else none
section
variable {P:Program} {kn kr : Env → Hp → Prop} {kx:Nat → Env → Hp → Prop}
theorem wpA_sq {a b : ACode} {e:Env} {h:Hp} (hh : wpA P (sq a b) e h kn kr kx) (ha:∀ (e h) (kn kn' : Env → Hp → Prop),(∀ e h,kn e h → kn' e h) → wpA P a e h kn kr kx → wpA P a e h kn' kr kx) : wpA P a e h (fun e h => wpA P b e h kn kr kx) kr kx:=by
 unfold sq at hh
 split at hh
 ·exact hh
 ·exact ha _ _ _ _ (fun e h hk => hk) hh
 ·exact hh
theorem rg_wp {l:List It} {e:Env} {h:Hp} (hh : wpA P (rg l) e h kn kr kx) : wpS P l e h kn:=by
 unfold rg at hh
 split at hh
 ·exact hh
 ·exact hh
theorem treeR_ok : ∀ (n:Nat) (l:List It) (ac:ACode) (e:Env) (h:Hp) (kn:Env → Hp → Prop),treeR n l = some ac → wpA P ac e h kn kr kx → wpS P l e h kn
 | 0,_,_,_,_,_,ht,_ => by cases ht
 | n + 1,l,ac,e,h,kn,ht,hh => by
  have hsplit : l.takeWhile (fun x => x.1.g.isNone) ++ l.dropWhile (fun x => x.1.g.isNone) = l:=List.takeWhile_append_dropWhile
  unfold treeR at ht
  simp only at ht
  generalize l.takeWhile (fun x => x.1.g.isNone) = pre at *
  generalize l.dropWhile (fun x => x.1.g.isNone) = rest at *
  subst hsplit
  refine wpS_append pre rest e h kn ?_
  split at ht
  ·cases ht
   exact rg_wp hh
  ·rename_i x tl
   split at ht <;> first | (cases ht; done) | skip
   rename_i g w hg
   split at ht <;> first | (cases ht; done) | skip
   rename_i hc
   split at ht <;> first | (cases ht; done) | skip
   rename_i a b r h1 h2 h3
   cases ht
   simp only [Bool.and_eq_true] at hc
   obtain ⟨c1,c2⟩:=hc
   have hm : ∀ (ll:List It) (e h) (kn kn' : Env → Hp → Prop),(∀ e h,kn e h → kn' e h) → wpA P (rg ll) e h kn kr kx → wpA P (rg ll) e h kn' kr kx:=by
    intro ll e h kn kn' hk hw
    cases ll with
    | nil => exact hk _ _ hw
    | cons y ys => exact wpS_mono hk _ _ _ hw
   have hh1:=rg_wp (wpA_sq hh (hm pre))
   refine wpS_mono ?_ _ _ _ hh1
   intro e h hh
   -- a branch,and what lies behind it
   have hcond : ∃ bv,e g = .bool bv∧(bv = true → wpA P (if w then a else b) e h (fun e h => wpA P r e h kn kr kx) kr kx)∧(bv = false → wpA P (if w then b else a) e h (fun e h => wpA P r e h kn kr kx) kr kx):=by
    have key : wpA P (.cond (.tm g) (if w then a else b) (if w then b else a)) e h (fun e h => wpA P r e h kn kr kx) kr kx:=by
     cases r <;> exact hh
    obtain ⟨bv,hb,ht,hf⟩:=key
    exact ⟨bv,hb,ht,hf⟩
   obtain ⟨bv,hb,ht,hf⟩:=hcond
   rw [← List.take_append_drop (lastG g w (x :: tl)) (x :: tl)]
   refine wpS_append _ _ e h kn ?_
   have hr : ∀ e h,wpA P r e h kn kr kx → wpS P ((x :: tl).drop (lastG g w (x :: tl))) e h kn:=fun e h hw => treeR_ok n _ r e h kn h3 hw
   have goA : e g = .bool w → wpA P a e h (fun e h => wpA P r e h kn kr kx) kr kx → wpS P ((x :: tl).take (lastG g w (x :: tl))) e h fun e h => wpS P ((x :: tl).drop (lastG g w (x :: tl))) e h kn :=
    fun hb hw => wpS_un _ e h c1 hb (wpS_mono hr _ _ _ (treeR_ok n _ a e h _ h1 hw))
   have goB : e g = .bool (!w) → wpA P b e h (fun e h => wpA P r e h kn kr kx) kr kx → wpS P ((x :: tl).take (lastG g w (x :: tl))) e h fun e h => wpS P ((x :: tl).drop (lastG g w (x :: tl))) e h kn :=
    fun hb hw => wpS_sk _ [] e h c1 c2 (fun s hs => by simp at hs) hb (fun s hs => by simp at hs) (wpS_mono hr _ _ _ (treeR_ok n _ b e h _ h2 hw))
   cases bv <;> cases w
   ·exact goA hb (hf rfl)
   ·exact goB hb (hf rfl)
   ·exact goB hb (ht rfl)
   ·exact goA hb (ht rfl)
end
end Go.Hz
/- Code and functions. -/
namespace Go.Hz
def compC (P:Program) (n:Nat) (ot:Bool) : Code → Option ACode
 | .skip => some .skip
 | .label _ => some .skip
 | .region _ ops draw => (compReg P n ops draw).bind fun l => treeR (l.length + 1) l
 | .seq a b => match compC P n ot a,compC P n ot b with
  | some x,some y => some (.seq x y)
  | _,_ => none
 | .cond c t f => match AE.of c,compC P n ot t,compC P n ot f with
  | some c',some x,some y => some (.cond c' x y)
  | _,_,_ => none
 | .block id b => (compC P n ot b).map (.block id)
 | .loop b => (compC P n ot b).map .loop
 | .exit id => some (.exit id)
 | .ret => some .ret
 | .rangeFunc g ps asg bd => if ot = true then (AE.of g).map fun g' => .rangeF n g' ps.toList asg bd else none
 | _ => none
section
variable {P:Program} {n:Nat} {Q:Exit → Act → World → Prop} {fz0:Nat → Prop} {h0:Hp} {w0:World}
theorem Rel.size_none {fz:Nat → Prop} {h:Hp} {w:World} (r:Rel fz h w) {b:Nat} (hb : w.heap.size ≤ b) : h b = none∧¬ fz b:=by
 refine ⟨?_,fun hf => by have:=r.lt b hf; omega⟩
 cases hh : h b with
 | none => rfl
 | some o =>
  obtain ⟨_,c,h1,_⟩:=r.own b o hh
  have:=(Array.getElem?_eq_some_iff.1 h1).1
  omega
theorem rangeF_ok {s0:Nat} (hs0 : s0 ≤ w0.heap.size) {ro:Option Nat} {g:Operand} {g' : AE} {ps:Array Tmp} {asg bd : Code} (hro : ro = none) (hg:AE.of g = some g') {Q:Exit → Act → World → Prop} {kn:Env → Hp → Prop}
  (qn:∀ a w,Fin n s0 fz0 h0 w0 kn a w → Q .normal a w) {fz:Nat → Prop} {e:Env} {h:Hp} {a:Act} {w:World} (hst:St n fz e h a w) (hx:Ext fz0 h0 w0 fz h w) (hm:Mks s0 fz h w a.defers)
  {f:FuncId} {caps:List AV} (he : g'.ev e = .fn f caps) (hf:FnOK P f)
  (ht:∀ l,h l = none → Triple P f (.yl l :: caps) (h.set l (.lp n e ps.toList asg bd)) fun _ h' => h' l = some (.lp n e ps.toList asg bd)∧kn e (h'.del l)) :
  (Code.rangeFunc g ps asg bd).wpIn (FR ro) 0 P Q a w:=by
 subst hro
 have hv:=AE.of_ok hg hst.env
 rw [he] at hv
 obtain ⟨vs,hv1,hv2⟩:=hv.fn_inv
 obtain ⟨fn,hfn,hnm,hbd⟩:=hf
 refine wpIn_rangeFunc fun af _ => ?_
 obtain ⟨w2,hw2⟩ : ∃ w2,(w.alloc (.deferred (some []))).alloc (.loop { state:=.ready,pending:=none,fn:=af,tmps:=a.tmps,params:=ps,assign:=asg,body:=bd,defers:=w.heap.size }) = w2:=⟨_,rfl⟩
 have hs2 : w2.heap.size = w.heap.size + 2:=by rw [← hw2]; simp
 have hold : ∀ b,b < w.heap.size → w2.heap[b]? = w.heap[b]?:=fun b hb => by
  rw [← hw2]; exact (Go.RowKit.Below.heap_alloc _ _ b (by simp; omega)).trans (Go.RowKit.Below.heap_alloc _ _ b hb)
 have hl2 : w2.heap[w.heap.size + 1]? = some (.loop { state:=.ready,pending:=none,fn:=af,tmps:=a.tmps,params:=ps,assign:=asg,body:=bd,defers:=w.heap.size }):=by
  rw [← hw2]
  have:=World.alloc_heap_new (w.alloc (.deferred (some []))) (.loop { state:=.ready,pending:=none,fn:=af,tmps:=a.tmps,params:=ps,assign:=asg,body:=bd,defers:=w.heap.size })
  rwa [World.size_alloc] at this
 have hd2 : w2.heap[w.heap.size]? = some (.deferred (some [])):=by
  rw [← hw2]; exact (Go.RowKit.Below.heap_alloc _ _ _ (by simp)).trans (World.alloc_heap_new w _)
 obtain ⟨nl,nfl⟩:=hst.rel.size_none (b:=w.heap.size + 1) (by omega)
 obtain ⟨nd,nfd⟩:=hst.rel.size_none (b:=w.heap.size) (Nat.le_refl _)
 have x2 : Ext fz h w fz (h.set (w.heap.size + 1) (.lp n e ps.toList asg bd)) w2:=by
  refine ⟨by rw [← hw2]; rfl,by rw [← hw2]; rfl,by rw [← hw2]; rfl,by omega,fun _ h => h,fun b hb hn => ⟨hold b hb,?_⟩,fun _ h => .inl h⟩
  rw [Hp.set_ne _ _ (by omega)]; exact hn
 have r2 : Rel fz (h.set (w.heap.size + 1) (.lp n e ps.toList asg bd)) w2:=by
  refine ⟨fun b hb => by have:=hst.rel.lt b hb; omega,fun b o hb => ?_⟩
  by_cases hbl : b = w.heap.size + 1
  ·subst hbl
   rw [Hp.set_same] at hb
   cases hb
   refine ⟨nfl,_,hl2,?_⟩
   have:=OR.lp (fz:=fz) (H:=w2.heap) n e ps.toList asg bd af a.tmps w.heap.size hst.size fun t => (hst.env t).mono (fun _ h => h) fun b hb => hold b (hst.rel.lt b hb)
   simpa using this
  ·rw [Hp.set_ne _ _ hbl] at hb
   obtain ⟨q1,c,q2,q3⟩:=hst.rel.own b o hb
   exact ⟨q1,c,(hold b (Array.getElem?_eq_some_iff.1 q2).1).trans q2,q3.mono (fun _ h => h) fun b hb => hold b (hst.rel.lt b hb)⟩
 refine ⟨w.heap.size + 1,[{ target:=.collected w.heap.size,args := #[] }],w2,{ target:=.fn (.func f) vs,args := #[.func (.yield (w.heap.size + 1)) #[] #[]] },w2,f,
  #[.func (.yield (w.heap.size + 1)) #[] #[]] ++ vs,w2,?_,?_,fun _ _ => trivial,?_,(fun h => by cases h),?_⟩
 ·rw [← hw2]; exact run_enterLoop_outer _ _ _ _ _
 ·simp only [resolve,Deferred.ofValue,hv1,run_pure]
  simp [Act.eval]
 ·unfold invoke
  exact callFunc_run hfn hnm hbd _ _
 ·refine (callsIn_wide (n:=0 - 1)).2 ((ht (w.heap.size + 1) nl fz w2 _ r2 ?_).mono ?_)
  ·have g1 : VRs fz w2.heap caps vs.toList:=hv2.mono (fun _ h => h) fun b hb => hold b (hst.rel.lt b hb)
   have:=VRs.cons (VR.yl (fz:=fz) (H:=w2.heap) (w.heap.size + 1)) g1
   simpa using this
  ·rintro ed w3 ⟨cv,r,h',fz',rfl,_,r3,x3,hl',hk⟩
   obtain ⟨nf',c,hc,ho⟩:=r3.own _ _ hl'
   cases ho with
   | lp _ _ _ _ _ f' tmps' ds' hs' henv' =>
   refine ⟨_,_,run_endLoop hc (by simp),?_⟩
   refine qn _ _ ⟨fz',e,h'.del (w.heap.size + 1),⟨hst.size,?_,?_⟩,hk,?_,?_⟩
   ·have:=(fun t => ((hst.env t).ext hst.rel x2).ext r2 x3 : EnvR fz' w3.heap e a.tmps)
    exact EnvR.putObj this nf'
   ·exact (r3.sub fun b o hb => by
     by_cases hbl : b = w.heap.size + 1
     ·rw [hbl,Hp.del_same] at hb; cases hb
     ·rwa [Hp.del_ne _ hbl] at hb).putObj (Hp.del_same _ _) nf'
   ·have x4 : Ext fz' h' w3 fz' (h'.del (w.heap.size + 1)) (w3.putObj (w.heap.size + 1) (.loop { ({ state:=.ready,pending:=none,fn:=f',tmps:=tmps',params:=ps.toList.toArray,assign:=asg,body:=bd,defers:=ds' } : Loop) with state:=.exhausted })):=by
     refine ⟨rfl,rfl,rfl,by simp [World.putObj],fun _ h => h,fun b hb hn => ?_,fun _ h => .inl h⟩
     have hbl : b ≠ w.heap.size + 1:=fun e => by rw [e,hl'] at hn; cases hn
     exact ⟨World.putObj_heap_other hbl,by rw [Hp.del_ne _ hbl]; exact hn⟩
    exact hx.trans ((x2.trans x3).trans x4)
   ·have x4 : Ext fz' h' w3 fz' (h'.del (w.heap.size + 1)) (w3.putObj (w.heap.size + 1) (.loop { ({ state:=.ready,pending:=none,fn:=f',tmps:=tmps',params:=ps.toList.toArray,assign:=asg,body:=bd,defers:=ds' } : Loop) with state:=.exhausted })):=by
     refine ⟨rfl,rfl,rfl,by simp [World.putObj],fun _ h => h,fun b hb hn => ?_,fun _ h => .inl h⟩
     have hbl : b ≠ w.heap.size + 1:=fun e => by rw [e,hl'] at hn; cases hn
     exact ⟨World.putObj_heap_other hbl,by rw [Hp.del_ne _ hbl]; exact hn⟩
    have m2 : Mks s0 fz (h.set (w.heap.size + 1) (.lp n e ps.toList asg bd)) w2 ([({ target:=.collected w.heap.size,args := #[] } : Deferred)] ++ a.defers):=by
     obtain ⟨rs,e1,e2,e3⟩:=hm.ext x2
     obtain ⟨rs',e1',e2',e3'⟩:=hm
     refine ⟨w.heap.size :: rs',by rw [e1']; rfl,List.nodup_cons.2 ⟨fun hmem => ?_,e2'⟩,fun r hr => ?_⟩
     ·have:=(Array.getElem?_eq_some_iff.1 (e3' _ hmem).2.1).1
      omega
     ·rcases List.mem_cons.1 hr with rfl | hr
      ·exact ⟨Nat.le_trans hs0 hx.size,hd2,by rw [Hp.set_ne _ _ (by omega)]; exact nd,nfd⟩
      ·obtain ⟨a1,a2,a3,a4⟩:=e3' r hr
       have hlt:=(Array.getElem?_eq_some_iff.1 a2).1
       exact ⟨a1,(hold r hlt).trans a2,by rw [Hp.set_ne _ _ (by omega)]; exact a3,a4⟩
    exact (m2.ext x3).ext x4
theorem compC_ok {s0:Nat} (hs0 : s0 ≤ w0.heap.size) {ro:Option Nat} {ot:Bool} (hot : ot = true → ro = none) (hm:P.follows .mixedOrders = true) : ∀ (c:Code) (ac:ACode) (_ : compC P n ot c = some ac) (Q:Exit → Act → World → Prop) (kn kr : Env → Hp → Prop) (kx:Nat → Env → Hp → Prop)
  (_:∀ a w,Fin n s0 fz0 h0 w0 kn a w → Q .normal a w) (_:∀ a w,Fin n s0 fz0 h0 w0 kr a w → Q .ret a w) (_:∀ i a w,Fin n s0 fz0 h0 w0 (kx i) a w → Q (.exit i) a w)
  (fz:Nat → Prop) (e:Env) (h:Hp) (a:Act) (w:World),St n fz e h a w → Ext fz0 h0 w0 fz h w → Mks s0 fz h w a.defers → wpA P ac e h kn kr kx → c.wpIn (FR ro) 0 P Q a w
 | .skip,ac,hc,Q,kn,kr,kx,qn,_,_,fz,e,h,a,w,hst,hx,hd,hh => by
  cases hc; exact wpIn_skip (qn _ _ ⟨fz,e,h,hst,hh,hx,hd⟩)
 | .label l,ac,hc,Q,kn,kr,kx,qn,_,_,fz,e,h,a,w,hst,hx,hd,hh => by
  cases hc; exact wpIn_label (qn _ _ ⟨fz,e,h,hst,hh,hx,hd⟩)
 | .exit id,ac,hc,Q,kn,kr,kx,_,_,qx,fz,e,h,a,w,hst,hx,hd,hh => by
  cases hc; exact wpIn_exit (qx _ _ _ ⟨fz,e,h,hst,hh,hx,hd⟩)
 | .ret,ac,hc,Q,kn,kr,kx,_,qr,_,fz,e,h,a,w,hst,hx,hd,hh => by
  cases hc; exact wpIn_ret (qr _ _ ⟨fz,e,h,hst,hh,hx,hd⟩)
 | .region id ops draw,ac,hc,Q,kn,kr,kx,qn,_,_,fz,e,h,a,w,hst,hx,hd,hh => by
  simp only [compC] at hc
  cases hl : compReg P n ops draw with
  | none => rw [hl] at hc; cases hc
  | some l =>
   rw [hl,Option.bind_some] at hc
   exact compReg_ok hm hl hst (treeR_ok _ _ _ _ _ _ hc hh) fun fz' e' h' a' w' k s x d => qn _ _ ⟨fz',e',h',s,k,hx.trans x,by rw [d]; exact hd.ext x⟩
 | .seq x y,ac,hc,Q,kn,kr,kx,qn,qr,qx,fz,e,h,a,w,hst,hx,hd,hh => by
  simp only [compC] at hc
  split at hc <;> first | (cases hc; done) | skip
  rename_i ax ay h1 h2
  cases hc
  refine wpIn_seq (compC_ok hs0 hot hm x ax h1 (Exit.then (y.wpIn (FR ro) 0 P Q) Q) (fun e h => wpA P ay e h kn kr kx) kr kx ?_ (fun a w hf => qr a w hf) (fun i a w hf => qx i a w hf) fz e h a w hst hx hd hh)
  rintro a w ⟨fz,e,h,hst,hk,hx,hd⟩
  exact compC_ok hs0 hot hm y ay h2 Q kn kr kx qn qr qx fz e h a w hst hx hd hk
 | .cond c x y,ac,hc,Q,kn,kr,kx,qn,qr,qx,fz,e,h,a,w,hst,hx,hd,hh => by
  simp only [compC] at hc
  split at hc <;> first | (cases hc; done) | skip
  rename_i c' ax ay hc' h1 h2
  cases hc
  obtain ⟨b,hb,ht,hf⟩:=hh
  have hv:=AE.of_ok hc' hst.env
  rw [hb] at hv
  refine wpIn_cond_split hv.bool_inv (fun hbt => ?_) (fun hbf => ?_)
  ·exact compC_ok hs0 hot hm x ax h1 Q kn kr kx qn qr qx fz e h a w hst hx hd (ht hbt)
  ·exact compC_ok hs0 hot hm y ay h2 Q kn kr kx qn qr qx fz e h a w hst hx hd (hf hbf)
 | .block id b,ac,hc,Q,kn,kr,kx,qn,qr,qx,fz,e,h,a,w,hst,hx,hd,hh => by
  simp only [compC] at hc
  cases hl : compC P n ot b with
  | none => rw [hl] at hc; cases hc
  | some ab =>
   rw [hl] at hc
   cases hc
   refine wpIn_block (compC_ok hs0 hot hm b ab hl (Exit.inBlock id Q) kn kr (fun i e h => if i = id then kn e h else kx i e h) (fun a w hf => qn a w hf) (fun a w hf => qr a w hf) ?_ fz e h a w hst hx hd hh)
   intro i a w hf
   simp only [Exit.inBlock]
   split
   ·rename_i hi
    subst hi
    refine qn a w ?_
    simpa using hf
   ·rename_i hi
    refine qx i a w ?_
    simpa [hi] using hf
 | .loop b,ac,hc,Q,kn,kr,kx,qn,qr,qx,fz,e,h,a,w,hst,hx,hd,hh => by
  simp only [compC] at hc
  cases hl : compC P n ot b with
  | none => rw [hl] at hc; cases hc
  | some ab =>
   rw [hl] at hc
   cases hc
   obtain ⟨I,μ,hI,hround⟩:=hh
   intro b0 k cs hro hb hr
   have key : ∀ m fz e h a w,μ e h = m → I e h → St n fz e h a w → Ext fz0 h0 w0 fz h w → Mks s0 fz h w a.defers →
     ∃ e a' w',Q e a' w'∧ArrivesIn (Machine.fenced P (FR ro)) P (lone (b0.atR a (.code b :: .inLoop b :: k)) cs w) b0 k cs e a' w':=by
    intro m
    induction m using Nat.strongRecOn with
    | _ m ih =>
     intro fz e h a w hm' hI hst hx hd
     obtain ⟨ex,a₁,w₁,hq,harr⟩:=compC_ok hs0 hot hm b ab hl (Exit.then (fun a' w' => Fin n s0 fz0 h0 w0 (fun e' h' => I e' h'∧μ e' h' < μ e h) a' w') Q) (fun e' h' => I e' h'∧μ e' h' < μ e h) kr kx
      (fun a w hf => hf) (fun a w hf => qr a w hf) (fun i a w hf => qx i a w hf) fz e h a w hst hx hd (hround e h hI) b0 (.inLoop b :: k) cs hro hb hr
     cases ex with
     | normal =>
      obtain ⟨fz1,e1,h1,hst1,⟨hI1,hlt⟩,hx1,hd1⟩:=hq
      obtain ⟨e₂,a₂,w₂,hq₂,harr₂⟩:=ih (μ e1 h1) (hm' ▸ hlt) fz1 e1 h1 a₁ w₁ rfl hI1 hst1 hx1 hd1
      exact ⟨e₂,a₂,w₂,hq₂,.of_steps (StepsIn.trans harr (.one (fenced_calm hb hr rfl) stepR_inLoop)) harr₂⟩
     | exit id => exact ⟨_,a₁,w₁,hq,.pass (x:=.inLoop b) rfl (fun _ _ => .inl (by simp)) harr⟩
     | goto l => exact ⟨_,a₁,w₁,hq,.pass (x:=.inLoop b) rfl (fun _ _ => .inl (by simp)) harr⟩
     | ret => exact ⟨_,a₁,w₁,hq,.pass (x:=.inLoop b) rfl (fun _ _ => .inl (by simp)) harr⟩
     | panic ch => exact ⟨_,a₁,w₁,hq,.pass (x:=.inLoop b) rfl (fun _ _ => .inl (by simp)) harr⟩
     | outgrown => exact ⟨_,a₁,w₁,hq,.pass (x:=.inLoop b) rfl (fun _ _ => .inl (by simp)) harr⟩
   obtain ⟨e',a',w',hq,harr⟩:=key _ fz e h a w rfl hI hst hx hd
   exact ⟨e',a',w',hq,.of_steps (.one (fenced_calm hb hr rfl) stepR_loop) harr⟩
 | .rangeFunc g ps asg bd,ac,hc,Q,kn,kr,kx,qn,_,_,fz,e,h,a,w,hst,hx,hd,hh => by
  simp only [compC] at hc
  split at hc
  ·rename_i hot'
   cases hg : AE.of g with
   | none => rw [hg] at hc; cases hc
   | some g' =>
    rw [hg] at hc
    cases hc
    obtain ⟨f,caps,h1,h2,h3⟩:=hh
    exact rangeF_ok hs0 (hot hot') hg qn hst hx hd h1 h2 h3
  ·cases hc
 | .scope _,_,hc,_,_,_,_,_,_,_,_,_,_,_,_,_,_,_,_ => by cases hc
 | .goto _,_,hc,_,_,_,_,_,_,_,_,_,_,_,_,_,_,_,_ => by cases hc
 | .refuse _,_,hc,_,_,_,_,_,_,_,_,_,_,_,_,_,_,_,_ => by cases hc
theorem code_T (hm:P.follows .mixedOrders = true) {c:Code} {ac:ACode} (hc : compC P n false c = some ac) {e:Env} {h:Hp} {post:Env → Hp → Prop} (hh : wpA P ac e h post (fun _ _ => False) (fun _ _ _ => False)) : CodeT P n c e h post:=by
 intro fz l a w hd hst
 exact compC_ok (ro:=some l) (s0:=0) (fz0:=fz) (h0:=h) (w0:=w) (Nat.zero_le _) (fun h => by cases h) hm c ac hc _ post (fun _ _ => False) (fun _ _ _ => False) (fun a w ⟨fz',e',h',h1,h2,h3,h4⟩ => ⟨rfl,fz',e',h',h4,h1,h3,h2⟩)
  (fun a w ⟨_,_,_,_,hf,_⟩ => hf.elim) (fun i a w ⟨_,_,_,_,hf,_⟩ => hf.elim) fz e h a w hst (Ext.refl _ _ _) hd hh
end
inductive ARes where
 | tmp (t:Nat)
 | cell (a sz : Nat) (ag:Bool)
structure AFun where
 n : Nat
 code : ACode
 res : List ARes
def resOf (P:Program) : List ResultVar → Option (List ARes)
 | [] => some []
 | .tmp t :: l => (resOf P l).map (.tmp t :: ·)
 | .cell a t :: l => match P.underlying t,P.info? t,resOf P l with
  | some d,some i,some rs => some (.cell a i.size d.isAg :: rs)
  | _,_,_ => none
def compF (P:Program) (fn:Func) : Option AFun :=
 match fn.body with
 | some c => match compC P fn.ntmps true c,resOf P fn.results.toList with
  | some ac,some rs => some ⟨fn.ntmps,ac,rs⟩
  | _,_ => none
 | none => none
def resA (e:Env) (h:Hp) : ARes → Option AV
 | .tmp t => some (e t)
 | .cell a sz ag => ldA sz ag h (e a)
def resL (e:Env) (h:Hp) : List ARes → Option (List AV)
 | [] => some []
 | r :: l => (resA e h r).bind fun v => (resL e h l).map (v :: ·)
def resK (rs:List ARes) (e:Env) (h:Hp) (K:AV → Hp → Prop) : Prop :=
 match rs with
 | [r] => ∃ v,resA e h r = some v∧K v h
 | rs => ∃ vs,resL e h rs = some vs∧K (.tup vs) h
def initE (args:List AV) : Env:=fun t => args.getD t (.tup [])
theorem resL_run {P:Program} {fz:Nat → Prop} {w:World} {e:Env} {h:Hp} {tmps:Array Value} (he:EnvR fz w.heap e tmps) (hr:Rel fz h w) : ∀ {l:List ResultVar} {rs:List ARes} {vs:List AV},resOf P l = some rs → resL e h rs = some vs →
    ∃ cvs,(l.mapM fun (r:ResultVar) => (match r with
      | .tmp t => pure (tmps.getD t undef)
      | .cell a t => do loadVar t (← asAddr (tmps.getD a undef)) : Sem Value)).run P w = .ok cvs w∧VRs fz w.heap vs cvs
  | [],_,_,h1,h2 => by
    cases h1
    cases h2
    exact ⟨[],rfl,VRs.nil⟩
  | .tmp t :: l,rs,vs,h1,h2 => by
    simp only [resOf] at h1
    cases hl : resOf P l with
    | none => rw [hl] at h1; cases h1
    | some rs' =>
      rw [hl] at h1
      cases h1
      simp only [resL,resA,Option.bind_some] at h2
      cases hv : resL e h rs' with
      | none => rw [hv] at h2; cases h2
      | some vs' =>
        rw [hv] at h2
        cases h2
        obtain ⟨cvs,g1,g2⟩:=resL_run he hr hl hv
        refine ⟨tmps.getD t undef :: cvs,?_,VRs.cons (he t) g2⟩
        rw [List.mapM_cons,run_bind,run_pure,Result.andThen_ok,run_bind,g1]
        rfl
  | .cell a t :: l,rs,vs,h1,h2 => by
    simp only [resOf] at h1
    split at h1 <;> first | (cases h1; done) | skip
    rename_i d i rs' hd hi hl
    cases h1
    simp only [resL,resA] at h2
    cases hv0 : ldA i.size d.isAg h (e a) with
    | none => rw [hv0] at h2; cases h2
    | some v =>
      rw [hv0,Option.bind_some] at h2
      cases hv : resL e h rs' with
      | none => rw [hv] at h2; cases h2
      | some vs' =>
        rw [hv] at h2
        cases h2
        obtain ⟨cvs,g1,g2⟩:=resL_run he hr hl hv
        unfold ldA at hv0
        split at hv0 <;> first | (cases hv0; done) | skip
        rename_i cs hcs
        obtain ⟨b,o',q2,q3⟩:=cellsAt_ok hr (he a) hcs
        obtain ⟨cv,q4,q5⟩:=loadVar_run (P:=P) q3 hd hi hv0
        refine ⟨cv :: cvs,?_,VRs.cons q5 g2⟩
        rw [List.mapM_cons,run_bind]
        simp only [q2]
        have q6 : (do loadVar t (← asAddr (.pointer (some ⟨b,o',none⟩))) : Sem Value).run P w = .ok cv w:=by
          simpa [asAddr] using q4
        rw [q6,Result.andThen_ok,run_bind,g1]
        rfl
theorem results_run {fn:Func} {P:Program} {rs:List ARes} (h : resOf P fn.results.toList = some rs) {fz:Nat → Prop} {w:World} {e:Env} {hp:Hp} {tmps:Array Value} (he:EnvR fz w.heap e tmps) (hr:Rel fz hp w) {K:AV → Hp → Prop} (hk : resK rs e hp K) :
  ∃ v cv,(results fn tmps).run P w = .ok cv w∧VR fz w.heap v cv∧K v hp:=by
 have fin : ∀ vs,resL e hp rs = some vs → ∃ cvs,(results fn tmps).run P w = (pure (if h : cvs.toArray.size = 1 then cvs.toArray[0] else .tuple cvs.toArray) : Sem Value).run P w∧VRs fz w.heap vs cvs:=by
  intro vs hvs
  obtain ⟨cvs,g1,g2⟩:=resL_run he hr h hvs
  refine ⟨cvs,?_,g2⟩
  unfold results
  have h2 : fn.results = fn.results.toList.toArray:=by simp
  rw [h2,run_bind,List.mapM_toArray,Sem.run_map]
  exact congrArg (fun r : Result (List Value) => (r.andThen fun a w' => (.ok a.toArray w' : Result (Array Value))).andThen fun vs w' => (pure (if h : vs.size = 1 then vs[0] else .tuple vs) : Sem Value).run P w') g1
 match rs,hk,fin with
 | [r],⟨v,h1,h2⟩,fin =>
  obtain ⟨cvs,g1,g2⟩:=fin [v] (by simp [resL,h1])
  match cvs,g1,g2 with
  | [cv],g1,g2 => exact ⟨v,cv,by rw [g1]; rfl,g2.2 0 (by simp) (by simp),h2⟩
  | [],_,g2 => exact absurd g2.1 (by simp)
  | _ :: _ :: _,_,g2 => exact absurd g2.1 (by simp)
 | [],⟨vs,h1,h2⟩,fin =>
  cases h1
  obtain ⟨cvs,g1,g2⟩:=fin [] rfl
  match cvs,g1,g2 with
  | [],g1,g2 => exact ⟨.tup [],.tuple #[],by rw [g1]; rfl,.tup [] #[] rfl fun i h => by simp at h,h2⟩
  | _ :: _,_,g2 => exact absurd g2.1 (by simp)
 | r :: r' :: rs,⟨vs,h1,h2⟩,fin =>
  obtain ⟨cvs,g1,g2⟩:=fin vs h1
  have hlen : 2 ≤ vs.length:=by
   simp only [resL] at h1
   cases ha : resA e hp r with
   | none => rw [ha] at h1; cases h1
   | some a =>
    cases hb : resA e hp r' with
    | none => rw [ha,hb] at h1; simp at h1
    | some b =>
     cases hl : resL e hp rs with
     | none => rw [ha,hb,hl] at h1; simp at h1
     | some l => rw [ha,hb,hl] at h1; cases h1; simp
  have hl2:=g2.1
  refine ⟨.tup vs,.tuple cvs.toArray,?_,.tup _ _ (by simpa using hl2) fun i h3 h4 => by simpa using g2.2 i h3 (by simpa using h4),h2⟩
  rw [g1,dif_neg (by simp; omega)]
  rfl
theorem leavesM {P:Program} {fn:Func} {tmps:Array Value} {R:Ending → World → Prop} {s0:Nat} {fz0 fz : Nat → Prop} {h0 h : Hp} {w0:World} {e:Env} (hs0 : w0.heap.size ≤ s0) : ∀ (rs:List Nat) (w:World),rs.Nodup → (∀ r ∈ rs,s0 ≤ r∧w.heap[r]? = some (.deferred (some []))∧h r = none∧¬ fz r) →
  EnvR fz w.heap e tmps → Rel fz h w → Ext fz0 h0 w0 fz h w → (∀ w',EnvR fz w'.heap e tmps → Rel fz h w' → Ext fz0 h0 w0 fz h w' → ∃ v,(results fn tmps).run P w' = .ok v w'∧R (.returned v) w') →
  LeavesInM (FR none) 0 P fn tmps R (rs.map fun r => ({ target:=.collected r,args := #[] } : Deferred)) .returning w
 | [],w,_,_,he,hr,hx,hq => hq w he hr hx
 | r :: rs,w,hn,hm,he,hr,hx,hq => by
  obtain ⟨a1,a2,a3,a4⟩:=hm r (by simp)
  obtain ⟨n1,n2⟩:=List.nodup_cons.1 hn
  refine ⟨by simp,.inl ⟨r,_,rfl,run_takeDeferred a2,?_⟩⟩
  refine leavesM hs0 rs _ n2 (fun r' hr' => ?_) (he.putObj a4) (hr.putObj a3 a4) ?_ hq
  ·obtain ⟨b1,b2,b3,b4⟩:=hm r' (by simp [hr'])
   exact ⟨b1,(World.putObj_heap_other (fun (e : r' = r) => n1 (e ▸ hr'))).trans b2,b3,b4⟩
  ·refine ⟨hx.os,hx.tape,hx.output,Nat.le_trans hx.size (by simp [World.putObj]),hx.grow,fun b hb hbn => ?_,hx.new⟩
   obtain ⟨k1,k2⟩:=hx.keep b hb hbn
   exact ⟨(World.putObj_heap_other (fun e => by omega)).trans k1,k2⟩
theorem triple_of {P:Program} {f:FuncId} {fn:Func} {F:AFun} {args:List AV} {h:Hp} {post:AV → Hp → Prop} (hm:P.follows .mixedOrders = true) (hf:P.funcs[f]? = some fn) (hF : compF P fn = some F) (hn : args.length ≤ F.n)
  (hh : wpA P F.code (initE args) h (fun e h' => resK F.res e h' post) (fun e h' => resK F.res e h' post) (fun _ _ _ => False)) : Triple P f args h post:=by
 intro fz w cargs hr ha
 unfold compF at hF
 split at hF <;> first | (cases hF; done) | skip
 rename_i c hb
 split at hF <;> first | (cases hF; done) | skip
 rename_i ac rs hac hrs
 cases hF
 have hlen:=ha.1
 simp only [Array.length_toList] at hlen
 simp only at hn
 refine (callsIn_wide (n:=0)).1 (callsIn_of_wp_marks (F:=FR none) hf hb trivial ?_)
 have fin : ∀ a w',Fin fn.ntmps w.heap.size fz h w (fun e h' => resK rs e h' post) a w' → LeavesInM (FR none) 0 P fn a.tmps (fun ed w' => ∃ cv r h' fz',ed = .returned cv∧VR fz' w'.heap r cv∧Rel fz' h' w'∧Ext fz h w fz' h' w'∧post r h') a.defers .returning w':=by
  rintro a w' ⟨fz',e,h',hst,hk,hx,rs',hd1,hd2,hd3⟩
  rw [hd1]
  refine leavesM (Nat.le_refl _) rs' w' hd2 hd3 hst.env hst.rel hx fun w2 he2 hr2 hx2 => ?_
  obtain ⟨v,cv,h1,h2,h3⟩:=results_run hrs (P:=P) he2 hr2 hk
  exact ⟨cv,h1,cv,v,h',fz',rfl,h2,hr2,hx2,h3⟩
 refine compC_ok (ro:=none) (s0:=w.heap.size) (Nat.le_refl _) (fun _ => rfl) hm c ac hac _ _ _ _ (fun a w' hf => fin a w' hf) (fun a w' hf => fin a w' hf) (fun i a w' hf => ?_) fz (initE args) h _ w ⟨?_,?_,hr⟩ (Ext.refl _ _ _) Mks.nil hh
 ·obtain ⟨_,_,_,_,hk,_⟩:=hf; exact hk.elim
 ·simp; omega
 ·intro t
  simp only [initE,List.getD_eq_getElem?_getD]
  by_cases ht : t < args.length
  ·have h1 : t < (cargs ++ Array.replicate (fn.ntmps - cargs.size) undef).size:=by simp; omega
   rw [List.getElem?_eq_getElem ht,Option.getD_some,Array.getD_eq_getD_getElem?,Array.getElem?_eq_getElem h1,Option.getD_some,Array.getElem_append_left (by omega)]
   have:=ha.2 t ht (by simp; omega)
   simpa using this
  ·rw [List.getElem?_eq_none (by omega),Option.getD_none]
   have : (cargs ++ Array.replicate (fn.ntmps - cargs.size) undef).getD t undef = undef:=by
    rw [Array.getD_eq_getD_getElem?,Array.getElem?_append_right (by omega),Array.getElem?_replicate]
    split <;> rfl
   rw [this]
   exact .tup [] #[] rfl fun i h => by simp at h
end Go.Hz
/- How a walk goes: each operation as what it leaves to be shown. -/
namespace Go.Hz
def opK (P:Program) : AOp → Option Nat → List AItem → Env → Hp → (Env → Hp → Prop) → Prop
 | .mv x,d,_,e,h,K => K (e.put d (x.ev e)) h
 | .pick c a b,d,_,e,h,K => ∃ v,pickA (c.ev e) (a.ev e) (b.ev e) = some v∧K (e.put d v) h
 | .bin op x y,d,_,e,h,K => ∃ v,binA op (x.ev e) (y.ev e) = some v∧K (e.put d v) h
 | .eqn k neg x y,d,_,e,h,K => ∃ v,((eqN k (x.ev e) (y.ev e)).map fun b => AV.bool (if neg then !b else b)) = some v∧K (e.put d v) h
 | .un op x,d,_,e,h,K => ∃ v,unA op (x.ev e) = some v∧K (e.put d v) h
 | .cvi k x,d,_,e,h,K => ∃ v,cviA k (x.ev e) = some v∧K (e.put d v) h
 | .cvs x,d,_,e,h,K => ∃ v,strA (x.ev e) = some v∧K (e.put d v) h
 | .nilck x,d,_,e,h,K => ∃ v,ckA (x.ev e) = some v∧K (e.put d v) h
 | .fa off x,d,_,e,h,K => ∃ v,faA off (x.ev e) = some v∧K (e.put d v) h
 | .fld off sz ag x,d,_,e,h,K => ∃ v,fldA off sz ag (x.ev e) = some v∧K (e.put d v) h
 | .ixs x i,d,_,e,h,K => ∃ v,ixsA (x.ev e) (i.ev e) = some v∧K (e.put d v) h
 | .ia s x i,d,_,e,h,K => ∃ v,iaA s (x.ev e) (i.ev e) = some v∧K (e.put d v) h
 | .slcS x lo hi,d,_,e,h,K => ∃ v,slcS (x.ev e) (oev e lo) (oev e hi) = some v∧K (e.put d v) h
 | .slcL s x lo hi,d,_,e,h,K => ∃ v,slcL s (x.ev e) (oev e lo) (oev e hi) = some v∧K (e.put d v) h
 | .slcM s x lo hi mx,d,_,e,h,K => ∃ v,slcM s (x.ev e) (oev e lo) (hi.ev e) (mx.ev e) = some v∧K (e.put d v) h
 | .clr s z x,d,obl,e,h,K => clrE s z (x.ev e) h fun v h' => (∀ l ∈ obl,stab P l (e.put d v) h')∧K (e.put d v) h'
 | .appz s b z x y,d,obl,e,h,K => appzE s b z (x.ev e) (y.ev e) h fun v h' => (∀ l ∈ obl,stab P l (e.put d v) h')∧K (e.put d v) h'
 | .ovl s x y,d,obl,e,h,K => ovlE s (x.ev e) (y.ev e) h fun v h' => (∀ l ∈ obl,stab P l (e.put d v) h')∧K (e.put d v) h'
 | .lenS x,d,_,e,h,K => ∃ v,lenS (x.ev e) = some v∧K (e.put d v) h
 | .lenL x,d,_,e,h,K => ∃ v,lenL (x.ev e) = some v∧K (e.put d v) h
 | .capL x,d,_,e,h,K => ∃ v,capL (x.ev e) = some v∧K (e.put d v) h
 | .ext n x,d,_,e,h,K => ∃ v,extA n (x.ev e) = some v∧K (e.put d v) h
 | .mkif t x,d,_,e,h,K => K (e.put d (.iface t (x.ev e))) h
 | .ta t ok z x,d,_,e,h,K => ∃ v,taA t ok z (x.ev e) = some v∧K (e.put d v) h
 | .mkfn f caps,d,_,e,h,K => K (e.put d (.fn f (evs e caps))) h
 | .mm mx x y,d,_,e,h,K => ∃ v,mmA mx (x.ev e) (y.ev e) = some v∧K (e.put d v) h
 | .bld z ps,d,_,e,h,K => ∃ v,fillA z (evParts e ps) = some v∧K (e.put d (.agg v)) h
 | .ld sz ag x,d,_,e,h,K => ∃ v,ldA sz ag h (x.ev e) = some v∧K (e.put d v) h
 | .bstr x,d,_,e,h,K => ∃ v,bstrA h (x.ev e) = some v∧K (e.put d v) h
 | .box x,d,_,e,h,K => ((x.ev e).cells.all AV.isAtom) = true∧∀ n,h n = none → K (e.put d (.ptr n (x.ev e).cells.length 0 0)) (h.set n (.row (x.ev e).cells.length [(x.ev e).cells] 1))
 | .alloc z,d,_,e,h,K => ∀ n,h n = none → K (e.put d (.ptr n z.length 0 0)) (h.set n (.row z.length [z] 1))
 | .bsl z n ps,d,_,e,h,K => ∃ v,setL z.length (List.replicate n z) (evIdx e ps) = some v∧∀ b,h b = none → K (e.put d (.arr b z.length 0 n n)) (h.set b (.row z.length v n))
 | .msl bytes z l c,d,_,e,h,K => ∃ r,mslA z.length bytes z (l.ev e) (c.ev e) = some r∧match r with
  | .inl v => K (e.put d v) h
  | .inr (o,g) => ∀ n,h n = none → K (e.put d (g n)) (h.set n o)
 | .st sz x y,d,obl,e,h,K => ∃ h',stA sz h (x.ev e) (y.ev e) = some h'∧(∀ l ∈ obl,stab P l (e.put d (.tup [])) h')∧K (e.put d (.tup [])) h'
 | .app s bytes x y,d,obl,e,h,K => appE s bytes (x.ev e) (y.ev e) h fun v h' => (∀ l ∈ obl,stab P l (e.put d v) h')∧K (e.put d v) h'
 | .cp s x y,d,obl,e,h,K => cpE s (x.ev e) (y.ev e) h fun v h' => (∀ l ∈ obl,stab P l (e.put d v) h')∧K (e.put d v) h'
 | .strb x,d,obl,e,h,K => strbE (x.ev e) h fun v h' => (∀ l ∈ obl,stab P l (e.put d v) h')∧K (e.put d v) h'
 | .call f args,d,obl,e,h,K => Triple P f (evs e args) h fun v h' => (∀ l ∈ obl,stab P l (e.put d v) h')∧K (e.put d v) h'
 | .iap n s x i,d,_,e,h,K => ∃ v,iapA n s (x.ev e) (i.ev e) = some v∧K (e.put d v) h
 | .ixa n s ag x i,d,_,e,h,K => ∃ v,ixaA n s ag (x.ev e) (i.ev e) = some v∧K (e.put d v) h
 | .cvb x,d,obl,e,h,K => cvbE (x.ev e) h fun v h' => (∀ l ∈ obl,stab P l (e.put d v) h')∧K (e.put d v) h'
 | .nop,d,obl,e,h,K => (∀ l ∈ obl,stab P l (e.put d (.tup [])) h)∧K (e.put d (.tup [])) h
 | .mkm,d,_,e,h,K => ∀ n,h n = none → K (e.put d (.map n)) (h.set n (.mp [] 0))
 | .lenM x,d,_,e,h,K => ∃ v,lenM h (x.ev e) = some v∧K (e.put d v) h
 | .lkp str ok z x k,d,_,e,h,K => ∃ v,lkA str ok z h (x.ev e) (k.ev e) = some v∧K (e.put d v) h
 | .mup str x k v,d,obl,e,h,K => mupE str (x.ev e) (k.ev e) (v.ev e) h fun v h' => (∀ l ∈ obl,stab P l (e.put d v) h')∧K (e.put d v) h'
 | .del str x k,d,obl,e,h,K => delE str (x.ev e) (k.ev e) h fun v h' => (∀ l ∈ obl,stab P l (e.put d v) h')∧K (e.put d v) h'
 | .rng x,d,obl,e,h,K => rngE (x.ev e) h fun v h' => (∀ l ∈ obl,stab P l (e.put d v) h')∧K (e.put d v) h'
 | .nxt x,d,obl,e,h,K => nxtE (x.ev e) h fun v h' => (∀ l ∈ obl,stab P l (e.put d v) h')∧K (e.put d v) h'
 | .ent x,d,obl,e,h,K => ∃ v,entE (x.ev e) h = some v∧(∀ l ∈ obl,stab P l (e.put d v) h)∧K (e.put d v) h
 | .inv name x args,d,obl,e,h,K => invE P name (x.ev e) (evs e args) h fun v h' => (∀ l ∈ obl,stab P l (e.put d v) h')∧K (e.put d v) h'
 | .eqs ks neg x y,d,_,e,h,K => ∃ v,eqsA ks neg (x.ev e) (y.ev e) = some v∧K (e.put d v) h
 | .callv x args,d,obl,e,h,K => callvE P (x.ev e) (evs e args) h fun v h' => (∀ l ∈ obl,stab P l (e.put d v) h')∧K (e.put d v) h'
theorem ite_some {α:Type} {c:Prop} [Decidable c] {x : α} {K : α → Prop} : (∃ v,(if c then some x else none) = some v∧K v) ↔ c∧K x:=by
 constructor
 ·rintro ⟨v,h1,h2⟩
  split at h1
  ·cases h1; exact ⟨‹_›,h2⟩
  ·cases h1
 ·rintro ⟨h1,h2⟩; exact ⟨x,if_pos h1,h2⟩
theorem ex_some {α:Type} {x : α} {K : α → Prop} : (∃ v,some x = some v∧K v) ↔ K x:=by
 constructor
 ·rintro ⟨v,h1,h2⟩; cases h1; exact h2
 ·exact fun h => ⟨x,rfl,h⟩
theorem map_some {α β : Type} {x:Option α} {f : α → β} {K : β → Prop} : (∃ v,x.map f = some v∧K v) ↔ ∃ v,x = some v∧K (f v):=by
 constructor
 ·rintro ⟨v,h1,h2⟩
  cases x with
  | none => cases h1
  | some a => cases h1; exact ⟨a,rfl,h2⟩
 ·rintro ⟨v,h1,h2⟩; subst h1; exact ⟨f v,rfl,h2⟩
theorem stepA_eq {P:Program} {d:Option Nat} {op:AOp} {obl:List AItem} {e:Env} {h:Hp} {K:Env → Hp → Prop} : stepA P ⟨d,op,none⟩ obl e h K ↔ opK P op d obl e h K:=by
 unfold stepA AItem.item
 cases op with
 | mv x => exact ex_some
 | mkif t x => exact ex_some
 | mkfn f caps => exact ex_some
 | bld z ps => exact map_some
 | box x => exact ite_some
 | alloc z => exact ex_some
 | mkm => exact ex_some
 | bsl z n ps => exact map_some
 | st sz x y => exact Iff.rfl
 | _ => exact Iff.rfl
theorem wpS_op {P:Program} {d:Option Nat} {op:AOp} {obl:List AItem} {l:List (AItem × List AItem)} {e:Env} {h:Hp} {K:Env → Hp → Prop} :
  wpS P ((⟨d,op,none⟩,obl) :: l) e h K ↔ opK P op d obl e h fun e' h' => wpS P l e' h' K:=stepA_eq
section
variable {P:Program} {kn kr : Env → Hp → Prop} {kx:Nat → Env → Hp → Prop} {e:Env} {h:Hp}
end
structure Mod (S S' : List Nat) (h h' : Hp) : Prop where
 keep : ∀ x,h x ≠ none → x ∉ S → h' x = h x
 new : ∀ x ∈ S',x ∈ S ∨ h x = none
 dom : ∀ x ∈ S',h' x ≠ none
theorem Mod.refl {S:List Nat} {h:Hp} (hd:∀ x ∈ S,h x ≠ none) : Mod S S h h:=⟨fun _ _ _ => rfl,fun _ h => .inl h,hd⟩
theorem Mod.trans {S S' S'' : List Nat} {h h' h'' : Hp} (a:Mod S S' h h') (b:Mod S' S'' h' h'') : Mod S S'' h h'':=by
 refine ⟨fun x hx hn => ?_,fun x hx => ?_,b.dom⟩
 ·have e1:=a.keep x hx hn
  have hn' : x ∉ S':=fun hm => by
   rcases a.new x hm with h | h
   ·exact hn h
   ·exact hx h
  rw [b.keep x (by rw [e1]; exact hx) hn',e1]
 ·rcases b.new x hx with h1 | h1
  ·exact a.new x h1
  ·by_cases hs : x ∈ S
   ·exact .inl hs
   ·right
    cases hh : h x with
    | none => rfl
    | some o => have:=a.keep x (by rw [hh]; simp) hs; rw [this,hh] at h1; cases h1
end Go.Hz
/- Slices that are owned: appended to, read. -/
namespace Go.Hz
def OwnV (h:Hp) (s:Nat) (v:AV) (es:List (List AV)) (S:List Nat) : Prop :=
 (v = .nils∧es = []∧S = []) ∨ ∃ b cap,v = .arr b s 0 es.length cap∧h b = some (.row s es cap)∧es.length ≤ cap∧S = [b]
theorem OwnV.cells {h:Hp} {s:Nat} {v:AV} {es:List (List AV)} {S:List Nat} (o:OwnV h s v es S) : v.cells = [v]:=by
 rcases o with ⟨rfl,_,_⟩ | ⟨b,cap,rfl,_,_,_⟩ <;> rfl
theorem OwnV.atom {h:Hp} {s:Nat} {v:AV} {es:List (List AV)} {S:List Nat} (o:OwnV h s v es S) : v.isAtom = true:=by
 rcases o with ⟨rfl,_,_⟩ | ⟨b,cap,rfl,_,_,_⟩ <;> rfl
theorem OwnV.dom {h:Hp} {s:Nat} {v:AV} {es:List (List AV)} {S:List Nat} (o:OwnV h s v es S) : ∀ x ∈ S,h x ≠ none:=by
 rcases o with ⟨_,_,rfl⟩ | ⟨b,cap,_,hb,_,rfl⟩
 ·intro x hx; simp at hx
 ·intro x hx; simp at hx; subst hx; rw [hb]; simp
theorem OwnV.same {h h' : Hp} {s:Nat} {v:AV} {es:List (List AV)} {S:List Nat} (o:OwnV h s v es S) (hh:∀ x ∈ S,h' x = h x) : OwnV h' s v es S:=by
 rcases o with ⟨h1,h2,h3⟩ | ⟨b,cap,h1,hb,hle,h3⟩
 ·exact .inl ⟨h1,h2,h3⟩
 ·exact .inr ⟨b,cap,h1,by rw [hh b (by rw [h3]; simp)]; exact hb,hle,h3⟩
theorem OwnV.src {h:Hp} {s:Nat} {v:AV} {es:List (List AV)} {S:List Nat} (o:OwnV h s v es S) : srcA s h v = some es:=by
 rcases o with ⟨rfl,rfl,_⟩ | ⟨b,cap,rfl,hb,_,_⟩
 ·rfl
 ·simp [srcA,hb]
theorem OwnV.len {h:Hp} {s:Nat} {v:AV} {es:List (List AV)} {S:List Nat} (o:OwnV h s v es S) : lenL v = some (.int .i64 es.length):=by
 rcases o with ⟨rfl,rfl,_⟩ | ⟨b,cap,rfl,hb,_,_⟩ <;> rfl
theorem OwnV.fresh {h:Hp} {s b : Nat} {v:AV} {es:List (List AV)} {S:List Nat} (o:OwnV h s v es S) (hb : h b = none) (x:AObj) : OwnV (h.set b x) s v es S :=
 o.same fun y hy => Hp.set_ne _ _ fun hh => o.dom y hy (hh ▸ hb)
theorem OwnV.other {h:Hp} {s b : Nat} {v:AV} {es:List (List AV)} {S:List Nat} (o:OwnV h s v es S) (hb : b ∉ S) (x:AObj) : OwnV (h.set b x) s v es S :=
 o.same fun y hy => Hp.set_ne _ _ fun hh => hb (hh ▸ hy)
theorem OwnV.kept {h h' : Hp} {s:Nat} {v:AV} {es:List (List AV)} {S A B : List Nat} (o:OwnV h s v es S) (m:Mod A B h h') (hA:∀ x ∈ S,x ∉ A) : OwnV h' s v es S :=
 o.same fun y hy => m.keep y (o.dom y hy) (hA y hy)
theorem Mod.fresh {S S' : List Nat} {h h' : Hp} (m:Mod S S' h h') {b:Nat} (hb : h' b = none) (x:AObj) : Mod S S' h (h'.set b x) :=
 ⟨fun y hy hn => by
  have e1:=m.keep y hy hn
  rw [Hp.set_ne _ _ (fun hh => hy (by rw [← e1,hh,hb])),e1],m.new,fun y hy => by
  rw [Hp.set_ne _ _ (fun hh => m.dom y hy (by rw [hh]; exact hb))]; exact m.dom y hy⟩
theorem Mod.store {S S' : List Nat} {h h' : Hp} (m:Mod S S' h h') {b:Nat} (hb : b ∈ S') (x:AObj) : Mod S S' h (h'.set b x) :=
 ⟨fun y hy hn => by
  have hyb : y ≠ b:=fun hh => by
   rcases m.new b hb with h1 | h1
   ·exact hn (hh ▸ h1)
   ·exact hy (hh ▸ h1)
  rw [Hp.set_ne _ _ hyb,m.keep y hy hn],m.new,fun y hy => by
  by_cases hyb : y = b
  ·subst hyb; simp
  ·rw [Hp.set_ne _ _ hyb]; exact m.dom y hy⟩
theorem Mod.more {S S' : List Nat} {h h' : Hp} (m:Mod S S' h h') {b:Nat} (hb : h' b = none) (x:AObj) : Mod S (b :: S') h (h'.set b x) :=
 ⟨(m.fresh hb x).keep,fun y hy => by
  rcases List.mem_cons.1 hy with rfl | hy
  ·by_cases hs : y ∈ S
   ·exact .inl hs
   ·right
    cases hh : h y with
    | none => rfl
    | some o => have:=m.keep y (by rw [hh]; simp) hs; rw [hb,hh] at this; cases this
  ·exact m.new y hy,fun y hy => by
  rcases List.mem_cons.1 hy with rfl | hy
  ·simp
  ·exact (m.fresh hb x).dom y hy⟩
theorem Mod.cons {S S' : List Nat} {h h' : Hp} (m:Mod S S' h h') {p:Nat} (hp : h p ≠ none) (hn : p ∉ S) : Mod (p :: S) (p :: S') h h' :=
 ⟨fun y hy hm => m.keep y hy fun hh => hm (List.mem_cons_of_mem _ hh),fun y hy => by
  rcases List.mem_cons.1 hy with rfl | hy
  ·exact .inl (by simp)
  ·rcases m.new y hy with h1 | h1
   ·exact .inl (List.mem_cons_of_mem _ h1)
   ·exact .inr h1,fun y hy => by
  rcases List.mem_cons.1 hy with rfl | hy
  ·rw [m.keep _ hp hn]; exact hp
  ·exact m.dom y hy⟩
theorem Mod.frame {S S' X : List Nat} {h h' : Hp} (m:Mod S S' h h') (h1:∀ x ∈ X,h x ≠ none) (h2:∀ x ∈ X,x ∉ S) : Mod (X ++ S) (X ++ S') h h' :=
 ⟨fun y hy hn => m.keep y hy fun hh => hn (List.mem_append_right _ hh),fun y hy => by
  rcases List.mem_append.1 hy with hy | hy
  ·exact .inl (List.mem_append_left _ hy)
  ·rcases m.new y hy with g | g
   ·exact .inl (List.mem_append_right _ g)
   ·exact .inr g,fun y hy => by
  rcases List.mem_append.1 hy with hy | hy
  ·rw [m.keep y (h1 y hy) (h2 y hy)]; exact h1 y hy
  ·exact m.dom y hy⟩
end Go.Hz
/- The walk as a machine on data: what is still to run stands as lists, so that a simplifier takes one step after the other. -/
namespace Go.Hz
inductive Fr where
 | code (b:ACode)
 | blk (id:Nat)
 | lp (J:Env → Hp → Prop)
structure Kt where
 kn : Env → Hp → Prop
 kr : Env → Hp → Prop
 kx : Nat → Env → Hp → Prop
def kk (P:Program) (k:Kt) : List Fr → (Env → Hp → Prop) × (Nat → Env → Hp → Prop)
 | [] => (k.kn,k.kx)
 | .code b :: st => (fun e h => wpA P b e h (kk P k st).1 k.kr (kk P k st).2,(kk P k st).2)
 | .blk id :: st => ((kk P k st).1,fun i e h => if i = id then (kk P k st).1 e h else (kk P k st).2 i e h)
 | .lp J :: st => (J,(kk P k st).2)
def run (P:Program) (c:ACode) (st:List Fr) (e:Env) (h:Hp) (k:Kt) : Prop:=wpA P c e h (kk P k st).1 k.kr (kk P k st).2
def fall (P:Program) (st:List Fr) (e:Env) (h:Hp) (k:Kt) : Prop:=(kk P k st).1 e h
def outR (P:Program) (i:Nat) (st:List Fr) (e:Env) (h:Hp) (k:Kt) : Prop:=(kk P k st).2 i e h
def runS (P:Program) (l:List (AItem × List AItem)) (st:List Fr) (e:Env) (h:Hp) (k:Kt) : Prop:=wpS P l e h (kk P k st).1
def cndR (P:Program) (v:AV) (t f : ACode) (st:List Fr) (e:Env) (h:Hp) (k:Kt) : Prop :=
 ∃ b,v = .bool b∧(b = true → run P t st e h k)∧(b = false → run P f st e h k)
def obls (P:Program) (obl:List AItem) (e:Env) (h:Hp) : Prop := ∀ l ∈ obl,stab P l e h
def nx (P:Program) (a:Option AV) (d:Option Nat) (l:List (AItem × List AItem)) (st:List Fr) (e:Env) (h:Hp) (k:Kt) : Prop :=
 ∃ v,a = some v∧runS P l st (e.put d v) h k
def nxh (P:Program) (a:Option Hp) (obl:List AItem) (d:Option Nat) (l:List (AItem × List AItem)) (st:List Fr) (e:Env) (k:Kt) : Prop :=
 ∃ h',a = some h'∧obls P obl (e.put d (.tup [])) h'∧runS P l st (e.put d (.tup [])) h' k
def newR (P:Program) (o:AObj) (g:Nat → AV) (d:Option Nat) (l:List (AItem × List AItem)) (st:List Fr) (e:Env) (h:Hp) (k:Kt) : Prop :=
 ∀ n,h n = none → runS P l st (e.put d (g n)) (h.set n o) k
def mslR (P:Program) (a:Option (AV ⊕ (AObj × (Nat → AV)))) (d:Option Nat) (l:List (AItem × List AItem)) (st:List Fr) (e:Env) (h:Hp) (k:Kt) : Prop :=
 ∃ r,a = some r∧match r with
  | .inl v => runS P l st (e.put d v) h k
  | .inr (o,g) => newR P o g d l st e h k
def bslR (P:Program) (s n : Nat) (a:Option (List (List AV))) (d:Option Nat) (l:List (AItem × List AItem)) (st:List Fr) (e:Env) (h:Hp) (k:Kt) : Prop :=
 ∃ v,a = some v∧newR P (.row s v n) (fun b => .arr b s 0 n n) d l st e h k
def boxR (P:Program) (c:List AV) (d:Option Nat) (l:List (AItem × List AItem)) (st:List Fr) (e:Env) (h:Hp) (k:Kt) : Prop :=
 c.all AV.isAtom = true∧newR P (.row c.length [c] 1) (fun n => .ptr n c.length 0 0) d l st e h k
def entR (P:Program) (a:Option AV) (obl:List AItem) (d:Option Nat) (l:List (AItem × List AItem)) (st:List Fr) (e:Env) (h:Hp) (k:Kt) : Prop :=
 ∃ v,a = some v∧obls P obl (e.put d v) h∧runS P l st (e.put d v) h k
def effR (P:Program) (E:(AV → Hp → Prop) → Prop) (obl:List AItem) (d:Option Nat) (l:List (AItem × List AItem)) (st:List Fr) (e:Env) (k:Kt) : Prop :=
 E fun v h' => obls P obl (e.put d v) h'∧runS P l st (e.put d v) h' k
def callR (P:Program) (f:Nat) (args:List AV) (obl:List AItem) (d:Option Nat) (l:List (AItem × List AItem)) (st:List Fr) (e:Env) (h:Hp) (k:Kt) : Prop :=
 Triple P f args h fun v h' => obls P obl (e.put d v) h'∧runS P l st (e.put d v) h' k
def rngF (P:Program) (v:AV) (n:Nat) (ps:List Nat) (asg bd : Code) (st:List Fr) (e:Env) (h:Hp) (k:Kt) : Prop :=
 ∃ f caps,v = .fn f caps∧FnOK P f∧∀ l,h l = none → Triple P f (.yl l :: caps) (h.set l (.lp n e ps asg bd)) fun _ h' => h' l = some (.lp n e ps asg bd)∧fall P st e (h'.del l) k
def gd (v:AV) (w:Bool) (a:Option AV) : Option AV:=match v with
 | .bool b => if b = w then a else some (.tup [])
 | .tup [] => some (.tup [])
 | _ => none
theorem gd_bool {b w : Bool} {a:Option AV} : gd (.bool b) w a = if b = w then a else some (.tup []):=rfl
theorem gd_tup {w:Bool} {a:Option AV} : gd (.tup []) w a = some (.tup []):=rfl
section
variable {P:Program} {st:List Fr} {e:Env} {h:Hp} {k:Kt} {d:Option Nat} {obl:List AItem} {l:List (AItem × List AItem)}
theorem run_skip : run P .skip st e h k ↔ fall P st e h k:=Iff.rfl
theorem run_reg {l:List (AItem × List AItem)} : run P (.reg l) st e h k ↔ runS P l st e h k:=Iff.rfl
theorem run_seq {a b : ACode} : run P (.seq a b) st e h k ↔ run P a (.code b :: st) e h k:=Iff.rfl
theorem run_cond {c:AE} {t f : ACode} : run P (.cond c t f) st e h k ↔ cndR P (c.ev e) t f st e h k:=Iff.rfl
theorem run_block {id:Nat} {b:ACode} : run P (.block id b) st e h k ↔ run P b (.blk id :: st) e h k:=Iff.rfl
theorem run_exit {id:Nat} : run P (.exit id) st e h k ↔ outR P id st e h k:=Iff.rfl
theorem run_ret : run P .ret st e h k ↔ k.kr e h:=Iff.rfl
theorem run_rangeF {n:Nat} {g:AE} {ps:List Nat} {asg bd : Code} : run P (.rangeF n g ps asg bd) st e h k ↔ rngF P (g.ev e) n ps asg bd st e h k:=Iff.rfl
theorem fall_nil : fall P [] e h k ↔ k.kn e h:=Iff.rfl
theorem fall_code {b:ACode} : fall P (.code b :: st) e h k ↔ run P b st e h k:=Iff.rfl
theorem fall_blk {id:Nat} : fall P (.blk id :: st) e h k ↔ fall P st e h k:=Iff.rfl
theorem fall_lp {J:Env → Hp → Prop} : fall P (.lp J :: st) e h k ↔ J e h:=Iff.rfl
theorem out_nil {i:Nat} : outR P i [] e h k ↔ k.kx i e h:=Iff.rfl
theorem out_code {i:Nat} {b:ACode} : outR P i (.code b :: st) e h k ↔ outR P i st e h k:=Iff.rfl
theorem out_blk {i id : Nat} : outR P i (.blk id :: st) e h k ↔ if i = id then fall P st e h k else outR P i st e h k:=Iff.rfl
theorem out_lp {i:Nat} {J:Env → Hp → Prop} : outR P i (.lp J :: st) e h k ↔ outR P i st e h k:=Iff.rfl
theorem runS_nil : runS P [] st e h k ↔ fall P st e h k:=Iff.rfl
theorem cnd_true {t f : ACode} : cndR P (.bool true) t f st e h k ↔ run P t st e h k:=by simp [cndR]
theorem cnd_false {t f : ACode} : cndR P (.bool false) t f st e h k ↔ run P f st e h k:=by simp [cndR]
theorem cnd_bool {t f : ACode} {b:Bool} (ht : b = true → run P t st e h k) (hf : b = false → run P f st e h k) : cndR P (.bool b) t f st e h k:=⟨b,rfl,ht,hf⟩
theorem cnd_dec {t f : ACode} {p:Prop} [Decidable p] (ht : p → run P t st e h k) (hf:¬ p → run P f st e h k) : cndR P (.bool (decide p)) t f st e h k :=
 ⟨_,rfl,fun hh => ht (by simpa using hh),fun hh => hf (by simpa using hh)⟩
theorem nx_some {v:AV} : nx P (some v) d l st e h k ↔ runS P l st (e.put d v) h k:=ex_some
theorem nx_if {c:Prop} [Decidable c] {v:AV} : nx P (if c then some v else none) d l st e h k ↔ c∧runS P l st (e.put d v) h k:=ite_some
theorem nxh_some {h' : Hp} : nxh P (some h') [] d l st e k ↔ runS P l st (e.put d (.tup [])) h' k:=by simp [nxh,obls]
theorem nxh_obl {h' : Hp} {o:AItem} {os:List AItem} : nxh P (some h') (o :: os) d l st e k ↔ obls P (o :: os) (e.put d (.tup [])) h'∧runS P l st (e.put d (.tup [])) h' k:=ex_some
theorem obls_nil : obls P [] e h ↔ True:=by simp [obls]
theorem obls_cons {x:AItem} {xs:List AItem} : obls P (x :: xs) e h ↔ stab P x e h∧obls P xs e h:=by simp [obls]
theorem stab_ld {d sz : Nat} {ag:Bool} {x:AE} : stab P ⟨some d,.ld sz ag x,none⟩ e h ↔ ldA sz ag h (x.ev e) = some (e d):=Iff.rfl
theorem stab_ldg {d sz g : Nat} {ag w : Bool} {x:AE} : stab P ⟨some d,.ld sz ag x,some (g,w)⟩ e h ↔ gd (e g) w (ldA sz ag h (x.ev e)) = some (e d):=Iff.rfl
theorem stab_bs {d:Nat} {x:AE} : stab P ⟨some d,.bstr x,none⟩ e h ↔ bstrA h (x.ev e) = some (e d):=Iff.rfl
theorem stab_bsg {d g : Nat} {w:Bool} {x:AE} : stab P ⟨some d,.bstr x,some (g,w)⟩ e h ↔ gd (e g) w (bstrA h (x.ev e)) = some (e d):=Iff.rfl
theorem msl_inl {v:AV} : mslR P (some (.inl v)) d l st e h k ↔ runS P l st (e.put d v) h k:=ex_some
theorem msl_inr {o:AObj} {g:Nat → AV} : mslR P (some (.inr (o,g))) d l st e h k ↔ newR P o g d l st e h k:=ex_some
theorem bsl_some {s n : Nat} {v:List (List AV)} : bslR P s n (some v) d l st e h k ↔ newR P (.row s v n) (fun b => .arr b s 0 n n) d l st e h k:=ex_some
def opR (P:Program) : AOp → Option Nat → List AItem → List (AItem × List AItem) → List Fr → Env → Hp → Kt → Prop
 | .mv x,d,_,l,st,e,h,k => nx P (some (x.ev e)) d l st e h k
 | .pick c a b,d,_,l,st,e,h,k => nx P (pickA (c.ev e) (a.ev e) (b.ev e)) d l st e h k
 | .bin op x y,d,_,l,st,e,h,k => nx P (binA op (x.ev e) (y.ev e)) d l st e h k
 | .eqn kd neg x y,d,_,l,st,e,h,k => nx P ((eqN kd (x.ev e) (y.ev e)).map fun b => AV.bool (if neg then !b else b)) d l st e h k
 | .un op x,d,_,l,st,e,h,k => nx P (unA op (x.ev e)) d l st e h k
 | .cvi kd x,d,_,l,st,e,h,k => nx P (cviA kd (x.ev e)) d l st e h k
 | .cvs x,d,_,l,st,e,h,k => nx P (strA (x.ev e)) d l st e h k
 | .nilck x,d,_,l,st,e,h,k => nx P (ckA (x.ev e)) d l st e h k
 | .fa off x,d,_,l,st,e,h,k => nx P (faA off (x.ev e)) d l st e h k
 | .fld off sz ag x,d,_,l,st,e,h,k => nx P (fldA off sz ag (x.ev e)) d l st e h k
 | .ixs x i,d,_,l,st,e,h,k => nx P (ixsA (x.ev e) (i.ev e)) d l st e h k
 | .ia s x i,d,_,l,st,e,h,k => nx P (iaA s (x.ev e) (i.ev e)) d l st e h k
 | .slcS x lo hi,d,_,l,st,e,h,k => nx P (slcS (x.ev e) (oev e lo) (oev e hi)) d l st e h k
 | .slcL s x lo hi,d,_,l,st,e,h,k => nx P (slcL s (x.ev e) (oev e lo) (oev e hi)) d l st e h k
 | .slcM s x lo hi mx,d,_,l,st,e,h,k => nx P (slcM s (x.ev e) (oev e lo) (hi.ev e) (mx.ev e)) d l st e h k
 | .clr s z x,d,obl,l,st,e,h,k => effR P (clrE s z (x.ev e) h) obl d l st e k
 | .appz s b z x y,d,obl,l,st,e,h,k => effR P (appzE s b z (x.ev e) (y.ev e) h) obl d l st e k
 | .ovl s x y,d,obl,l,st,e,h,k => effR P (ovlE s (x.ev e) (y.ev e) h) obl d l st e k
 | .lenS x,d,_,l,st,e,h,k => nx P (lenS (x.ev e)) d l st e h k
 | .lenL x,d,_,l,st,e,h,k => nx P (lenL (x.ev e)) d l st e h k
 | .capL x,d,_,l,st,e,h,k => nx P (capL (x.ev e)) d l st e h k
 | .ext n x,d,_,l,st,e,h,k => nx P (extA n (x.ev e)) d l st e h k
 | .mkif t x,d,_,l,st,e,h,k => nx P (some (AV.iface t (x.ev e))) d l st e h k
 | .ta t ok z x,d,_,l,st,e,h,k => nx P (taA t ok z (x.ev e)) d l st e h k
 | .mkfn f caps,d,_,l,st,e,h,k => nx P (some (AV.fn f (evs e caps))) d l st e h k
 | .mm mx x y,d,_,l,st,e,h,k => nx P (mmA mx (x.ev e) (y.ev e)) d l st e h k
 | .bld z ps,d,_,l,st,e,h,k => nx P ((fillA z (evParts e ps)).map AV.agg) d l st e h k
 | .ld sz ag x,d,_,l,st,e,h,k => nx P (ldA sz ag h (x.ev e)) d l st e h k
 | .bstr x,d,_,l,st,e,h,k => nx P (bstrA h (x.ev e)) d l st e h k
 | .iap n s x i,d,_,l,st,e,h,k => nx P (iapA n s (x.ev e) (i.ev e)) d l st e h k
 | .ixa n s ag x i,d,_,l,st,e,h,k => nx P (ixaA n s ag (x.ev e) (i.ev e)) d l st e h k
 | .box x,d,_,l,st,e,h,k => boxR P (x.ev e).cells d l st e h k
 | .alloc z,d,_,l,st,e,h,k => newR P (.row z.length [z] 1) (fun n => .ptr n z.length 0 0) d l st e h k
 | .bsl z n ps,d,_,l,st,e,h,k => bslR P z.length n (setL z.length (List.replicate n z) (evIdx e ps)) d l st e h k
 | .msl bytes z n c,d,_,l,st,e,h,k => mslR P (mslA z.length bytes z (n.ev e) (c.ev e)) d l st e h k
 | .st sz x y,d,obl,l,st,e,h,k => nxh P (stA sz h (x.ev e) (y.ev e)) obl d l st e k
 | .app s bytes x y,d,obl,l,st,e,h,k => effR P (appE s bytes (x.ev e) (y.ev e) h) obl d l st e k
 | .cp s x y,d,obl,l,st,e,h,k => effR P (cpE s (x.ev e) (y.ev e) h) obl d l st e k
 | .strb x,d,obl,l,st,e,h,k => effR P (strbE (x.ev e) h) obl d l st e k
 | .cvb x,d,obl,l,st,e,h,k => effR P (cvbE (x.ev e) h) obl d l st e k
 | .call f args,d,obl,l,st,e,h,k => callR P f (evs e args) obl d l st e h k
 | .callv x args,d,obl,l,st,e,h,k => effR P (callvE P (x.ev e) (evs e args) h) obl d l st e k
 | .nop,d,obl,l,st,e,h,k => nxh P (some h) obl d l st e k
 | .mkm,d,_,l,st,e,h,k => newR P (.mp [] 0) (fun n => .map n) d l st e h k
 | .lenM x,d,_,l,st,e,h,k => nx P (lenM h (x.ev e)) d l st e h k
 | .lkp str ok z x y,d,_,l,st,e,h,k => nx P (lkA str ok z h (x.ev e) (y.ev e)) d l st e h k
 | .mup str x y v,d,obl,l,st,e,h,k => effR P (mupE str (x.ev e) (y.ev e) (v.ev e) h) obl d l st e k
 | .del str x y,d,obl,l,st,e,h,k => effR P (delE str (x.ev e) (y.ev e) h) obl d l st e k
 | .rng x,d,obl,l,st,e,h,k => effR P (rngE (x.ev e) h) obl d l st e k
 | .nxt x,d,obl,l,st,e,h,k => effR P (nxtE (x.ev e) h) obl d l st e k
 | .ent x,d,obl,l,st,e,h,k => entR P (entE (x.ev e) h) obl d l st e h k
 | .inv name x args,d,obl,l,st,e,h,k => effR P (invE P name (x.ev e) (evs e args) h) obl d l st e k
 | .eqs ks neg x y,d,_,l,st,e,h,k => nx P (eqsA ks neg (x.ev e) (y.ev e)) d l st e h k
theorem runS_op {op:AOp} : runS P ((⟨d,op,none⟩,obl) :: l) st e h k ↔ opR P op d obl l st e h k:=by
 unfold runS
 rw [wpS_op]
 cases op with
 | mv x => exact (ex_some (x:=x.ev e) (K:=fun v => wpS P l (e.put d v) h (kk P k st).1)).symm
 | mkif t x => exact (ex_some (x:=AV.iface t (x.ev e)) (K:=fun v => wpS P l (e.put d v) h (kk P k st).1)).symm
 | mkfn f caps => exact (ex_some (x:=AV.fn f (evs e caps)) (K:=fun v => wpS P l (e.put d v) h (kk P k st).1)).symm
 | bld z ps => exact (map_some (x:=fillA z (evParts e ps)) (f:=AV.agg) (K:=fun v => wpS P l (e.put d v) h (kk P k st).1)).symm
 | nop => exact (ex_some (x:=h) (K:=fun h' => obls P obl (e.put d (.tup [])) h'∧wpS P l (e.put d (.tup [])) h' (kk P k st).1)).symm
 | msl bytes z n c =>
  constructor
  ·rintro ⟨r,h1,h2⟩; refine ⟨r,h1,?_⟩; cases r with
   | inl v => exact h2
   | inr o => exact h2
  ·rintro ⟨r,h1,h2⟩; refine ⟨r,h1,?_⟩; cases r with
   | inl v => exact h2
   | inr o => exact h2
 | _ => exact Iff.rfl
theorem ent_some {v:AV} : entR P (some v) [] d l st e h k ↔ runS P l st (e.put d v) h k:=by simp [entR,obls]
theorem run_loop {b:ACode} (I:Env → Hp → Prop) (μ:Env → Hp → Nat) (h0:I e h)
  (hr:∀ e h,I e h → run P b (.lp (fun e' h' => I e' h'∧μ e' h' < μ e h) :: st) e h k) : run P (.loop b) st e h k:=⟨I,μ,h0,hr⟩
theorem call_use {f:Nat} {args:List AV} {Q:AV → Hp → Prop} (c:Triple P f args h Q) (hk:∀ v h',Q v h' → runS P l st (e.put d v) h' k) : callR P f args [] d l st e h k :=
 c.mono fun v h' q => ⟨fun _ hm => by simp at hm,hk v h' q⟩
theorem call_use' {f:Nat} {args:List AV} {Q:AV → Hp → Prop} (c:Triple P f args h Q) (hk:∀ v h',Q v h' → obls P obl (e.put d v) h'∧runS P l st (e.put d v) h' k) : callR P f args obl d l st e h k :=
 c.mono fun v h' q => hk v h' q
end
section
variable {e:Env}
theorem ev_tm {n:Nat} : AE.ev e (.tm n) = e n:=rfl
theorem ev_cs {v:AV} : AE.ev e (.cs v) = v:=rfl
theorem evs_nil : evs e [] = []:=rfl
theorem evs_cons {x:AE} {xs:List AE} : evs e (x :: xs) = x.ev e :: evs e xs:=rfl
theorem evIdx_nil : evIdx e [] = []:=rfl
theorem evIdx_cons {n:Nat} {x:AE} {xs:List (Nat × AE)} : evIdx e ((n,x) :: xs) = (n,x.ev e) :: evIdx e xs:=rfl
theorem evParts_nil : evParts e [] = []:=rfl
theorem evParts_cons {n m : Nat} {x:AE} {xs:List (Nat × Nat × AE)} : evParts e ((n,m,x) :: xs) = (n,m,x.ev e) :: evParts e xs:=rfl
theorem oev_none : oev e none = none:=rfl
theorem oev_some {x:AE} : oev e (some x) = some (x.ev e):=rfl
end
theorem cells_bool (b:Bool) : (AV.bool b).cells = [(AV.bool b)]:=rfl
theorem atom_bool (b:Bool) : (AV.bool b).isAtom = true:=rfl
theorem cells_int (k:IntKind) (n:Int) : (AV.int k n).cells = [(AV.int k n)]:=rfl
theorem atom_int (k:IntKind) (n:Int) : (AV.int k n).isAtom = true:=rfl
theorem cells_str (l:List UInt8) : (AV.str l).cells = [(AV.str l)]:=rfl
theorem atom_str (l:List UInt8) : (AV.str l).isAtom = true:=rfl
theorem cells_nilp  : AV.nilp.cells = [AV.nilp]:=rfl
theorem atom_nilp  : AV.nilp.isAtom = true:=rfl
theorem cells_ptr (b s i k : Nat) : (AV.ptr b s i k).cells = [(AV.ptr b s i k)]:=rfl
theorem atom_ptr (b s i k : Nat) : (AV.ptr b s i k).isAtom = true:=rfl
theorem cells_ro (c:List AV) : (AV.ro c).cells = [(AV.ro c)]:=rfl
theorem atom_ro (c:List AV) : (AV.ro c).isAtom = true:=rfl
theorem cells_nils  : AV.nils.cells = [AV.nils]:=rfl
theorem atom_nils  : AV.nils.isAtom = true:=rfl
theorem cells_lst (es:List (List AV)) : (AV.lst es).cells = [(AV.lst es)]:=rfl
theorem atom_lst (es:List (List AV)) : (AV.lst es).isAtom = true:=rfl
theorem cells_arr (b s o l c : Nat) : (AV.arr b s o l c).cells = [(AV.arr b s o l c)]:=rfl
theorem atom_arr (b s o l c : Nat) : (AV.arr b s o l c).isAtom = true:=rfl
theorem cells_nilm  : AV.nilm.cells = [AV.nilm]:=rfl
theorem atom_nilm  : AV.nilm.isAtom = true:=rfl
theorem cells_map (b:Nat) : (AV.map b).cells = [(AV.map b)]:=rfl
theorem atom_map (b:Nat) : (AV.map b).isAtom = true:=rfl
theorem cells_fn (f:FuncId) (c:List AV) : (AV.fn f c).cells = [(AV.fn f c)]:=rfl
theorem atom_fn (f:FuncId) (c:List AV) : (AV.fn f c).isAtom = true:=rfl
theorem cells_yl (l:Nat) : (AV.yl l).cells = [AV.yl l]:=rfl
theorem atom_yl (l:Nat) : (AV.yl l).isAtom = true:=rfl
theorem cells_nilf  : AV.nilf.cells = [AV.nilf]:=rfl
theorem atom_nilf  : AV.nilf.isAtom = true:=rfl
theorem cells_nili  : AV.nili.cells = [AV.nili]:=rfl
theorem atom_nili  : AV.nili.isAtom = true:=rfl
theorem cells_iface (t:TypeId) (v:AV) : (AV.iface t v).cells = [(AV.iface t v)]:=rfl
theorem atom_iface (t:TypeId) (v:AV) : (AV.iface t v).isAtom = true:=rfl
theorem cells_agg (c:List AV) : (AV.agg c).cells = c:=rfl
theorem eqN_b (a b : Bool) : eqN .bool (.bool a) (.bool b) = some (a == b):=rfl
theorem eqN_pnn  : eqN .ptr (.nilp) (.nilp) = some (true):=rfl
theorem eqN_ppn (b s i k : Nat) : eqN .ptr (.ptr b s i k) (.nilp) = some (false):=rfl
theorem eqN_pnp (b s i k : Nat) : eqN .ptr (.nilp) (.ptr b s i k) = some (false):=rfl
theorem eqN_ppp (b s i k : Nat) : eqN .ptr (.ptr b s i k) (.ptr b s i k) = some true:=by simp [eqN]
theorem eqN_prn (c:List AV) : eqN .ptr (.ro c) (.nilp) = some (false):=rfl
theorem eqN_snn  : eqN .sl (.nils) (.nils) = some (true):=rfl
theorem eqN_san (b s o l c : Nat) : eqN .sl (.arr b s o l c) (.nils) = some (false):=rfl
theorem eqN_sen  : eqN .sl (.emp) (.nils) = some (false):=rfl
theorem eqN_sln (x:List AV) (y:List (List AV)) : eqN .sl (.lst (x :: y)) (.nils) = some (false):=rfl
theorem eqN_mnn  : eqN .mp (.nilm) (.nilm) = some (true):=rfl
theorem eqN_mmn (b:Nat) : eqN .mp (.map b) (.nilm) = some (false):=rfl
theorem eqN_fnn  : eqN .fn (.nilf) (.nilf) = some (true):=rfl
theorem eqN_ffn (f:FuncId) (c:List AV) : eqN .fn (.fn f c) (.nilf) = some (false):=rfl
theorem eqN_iin (t:TypeId) (v:AV) : eqN .ifc (.iface t v) (.nili) = some (false):=rfl
theorem eqN_inn  : eqN .ifc (.nili) (.nili) = some (true):=rfl
theorem lenL_lst (es:List (List AV)) : lenL (.lst es) = some (.int .i64 es.length):=rfl
theorem lenL_arr (b s o l c : Nat) : lenL (.arr b s o l c) = some (.int .i64 l):=rfl
theorem lenL_nils : lenL .nils = some (.int .i64 0):=rfl
theorem lenL_emp : lenL .emp = some (.int .i64 0):=rfl
theorem iaA_arr (s b s' off len c : Nat) (k:IntKind) (n:Int) : iaA s (.arr b s' off len c) (.int k n) = if s' = s∧0 ≤ n∧n < len then some (.ptr b s (off + n.toNat) 0) else none:=rfl
theorem cellsAt_ptr (h:Hp) (b s i k : Nat) : cellsAt h (.ptr b s i k) = match h b with
  | some (.row s' es _) => if s' = s then (es[i]?).map (·.drop k) else none
  | _ => none:=rfl
theorem cellsAt_ro (h:Hp) (c:List AV) : cellsAt h (.ro c) = some c:=rfl
section
variable {e:Env} {h:Hp} {K:AV → Hp → Prop}
theorem resK_nil : resK [] e h K ↔ K (.tup []) h:=ex_some (x:=([] : List AV)) (K:=fun vs => K (.tup vs) h)
theorem resK_tmp {t:Nat} : resK [.tmp t] e h K ↔ K (e t) h:=ex_some (x:=e t) (K:=fun v => K v h)
theorem resK_cell {a sz : Nat} {ag:Bool} : resK [.cell a sz ag] e h K ↔ ∃ v,ldA sz ag h (e a) = some v∧K v h:=Iff.rfl
theorem resK_more {a b : ARes} {l:List ARes} : resK (a :: b :: l) e h K ↔ ∃ vs,resL e h (a :: b :: l) = some vs∧K (.tup vs) h:=Iff.rfl
theorem resL_nil : resL e h [] = some []:=rfl
theorem resL_tmp {t:Nat} {l:List ARes} : resL e h (.tmp t :: l) = (resL e h l).map (e t :: ·):=rfl
theorem resL_cell {a sz : Nat} {ag:Bool} {l:List ARes} : resL e h (.cell a sz ag :: l) = (ldA sz ag h (e a)).bind fun v => (resL e h l).map (v :: ·):=rfl
end
end Go.Hz
/- Bytes that are read: a slice of bytes, wherever it lies. -/
namespace Go.Hz
def Els (h:Hp) (s:Nat) (v:AV) (es:List (List AV)) : Prop:=srcA s h v = some es∧∀ l,v ≠ .str l
def Bts (h:Hp) (v:AV) (bs:List UInt8) : Prop:=Els h 1 v (bs.map eb)
theorem Els.cases {h:Hp} {s:Nat} {v:AV} {es:List (List AV)} (e:Els h s v es) :
  (v = .nils∧es = []) ∨ (v = .emp∧es = []) ∨ (v = .lst es∧∀ e ∈ es,e.length = s) ∨
  ∃ b off cap es0 rc,v = .arr b s off es.length cap∧h b = some (.row s es0 rc)∧off + es.length ≤ es0.length∧es = (es0.drop off).take es.length:=by
 obtain ⟨h1,h2⟩:=e
 unfold srcA at h1
 split at h1
 ·cases h1; exact .inl ⟨rfl,rfl⟩
 ·cases h1; exact .inr (.inl ⟨rfl,rfl⟩)
 ·split at h1
  ·cases h1; exact .inr (.inr (.inl ⟨rfl,by assumption⟩))
  ·cases h1
 ·split at h1
  ·split at h1
   ·rename_i hb hc
    rename_i b s' off len cap _ s'' es0 rc
    obtain ⟨rfl,rfl,hc⟩:=hc
    cases h1
    have hl : ((es0.drop off).take len).length = len:=by simp; omega
    exact .inr (.inr (.inr ⟨b,off,cap,es0,rc,by rw [hl],hb,by rw [hl]; exact hc,by rw [hl]⟩))
   ·cases h1
  ·cases h1
 ·exact absurd rfl (h2 _)
 ·cases h1
theorem Els.len {h:Hp} {s:Nat} {v:AV} {es:List (List AV)} (e:Els h s v es) : lenL v = some (.int .i64 es.length):=by
 rcases e.cases with ⟨rfl,rfl⟩ | ⟨rfl,rfl⟩ | ⟨rfl,_⟩ | ⟨b,off,cap,es0,rc,rfl,_,_,_⟩ <;> rfl
theorem Els.atom {h:Hp} {s:Nat} {v:AV} {es:List (List AV)} (e:Els h s v es) : v.isAtom = true:=by
 rcases e.cases with ⟨rfl,rfl⟩ | ⟨rfl,rfl⟩ | ⟨rfl,_⟩ | ⟨b,off,cap,es0,rc,rfl,_,_,_⟩ <;> rfl
theorem Els.cells {h:Hp} {s:Nat} {v:AV} {es:List (List AV)} (e:Els h s v es) : v.cells = [v]:=by
 rcases e.cases with ⟨rfl,rfl⟩ | ⟨rfl,rfl⟩ | ⟨rfl,_⟩ | ⟨b,off,cap,es0,rc,rfl,_,_,_⟩ <;> rfl
theorem Els.at {h:Hp} {s:Nat} {v:AV} {es:List (List AV)} (e:Els h s v es) {k:IntKind} {i:Nat} (hi : i < es.length) (hs:∀ e ∈ es,e.length = s) :
  ∃ p,iaA s v (.int k i) = some p∧cellsAt h p = some es[i]:=by
 rcases e.cases with ⟨rfl,rfl⟩ | ⟨rfl,rfl⟩ | ⟨rfl,_⟩ | ⟨b,off,cap,es0,rc,rfl,hb,hl,he⟩
 ·simp at hi
 ·simp at hi
 ·exact ⟨.ro es[i],by simp [iaA,hi,hs],rfl⟩
 ·refine ⟨.ptr b s (off + i) 0,by simp [iaA]; omega,?_⟩
  have : es0[off + i]? = some es[i]:=by
   rw [List.getElem?_eq_some_iff]
   refine ⟨by omega,?_⟩
   have h3 : es[i]? = ((es0.drop off).take es.length)[i]?:=by rw [← he]
   rw [List.getElem?_take,if_pos hi,List.getElem?_drop] at h3
   rw [List.getElem?_eq_getElem hi] at h3
   rw [List.getElem?_eq_getElem (by omega)] at h3
   exact (Option.some.inj h3).symm
  simp [cellsAt,hb,this]
theorem Els.kept {h h' : Hp} {s:Nat} {v:AV} {es:List (List AV)} {S S' : List Nat} (e:Els h s v es) (m:Mod S S' h h') (hn:∀ b s o l c,v = .arr b s o l c → b ∉ S) : Els h' s v es:=by
 rcases e.cases with ⟨rfl,rfl⟩ | ⟨rfl,rfl⟩ | ⟨rfl,_⟩ | ⟨b,off,cap,es0,rc,rfl,hb,hl,he⟩
 ·exact ⟨rfl,e.2⟩
 ·exact ⟨rfl,e.2⟩
 ·refine ⟨?_,e.2⟩
  have:=e.1
  simpa [srcA] using this
 ·refine ⟨?_,e.2⟩
  have:=e.1
  simp only [srcA] at this ⊢
  rw [m.keep b (by rw [hb]; simp) (hn _ _ _ _ _ rfl)]
  exact this
theorem Els.same {h h' : Hp} {s:Nat} {v:AV} {es:List (List AV)} (e:Els h s v es) (hh:∀ x,h x ≠ none → h' x = h x) : Els h' s v es:=by
 rcases e.cases with ⟨rfl,rfl⟩ | ⟨rfl,rfl⟩ | ⟨rfl,_⟩ | ⟨b,off,cap,es0,rc,rfl,hb,hl,he⟩
 ·exact ⟨rfl,e.2⟩
 ·exact ⟨rfl,e.2⟩
 ·refine ⟨?_,e.2⟩
  have:=e.1
  simpa [srcA] using this
 ·refine ⟨?_,e.2⟩
  have:=e.1
  simp only [srcA] at this ⊢
  rw [hh b (by rw [hb]; simp)]
  exact this
theorem Els.fresh {h:Hp} {s n : Nat} {v:AV} {es:List (List AV)} (e:Els h s v es) (hn : h n = none) (o:AObj) : Els (h.set n o) s v es :=
 e.same fun x hx => Hp.set_ne _ _ fun hh => hx (hh ▸ hn)
theorem Els.set_ne {h:Hp} {s n : Nat} {v:AV} {es:List (List AV)} (e:Els h s v es) (hn:∀ b t o l c,v = .arr b t o l c → b ≠ n) (o:AObj) : Els (h.set n o) s v es:=by
 rcases e.cases with ⟨rfl,rfl⟩ | ⟨rfl,rfl⟩ | ⟨rfl,_⟩ | ⟨b,off,cap,es0,rc,rfl,hb,hl,he⟩
 ·exact ⟨rfl,e.2⟩
 ·exact ⟨rfl,e.2⟩
 ·refine ⟨?_,e.2⟩
  have:=e.1
  simpa [srcA] using this
 ·refine ⟨?_,e.2⟩
  have:=e.1
  simp only [srcA] at this ⊢
  rw [Hp.set_ne _ _ (hn _ _ _ _ _ rfl)]
  exact this
theorem OwnV.els {h:Hp} {s:Nat} {v:AV} {es:List (List AV)} {S:List Nat} (o:OwnV h s v es S) : Els h s v es:=by
 refine ⟨o.src,?_⟩
 rcases o with ⟨rfl,_,_⟩ | ⟨b,cap,rfl,_,_⟩ <;> (intro l hl; cases hl)
theorem Els.nil {h:Hp} {s:Nat} {v:AV} {es:List (List AV)} (e:Els h s v es) (hn : v ≠ .lst []) : (v = .nils∧es = []) ∨ (v ≠ .nils∧eqN .sl v .nils = some false):=by
 rcases e.cases with ⟨rfl,rfl⟩ | ⟨rfl,rfl⟩ | ⟨rfl,_⟩ | ⟨b,off,cap,es0,rc,rfl,_,_,_⟩
 ·exact .inl ⟨rfl,rfl⟩
 ·exact .inr ⟨by simp,rfl⟩
 ·cases es with
  | nil => exact absurd rfl hn
  | cons x y => exact .inr ⟨by simp,rfl⟩
 ·exact .inr ⟨by simp,rfl⟩
theorem eb_one (bs:List UInt8) : ∀ e ∈ bs.map eb,e.length = 1:=by
 intro e he
 obtain ⟨b,_,rfl⟩:=List.mem_map.1 he
 rfl
theorem Bts.at {h:Hp} {v:AV} {bs:List UInt8} (e:Bts h v bs) {k:IntKind} {i:Nat} (hi : i < bs.length) :
  ∃ p,iaA 1 v (.int k i) = some p∧cellsAt h p = some [.int .u8 bs[i].toNat]:=by
 obtain ⟨p,h1,h2⟩:=Els.at e (i:=i) (k:=k) (by simpa using hi) (eb_one bs)
 exact ⟨p,h1,by rw [h2]; simp [eb]⟩
theorem Bts.len {h:Hp} {v:AV} {bs:List UInt8} (e:Bts h v bs) : lenL v = some (.int .i64 bs.length):=by
 have:=Els.len e
 simpa using this
theorem Bts.bstr {h:Hp} {v:AV} {bs:List UInt8} (e:Bts h v bs) : bstrA h v = some (.str bs):=by
 unfold bstrA
 rw [e.1]
 split
 ·exact absurd rfl (e.2 _)
 ·rename_i h1 _
  cases h1
  simp [bytesOf_map]
 ·rename_i h1 _; cases h1
theorem bstrA_nils (h:Hp) : bstrA h .nils = some (.str []):=rfl
theorem Triple.lst0 {P:Program} {f:Nat} {pre suf : List AV} {h:Hp} {post:AV → Hp → Prop} (t1:Triple P f (pre ++ .nils :: suf) h post) (t2:Triple P f (pre ++ .emp :: suf) h post) :
  Triple P f (pre ++ .lst [] :: suf) h post:=by
 intro fz w cargs r a
 have hlt : pre.length < cargs.toList.length:=by rw [← a.1]; simp
 have h0:=a.2 pre.length (by simp) hlt
 simp only [List.getElem_append_right (Nat.le_refl _),Nat.sub_self,List.getElem_cons_zero] at h0
 have key : ∀ x,VR fz w.heap x (cargs.toList[pre.length]) → VRs fz w.heap (pre ++ x :: suf) cargs.toList:=by
  intro x hx
  refine ⟨by rw [← a.1]; simp,fun i h1 h2 => ?_⟩
  have h3:=a.2 i (by simpa using h1) h2
  by_cases hi : i < pre.length
  ·rw [List.getElem_append_left hi] at h3 ⊢; exact h3
  ·by_cases hi2 : i = pre.length
   ·subst hi2
    simpa [List.getElem_append_right (Nat.le_refl _)] using hx
   ·rw [List.getElem_append_right (by omega)] at h3 ⊢
    obtain ⟨j,hj⟩ : ∃ j,i - pre.length = j + 1:=⟨i - pre.length - 1,by omega⟩
    simp only [hj,List.getElem_cons_succ] at h3 ⊢
    exact h3
 generalize cargs.toList[pre.length] = cv at *
 have hc : cv = .slice none 0 0 ∨ ∃ a c,cv = .slice (some a) 0 c:=by
  cases h0 with
  | lst => exact .inr ⟨_,_,rfl⟩
  | lst0 a c h0 =>
   cases a with
   | none => rw [h0 rfl]; exact .inl rfl
   | some a => exact .inr ⟨_,_,rfl⟩
 rcases hc with rfl | ⟨ad,c,rfl⟩
 ·exact t1 fz w cargs r (key _ .nils)
 ·exact t2 fz w cargs r (key _ (.emp _ _))
end Go.Hz
/- What comes in: the arguments of a call as values of the logic, by their types. -/
namespace Go.Hz
open Go.RowKit Go.ChangeShapes Go.WideShapes
inductive Ty where
 | bool | str
 | int (k:IntKind)
 | sl (e:Ty)
 | st (c:Ty)
 | fnil
 | fcons (a b : Ty)
 deriving DecidableEq
def Ty.size : Ty → Nat
 | .bool | .str | .int _ | .sl _ => 1
 | .st c => c.size
 | .fnil => 0
 | .fcons a b => a.size + b.size
def Ty.bytes : Ty → Nat
 | .bool => 1
 | .str => 16
 | .int k => k.bits / 8
 | .sl _ => 24
 | .st c => c.bytes
 | .fnil => 0
 | .fcons a b => a.bytes + b.bytes
def Ty.fits (P:Program) : Ty → TypeId ⊕ (List Field × Nat) → Bool
 | .bool,.inl t => match P.underlying t with | some .bool => true | _ => false
 | .str,.inl t => match P.underlying t with | some .string => true | _ => false
 | .int k,.inl t => match P.underlying t with | some (.int k') => decide (k' = k) | _ => false
 | .sl e,.inl t => match P.underlying t with | some (.slice el) => e.fits P (.inl el) && decide (P.cellsOf el = e.size) && decide (0 < e.size) && decide (e.bytes ≤ P.bytesOf el) | _ => false
 | .st c,.inl t => match P.underlying t with | some (.struct fs) => c.fits P (.inr (fs.toList,0)) && decide (P.cellsOf t = c.size) | _ => false
 | .fnil,.inr ([],_) => true
 | .fcons a b,.inr (f :: fs,off) => a.fits P (.inl f.type) && decide (f.offset = off) && decide (P.cellsOf f.type = a.size) && b.fits P (.inr (fs,off + a.size))
 | _,_ => false
def Ty.shape : Ty → List AV → Prop
 | .bool,cs => ∃ b,cs = [.bool b]
 | .str,cs => ∃ l,cs = [.str l]∧l.length ≤ maxLen
 | .int k,cs => ∃ n,cs = [.int k n]∧(Lit.int k n).wf = true
 | .sl e,cs => ∃ es,cs = [.lst es]∧es.length ≤ maxLen∧∀ x ∈ es,e.shape x
 | .st c,cs => c.shape cs
 | .fnil,cs => cs = []
 | .fcons a b,cs => ∃ x y,cs = x ++ y∧a.shape x∧b.shape y
def Ty.small (M:Nat) : Ty → List AV → Prop
 | .str,cs => ∀ l,cs = [.str l] → l.length ≤ M
 | .sl e,cs => ∀ es,cs = [.lst es] → es.length * e.bytes ≤ M∧∀ x ∈ es,e.small M x
 | .st c,cs => c.small M cs
 | .fcons a b,cs => a.small M (cs.take a.size)∧b.small M (cs.drop a.size)
 | _,_ => True
theorem weightsAll_mem {H:Type} {P:Program} {e:TypeId} {d:DataW H} {n:Nat} : ∀ {l:List (DataW H)},d ∈ l → n ∈ d.weights P e → n ∈ DataW.weightsAll P e l
 | y :: l,hd,hn => by
  simp only [DataW.weightsAll,List.mem_append]
  rcases List.mem_cons.1 hd with rfl | hd
  ·exact .inl hn
  ·exact .inr (weightsAll_mem hd hn)
def Ty.bulk : Ty → List AV → Nat
 | .bool,_ => 1
 | .int _,_ => 1
 | .str,cs => match cs with | [.str l] => l.length + 1 | _ => 1
 | .sl e,cs => match cs with | [.lst es] => (es.map e.bulk).sum + 1 | _ => 1
 | .st c,cs => c.bulk cs + 1
 | .fnil,_ => 0
 | .fcons a b,cs => a.bulk (cs.take a.size) + b.bulk (cs.drop a.size)
structure Bulk (H:Type) where
 b : DataW H → Nat
 ba : List (DataW H) → Nat
 one : ∀ d,1 ≤ b d
 str : ∀ l,l.length + 1 ≤ b (.lit (.string l))
 slice : ∀ l r,ba l + 1 ≤ b (.slice l r)
 agg : ∀ l,ba l + 1 ≤ b (.agg l)
 cons : ∀ d l,b d + ba l ≤ ba (d :: l)
theorem Bulk.sum {H:Type} (B:Bulk H) {α:Type} (f : α → Nat) : ∀ (l:List α) (ds:List (DataW H)),l.length = ds.length → (∀ i (h1 : i < l.length) (h2 : i < ds.length),f l[i] ≤ B.b ds[i]) → (l.map f).sum ≤ B.ba ds
 | [],_,_,_ => by simp
 | x :: l,[],h,_ => by simp at h
 | x :: l,d :: ds,h,hh => by
  have h0:=hh 0 (by simp) (by simp)
  have h1:=B.sum f l ds (by simpa using h) fun i a b => hh (i + 1) (by simpa using a) (by simpa using b)
  have h2:=B.cons d ds
  simp only [List.getElem_cons_zero] at h0
  simp only [List.map_cons,List.sum_cons]
  omega
theorem list_of {α:Type} {p:Nat → α → Prop} : ∀ (n:Nat),(∀ i,i < n → ∃ x,p i x) → ∃ l : List α,l.length = n∧∀ i (h : i < l.length),p i l[i]
 | 0,_ => ⟨[],rfl,fun i h => by simp at h⟩
 | n + 1,h => by
  obtain ⟨l,h1,h2⟩:=list_of n fun i hi => h i (by omega)
  obtain ⟨x,hx⟩:=h n (by omega)
  refine ⟨l ++ [x],by simp [h1],fun i hi => ?_⟩
  by_cases hin : i < l.length
  ·rw [List.getElem_append_left hin]; exact h2 i hin
  ·have : i = n:=by simp at hi; omega
   subst this
   simpa [List.getElem_append_right (Nat.le_of_eq h1),h1] using hx
theorem VRs.one {fz:Nat → Prop} {H:Array Obj} {a:AV} {v:Value} (h:VR fz H a v) : VRs fz H [a] [v]:=VRs.cons h VRs.nil
theorem add_add (a:Addr) (x k : Nat) : a.add (x + k) = (a.add x).add k:=by
 unfold Addr.add
 by_cases hx : x = 0
 ·subst hx; simp
 ·by_cases hk : k = 0
  ·subst hk; simp
  ·simp [hx,hk,Nat.add_assoc]
theorem cell_some {w:World} {a:Addr} {v:Value} (h : w.cell? a = some v) : a.spot = none∧∃ c T fr,w.heap[a.block]? = some (.cells c T fr)∧c[a.off]? = some v:=by
 unfold World.cell? at h
 split at h
 ·rename_i c T fr hb
  split at h
  ·cases h
  ·rename_i hs
   refine ⟨by simpa using hs,c,T,fr,hb,h⟩
 ·cases h
section
variable {H:Type} {enc:TypeId × Value → H} {P:Program} {w:World} {base:Nat} {spare:Nat → Bool} {held:Bool}
theorem Ty.read (B:Bulk H) (τ:Ty) :
    (∀ fuel t cs x,τ.fits P (.inl t) = true → DataW.trod enc P w base spare held fuel t cs = some x → ∃ as,τ.shape as∧as.length = τ.size∧VRs (fun b => b < w.heap.size) w.heap as cs∧τ.bulk as ≤ B.b x.1∧∀ M,(∀ n ∈ x.1.weights P t,n ≤ M) → τ.small M as) ∧
    (∀ fs off n (cs:List Value) (xs:List (DataW H × List MemPlace)),τ.fits P (.inr (fs,off)) = true → xs.length = fs.length → (∀ (i:Nat) f,fs[i]? = some f → DataW.trod enc P w base spare held n f.type ((cs.drop f.offset).take (P.cellsOf f.type)) = xs[i]?) → off + τ.size ≤ cs.length →
      ∃ as,τ.shape as∧as.length = τ.size∧VRs (fun b => b < w.heap.size) w.heap as ((cs.drop off).take τ.size)∧τ.bulk as ≤ B.ba (xs.map (·.1))∧∀ M,(∀ n ∈ DataW.weightsEach P (fs.map (·.type)) (xs.map (·.1)),n ≤ M) → τ.small M as):=by
  induction τ with
  | bool =>
    refine ⟨fun fuel t cs x hf h => ?_,fun fs off n cs xs hf _ _ => by simp [Ty.fits] at hf⟩
    simp only [Ty.fits] at hf
    split at hf
    · rename_i ht
      obtain ⟨b,rfl,_⟩:=DataW.trod_bool ht h
      exact ⟨[.bool b],⟨b,rfl⟩,rfl,VRs.one (.bool b),B.one _,fun _ _ => trivial⟩
    · cases hf
  | str =>
    refine ⟨fun fuel t cs x hf h => ?_,fun fs off n cs xs hf _ _ => by simp [Ty.fits] at hf⟩
    simp only [Ty.fits] at hf
    split at hf
    · rename_i ht
      obtain ⟨s,rfl,rfl,hs⟩:=DataW.trod_string ht h
      refine ⟨[.str s.data.toList],⟨_,rfl,by simpa using hs⟩,rfl,VRs.one ?_,B.str _,fun M hM l hl => ?_⟩
      rotate_left
      · cases hl
        exact hM _ (by simp [DataW.weights])
      have:=VR.str (fz:=fun b => b < w.heap.size) (H:=w.heap) s.data.toList
      simpa using this
    · cases hf
  | int k =>
    refine ⟨fun fuel t cs x hf h => ?_,fun fs off n cs xs hf _ _ => by simp [Ty.fits] at hf⟩
    simp only [Ty.fits] at hf
    split at hf
    · rename_i k' ht
      have hk : k' = k:=of_decide_eq_true hf
      subst hk
      obtain ⟨n,rfl,_,hw⟩:=DataW.trod_int ht h
      exact ⟨[.int k' n],⟨n,rfl,hw⟩,rfl,VRs.one (.int k' n),B.one _,fun _ _ => trivial⟩
    · cases hf
  | sl e ih =>
    refine ⟨fun fuel t cs x hf h => ?_,fun fs off n cs xs hf _ _ => by simp [Ty.fits] at hf⟩
    simp only [Ty.fits] at hf
    split at hf
    · rename_i el ht
      simp only [Bool.and_eq_true,decide_eq_true_eq] at hf
      obtain ⟨⟨⟨hf,hs⟩,hpos⟩,hby⟩:=hf
      rcases DataW.trod_slice ht h with ⟨rfl,_⟩ | ⟨a,len,cap,elems,rest,n,_,rfl,rfl,hb,hl,hm,hlen,hel,_⟩
      · exact ⟨[.lst []],⟨[],rfl,Nat.zero_le _,by simp⟩,rfl,VRs.one (.lst0 none 0 (fun _ => rfl)),B.one _,fun M _ es hes => by cases hes; exact ⟨by simp,by simp⟩⟩
      · have key : ∀ i,i < len → ∃ as,e.shape as∧as.length = e.size∧(∀ k (hk : k < as.length),∃ v,w.cell? (a.add (i * e.size + k)) = some v∧VR (fun b => b < w.heap.size) w.heap as[k] v) ∧
            ∀ (h2 : i < elems.length),e.bulk as ≤ B.b elems[i].1∧∀ M,(∀ n ∈ elems[i].1.weights P el,n ≤ M) → e.small M as:=by
          intro i hi
          have h1:=hel i hi
          have h2 : ∃ y,elems[i]? = some y:=⟨elems[i],List.getElem?_eq_getElem (by omega)⟩
          obtain ⟨y,hy⟩:=h2
          rw [hy,Option.bind_eq_some_iff] at h1
          obtain ⟨ci,hci,hti⟩:=h1
          obtain ⟨as,g1,g2,g3,g4,g5⟩:=ih.1 _ _ _ _ hf hti
          obtain ⟨_,k2,k3⟩:=World.cells?_some hci
          rw [hs] at k2 k3
          refine ⟨as,g1,g2,fun k hk => ?_,fun h2 => ?_⟩
          · have hk2 : k < ci.length:=by rw [← g3.1]; exact hk
            refine ⟨ci[k],?_,g3.2 k hk hk2⟩
            have:=k3 k (by omega)
            rw [List.getElem?_eq_getElem hk2] at this
            rw [← this]
            rw [add_add]
          · rw [List.getElem?_eq_getElem h2] at hy
            rw [Option.some.inj hy]
            exact ⟨g4,g5⟩
        obtain ⟨es,e1,e2⟩:=list_of len key
        have hshape : ∀ x ∈ es,e.shape x:=by
          intro x hx
          obtain ⟨i,hi,rfl⟩:=List.mem_iff_getElem.1 hx
          exact (e2 i hi).1
        have hbulk : (es.map e.bulk).sum + 1 ≤ B.b (.slice (elems.map (·.1)) (rest.map (·.1))):=by
          refine Nat.le_trans (Nat.succ_le_succ (B.sum e.bulk es (elems.map (·.1)) (by simp; omega) fun i h1 h2 => ?_)) (B.slice _ _)
          have:=((e2 i h1).2.2.2 (by simpa using h2)).1
          simpa using this
        have hsm : ∀ M,(∀ n ∈ (DataW.slice (elems.map (·.1)) (rest.map (·.1))).weights P t,n ≤ M) → (Ty.sl e).small M [.lst es]:=by
          intro M hM es' hes
          cases hes
          simp only [DataW.weights,ht,List.mem_cons,List.mem_append,List.length_map] at hM
          refine ⟨?_,fun x hx => ?_⟩
          · refine Nat.le_trans ?_ (hM _ (.inl rfl))
            exact Nat.mul_le_mul (by omega) hby
          · obtain ⟨i,hi,rfl⟩:=List.mem_iff_getElem.1 hx
            have h2 : i < elems.length:=by omega
            refine ((e2 i hi).2.2.2 h2).2 M fun n hn => hM n (.inr (.inl ?_))
            exact weightsAll_mem (List.mem_map_of_mem (List.getElem_mem h2)) hn
        refine ⟨[.lst es],⟨es,rfl,by omega,hshape⟩,rfl,VRs.one ?_,hbulk,hsm⟩
        by_cases hl0 : len = 0
        · subst hl0
          have : es = []:=List.length_eq_zero_iff.1 e1
          subst this
          exact .lst0 _ _ (by simp)
        · obtain ⟨bl,off,spot⟩:=a
          obtain ⟨v0,hv0,_⟩:=(e2 0 (by omega)).2.2.1 0 (by rw [(e2 0 (by omega)).2.1]; exact hpos)
          obtain ⟨hspot,c,T,fr,hc,hc0⟩:=cell_some hv0
          have hspot' : spot = none:=by simpa [Addr.add] using hspot
          subst hspot'
          rw [Addr.add_none] at hc hc0
          have hcell : ∀ i (hi : i < es.length) k (hk : k < es[i].length),∃ v,c[off + i * e.size + k]? = some v∧VR (fun b => b < w.heap.size) w.heap es[i][k] v:=by
            intro i hi k hk
            obtain ⟨v,hv,hvr⟩:=(e2 i hi).2.2.1 k hk
            obtain ⟨_,c',T',fr',hc',hcv⟩:=cell_some hv
            rw [Addr.add_none] at hc' hcv
            simp only [] at hc' hc
            rw [hc] at hc'
            cases hc'
            exact ⟨v,by rw [← hcv,Nat.add_assoc],hvr⟩
          have hlast : off + es.length * e.size ≤ c.size:=by
            have hi : es.length - 1 < es.length:=by omega
            obtain ⟨v,hv,_⟩:=hcell (es.length - 1) hi (e.size - 1) (by rw [(e2 _ hi).2.1]; omega)
            have:=(Array.getElem?_eq_some_iff.1 hv).1
            have e3 : (es.length - 1) * e.size + e.size = es.length * e.size:=by
              rw [← Nat.succ_mul]; congr 1; omega
            omega
          rw [← e1]
          refine .lst es bl off e.size cap c T fr ?_ hc (by omega) (fun i h => (e2 i h).2.1) hlast fun i h1 k h2 h3 => ?_
          · exact (Array.getElem?_eq_some_iff.1 hc).1
          · obtain ⟨v,hv,hvr⟩:=hcell i h1 k h2
            rw [Array.getElem?_eq_getElem h3] at hv
            cases hv
            exact hvr
    · cases hf
  | st c ih =>
    refine ⟨fun fuel t cs x hf h => ?_,fun fs off n cs xs hf _ _ => by simp [Ty.fits] at hf⟩
    simp only [Ty.fits] at hf
    split at hf
    · rename_i fs ht
      simp only [Bool.and_eq_true,decide_eq_true_eq] at hf
      obtain ⟨hf,hs⟩:=hf
      obtain ⟨xs,n,_,rfl,hlen,hxs,hall⟩:=DataW.trod_struct ht h
      obtain ⟨as,g1,g2,g3,g4,g5⟩:=ih.2 fs.toList 0 n cs xs hf (by simpa using hxs) (fun i f hi => hall i f (by simpa using hi)) (by omega)
      refine ⟨as,g1,g2,?_,?_,fun M hM => g5 M fun n hn => hM n (by simp only [DataW.weights,ht]; exact hn)⟩
      · rw [List.drop_zero,List.take_of_length_le (by omega)] at g3
        exact g3
      · exact Nat.le_trans (Nat.succ_le_succ g4) (B.agg _)
    · cases hf
  | fnil =>
    refine ⟨fun fuel t cs x hf h => by simp [Ty.fits] at hf,fun fs off n cs xs hf _ _ => fun _ => ⟨[],rfl,rfl,by simpa [Ty.size] using VRs.nil,Nat.zero_le _,fun _ _ => trivial⟩⟩
  | fcons a b iha ihb =>
    refine ⟨fun fuel t cs x hf h => by simp [Ty.fits] at hf,fun fs off n cs xs hf hxl hall hle => ?_⟩
    cases fs with
    | nil => simp [Ty.fits] at hf
    | cons f fs =>
      cases xs with
      | nil => simp at hxl
      | cons x xs =>
        simp only [Ty.fits,Bool.and_eq_true,decide_eq_true_eq] at hf
        obtain ⟨⟨⟨h1,h2⟩,h3⟩,h4⟩:=hf
        have hx : DataW.trod enc P w base spare held n f.type ((cs.drop f.offset).take (P.cellsOf f.type)) = some x:=hall 0 f rfl
        rw [h2,h3] at hx
        simp only [Ty.size] at hle ⊢
        obtain ⟨as,g1,g2,g3,g4,g5⟩:=iha.1 _ _ _ _ h1 hx
        obtain ⟨bs,k1,k2,k3,k4,k5⟩:=ihb.2 fs (off + a.size) n cs xs h4 (by simpa using hxl) (fun i f' hf => hall (i + 1) f' (by simpa using hf)) (by omega)
        refine ⟨as ++ bs,⟨as,bs,rfl,g1,k1⟩,by simp [g2,k2],?_,?_,fun M hM => ?_⟩
        rotate_right
        · simp only [List.map_cons,DataW.weightsEach,List.mem_append] at hM
          simp only [Ty.small]
          rw [List.take_left' g2,List.drop_left' g2]
          exact ⟨g5 M fun n hn => hM n (.inl hn),k5 M fun n hn => hM n (.inr hn)⟩
        · have e1 : (cs.drop off).take (a.size + b.size) = (cs.drop off).take a.size ++ (cs.drop (off + a.size)).take b.size:=by
            rw [List.take_add,List.drop_drop]
          rw [e1]
          exact g3.append k3
        · simp only [Ty.bulk]
          rw [List.take_left' g2,List.drop_left' g2]
          have:=B.cons x.1 (xs.map (·.1))
          simp only [List.map_cons]
          omega
end
theorem Ty.arg {H:Type} (B:Bulk H) {enc:TypeId × Value → H} {P:Program} {w:World} {base:Nat} {spare:Nat → Bool} {held:Bool} (τ:Ty) {t:TypeId} {v:Value} {d:DataW H} {ps:List MemPlace}
  (hf : τ.fits P (.inl t) = true) (h:DataW.Trod enc P w base spare held t v d ps) (hv : v.cells = #[v]) (h1 : τ.size = 1) :
  ∃ a,τ.shape [a]∧VR (fun b => b < w.heap.size) w.heap a v∧τ.bulk [a] ≤ B.b d∧∀ M,(∀ n ∈ d.weights P t,n ≤ M) → τ.small M [a]:=by
 obtain ⟨fuel,h⟩:=h
 obtain ⟨as,g1,g2,g3,g4,g5⟩:=(τ.read (enc:=enc) (base:=base) (spare:=spare) (held:=held) B).1 fuel t _ _ hf h
 rw [hv] at g3
 obtain ⟨a,rfl⟩:=List.length_eq_one_iff.1 (g2.trans h1)
 exact ⟨a,g1,g3.2 0 (by simp) (by simp),g4,g5⟩
theorem entry {P:Program} {f:Nat} {as:List AV} {args:Array Value} {w:World} (t:Triple P f as Hp.emp fun r _ => r = .bool true) (h:VRs (fun b => b < w.heap.size) w.heap as args.toList) :
  Calls P f args w fun e w' => e = .returned (.bool true)∧Below w.heap.size w w':=by
 refine (t (fun b => b < w.heap.size) w args ⟨fun b hb => hb,fun b o ho => by simp [Hp.emp] at ho⟩ h).mono fun e w' ⟨cv,r,h',fz',e1,e2,e3,e4,e5⟩ => ?_
 subst e5
 subst e1
 cases e2
 exact ⟨rfl,e4.os,e4.tape,e4.output,e4.size,fun k hk => (e4.keep k hk rfl).1⟩
end Go.Hz
/- Owned blocks side by side: what a heap holds, as a list of parts. -/
namespace Go.Hz
abbrev Asr:=Hp → Prop
def res (h:Hp) (S:Nat → Bool) : Hp:=fun b => if S b then h b else none
def sat : Hp → List Asr → Prop
 | _,[] => True
 | h,A :: l => ∃ S : Nat → Bool,A (res h S)∧sat (res h fun b => !S b) l
theorem res_res (h:Hp) (S T : Nat → Bool) : res (res h S) T = res h fun b => S b && T b:=by
 funext b; unfold res; cases hS : S b <;> cases hT : T b <;> simp [hS,hT]
theorem res_congr {h:Hp} {S T : Nat → Bool} (hh:∀ b,S b = T b) : res h S = res h T:=by
 have : S = T:=funext hh
 rw [this]
theorem res_some {h:Hp} {S:Nat → Bool} {b:Nat} {o:AObj} (hb : res h S b = some o) : S b = true∧h b = some o:=by
 unfold res at hb
 split at hb
 ·exact ⟨‹_›,hb⟩
 ·cases hb
variable {h:Hp} {l l' F : List Asr} {A B : Asr}
theorem sat.grow {T:Nat → Bool} : ∀ {l:List Asr} {h:Hp},sat (res h T) l → sat h l
 | [],_,_ => trivial
 | A :: l,h,⟨S,a,b⟩ => by
  refine ⟨fun b => T b && S b,by rw [res_res] at a; exact a,?_⟩
  refine sat.grow (T:=T) ?_
  rw [res_res] at b ⊢
  rwa [show (res h fun b => (!(T b && S b)) && T b) = res h fun b => T b && !S b from res_congr fun b => by cases T b <;> cases S b <;> rfl]
theorem sat.drop (hs : sat h (A :: l)) : sat h l:=by
 obtain ⟨S,a,b⟩:=hs
 exact b.grow
theorem sat.imp (hs : sat h (A :: l)) (hi:∀ h,A h → B h) : sat h (B :: l):=by
 obtain ⟨S,a,b⟩:=hs
 exact ⟨S,hi _ a,b⟩
theorem sat.tl (hs : sat h (A :: l)) (hi:∀ h,sat h l → sat h l') : sat h (A :: l'):=by
 obtain ⟨S,a,b⟩:=hs
 exact ⟨S,a,hi _ b⟩
theorem sat.add (hs : sat h l) (ha:A Hp.emp) : sat h (A :: l) :=
 ⟨fun _ => false,by
  have : res h (fun _ => false) = Hp.emp:=funext fun b => rfl
  rwa [this],by
  have : (res h fun _ => !false) = h:=funext fun b => rfl
  rwa [this]⟩
theorem sat_ex {α:Type} {A : α → Asr} : sat h ((fun h => ∃ x,A x h) :: l) ↔ ∃ x,sat h (A x :: l):=by
 constructor
 ·rintro ⟨S,⟨x,a⟩,b⟩; exact ⟨x,S,a,b⟩
 ·rintro ⟨x,S,a,b⟩; exact ⟨S,⟨x,a⟩,b⟩
theorem sat_and {p:Prop} : sat h ((fun h => p∧A h) :: l) ↔ p∧sat h (A :: l):=by
 constructor
 ·rintro ⟨S,⟨x,a⟩,b⟩; exact ⟨x,S,a,b⟩
 ·rintro ⟨x,S,a,b⟩; exact ⟨S,⟨x,a⟩,b⟩
theorem sat.swap (hs : sat h (A :: B :: l)) : sat h (B :: A :: l):=by
 obtain ⟨S,a,T,b,c⟩:=hs
 refine ⟨fun x => !S x && T x,by rw [res_res] at b; exact b,S,?_,?_⟩
 ·rw [res_res]
  rwa [show (res h fun x => (!(!S x && T x)) && S x) = res h S from res_congr fun x => by cases S x <;> cases T x <;> rfl]
 ·rw [res_res] at c ⊢
  rwa [show (res h fun x => (!(!S x && T x)) && !S x) = res h fun x => !S x && !T x from res_congr fun x => by cases S x <;> cases T x <;> rfl]
theorem sat_sl {l1:List Asr} : sat h ((fun h => sat h l1) :: l) ↔ sat h (l1 ++ l):=by
 induction l1 generalizing h with
 | nil => exact ⟨fun hs => hs.drop,fun hs => hs.add trivial⟩
 | cons A l1 ih =>
  constructor
  ·rintro ⟨S,⟨T,a,b⟩,c⟩
   refine ⟨fun x => S x && T x,by rw [res_res] at a; exact a,?_⟩
   refine ih.1 ⟨S,?_,?_⟩
   ·rw [res_res] at b ⊢
    rwa [show (res h fun x => (!(S x && T x)) && S x) = res h fun x => S x && !T x from res_congr fun x => by cases S x <;> cases T x <;> rfl]
   ·rw [res_res]
    rwa [show (res h fun x => (!(S x && T x)) && !S x) = res h fun x => !S x from res_congr fun x => by cases S x <;> cases T x <;> rfl]
  ·rintro ⟨T,a,b⟩
   obtain ⟨S,c,d⟩:=ih.2 b
   refine ⟨fun x => T x || S x,⟨T,?_,?_⟩,?_⟩
   ·rw [res_res]
    rwa [show (res h fun x => (T x || S x) && T x) = res h T from res_congr fun x => by cases S x <;> cases T x <;> rfl]
   ·refine sat.grow (T:=fun x => !T x && S x) ?_
    rw [res_res] at c
    rw [res_res,res_res]
    rwa [show (res h fun x => (T x || S x) && (!T x && (!T x && S x))) = res h fun x => !T x && S x from res_congr fun x => by cases S x <;> cases T x <;> rfl]
   ·rw [res_res] at d
    rwa [show (res h fun x => !(T x || S x)) = res h fun x => !T x && !S x from res_congr fun x => by cases S x <;> cases T x <;> rfl]
theorem sat.p1 {A1:Asr} (hs : sat h (A1 :: A :: l)) : sat h (A :: A1 :: l):=hs.swap
theorem sat.p2 {A1 A2 : Asr} (hs : sat h (A1 :: A2 :: A :: l)) : sat h (A :: A1 :: A2 :: l):=(hs.tl fun _ h => h.p1).swap
theorem sat.p3 {A1 A2 A3 : Asr} (hs : sat h (A1 :: A2 :: A3 :: A :: l)) : sat h (A :: A1 :: A2 :: A3 :: l):=(hs.tl fun _ h => h.p2).swap
theorem sat.p4 {A1 A2 A3 A4 : Asr} (hs : sat h (A1 :: A2 :: A3 :: A4 :: A :: l)) : sat h (A :: A1 :: A2 :: A3 :: A4 :: l):=(hs.tl fun _ h => h.p3).swap
theorem sat.p5 {A1 A2 A3 A4 A5 : Asr} (hs : sat h (A1 :: A2 :: A3 :: A4 :: A5 :: A :: l)) : sat h (A :: A1 :: A2 :: A3 :: A4 :: A5 :: l):=(hs.tl fun _ h => h.p4).swap
theorem sat.p6 {A1 A2 A3 A4 A5 A6 : Asr} (hs : sat h (A1 :: A2 :: A3 :: A4 :: A5 :: A6 :: A :: l)) : sat h (A :: A1 :: A2 :: A3 :: A4 :: A5 :: A6 :: l):=(hs.tl fun _ h => h.p5).swap
theorem sat.p7 {A1 A2 A3 A4 A5 A6 A7 : Asr} (hs : sat h (A1 :: A2 :: A3 :: A4 :: A5 :: A6 :: A7 :: A :: l)) : sat h (A :: A1 :: A2 :: A3 :: A4 :: A5 :: A6 :: A7 :: l):=(hs.tl fun _ h => h.p6).swap
theorem sat.d1 {A1:Asr} (hs : sat h (A :: A1 :: l)) : sat h (A :: l):=hs.tl fun _ h => h.drop
theorem sat.d2 {A1 A2 : Asr} (hs : sat h (A :: A1 :: A2 :: l)) : sat h (A :: A1 :: l):=hs.tl fun _ h => h.d1
theorem sat.d3 {A1 A2 A3 : Asr} (hs : sat h (A :: A1 :: A2 :: A3 :: l)) : sat h (A :: A1 :: A2 :: l):=hs.tl fun _ h => h.d2
theorem sat.d4 {A1 A2 A3 A4 : Asr} (hs : sat h (A :: A1 :: A2 :: A3 :: A4 :: l)) : sat h (A :: A1 :: A2 :: A3 :: l):=hs.tl fun _ h => h.d3
theorem sat.q1 {A1 A2 : Asr} (hs : sat h (A :: A1 :: A2 :: l)) : sat h (A :: A2 :: A1 :: l):=hs.tl fun _ h => h.p1
theorem sat.q2 {A1 A2 A3 : Asr} (hs : sat h (A :: A1 :: A2 :: A3 :: l)) : sat h (A :: A3 :: A1 :: A2 :: l):=hs.tl fun _ h => h.p2
theorem sat.q3 {A1 A2 A3 A4 : Asr} (hs : sat h (A :: A1 :: A2 :: A3 :: A4 :: l)) : sat h (A :: A4 :: A1 :: A2 :: A3 :: l):=hs.tl fun _ h => h.p3
def pto (b:Nat) (o:AObj) : Asr:=fun h => h b = some o
theorem sat.at {b:Nat} {o:AObj} (hs : sat h (pto b o :: l)) : h b = some o:=by
 obtain ⟨S,a,_⟩:=hs
 exact (res_some a).2
theorem sat.set {b:Nat} {o o' : AObj} (hs : sat h (pto b o :: l)) : sat (h.set b o') (pto b o' :: l):=by
 obtain ⟨S,a,c⟩:=hs
 have hS:=(res_some a).1
 refine ⟨S,?_,?_⟩
 ·unfold pto res; rw [if_pos hS]; simp
 ·have : (res (h.set b o') fun x => !S x) = res h fun x => !S x:=by
   funext x
   unfold res
   by_cases hx : x = b
   ·subst hx; simp [hS]
   ·simp [Hp.set_ne _ _ hx]
  rwa [this]
theorem sat.new {n:Nat} {o:AObj} (hs : sat h l) (hn : h n = none) : sat (h.set n o) (pto n o :: l):=by
 refine ⟨fun x => x == n,?_,?_⟩
 ·unfold pto res; simp
 ·have : (res (h.set n o) fun x => !(x == n)) = h:=by
   funext x
   unfold res
   by_cases hx : x = n
   ·subst hx; simp [hn]
   ·simp [hx,Hp.set_ne]
  rwa [this]
theorem sat.del {b:Nat} {o:AObj} (hs : sat h (pto b o :: l)) : sat (h.del b) l:=by
 obtain ⟨S,a,c⟩:=hs
 have hS:=(res_some a).1
 refine sat.grow (T:=fun x => !S x) ?_
 have : (res (h.del b) fun x => !S x) = res h fun x => !S x:=by
  funext x
  unfold res
  by_cases hx : x = b
  ·subst hx; simp [hS]
  ·simp [Hp.del_ne _ hx]
 rwa [this]
theorem sat.ne {a b : Nat} {o o' : AObj} (hs : sat h (pto a o :: pto b o' :: l)) : a ≠ b:=by
 obtain ⟨S,x,T,y,_⟩:=hs
 have h1:=(res_some x).1
 have h2:=(res_some (res_some y).2).1
 intro hh; subst hh; simp [h1] at h2
def Mono (A:Asr) : Prop := ∀ h S,A (res h S) → A h
theorem sat.hd (hs : sat h (A :: l)) (hm:Mono B) (hi:∀ h,A h → B h) : B h:=by
 obtain ⟨S,a,_⟩:=hs
 exact hm _ _ (hi _ a)
theorem srcA_mono {s:Nat} {v:AV} {es:List (List AV)} {S:Nat → Bool} (e : srcA s (res h S) v = some es) : srcA s h v = some es:=by
 unfold srcA at *
 split at e <;> first | exact e | skip
 split at e <;> first | cases e | skip
 rename_i hb
 rw [(res_some hb).2]
 exact e
theorem Els.mono {s:Nat} {v:AV} {es:List (List AV)} : Mono fun h => Els h s v es:=fun h S e => ⟨srcA_mono e.1,e.2⟩
theorem Els.lst {s:Nat} {es:List (List AV)} (hs:∀ e ∈ es,e.length = s) : Els h s (.lst es) es:=⟨by simp only [srcA]; rw [if_pos hs],by simp⟩
theorem ia_lst {α:Type} {f : α → List AV} {l:List α} {s i : Nat} {k:IntKind} (hi : i < l.length) (hs:∀ x,(f x).length = s) : iaA s (.lst (l.map f)) (.int k (i:Int)) = some (.ro (f l[i])):=by
 simp [iaA,hi,hs]
def Ow (s:Nat) (v:AV) (es:List (List AV)) : Asr:=fun h =>
 (v = .nils∧es = []) ∨ ∃ b cap,v = .arr b s 0 es.length cap∧h b = some (.row s es cap)∧es.length ≤ cap
theorem ow_nil {s:Nat} : Ow s .nils [] h:=.inl ⟨rfl,rfl⟩
theorem Ow.els {s:Nat} {v:AV} {es:List (List AV)} (o:Ow s v es h) : Els h s v es:=by
 rcases o with ⟨rfl,rfl⟩ | ⟨b,cap,rfl,hb,hc⟩
 ·exact ⟨rfl,by simp⟩
 ·exact ⟨by simp [srcA,hb],by simp⟩
theorem sat.els {s:Nat} {v:AV} {es:List (List AV)} (hs : sat h (Ow s v es :: l)) : Els h s v es:=hs.hd Els.mono fun _ o => o.els
theorem sat.bts {v:AV} {bs:List UInt8} (hs : sat h (Ow 1 v (bs.map eb) :: l)) : Bts h v bs:=hs.els
theorem sat.arr {s b len cap : Nat} {es:List (List AV)} (hs : sat h (Ow s (.arr b s 0 len cap) es :: l)) : sat h (pto b (.row s es cap) :: l)∧len = es.length∧es.length ≤ cap:=by
 obtain ⟨S,⟨h1,_⟩ | ⟨b',cap',h1,h2,h3⟩,c⟩:=hs
 ·cases h1
 ·cases h1; exact ⟨⟨S,h2,c⟩,rfl,h3⟩
theorem sat.ow {s b cap : Nat} {es:List (List AV)} (hs : sat h (pto b (.row s es cap) :: l)) (hc : es.length ≤ cap) : sat h (Ow s (.arr b s 0 es.length cap) es :: l) :=
 hs.imp fun _ hb => .inr ⟨b,cap,rfl,hb,hc⟩
theorem sat.cases {s:Nat} {v:AV} {es:List (List AV)} (hs : sat h (Ow s v es :: l)) :
  (v = .nils∧es = []∧sat h l) ∨ ∃ b cap,v = .arr b s 0 es.length cap∧sat h (pto b (.row s es cap) :: l)∧es.length ≤ cap:=by
 obtain ⟨S,⟨h1,h2⟩ | ⟨b',cap',h1,h2,h3⟩,c⟩:=hs
 ·exact .inl ⟨h1,h2,c.grow⟩
 ·exact .inr ⟨b',cap',h1,⟨S,h2,c⟩,h3⟩
theorem wpA_imp {P:Program} : ∀ (c:ACode) {e:Env} {h:Hp} {kn kn' kr kr' : Env → Hp → Prop} {kx kx' : Nat → Env → Hp → Prop},wpA P c e h kn kr kx → (∀ e h,kn e h → kn' e h) → (∀ e h,kr e h → kr' e h) → (∀ i e h,kx i e h → kx' i e h) → wpA P c e h kn' kr' kx'
 | .skip,_,_,_,_,_,_,_,_,hw,h1,_,_ => h1 _ _ hw
 | .reg l,_,_,_,_,_,_,_,_,hw,h1,_,_ => wpS_mono h1 l _ _ hw
 | .seq a b,_,_,_,_,_,_,_,_,hw,h1,h2,h3 => wpA_imp a hw (fun e h hb => wpA_imp b hb h1 h2 h3) h2 h3
 | .cond c t f,_,_,_,_,_,_,_,_,⟨b,hb,ht,hf⟩,h1,h2,h3 => ⟨b,hb,fun q => wpA_imp t (ht q) h1 h2 h3,fun q => wpA_imp f (hf q) h1 h2 h3⟩
 | .block id b,_,_,kn,kn',_,_,kx,kx',hw,h1,h2,h3 => wpA_imp b hw h1 h2 fun i e h hx => by
  by_cases hi : i = id
  ·rw [if_pos hi] at hx ⊢; exact h1 _ _ hx
  ·rw [if_neg hi] at hx ⊢; exact h3 _ _ _ hx
 | .loop b,_,_,_,_,_,_,_,_,⟨I,μ,h0,hr⟩,h1,h2,h3 => ⟨I,μ,h0,fun e h hi => wpA_imp b (hr e h hi) (fun _ _ x => x) h2 h3⟩
 | .exit id,_,_,_,_,_,_,_,_,hw,_,_,h3 => h3 _ _ _ hw
 | .ret,_,_,_,_,_,_,_,_,hw,_,h2,_ => h2 _ _ hw
 | .rangeF n g ps asg bd,e,h,kn,kn',kr,kr',kx,kx',hw,h1,h2,h3 => by
  obtain ⟨f,caps,a1,a2,a3⟩:=hw
  exact ⟨f,caps,a1,a2,fun l hl => (a3 l hl).mono fun _ _ ⟨b1,b2⟩ => ⟨b1,h1 _ _ b2⟩⟩
theorem run_imp {P:Program} {b:ACode} {st:List Fr} {e:Env} {k:Kt} {J J' : Env → Hp → Prop} (hw : run P b (.lp J :: st) e h k) (hi:∀ e h,J e h → J' e h) : run P b (.lp J' :: st) e h k :=
 wpA_imp b hw hi (fun _ _ x => x) (fun _ _ _ x => x)
theorem new_sat {P:Program} {st:List Fr} {e:Env} {k:Kt} {d:Option Nat} {r:List (AItem × List AItem)} {o:AObj} {g:Nat → AV} (hs : sat h F)
  (hk:∀ n,h n = none → sat (h.set n o) (pto n o :: F) → runS P r st (e.put d (g n)) (h.set n o) k) : newR P o g d r st e h k:=fun n hn => hk n hn (hs.new hn)
theorem least {p:Nat → Prop} (h:∃ n,p n) : ∃ n,p n∧∀ m,p m → n ≤ m:=by
 obtain ⟨n,hn⟩:=h
 induction n using Nat.strongRecOn with
 | _ n ih =>
  by_cases hm : ∃ m,m < n∧p m
  ·obtain ⟨m,h1,h2⟩:=hm
   exact ih m h1 h2
  ·exact ⟨n,hn,fun m hm' => Nat.le_of_not_lt fun hlt => hm ⟨m,hlt,hm'⟩⟩
theorem run_loopN {P:Program} {b:ACode} {st:List Fr} {e:Env} {k:Kt} (I:Nat → Env → Hp → Prop) (n:Nat) (h0:I n e h)
  (hr:∀ n e h,I n e h → run P b (.lp (fun e' h' => ∃ m,m < n∧I m e' h') :: st) e h k) : run P (.loop b) st e h k:=by
 classical
 refine run_loop (fun e h => ∃ n,I n e h) (fun e h => if hh : ∃ n,I n e h then Classical.choose (least hh) else 0) ⟨n,h0⟩ fun e h hi => ?_
 have hn:=(Classical.choose_spec (least hi)).1
 have e0 : (if hh : ∃ n,I n e h then Classical.choose (least hh) else 0) = Classical.choose (least hi):=dif_pos hi
 rw [e0]
 refine run_imp (hr _ e h hn) ?_
 rintro e' h' ⟨m,hm,hi'⟩
 have hx : ∃ n,I n e' h':=⟨m,hi'⟩
 refine ⟨hx,?_⟩
 rw [dif_pos hx]
 exact Nat.lt_of_le_of_lt ((Classical.choose_spec (least hx)).2 m hi') hm
theorem new_opq {P:Program} {st:List Fr} {e:Env} {k:Kt} {d:Option Nat} {r:List (AItem × List AItem)} {o:AObj} {g:Nat → AV} (hs : sat h F)
  (hk:∀ n h',sat h' (pto n o :: F) → runS P r st (e.put d (g n)) h' k) : newR P o g d r st e h k:=fun n hn => hk n _ (hs.new hn)
theorem run_up {P:Program} {b:ACode} {st:List Fr} {e:Env} {k:Kt} {N:Nat} (I:Nat → Env → Hp → Prop) (h0:I 0 e h)
  (hr:∀ i e h,i ≤ N → I i e h → run P b (.lp (fun e' h' => i < N∧I (i + 1) e' h') :: st) e h k) : run P (.loop b) st e h k:=by
 refine run_loopN (fun n e h => ∃ i,i ≤ N∧n = N - i∧I i e h) N ⟨0,Nat.zero_le _,rfl,h0⟩ ?_
 rintro n e h ⟨i,hi,rfl,hI⟩
 refine run_imp (hr i e h hi hI) ?_
 rintro e' h' ⟨hlt,hI'⟩
 exact ⟨N - (i + 1),by omega,i + 1,by omega,rfl,hI'⟩
theorem app_sat {P:Program} {st:List Fr} {e:Env} {k:Kt} {d:Option Nat} {r:List (AItem × List AItem)} {s bytes : Nat} {v y : AV} {es ys : List (List AV)}
  (hs : sat h (Ow s v es :: F)) (hy : srcA s h y = some ys) (ha:AtomsL ys)
  (hb:(es.length + ys.length) * bytes ≤ 70368744177664) (hk:∀ v' h',sat h' (Ow s v' (es ++ ys) :: F) → v'.cells = [v'] → v'.isAtom = true → runS P r st (e.put d v') h' k) :
  effR P (appE s bytes v y h) [] d r st e k:=by
 have fin : ∀ v' h',sat h' (Ow s v' (es ++ ys) :: F) → obls P [] (e.put d v') h'∧runS P r st (e.put d v') h' k:=fun v' h' g =>
  ⟨fun _ hm => by simp at hm,hk v' h' g g.els.cells g.els.atom⟩
 refine ⟨ys,hy,ha,?_⟩
 rcases hs.cases with ⟨rfl,rfl,g⟩ | ⟨b,cap,rfl,g,hle⟩
 ·refine ⟨fun h0 => fin _ _ (g.add (.inl ⟨rfl,by simp [h0]⟩)),fun h0 => ⟨Nat.le_trans (by simpa using hb) (show 70368744177664 ≤ 140737488355328 by decide),fun n c hn hc => fin _ _ ?_⟩⟩
  simpa using (g.new (o:=.row s ys c) hn).ow hc
 ·have hbb:=g.at
  simp only [hbb]
  refine ⟨trivial,trivial,trivial,Nat.le_refl _,trivial,.inl hb,fun n c hn hc _ => fin _ _ ?_⟩
  rw [List.take_length]
  have:=((g.del).new (o:=.row s (es ++ ys) c) hn).ow (by simpa using hc)
  simpa using this
theorem app_new {P:Program} {st:List Fr} {e:Env} {k:Kt} {d:Option Nat} {r:List (AItem × List AItem)} {s bytes b : Nat} {y:AV} {ys:List (List AV)} (hs : sat h (pto b (.row s [] 0) :: F)) (hy : srcA s h y = some ys) (ha:AtomsL ys)
  (hb : ys.length * bytes ≤ 140737488355328) (hk:∀ v' h',sat h' (Ow s v' ys :: F) → v'.cells = [v'] → v'.isAtom = true → runS P r st (e.put d v') h' k) :
  effR P (appE s bytes (.arr b s 0 0 0) y h) [] d r st e k:=by
 have hbb:=hs.at
 refine ⟨ys,hy,ha,?_⟩
 simp only [hbb]
 refine ⟨trivial,trivial,trivial,Nat.le_refl _,trivial,.inr ⟨rfl,by simpa using hb⟩,fun n c hn hc _ => ?_⟩
 have g:=((hs.del).new (o:=.row s ys c) hn).ow (by simpa using hc)
 have:=hk (.arr n s 0 ys.length c) _ g g.els.cells g.els.atom
 refine ⟨fun _ hm => by simp at hm,?_⟩
 simpa using this
theorem atoms_one {x:List AV} (hx : x.all AV.isAtom = true) : AtomsL [x]:=by
 intro e he v hv
 simp only [List.mem_cons,List.not_mem_nil,or_false] at he
 subst he
 exact List.all_eq_true.1 hx v hv
theorem src_one {s b n c : Nat} {x:List AV} (hn : h b = some (.row s [x] n)) : srcA s h (.arr b s 0 1 c) = some [x]:=by simp [srcA,hn]
def CapOK (v:AV) : Prop := ∀ q s o l c,v = .arr q s o l c → l ≤ c
theorem sat.cap {s:Nat} {v:AV} {es:List (List AV)} (hs : sat h (Ow s v es :: l)) : CapOK v:=by
 rcases hs.cases with ⟨rfl,_⟩ | ⟨b,cap,rfl,_,hc⟩
 ·intro _ _ _ _ _ h; cases h
 ·intro _ _ _ _ _ h; cases h; exact hc
theorem callv_use {P:Program} {st:List Fr} {e:Env} {k:Kt} {d:Option Nat} {r:List (AItem × List AItem)} {f:Nat} {caps args : List AV} {Q:AV → Hp → Prop} (hf : okFn P f = true) (c:Triple P f (args ++ caps) h Q)
  (hk:∀ v h',Q v h' → runS P r st (e.put d v) h' k) : effR P (callvE P (.fn f caps) args h) [] d r st e k :=
 ⟨okFn_ok hf,c.mono fun v h' q => ⟨fun _ hm => by simp at hm,hk v h' q⟩⟩
theorem rngF_use {P:Program} {st:List Fr} {e:Env} {k:Kt} {f n : Nat} {caps:List AV} {ps:List Nat} {asg bd : Code} (hf : okFn P f = true) (hs : sat h F)
  (c:∀ l h0,sat h0 (pto l (.lp n e ps asg bd) :: F) → Triple P f (.yl l :: caps) h0 fun _ h' => ∃ F',sat h' (pto l (.lp n e ps asg bd) :: F')∧∀ h'',sat h'' F' → fall P st e h'' k) :
  rngF P (.fn f caps) n ps asg bd st e h k :=
 ⟨f,caps,rfl,okFn_ok hf,fun l hl => (c l _ (hs.new hl)).mono fun _ _ ⟨_,g1,g2⟩ => ⟨g1.at,g2 _ g1.del⟩⟩
theorem yl_use {P:Program} {st:List Fr} {e:Env} {k:Kt} {d:Option Nat} {r:List (AItem × List AItem)} {l n : Nat} {e0:Env} {ps:List Nat} {asg bd : Code} {args:List AV} (hs : sat h (pto l (.lp n e0 ps asg bd) :: F))
  (hl : args.length = ps.length) (hp : ps.all (fun t => decide (t < n)) = true)
  (c:∀ h0,sat h0 F → CodeT P n asg (putPs e0 ps args) h0 fun e1 h1 => CodeT P n bd e1 h1 fun _ h2 => ∃ F',sat h2 F'∧∀ h3,sat h3 (pto l (.lp n e0 ps asg bd) :: F') → runS P r st (e.put d (.bool true)) h3 k) :
  effR P (callvE P (.yl l) args h) [] d r st e k:=by
 have h0:=hs.at
 unfold effR callvE
 simp only [h0]
 refine ⟨hl,fun t ht => by simpa using List.all_eq_true.1 hp t ht,(c _ hs.del).mono fun e1 h1 q => q.mono ?_⟩
 rintro e2 h2 ⟨F',g1,g2⟩ hn
 exact ⟨fun _ hm => by simp at hm,g2 _ (g1.new hn)⟩
theorem Triple.view {P:Program} {f:Nat} {args:List AV} {post:AV → Hp → Prop} (t:Triple P f args h fun r h' => ∃ r' h'',GV r h' r' h''∧post r' h'') : Triple P f args h post :=
 fun fz w cargs r a => (t fz w cargs r a).mono fun _ w' ⟨cv,x,h',fz',e1,e2,e3,e4,r',h'',g,p⟩ => by
  obtain ⟨f2,g1,g2,g3⟩:=g fz' w' cv e2 e3
  exact ⟨cv,r',h'',f2,e1,g1,g2,e4.trans g3,p⟩
theorem sat.view {s:Nat} {v:AV} {es:List (List AV)} (hs : sat h (Ow s v es :: l)) : ∃ h',GV v h (.lst es) h'∧sat h' l:=by
 rcases hs.cases with ⟨rfl,rfl,g⟩ | ⟨b,cap,rfl,g,hle⟩
 ·exact ⟨h,GV.nils,g⟩
 ·exact ⟨_,GV.arr g.at rfl hle,g.del⟩
theorem Triple.lst {P:Program} {f:Nat} {args:List AV} (s:Nat) {post:AV → Hp → Prop}
  (t:Triple P f args h fun r h' => ∃ es F,sat h' (Ow s r es :: F)∧∀ h'',sat h'' F → post (.lst es) h'') : Triple P f args h post :=
 Triple.view (t.mono fun r h' ⟨es,F,hs,hp⟩ => by
  obtain ⟨h'',g,hs'⟩:=hs.view
  exact ⟨_,h'',g,hp _ hs'⟩)
theorem Triple.lst1 {P:Program} {f:Nat} {args:List AV} (s:Nat) {post:AV → Hp → Prop}
  (t:Triple P f args h fun r h' => ∃ v rest es F,r = .tup (v :: rest)∧sat h' (Ow s v es :: F)∧∀ h'',sat h'' F → post (.tup (.lst es :: rest)) h'') : Triple P f args h post :=
 Triple.view (t.mono fun r h' ⟨v,rest,es,F,hr,hs,hp⟩ => by
  obtain ⟨h'',g,hs'⟩:=hs.view
  subst hr
  exact ⟨_,h'',GV.tup [] rest g,hp _ hs'⟩)
def VI (a b : AV) : Prop := ∀ (fz:Nat → Prop) (H:Array Obj) (cv:Value),VR fz H a cv → VR fz H b cv
def VIs : List AV → List AV → Prop
 | [],[] => True
 | a :: as,b :: bs => VI a b∧VIs as bs
 | _,_ => False
theorem VI.refl (a:AV) : VI a a:=fun _ _ _ h => h
theorem VI.nils : VI .nils (.lst []):=fun fz H cv h => by cases h; exact .lst0 none 0 (fun _ => rfl)
theorem VIs.get : ∀ {as bs : List AV},VIs as bs → as.length = bs.length∧∀ i (h1 : i < as.length) (h2 : i < bs.length),VI as[i] bs[i]
 | [],[],_ => ⟨rfl,fun i h => by simp at h⟩
 | [],_ :: _,h => h.elim
 | _ :: _,[],h => h.elim
 | a :: as,b :: bs,h => by
  obtain ⟨h1,h2⟩:=VIs.get h.2
  refine ⟨by simp [h1],fun i a b => ?_⟩
  cases i with
  | zero => exact h.1
  | succ i => exact h2 i (by simpa using a) (by simpa using b)
theorem VI.agg {as bs : List AV} (h:VIs as bs) : VI (.agg as) (.agg bs):=fun fz H cv hv => by
 obtain ⟨h1,h2⟩:=h.get
 cases hv with
 | agg cs vs hl hvs => exact .agg bs vs (by rw [← h1,hl]) fun i a b => h2 i (by omega) a fz H _ (hvs i (by omega) b)
end Go.Hz
/- A law: what comes in is read by its types; it answers true, and what came in reads as before. -/
namespace Go.Hz
open Go.RowKit Go.ChangeShapes Go.WideShapes Go.ChangeAt
def Ty.one : Ty → AV → Prop
 | .st c,a => ∃ cs,a = .agg cs∧c.shape cs
 | τ,a => τ.shape [a]
def Ty.ones : List Ty → List AV → Prop
 | [],[] => True
 | τ :: ts,a :: as => τ.one a∧Ty.ones ts as
 | _,_ => False
def Ty.bulk1 : Ty → AV → Nat
 | .st c,.agg cs => c.bulk cs + 1
 | τ,a => τ.bulk [a]
def Ty.small1 (M:Nat) : Ty → AV → Prop
 | .st c,.agg cs => c.small M cs
 | τ,a => τ.small M [a]
def Ty.smalls (M:Nat) : List Ty → List AV → Prop
 | τ :: ts,a :: as => τ.small1 M a∧Ty.smalls M ts as
 | _,_ => True
def Ty.bulks : List Ty → List AV → Nat
 | τ :: ts,a :: as => τ.bulk1 a + Ty.bulks ts as
 | _,_ => 0
def fitsAll (P:Program) : List Ty → List TypeId → Bool
 | [],[] => true
 | τ :: τs,t :: ts => τ.fits P (.inl t) && fitsAll P τs ts
 | _,_ => false
section
variable {H:Type} {enc:TypeId × Value → H} {P:Program} {w:World} {base:Nat} {spare:Nat → Bool} {held:Bool}
theorem Ty.arg1 (B:Bulk H) (τ:Ty) {t:TypeId} {v:Value} {d:DataW H} {ps:List MemPlace} {r:Reach} {b0:Nat}
  (hf : τ.fits P (.inl t) = true) (h:DataW.Trod enc P w base spare held t v d ps) (hw:Value.okWide P w r b0 t v) :
  ∃ a,τ.one a∧VR (fun b => b < w.heap.size) w.heap a v∧τ.bulk1 a ≤ B.b d∧∀ M,(∀ n ∈ d.weights P t,n ≤ M) → τ.small1 M a:=by
 have key : v.cells = #[v] → τ.size = 1 → ∃ a,τ.shape [a]∧VR (fun b => b < w.heap.size) w.heap a v∧τ.bulk [a] ≤ B.b d∧∀ M,(∀ n ∈ d.weights P t,n ≤ M) → τ.small M [a]:=fun h1 h2 => Ty.arg B τ hf h h1 h2
 cases τ with
 | bool =>
  have hf':=hf
  simp only [Ty.fits] at hf'
  split at hf'
  ·rename_i ht; obtain ⟨b,rfl⟩:=okWide_bool ht hw; exact key rfl rfl
  ·cases hf'
 | str =>
  have hf':=hf
  simp only [Ty.fits] at hf'
  split at hf'
  ·rename_i ht; obtain ⟨b,rfl⟩:=okWide_string ht hw; exact key rfl rfl
  ·cases hf'
 | int k =>
  have hf':=hf
  simp only [Ty.fits] at hf'
  split at hf'
  ·rename_i ht; obtain ⟨b,rfl⟩:=okWide_int ht hw; exact key rfl rfl
  ·cases hf'
 | sl e =>
  have hf':=hf
  simp only [Ty.fits] at hf'
  split at hf'
  ·rename_i ht; obtain ⟨b,_,_,rfl⟩:=okWide_slice ht hw; exact key rfl rfl
  ·cases hf'
 | st c =>
  have hf':=hf
  simp only [Ty.fits] at hf'
  split at hf'
  ·rename_i ht
   obtain ⟨cs,rfl,hcs⟩:=okWide_struct ht hw
   obtain ⟨fuel,h⟩:=h
   obtain ⟨as,g1,g2,g3,g4,g5⟩:=((Ty.st c).read (enc:=enc) (base:=base) (spare:=spare) (held:=held) B).1 fuel t _ _ hf h
   refine ⟨.agg as,⟨as,rfl,g1⟩,?_,g4,g5⟩
   exact .agg as cs (by simpa [Value.cells] using g3.1) fun i h1 h2 => by simpa [Value.cells] using g3.2 i h1 (by simpa [Value.cells] using h2)
  ·cases hf'
 | fnil => simp [Ty.fits] at hf
 | fcons a b => simp [Ty.fits] at hf
theorem args_read (B:Bulk H) {r:Reach} {b0:Nat} : ∀ (τs:List Ty) (ts:List TypeId) (vs:List Value) (ds:List (DataW H)) (ps:List MemPlace),fitsAll P τs ts = true → DataW.TrodAll enc P w base spare held ts vs ds ps →
  (∀ (j:Nat) t v,ts[j]? = some t → vs[j]? = some v → Value.okWide P w r b0 t v) → ∃ as,Ty.ones τs as∧VRs (fun b => b < w.heap.size) w.heap as vs∧ds.length = ts.length∧Ty.bulks τs as ≤ B.ba ds∧∀ M,(∀ n ∈ DataW.weightsEach P ts ds,n ≤ M) → Ty.smalls M τs as
 | [],[],vs,ds,ps,_,h,_ => by
  obtain ⟨rfl,rfl,_⟩:=trodAll_nil h
  exact ⟨[],trivial,VRs.nil,rfl,Nat.zero_le _,fun _ _ => trivial⟩
 | [],_ :: _,_,_,_,hf,_,_ => by simp [fitsAll] at hf
 | _ :: _,[],_,_,_,hf,_,_ => by simp [fitsAll] at hf
 | τ :: τs,t :: ts,vs,ds,ps,hf,h,hw => by
  obtain ⟨v,vs',d,ds',p,q,rfl,rfl,rfl,h1,h2⟩:=trodAll_cons h
  simp only [fitsAll,Bool.and_eq_true] at hf
  obtain ⟨a,g1,g2,g3,g4⟩:=Ty.arg1 B τ hf.1 h1 (hw 0 t v rfl rfl)
  obtain ⟨as,k1,k2,k3,k4,k5⟩:=args_read B τs ts vs' ds' q hf.2 h2 fun j t v a b => hw (j + 1) t v (by simpa using a) (by simpa using b)
  refine ⟨a :: as,⟨g1,k1⟩,VRs.cons g2 k2,by simp [k3],?_,fun M hM => ⟨g4 M fun n hn => hM n (by simp [DataW.weightsEach,hn]),k5 M fun n hn => hM n (by simp [DataW.weightsEach,hn])⟩⟩
  have:=B.cons d ds'
  simp only [Ty.bulks]
  omega
theorem args_back {W W' : World} (hl : laidOutB P = true) (hb:Below W.heap.size W W') : ∀ (ts:List TypeId) (vs:List Value) (ds:List (DataW H)) (ps:List MemPlace),(ts.all fun t => P.readableRec t && decide (t < P.types.size)) = true →
  DataW.TrodAll enc P W 0 (fun _ => true) true ts vs ds ps → DataW.TrodAll enc P W' 0 (fun b => decide (b < W.heap.size)) true ts vs ds ps
 | [],vs,ds,ps,_,h => by
  obtain ⟨rfl,rfl,rfl⟩:=trodAll_nil h
  exact trodAll_mk0
 | t :: ts,vs,ds,ps,ht,h => by
  obtain ⟨v,vs',d,ds',p,q,rfl,rfl,rfl,h1,h2⟩:=trodAll_cons h
  simp only [List.all_cons,Bool.and_eq_true,decide_eq_true_eq] at ht
  have lt : ∀ x ∈ p,x.block < W.heap.size:=by obtain ⟨m,hm⟩:=h1; exact DataW.trod_lt m _ _ _ hm
  exact trodAll_cons_mk (Below.trod hl ht.1.1 ht.1.2 h1 hb lt) (args_back hl hb ts vs' ds' q (by simpa using ht.2) h2)
theorem le_sum : ∀ {l:List Nat} {n:Nat},n ∈ l → n ≤ l.sum
 | x :: l,n,h => by
  rw [List.sum_cons]
  rcases List.mem_cons.1 h with rfl | h
  ·omega
  ·have:=le_sum h; omega
theorem weightsEach_app : ∀ {ts us : List TypeId} {ds:List (DataW H)} {n:Nat},ds.length = ts.length → n ∈ DataW.weightsEach P ts ds → n ∈ DataW.weightsEach P (ts ++ us) ds
 | [],us,ds,n,_,h => by simp [DataW.weightsEach] at h
 | t :: ts,us,[],n,hl,h => by simp at hl
 | t :: ts,us,d :: ds,n,hl,h => by
  simp only [DataW.weightsEach,List.mem_append,List.cons_append] at h ⊢
  rcases h with h | h
  ·exact .inl h
  ·exact .inr (weightsEach_app (by simpa using hl) h)
theorem law_contract_sized (B:Bulk H) {N:Nat} {f:FuncId} {fn:Func} {s:ChangeSpec} {ts:List TypeId} {rt:TypeId} (τs:List Ty) (hv : s.vars = []) (hts : fn.params.toList = ts) (hrt : fn.resultTypes.toList = [rt]) (hrs : fn.resultTypes.size = 1) (hb:P.underlying rt = some .bool)
  (hfit : fitsAll P τs ts = true) (hlaid : laidOutB P = true) (hread:(ts.all fun t => P.readableRec t && decide (t < P.types.size)) = true)
  (hs:∀ ds : List (DataW H),ds.length = ts.length → s.fn H ds = { results:=[.lit (.bool true)],args:=ds })
  {W:World} {base:Nat} {args:Array Value} {ds gs : List (DataW H)} {before:List MemPlace}
  (hval:∀ (j:Nat) t v,fn.params[j]? = some t → args[j]? = some v → Value.okWide P W .any base t v)
  (hW:DataW.Whole enc P fn.params.toList s.vars false W args.toList ds gs before)
  (hN:B.ba ds ≤ N) {M:Nat} (hM:∀ n ∈ DataW.weightsEach P (fn.params.toList ++ s.plain.varTypes P) (ds ++ gs),n ≤ M) (law:∀ as,Ty.ones τs as → Ty.bulks τs as ≤ N → Ty.smalls M τs as → Triple P f as Hp.emp fun r _ => r = .bool true) :
  Calls P f args W fun e W' => ∃ v,e = .returned v∧s.post enc P fn false true false false W args v W':=by
 have hW':=hW
 obtain ⟨p,q,hA,hV,rfl,hfz,hnd⟩:=hW
 rw [hts] at hA
 rw [hv] at hV
 obtain ⟨rfl,rfl⟩:=trodVars_none hV
 obtain ⟨as,h1,h2,h3,h4,h5⟩:=args_read B τs ts args.toList ds p hfit hA fun j t v a b => hval j t v (by rw [← a,← hts]; simp) (by rw [← b]; simp)
 refine (entry (law as h1 (Nat.le_trans h4 hN) (h5 M fun n hn => hM n (by rw [hts,List.append_nil]; exact weightsEach_app h3 hn))) h2).mono fun e W' ⟨he,bel⟩ => ?_
 subst he
 refine ⟨_,rfl,ds,[],p ++ [],[],p,[],hW',?_,?_,?_,bel.frame _,fun h => by cases h⟩
 ·rw [List.append_nil,hs ds h3,hrt,hrs]
  exact trodAll_mk1 (shut_bool hb _)
 ·rw [List.append_nil,hs ds h3,hts]
  exact args_back hlaid bel ts _ ds p hread hA
 ·rw [hv,List.append_nil,hs ds h3]; rfl
theorem law_contract (B:Bulk H) {N:Nat} {f:FuncId} {fn:Func} {s:ChangeSpec} {ts:List TypeId} {rt:TypeId} (τs:List Ty) (hv : s.vars = []) (hts : fn.params.toList = ts) (hrt : fn.resultTypes.toList = [rt]) (hrs : fn.resultTypes.size = 1) (hb:P.underlying rt = some .bool)
  (hfit : fitsAll P τs ts = true) (hlaid : laidOutB P = true) (hread:(ts.all fun t => P.readableRec t && decide (t < P.types.size)) = true)
  (hs:∀ ds : List (DataW H),ds.length = ts.length → s.fn H ds = { results:=[.lit (.bool true)],args:=ds })
  {W:World} {base:Nat} {args:Array Value} {ds gs : List (DataW H)} {before:List MemPlace}
  (hval:∀ (j:Nat) t v,fn.params[j]? = some t → args[j]? = some v → Value.okWide P W .any base t v)
  (hW:DataW.Whole enc P fn.params.toList s.vars false W args.toList ds gs before)
  (hN:B.ba ds ≤ N) (law:∀ as,Ty.ones τs as → Ty.bulks τs as ≤ N → Triple P f as Hp.emp fun r _ => r = .bool true) :
  Calls P f args W fun e W' => ∃ v,e = .returned v∧s.post enc P fn false true false false W args v W' :=
 law_contract_sized B τs hv hts hrt hrs hb hfit hlaid hread hs hval hW hN (M:=(DataW.weightsEach P (fn.params.toList ++ s.plain.varTypes P) (ds ++ gs)).sum)
  (fun n hn => le_sum hn) fun as h1 h2 _ => law as h1 h2
end
def nums (l:List Int) : AV:=.lst (l.map fun k => [AV.int .i64 k])
theorem num_at {l:List Int} {i:Nat} (hi : i < l.length) : iaA 1 (nums l) (.int .i64 (i:Int)) = some (.ro [.int .i64 l[i]]):=ia_lst (f:=fun k => [AV.int .i64 k]) hi fun _ => rfl
theorem num_len {l:List Int} : lenL (nums l) = some (.int .i64 l.length):=by simp [nums,lenL]
theorem nums_of {a:AV} (h:(Ty.sl (.int .i64)).one a) : ∃ l : List Int,a = nums l∧l.length ≤ 9223372036854775807∧∀ k ∈ l,-9223372036854775808 ≤ k∧k ≤ 9223372036854775807:=by
 obtain ⟨es,rfl',h2,h3⟩:=h
 cases rfl'
 have : ∃ l : List Int,es = l.map (fun k => [AV.int .i64 k])∧∀ k ∈ l,-9223372036854775808 ≤ k∧k ≤ 9223372036854775807:=by
  clear h2
  induction es with
  | nil => exact ⟨[],rfl,by simp⟩
  | cons x es ih =>
   obtain ⟨b,rfl,hb⟩:=ih fun y hy => h3 y (List.mem_cons_of_mem _ hy)
   obtain ⟨n,rfl,hw⟩:=h3 x (List.mem_cons_self ..)
   simp only [Lit.wf,Bool.and_eq_true,decide_eq_true_eq] at hw
   refine ⟨n :: b,rfl,fun k hk => ?_⟩
   rcases List.mem_cons.1 hk with rfl | hk
   ·exact hw
   ·exact hb k hk
 obtain ⟨b,rfl,hb⟩:=this
 exact ⟨b,rfl,by have : (b.map fun k => [AV.int .i64 k]).length ≤ 9223372036854775807:=Nat.le_trans h2 (by decide); simpa using this,hb⟩
theorem int_of {a:AV} (h:(Ty.int .i64).one a) : ∃ n : Int,a = .int .i64 n∧-9223372036854775808 ≤ n∧n ≤ 9223372036854775807:=by
 obtain ⟨n,hn,hw⟩:=h
 cases hn
 simp only [Lit.wf,Bool.and_eq_true,decide_eq_true_eq] at hw
 exact ⟨n,rfl,hw⟩
theorem bool_of {a:AV} (h:Ty.bool.one a) : ∃ b : Bool,a = .bool b:=by
 obtain ⟨l,hl⟩:=h
 cases hl
 exact ⟨l,rfl⟩
theorem ones_nil {vs:List AV} (h:Ty.ones [] vs) : vs = []:=by
 cases vs with
 | nil => rfl
 | cons a l => exact h.elim
theorem ones_cons {τ:Ty} {τs:List Ty} {vs:List AV} (h:Ty.ones (τ :: τs) vs) : ∃ a l,vs = a :: l∧τ.one a∧Ty.ones τs l:=by
 cases vs with
 | nil => exact h.elim
 | cons a l => exact ⟨a,l,rfl,h.1,h.2⟩
end Go.Hz
/- Short names for what a function's form is made of. -/
namespace Go.Hz
abbrev T (n:Nat) : AE:=.tm n
abbrev I (n:Int) : AE:=.cs (.int .i64 n)
abbrev Z (d:Nat) (o:AOp) : AItem × List AItem:=(.mk (some d) o none,[])
abbrev Zm (d n : Nat) : AItem × List AItem:=(.mk (some d) (.mv (.tm n)) none,[])
def zp : Nat → Nat → List (AItem × List AItem)
 | _,0 => []
 | d,n + 1 => (.mk (some d) (.mv (.cs (.tup []))) none,[]) :: zp (d + 1) n
theorem zp_zero {d:Nat} : zp d 0 = []:=rfl
theorem zp_succ {d n : Nat} : zp d (n + 1) = (.mk (some d) (.mv (.cs (.tup []))) none,[]) :: zp (d + 1) n:=rfl
abbrev ZP (d n : Nat) : ACode:=.reg (zp d n)
attribute [go_sem] zp_zero zp_succ
end Go.Hz
/- The rules of a walk, as one set of the simplifier. -/
namespace Go.Hz
theorem wrap_i64_go {x:Int} (h1 : -9223372036854775808 ≤ x) (h2 : x ≤ 9223372036854775807) : IntKind.i64.wrap x = x:=by
 simp only [IntKind.wrap,IntKind.signed,IntKind.bits]
 simp
 omega
attribute [go_sem] run_skip run_reg run_seq run_cond run_block run_exit run_ret run_rangeF fall_nil fall_code fall_blk fall_lp out_nil out_code out_blk out_lp runS_nil cnd_true cnd_false nx_some nx_if nxh_some nxh_obl obls_nil obls_cons stab_ld stab_ldg stab_bs stab_bsg gd_bool gd_tup msl_inl msl_inr bsl_some runS_op opR ent_some ev_tm ev_cs evs_nil evs_cons evIdx_nil evIdx_cons evParts_nil evParts_cons oev_none oev_some Env.put_some Env.put_none true_and and_true List.getD_cons_zero List.getD_cons_succ initE binA pickA eqN_b eqN_pnn eqN_ppn eqN_pnp eqN_ppp eqN_prn eqN_snn eqN_san eqN_sen eqN_sln eqN_mnn eqN_mmn eqN_fnn eqN_ffn eqN_iin eqN_inn unA cviA strA ckA faA fldA ixsA iaA_arr lenS lenL_lst lenL_arr lenL_nils lenL_emp bstrA_nils capL extA mmA ldA cellsAt_ptr cellsAt_ro partA stA cells_bool atom_bool cells_int atom_int cells_str atom_str cells_nilp atom_nilp cells_ptr atom_ptr cells_ro atom_ro cells_nils atom_nils cells_lst atom_lst cells_arr atom_arr cells_nilm atom_nilm cells_map atom_map cells_fn atom_fn cells_nilf atom_nilf cells_yl atom_yl cells_nili atom_nili cells_iface atom_iface cells_agg List.map_cons List.map_nil List.getElem?_cons_zero List.drop_zero Option.map_some Option.map_none List.length_cons List.length_nil Hp.set_same forall_const implies_true List.not_mem_nil false_implies Bool.true_eq_false Bool.false_eq_true resK_nil resK_tmp resK_cell resK_more resL_nil resL_tmp resL_cell Option.bind_some ex_some true_implies setL List.replicate List.all_cons List.all_nil Bool.and_true Bool.true_and Bool.and_self IntKind.bits splice List.length_append List.drop_succ_cons List.take_succ_cons List.take_zero List.getElem?_cons_succ List.getElem?_nil List.set_cons_zero List.set_cons_succ List.cons_append List.nil_append List.append_nil Nat.zero_add Nat.add_zero decide_true decide_false Bool.not_true Bool.not_false ne_eq not_true_eq_false not_false_eq_true
attribute [go_sem ↓] Env.upd_apply
theorem bstr_lst {h:Hp} {bs:List UInt8} : bstrA h (.lst (bs.map eb)) = some (.str bs):=Bts.bstr (Els.lst (eb_one _))
theorem iaA_go {s b off len c : Nat} {k:IntKind} {n:Int} (h1 : 0 ≤ n) (h2 : n < len) : iaA s (.arr b s off len c) (.int k n) = some (.ptr b s (off + n.toNat) 0):=by
 simp [iaA,h1,h2]
attribute [go_sem] eq_self Int.cast_ofNat_Int List.length_map bstr_lst wrap_i64_go beq_self_eq_true bne_self_eq_false Hp.set_set fillA boxR iapA ixaA
attribute [go_sem high] iaA_go Int.toNat_natCast
end Go.Hz
/- Slices of one's own: made, copied into. -/
namespace Go.Hz
section
variable {P:Program} {st:List Fr} {e:Env} {k:Kt} {d:Option Nat} {r:List (AItem × List AItem)} {h:Hp} {F:List Asr}
theorem msl_use {s bytes n : Nat} {zs:List AV} {k1 k2 : IntKind} (hs : sat h F) (hn : n ≤ 140737488355328) (hb : n * bytes ≤ 140737488355328)
  (hk:∀ b h',sat h' (pto b (.row s (List.replicate n zs) n) :: F) → runS P r st (e.put d (.arr b s 0 n n)) h' k) :
  mslR P (mslA s bytes zs (.int k1 n) (.int k2 n)) d r st e h k:=by
 have e1 : mslA s bytes zs (.int k1 (n:Int)) (.int k2 (n:Int)) = some (.inr (.row s (List.replicate n zs) n,fun b => .arr b s 0 n n)):=by
  simp only [mslA]
  rw [if_pos ⟨by omega,by omega,by omega,by
   have : ((n * bytes : Nat) : Int) = (n:Int) * (bytes:Int):=by push_cast; rfl
   omega⟩]
  simp
 rw [e1]
 exact msl_inr.2 fun b hb => hk b _ (hs.new hb)
theorem cp_use {s b off len cap rc n : Nat} {es ys : List (List AV)} {src:AV} (hs : sat h (pto b (.row s es rc) :: F)) (h1 : off ≤ es.length) (h2 : off + len ≤ rc) (h3 : len ≤ cap) (hl : lenN src = some n)
  (hy : srcN s h src (min n len) = some ys) (ha:AtomsL ys)
  (hk:∀ h',sat h' (pto b (.row s (es.take off ++ ys ++ es.drop (off + min n len)) rc) :: F) → runS P r st (e.put d (.int .i64 (min n len : Nat))) h' k) :
  effR P (cpE s (.arr b s off len cap) src h) [] d r st e k:=by
 refine ⟨n,len,ys,hl,rfl,hy,ha,?_⟩
 have hb:=hs.at
 simp only [hb]
 exact ⟨trivial,trivial,h1,h2,h3,fun _ hm => by simp at hm,hk _ hs.set⟩
theorem slcL_hi {s b off len cap : Nat} {k2:IntKind} {y:Int} (h1 : 0 ≤ y) (h2 : y ≤ cap) (hl : len ≤ cap) :
  slcL s (.arr b s off len cap) none (some (.int k2 y)) = some (.arr b s off y.toNat cap):=by
 simp only [slcL,boundA]
 rw [if_pos h1]
 dsimp only
 rw [if_pos ⟨by omega,by omega,hl,trivial⟩]
 simp
theorem slcL_lo {s b off len cap : Nat} {k1:IntKind} {x:Int} (h0 : 0 ≤ x) (h1 : x ≤ len) (hl : len ≤ cap) :
  slcL s (.arr b s off len cap) (some (.int k1 x)) none = some (.arr b s (off + x.toNat) (len - x.toNat) (cap - x.toNat)):=by
 simp only [slcL,boundA]
 rw [if_pos h0]
 dsimp only
 rw [if_pos ⟨by omega,hl,hl,trivial⟩]
theorem clr_use {s b off len cap rc : Nat} {zs:List AV} {es:List (List AV)} (hs : sat h (pto b (.row s es rc) :: F)) (h1 : off ≤ es.length) (h2 : off + len ≤ rc)
  (hk:∀ h',sat h' (pto b (.row s (es.take off ++ List.replicate len zs ++ es.drop (off + len)) rc) :: F) → runS P r st (e.put d (.tup [])) h' k) :
  effR P (clrE s zs (.arr b s off len cap) h) [] d r st e k:=by
 unfold effR clrE
 dsimp only
 split
 ·rename_i h0
  subst h0
  have:=hk h (by simpa using hs)
  exact ⟨fun _ hm => by simp at hm,this⟩
 ·have hbb:=hs.at
  simp only [hbb]
  exact ⟨trivial,trivial,h1,h2,fun _ hm => by simp at hm,hk _ hs.set⟩
theorem src_part {s b off len c rc : Nat} {es:List (List AV)} (hs : sat h (pto b (.row s es rc) :: F)) (h1 : off + len ≤ es.length) : srcA s h (.arr b s off len c) = some ((es.drop off).take len):=by
 have hb:=hs.at
 simp only [srcA,hb]
 rw [if_pos ⟨trivial,trivial,h1⟩]
theorem app_satO {s bytes : Nat} {v y : AV} {es ys : List (List AV)} {obl:List AItem}
  (hs : sat h (Ow s v es :: F)) (hy : srcA s h y = some ys) (ha:AtomsL ys)
  (hb:(es.length + ys.length) * bytes ≤ 70368744177664) (hk:∀ v' h',sat h' (Ow s v' (es ++ ys) :: F) → v'.cells = [v'] → v'.isAtom = true → obls P obl (e.put d v') h'∧runS P r st (e.put d v') h' k) :
  effR P (appE s bytes v y h) obl d r st e k:=by
 refine ⟨ys,hy,ha,?_⟩
 rcases hs.cases with ⟨rfl,rfl,g⟩ | ⟨b,cap,rfl,g,hle⟩
 ·refine ⟨fun h0 => ?_,fun h0 => ⟨Nat.le_trans (by simpa using hb) (show 70368744177664 ≤ 140737488355328 by decide),fun n c hn hc => ?_⟩⟩
  ·have:=g.add (A:=Ow s .nils ([] ++ ys)) (.inl ⟨rfl,by simp [h0]⟩)
   exact hk _ _ this this.els.cells this.els.atom
  ·have:=(g.new (o:=.row s ys c) hn).ow hc
   have t : sat (h.set n (.row s ys c)) (Ow s (.arr n s 0 ys.length c) ([] ++ ys) :: F):=by simpa using this
   exact hk _ _ t t.els.cells t.els.atom
 ·have hbb:=g.at
  simp only [hbb]
  refine ⟨trivial,trivial,trivial,Nat.le_refl _,trivial,.inl hb,fun n c hn hc _ => ?_⟩
  rw [List.take_length]
  have:=((g.del).new (o:=.row s (es ++ ys) c) hn).ow (by simpa using hc)
  have t : sat ((h.del b).set n (.row s (es ++ ys) c)) (Ow s (.arr n s 0 (es.length + ys.length) c) (es ++ ys) :: F):=by simpa using this
  exact hk _ _ t t.els.cells t.els.atom
end
end Go.Hz
/- A row that is sorted: its elements, their loads and stores, what a comparing function must do; the plain laws of the sort are the kit's (Go.Sort). -/
namespace Go.Hz
open Go.Sort
def vl (ag:Bool) (x:List AV) : AV:=if ag then .agg x else x.headD .undef
structure GoodE (s:Nat) (ag:Bool) (G:List AV → Prop) : Prop where
 len : ∀ x,G x → x.length = s
 atoms : ∀ x,G x → x.all AV.isAtom = true
 cells : ∀ x,G x → (vl ag x).cells = x
 pos : 1 ≤ s
 one : ag = false → s = 1
def GA (G:List AV → Prop) (d:Array (List AV)) : Prop := ∀ i,i < d.size → G d[i]!
section
variable {s:Nat} {ag:Bool} {G:List AV → Prop} {d:Array (List AV)} {h:Hp} {b cap : Nat}
theorem row_get {i:Nat} (hi : i < d.size) : d.toList[i]? = some d[i]!:=by
 simp [hi]
theorem GA.set (hg:GA G d) {i:Nat} {x:List AV} (hx:G x) : GA G (d.setIfInBounds i x):=by
 intro k hk
 simp only [Array.size_setIfInBounds] at hk
 by_cases e : i = k
 ·subst e; simp [hk]; exact hx
 ·have : (d.setIfInBounds i x)[k]! = d[k]!:=by simp [Array.getElem!_eq_getD,Array.getD_eq_getD_getElem?,Array.getElem?_setIfInBounds,e]
  rw [this]; exact hg k hk
theorem GA.swp (hg:GA G d) {i j : Nat} (hi : i < d.size) (hj : j < d.size) : GA G (swp d i j):=(hg.set (hg j hj)).set (hg i hi)
theorem GA.perm (hg:GA G d) {d' : Array (List AV)} (hp:PermIn 0 d.size d d') : GA G d':=by
 intro i hi
 have:=permIn_all d d' 0 d.size G (Nat.le_refl _) hp (fun i _ h => hg i h) i (Nat.zero_le _) (by rw [← hp.1]; exact hi)
 exact this
end
section
variable {s:Nat} {G:List AV → Prop} {d:Array (List AV)}
theorem rd_c (E:GoodE s true G) (hg:GA G d) {i:Nat} (hi : i < d.size) : d.toList[i]? = some d[i]!∧s ≤ (d[i]!).length∧List.take s d[i]! = d[i]!:=by
 have h1:=E.len _ (hg i hi)
 exact ⟨row_get hi,by omega,List.take_of_length_le (by omega)⟩
theorem rd_o (E:GoodE s false G) (hg:GA G d) {i:Nat} (hi : i < d.size) : d.toList[i]? = some d[i]!∧(d[i]!)[0]? = some (vl false d[i]!):=by
 have h1:=E.len _ (hg i hi)
 refine ⟨row_get hi,?_⟩
 have hp:=E.pos
 generalize d[i]! = x at h1
 cases x with
 | nil => simp at h1; omega
 | cons y ys => simp [vl]
theorem sw_c (E:GoodE s true G) (hg:GA G d) {i j : Nat} (hi : i < d.size) (hj : j < d.size) :
  d.toList[i]? = some d[i]!∧s ≤ (d[i]!).length∧List.take s d[i]! = d[i]!∧d.toList[j]? = some d[j]!∧s ≤ (d[j]!).length∧List.take s d[j]! = d[j]! ∧
  (d[i]!).length = s∧(d[j]!).length = s∧(d[i]!).all AV.isAtom = true∧(d[j]!).all AV.isAtom = true∧List.drop s d[i]! = [] ∧
  (∃ y : List AV,(d.toList.set i d[j]!)[j]? = some y∧y.length = s∧s ≤ y.length∧List.drop s y = [])∧(d.toList.set i d[j]!).set j d[i]! = (swp d i j).toList:=by
 obtain ⟨a1,a2,a3⟩:=rd_c E hg hi
 obtain ⟨b1,b2,b3⟩:=rd_c E hg hj
 have g:=hg.set (i:=i) (hg j hj)
 obtain ⟨c1,c2,c3⟩:=rd_c E g (i:=j) (by simpa using hj)
 have hl:=E.len _ (g j (by simpa using hj))
 refine ⟨a1,a2,a3,b1,b2,b3,E.len _ (hg i hi),E.len _ (hg j hj),E.atoms _ (hg i hi),E.atoms _ (hg j hj),List.drop_eq_nil_of_le (by have:=E.len _ (hg i hi); omega),⟨_,by simpa using c1,hl,c2,List.drop_eq_nil_of_le (by omega)⟩,by simp [swp]⟩
theorem sw_o (E:GoodE s false G) (hg:GA G d) {i j : Nat} (hi : i < d.size) (hj : j < d.size) :
  d.toList[i]? = some d[i]!∧(d[i]!)[0]? = some (vl false d[i]!)∧d.toList[j]? = some d[j]!∧(d[j]!)[0]? = some (vl false d[j]!) ∧
  (d[i]!).length = s∧(d[j]!).length = s∧(d[i]!).all AV.isAtom = true∧(d[j]!).all AV.isAtom = true∧List.drop s d[i]! = []∧(vl false d[i]!).cells = d[i]!∧(vl false d[j]!).cells = d[j]! ∧
  (∃ y : List AV,(d.toList.set i d[j]!)[j]? = some y∧y.length = s∧s ≤ y.length∧List.drop s y = [])∧(d.toList.set i d[j]!).set j d[i]! = (swp d i j).toList:=by
 obtain ⟨a1,a2⟩:=rd_o E hg hi
 obtain ⟨b1,b2⟩:=rd_o E hg hj
 have g:=hg.set (i:=i) (hg j hj)
 obtain ⟨c1,c2⟩:=rd_o E g (i:=j) (by simpa using hj)
 have hl:=E.len _ (g j (by simpa using hj))
 refine ⟨a1,a2,b1,b2,E.len _ (hg i hi),E.len _ (hg j hj),E.atoms _ (hg i hi),E.atoms _ (hg j hj),List.drop_eq_nil_of_le (by have:=E.len _ (hg i hi); omega),E.cells _ (hg i hi),E.cells _ (hg j hj),⟨_,by simpa using c1,hl,by omega,List.drop_eq_nil_of_le (by omega)⟩,by simp [swp]⟩
end
theorem wu64 {n:Nat} (h : n < 18446744073709551616) : IntKind.u64.wrap (n:Int) = (n:Int):=by simp [IntKind.wrap,IntKind.signed,IntKind.bits]; omega
theorem wi64 {n:Nat} (h : n < 9223372036854775808) : IntKind.i64.wrap (n:Int) = (n:Int):=by simp [IntKind.wrap,IntKind.signed,IntKind.bits]; omega
theorem and_lt (x:Int) {m:Nat} (hm : m < 18446744073709551616) : ∃ n : Nat,bitsA .and .u64 x (m:Int) = (n:Int)∧n ≤ m:=by
 refine ⟨(BitVec.ofInt 64 x &&& BitVec.ofInt 64 (m:Int)).toNat,?_,?_⟩
 ·show IntKind.u64.wrap _ = _
  exact wu64 (BitVec.isLt _)
 ·rw [BitVec.toNat_and]
  refine Nat.le_trans Nat.and_le_right ?_
  rw [BitVec.toNat_ofInt]
  omega
def tabOK (l:List UInt8) : Bool:=(List.range 256).all fun k => match l[k]? with
 | some b => decide (k < 2 ^ b.toNat) && (k == 0 || decide (2 ^ b.toNat ≤ 2 * k)) && decide (b.toNat ≤ 8)
 | none => false
theorem ixs_use {P:Program} {st:List Fr} {e:Env} {h:Hp} {kt:Kt} {dd:Option Nat} {r:List (AItem × List AItem)} {l:List UInt8} (hl : tabOK l = true) {k:Nat} (hk : k < 256)
  (hc:∀ t : Nat,k < 2 ^ t → (1 ≤ k → 2 ^ t ≤ 2 * k) → t ≤ 8 → runS P r st (e.put dd (.int .u8 t)) h kt) :
  nx P (if (0:Int) ≤ (k:Int) then Option.map (fun b : UInt8 => AV.int .u8 (b.toNat : Int)) l[((k:Int)).toNat]? else none) dd r st e h kt:=by
 have h1:=List.all_eq_true.1 hl k (by simpa using hk)
 rw [if_pos (by omega),Int.toNat_natCast]
 cases hb : l[k]? with
 | none => rw [hb] at h1; cases h1
 | some b =>
  rw [hb] at h1
  simp only [Bool.and_eq_true,Bool.or_eq_true,decide_eq_true_eq,beq_iff_eq] at h1
  exact ⟨_,rfl,hc _ h1.1.1 (fun h => h1.1.2.resolve_left (by omega)) h1.2⟩
theorem run_cut {P:Program} {c:ACode} {st:List Fr} {e:Env} {h:Hp} {k:Kt} (Q:Env → Hp → Prop) (hq:Q e h) (hk:∀ e h,Q e h → run P c st e h k) : run P c st e h k:=hk e h hq
def CmpT (P:Program) (ag:Bool) (G:List AV → Prop) (lt:List AV → List AV → Bool) (f:Nat) (caps:List AV) : Prop :=
 ∀ (x y : List AV) (L:List Asr) (h:Hp),G x → G y → sat h L → Triple P f ([vl ag x,vl ag y] ++ caps) h (fun r h => ∃ c : Int,r = .int .i64 c∧decide (c < 0) = lt x y∧sat h L)
def LessT (P:Program) (ag:Bool) (G:List AV → Prop) (lt:List AV → List AV → Bool) (f:Nat) : Prop :=
 ∀ (x y : List AV) (L:List Asr) (h:Hp),G x → G y → sat h L → Triple P f [vl ag x,vl ag y] h (fun r h => r = .bool (lt x y)∧sat h L)
end Go.Hz
/- Keys in order; lists that are woven; parts of a heap in another order; slices.Insert's steps. -/
namespace Go.Hz
section
variable {h:Hp} {l l' F : List Asr} {A B : Asr}
theorem sat.perm (p : l.Perm l') : ∀ {h:Hp},sat h l → sat h l':=by
 induction p with
 | nil => exact fun hs => hs
 | cons A _ ih => exact fun hs => hs.tl fun _ g => ih g
 | swap A B l => exact fun hs => hs.swap
 | trans _ _ ih1 ih2 => exact fun hs => ih2 (ih1 hs)
theorem sat.mid {l1 l2 : List Asr} (hs : sat h (l1 ++ A :: l2)) : sat h (A :: (l1 ++ l2)):=hs.perm List.perm_middle
theorem sat.unmid {l1 l2 : List Asr} (hs : sat h (A :: (l1 ++ l2))) : sat h (l1 ++ A :: l2):=hs.perm List.perm_middle.symm
theorem sat.comm {l1 l2 : List Asr} (hs : sat h (l1 ++ l2)) : sat h (l2 ++ l1):=hs.perm List.perm_append_comm
theorem sat.left {l1 l2 : List Asr} (hs : sat h (l1 ++ l2)) : sat h l1:=by
 induction l1 generalizing h with
 | nil => trivial
 | cons A l1 ih => exact hs.tl fun _ g => ih g
theorem sat.right {l1 l2 : List Asr} (hs : sat h (l1 ++ l2)) : sat h l2:=hs.comm.left
end
abbrev Key:=List UInt8
def ltK (a b : Key) : Bool:=Op.bytesLess a b
theorem ltK_irrefl : ∀ a : Key,ltK a a = false
 | [] => rfl
 | x :: a => by
  have:=ltK_irrefl a
  simp only [ltK,Op.bytesLess] at this ⊢
  simp [this]
theorem ltK_eq : ∀ (x y : Key),ltK x y = decide (x < y)
 | [],[] => by simp [ltK,Op.bytesLess]
 | [],y :: ys => by simp [ltK,Op.bytesLess]
 | x :: xs,[] => by simp [ltK,Op.bytesLess]
 | x :: xs,y :: ys => by
  have ih:=ltK_eq xs ys
  simp only [ltK] at ih
  simp only [ltK,Op.bytesLess,ih]
  by_cases h1 : x < y
  ·simp [h1,List.cons_lt_cons_iff]
  ·by_cases h2 : x = y
   ·subst h2; simp [List.cons_lt_cons_iff]
   ·simp [h1,h2,List.cons_lt_cons_iff]
theorem ltK_lt {a b : Key} : ltK a b = true ↔ a < b:=by rw [ltK_eq]; simp
theorem ltK_ge {a b : Key} : ltK a b = false ↔ ¬ a < b:=by rw [ltK_eq]; simp
theorem ltK_trans {a b c : Key} (h1 : ltK a b = true) (h2 : ltK b c = true) : ltK a c = true:=ltK_lt.2 (List.lt_trans (ltK_lt.1 h1) (ltK_lt.1 h2))
theorem ltK_total {a b : Key} (h1 : ltK a b = false) (h2 : ltK b a = false) : a = b:=by
 have h1:=ltK_ge.1 h1
 have h2:=ltK_ge.1 h2
 exact List.le_antisymm (List.not_lt.1 h2) (List.not_lt.1 h1)
theorem ltK_lt_of_lt_of_ge {a b c : Key} (h1 : ltK a b = true) (h2 : ltK c b = false) : ltK a c = true:=by
 by_cases h : ltK b c = true
 ·exact ltK_trans h1 h
 ·have:=ltK_total (by simpa using h) h2
  subst this; exact h1
abbrev Kp:=Nat × Key
def kpt (x:Kp) : List AV:=[.ptr x.1 2 0 0]
def Srt (l:List Kp) : Prop:=l.Pairwise fun x y => ltK x.2 y.2 = true
theorem Srt.app {l1 l2 : List Kp} : Srt (l1 ++ l2) ↔ Srt l1∧Srt l2∧∀ x ∈ l1,∀ y ∈ l2,ltK x.2 y.2 = true:=List.pairwise_append
def insK (x:Kp) (l:List Kp) : List Kp:=l.takeWhile (fun y => ltK y.2 x.2) ++ x :: l.dropWhile (fun y => ltK y.2 x.2)
def findKp (k:Key) (l:List Kp) : Option Kp:=l.find? fun y => y.2 == k
theorem takeWhile_all {α:Type} {p : α → Bool} {A l : List α} (h:∀ x ∈ A,p x = true) : (A ++ l).takeWhile p = A ++ l.takeWhile p:=by
 induction A with
 | nil => rfl
 | cons x A ih => simp [h x (by simp),ih fun y hy => h y (by simp [hy])]
theorem dropWhile_all {α:Type} {p : α → Bool} {A l : List α} (h:∀ x ∈ A,p x = true) : (A ++ l).dropWhile p = l.dropWhile p:=by
 induction A with
 | nil => rfl
 | cons x A ih => simp [h x (by simp),ih fun y hy => h y (by simp [hy])]
theorem takeWhile_stop {α:Type} {p : α → Bool} {M C : List α} (h:∀ x ∈ C.head?,p x = false) : (M ++ C).takeWhile p = M.takeWhile p:=by
 induction M with
 | nil => cases C with
  | nil => rfl
  | cons x C => simp [h x (by simp)]
 | cons x M ih => simp only [List.cons_append,List.takeWhile_cons,ih]
theorem dropWhile_stop {α:Type} {p : α → Bool} {M C : List α} (h:∀ x ∈ C.head?,p x = false) : (M ++ C).dropWhile p = M.dropWhile p ++ C:=by
 induction M with
 | nil => cases C with
  | nil => rfl
  | cons x C => simp [h x (by simp)]
 | cons x M ih => simp only [List.cons_append,List.dropWhile_cons,ih]; split <;> rfl
theorem insK_mid {x:Kp} {A M C : List Kp} (h1:∀ y ∈ A,ltK y.2 x.2 = true) (h2:∀ y ∈ C.head?,ltK y.2 x.2 = false) : insK x (A ++ M ++ C) = A ++ insK x M ++ C:=by
 unfold insK
 rw [List.append_assoc,takeWhile_all h1,dropWhile_all h1,takeWhile_stop h2,dropWhile_stop h2]
 simp
theorem insK_split {x:Kp} {A C : List Kp} (h1:∀ y ∈ A,ltK y.2 x.2 = true) (h2:∀ y ∈ C.head?,ltK y.2 x.2 = false) : insK x (A ++ C) = A ++ x :: C:=by
 have:=insK_mid (M:=[]) h1 h2
 simpa [insK] using this
theorem insK_len {x:Kp} {l:List Kp} : (insK x l).length = l.length + 1:=by
 have : l.takeWhile (fun y => ltK y.2 x.2) ++ l.dropWhile (fun y => ltK y.2 x.2) = l:=List.takeWhile_append_dropWhile
 unfold insK
 have h2:=congrArg List.length this
 simp only [List.length_append,List.length_cons] at h2 ⊢
 omega
theorem Srt.cut {l:List Kp} (hs:Srt l) (k:Key) : ∃ A C,l = A ++ C∧(∀ y ∈ A,ltK y.2 k = true)∧(∀ y ∈ C,ltK y.2 k = false):=by
 refine ⟨l.takeWhile (fun y => ltK y.2 k),l.dropWhile (fun y => ltK y.2 k),List.takeWhile_append_dropWhile.symm,fun y hy => (List.all_takeWhile (p:=fun y : Kp => ltK y.2 k) (l:=l) |> fun h => List.all_eq_true.1 h y hy),?_⟩
 induction l with
 | nil => intro y hy; simp at hy
 | cons x l ih =>
  have h1:=List.pairwise_cons.1 hs
  intro y hy
  simp only [List.dropWhile_cons] at hy
  split at hy
  ·exact ih h1.2 y hy
  ·rename_i hx
   rcases List.mem_cons.1 hy with rfl | hy
   ·simpa using hx
   ·cases hyk : ltK y.2 k with
    | false => rfl
    | true => exact absurd (ltK_trans (h1.1 y hy) hyk) (by simpa using hx)
def weave {α:Type} : List (List α) → List α → List α
 | [],is => is
 | l :: ls,[] => l ++ ls.flatten
 | l :: ls,i :: is => l ++ i :: weave ls is
theorem weave_cut {α:Type} : ∀ (ls1 ls2 : List (List α)) (is1 is2 : List α) (m : α),ls1.length = is1.length + 1 → weave (ls1 ++ ls2) (is1 ++ m :: is2) = weave ls1 is1 ++ m :: weave ls2 is2
 | [],_,_,_,_,h => by simp at h
 | [l],ls2,[],is2,m,_ => by simp [weave]
 | l :: l' :: ls,_,[],_,_,h => by simp at h
 | l :: ls1,ls2,i :: is1,is2,m,h => by
  have:=weave_cut ls1 ls2 is1 is2 m (by simpa using h)
  simp [weave,this]
theorem weave_split {α:Type} : ∀ (ls:List (List α)) (is:List α) (j:Nat),ls.length = is.length + 1 → (hj : j ≤ is.length) →
  ∃ A C,weave ls is = A ++ ls.getD j [] ++ C∧(∀ m,weave (ls.set j m) is = A ++ m ++ C)∧(∀ m1 x m2,weave (ls.take j ++ m1 :: m2 :: ls.drop (j + 1)) (is.take j ++ x :: is.drop j) = A ++ m1 ++ x :: m2 ++ C) ∧
   (j = 0∧A = [] ∨ 0 < j∧∃ y,A.getLast? = some y∧is[j - 1]? = some y)∧C.head? = is[j]?
 | [],_,_,h,_ => by simp at h
 | l :: ls,[],j,h,hj => by
  have h0 : ls = []:=by simpa using h
  have h1 : j = 0:=by simpa using hj
  subst h0; subst h1
  exact ⟨[],[],by simp [weave],fun m => by simp [weave],fun m1 x m2 => by simp [weave],by simp,by simp⟩
 | l :: ls,i :: is,0,h,_ => by
  refine ⟨[],i :: weave ls is,by simp [weave],fun m => by simp [weave],fun m1 x m2 => by simp [weave],by simp,by simp⟩
 | l :: ls,i :: is,j + 1,h,hj => by
  obtain ⟨A,C,h1,h2,h3,h4,h5⟩:=weave_split ls is j (by simpa using h) (by simpa using hj)
  refine ⟨l ++ i :: A,C,by simp [weave,h1],fun m => by simp [weave,h2],fun m1 x m2 => by simp [weave,h3],.inr ⟨Nat.succ_pos _,?_⟩,by simpa using h5⟩
  rw [Nat.add_sub_cancel]
  rcases h4 with ⟨rfl,rfl⟩ | ⟨h4,y,g1,g2⟩
  ·exact ⟨i,by simp,by simp⟩
  ·obtain ⟨j',rfl⟩ : ∃ j',j = j' + 1:=⟨j - 1,by omega⟩
   exact ⟨y,by simp [List.getLast?_cons,g1],by simpa using g2⟩
section
variable {P:Program} {st:List Fr} {e:Env} {k:Kt} {d:Option Nat} {r:List (AItem × List AItem)} {h:Hp} {F:List Asr}
theorem appz_use {s bytes b i m cap rc : Nat} {ki:IntKind} {zs:List AV} {es:List (List AV)} (hs : sat h (pto b (.row s es rc) :: F)) (h1 : i ≤ es.length) (h2 : cap < i + m) (h3:(i + m) * bytes ≤ 70368744177664)
  (hk:∀ b2 c h',i + m ≤ c → sat h' (pto b2 (.row s (es.take i ++ List.replicate m zs) c) :: pto b (.row s es rc) :: F) → runS P r st (e.put d (.arr b2 s 0 (i + m) c)) h' k) :
  effR P (appzE s bytes zs (.arr b s 0 i cap) (.int ki m) h) [] d r st e k:=by
 refine ⟨by omega,?_⟩
 have hb:=hs.at
 simp only [hb,Int.toNat_natCast]
 exact ⟨trivial,trivial,trivial,h1,h2,h3,fun n c hn hc => ⟨fun _ hm => by simp at hm,hk n c _ hc (hs.new hn)⟩⟩
theorem ovl_use {s b b2 off len cap off2 len2 cap2 rc rc2 : Nat} {es es2 : List (List AV)} (hs : sat h (pto b (.row s es rc) :: pto b2 (.row s es2 rc2) :: F)) (h1 : off + len ≤ rc) (h2 : 0 < len) (h3 : 0 < len2)
  (hk:∀ q : Bool,runS P r st (e.put d (.bool q)) h k) : effR P (ovlE s (.arr b s off len cap) (.arr b2 s off2 len2 cap2) h) [] d r st e k:=by
 refine ⟨hs.ne,?_,?_,h2,h3,⟨fun _ hm => by simp at hm,hk false⟩,⟨fun _ hm => by simp at hm,hk true⟩⟩
 ·have hb:=hs.at
  simp only [hb]
  exact ⟨trivial,trivial,h1⟩
 ·have hb:=hs.p1.at
  simp only [hb]
theorem srcN_part {s b off len c rc n : Nat} {es:List (List AV)} (hs : sat h (pto b (.row s es rc) :: F)) (h0 : n ≤ len) (h1 : off + n ≤ es.length) : srcN s h (.arr b s off len c) n = some ((es.drop off).take n):=by
 have hb:=hs.at
 simp only [srcN,hb]
 rw [if_pos ⟨trivial,trivial,h0,h1⟩]
end
theorem AtomsL.take {es:List (List AV)} {n:Nat} (h:AtomsL es) : AtomsL (es.take n):=fun e he => h e (List.mem_of_mem_take he)
theorem AtomsL.drop {es:List (List AV)} {n:Nat} (h:AtomsL es) : AtomsL (es.drop n):=fun e he => h e (List.mem_of_mem_drop he)
theorem AtomsL.app {es es2 : List (List AV)} (h:AtomsL es) (h2:AtomsL es2) : AtomsL (es ++ es2):=fun e he => (List.mem_append.1 he).elim (h e) (h2 e)
def pt (p:Nat) : List AV:=[.ptr p 2 0 0]
structure PlaceR (is:List Kp) (key:Key) (j:Nat) (q:Bool) : Prop where
 le : j ≤ is.length
 lo : ∀ i x,is[i]? = some x → i < j → ltK x.2 key = true
 hi : ∀ i x,is[i]? = some x → j ≤ i → ltK x.2 key = false
 yes : q = true → ∃ a,is[j]? = some (a,key)
 no : q = false → ∀ x,is[j]? = some x → ltK key x.2 = true
theorem Srt.le_last {A:List Kp} {y:Kp} {k:Key} (hs:Srt A) (hl:A.getLast? = some y) (hy : ltK y.2 k = true) : ∀ z ∈ A,ltK z.2 k = true:=by
 intro z hz
 have hne : A ≠ []:=fun h => by subst h; cases hz
 have e : A.dropLast ++ [y] = A:=by
  have:=List.dropLast_concat_getLast hne
  rw [List.getLast?_eq_some_getLast hne] at hl
  cases hl; exact this
 rw [← e] at hz hs
 rcases List.mem_append.1 hz with h | h
 ·exact ltK_trans ((Srt.app.1 hs).2.2 z h y (by simp)) hy
 ·simp at h; subst h; exact hy
theorem Srt.ge_head {C:List Kp} {k:Key} (hs:Srt C) (hy:∀ y ∈ C.head?,ltK y.2 k = false) : ∀ z ∈ C,ltK z.2 k = false:=by
 cases C with
 | nil => intro z hz; cases hz
 | cons c C =>
  have h0:=hy c (by simp)
  intro z hz
  rcases List.mem_cons.1 hz with rfl | hz
  ·exact h0
  ·have:=(List.pairwise_cons.1 hs).1 z hz
   cases h : ltK z.2 k with
   | false => rfl
   | true => rw [ltK_trans this h] at h0; cases h0
theorem Srt.gt_head {C:List Kp} {k:Key} (hs:Srt C) (hy:∀ y ∈ C.head?,ltK k y.2 = true) : ∀ z ∈ C,ltK k z.2 = true:=by
 cases C with
 | nil => intro z hz; cases hz
 | cons c C =>
  have h0:=hy c (by simp)
  intro z hz
  rcases List.mem_cons.1 hz with rfl | hz
  ·exact h0
  ·exact ltK_trans h0 ((List.pairwise_cons.1 hs).1 z hz)
theorem PlaceR.cut {ls:List (List Kp)} {is:List Kp} {key:Key} {j:Nat} {q:Bool} (hp:PlaceR is key j q) (hl : ls.length = is.length + 1) (hs:Srt (weave ls is)) :
  ∃ A C,weave ls is = A ++ ls.getD j [] ++ C∧(∀ m,weave (ls.set j m) is = A ++ m ++ C)∧(∀ m1 x m2,weave (ls.take j ++ m1 :: m2 :: ls.drop (j + 1)) (is.take j ++ x :: is.drop j) = A ++ m1 ++ x :: m2 ++ C) ∧
   (∀ y ∈ A,ltK y.2 key = true)∧(∀ y ∈ C,ltK y.2 key = false)∧(q = false → ∀ y ∈ C,ltK key y.2 = true)∧C.head? = is[j]?:=by
 obtain ⟨A,C,h1,h2,h3,h4,h5⟩:=weave_split ls is j hl hp.le
 rw [h1] at hs
 have sA:=(Srt.app.1 (Srt.app.1 hs).1).1
 have sC:=(Srt.app.1 hs).2.1
 refine ⟨A,C,h1,h2,h3,?_,sC.ge_head fun y hy => hp.hi j y (by rw [← h5]; exact hy) (Nat.le_refl _),fun hq => sC.gt_head fun y hy => hp.no hq y (by rw [← h5]; exact hy),h5⟩
 rcases h4 with ⟨_,rfl⟩ | ⟨hj,y,g1,g2⟩
 ·intro y hy; cases hy
 ·exact sA.le_last g1 (hp.lo (j - 1) y g2 (by omega))
theorem findKp_mem {l:List Kp} {x:Kp} (hs:Srt l) (hx : x ∈ l) : findKp x.2 l = some x:=by
 induction l with
 | nil => cases hx
 | cons y l ih =>
  have h1:=List.pairwise_cons.1 hs
  unfold findKp
  rw [List.find?_cons]
  rcases List.mem_cons.1 hx with rfl | hx
  ·simp
  ·have:=h1.1 x hx
   have hne : (y.2 == x.2) = false:=by
    rw [beq_eq_false_iff_ne]; intro h; rw [h,ltK_irrefl] at this; cases this
   rw [hne]; exact ih h1.2 hx
theorem findKp_none {l:List Kp} {k:Key} (h:∀ x ∈ l,x.2 ≠ k) : findKp k l = none:=List.find?_eq_none.2 fun x hx => by simpa using h x hx
theorem findKp_mid {A M C : List Kp} {k:Key} (h1:∀ y ∈ A,ltK y.2 k = true) (h2:∀ y ∈ C,ltK k y.2 = true) : findKp k (A ++ M ++ C) = findKp k M:=by
 have hA : findKp k A = none:=findKp_none fun x hx h => by have:=h1 x hx; rw [h,ltK_irrefl] at this; cases this
 have hC : findKp k C = none:=findKp_none fun x hx h => by have:=h2 x hx; rw [h,ltK_irrefl] at this; cases this
 unfold findKp at *
 rw [List.find?_append,List.find?_append,hA,hC]
 simp
theorem mem_weave {α:Type} {x : α} : ∀ (ls:List (List α)) (is:List α),x ∈ is → x ∈ weave ls is
 | [],is,h => h
 | l :: ls,[],h => by cases h
 | l :: ls,i :: is,h => by
  rcases List.mem_cons.1 h with rfl | h
  ·simp [weave]
  ·simp [weave,mem_weave ls is h]
theorem mem_weave2 {α:Type} {x : α} : ∀ (ls:List (List α)) (is:List α) (l:List α),ls.length = is.length + 1 → l ∈ ls → x ∈ l → x ∈ weave ls is
 | [],is,l,h,h2,_ => by cases h2
 | l' :: ls,[],l,h,h2,h3 => by
  have : ls = []:=by simpa using h
  subst this
  simp at h2; subst h2; simpa [weave] using h3
 | l' :: ls,i :: is,l,h,h2,h3 => by
  rcases List.mem_cons.1 h2 with rfl | h2
  ·simp [weave,h3]
  ·simp [weave,mem_weave2 ls is l (by simpa using h) h2 h3]
theorem weave_srt : ∀ (ls:List (List Kp)) (is:List Kp),Srt (weave ls is) → Srt is
 | [],is,h => h
 | l :: ls,[],_ => List.Pairwise.nil
 | l :: ls,i :: is,h => by
  have h1:=(Srt.app.1 h).2.1
  have h2:=List.pairwise_cons.1 h1
  exact List.pairwise_cons.2 ⟨fun y hy => h2.1 y (mem_weave ls is hy),weave_srt ls is h2.2⟩
inductive Tr where
 | nd (p:Nat) (iv kv : AV) (is:List Kp) (ks:List Tr)
def Tr.root : Tr → Nat
 | .nd p _ _ _ _ => p
mutual
def Tr.flat : Tr → List Kp
 | .nd _ _ _ is ks => weave (Tr.flats ks) is
def Tr.flats : List Tr → List (List Kp)
 | [] => []
 | k :: ks => k.flat :: Tr.flats ks
end
theorem Tr.flats_map : ∀ ks : List Tr,Tr.flats ks = ks.map Tr.flat
 | [] => by simp [Tr.flats]
 | k :: ks => by simp [Tr.flats,Tr.flats_map ks]
theorem Tr.flat_nd {p:Nat} {iv kv : AV} {is:List Kp} {ks:List Tr} : (Tr.nd p iv kv is ks).flat = weave (ks.map Tr.flat) is:=by rw [Tr.flat,Tr.flats_map]
mutual
def Tr.asr : Tr → Asr
 | .nd p iv kv is ks => fun h => sat h (pto p (.row 2 [[iv,kv]] 1) :: Ow 1 iv (is.map kpt) :: Ow 1 kv (ks.map fun k => pt k.root) :: Tr.asrs ks)
def Tr.asrs : List Tr → List Asr
 | [] => []
 | k :: ks => k.asr :: Tr.asrs ks
end
theorem Tr.asrs_map : ∀ ks : List Tr,Tr.asrs ks = ks.map Tr.asr
 | [] => by simp [Tr.asrs]
 | k :: ks => by simp [Tr.asrs,Tr.asrs_map ks]
def Tr.parts (p:Nat) (iv kv : AV) (is:List Kp) (ks:List Tr) : List Asr:=pto p (.row 2 [[iv,kv]] 1) :: Ow 1 iv (is.map kpt) :: Ow 1 kv (ks.map fun k => pt k.root) :: ks.map Tr.asr
theorem Tr.asr_nd {p:Nat} {iv kv : AV} {is:List Kp} {ks:List Tr} {h:Hp} : (Tr.nd p iv kv is ks).asr h ↔ sat h (Tr.parts p iv kv is ks):=by rw [Tr.asr,Tr.asrs_map]; exact Iff.rfl
theorem sat_nd {p:Nat} {iv kv : AV} {is:List Kp} {ks:List Tr} {h:Hp} {F:List Asr} : sat h ((Tr.nd p iv kv is ks).asr :: F) ↔ sat h (Tr.parts p iv kv is ks ++ F):=by
 rw [← sat_sl]
 exact ⟨fun hs => hs.imp fun _ g => Tr.asr_nd.1 g,fun hs => hs.imp fun _ g => Tr.asr_nd.2 g⟩
def OKd : Nat → Tr → Prop
 | 0,.nd _ _ _ is ks => is.length ≤ 5∧ks = []
 | d + 1,.nd _ _ _ is ks => 1 ≤ is.length∧is.length ≤ 5∧ks.length = is.length + 1∧∀ k ∈ ks,OKd d k∧k.flat ≠ []
structure NR (p:Nat) (iv kv : AV) (is:List Kp) (h:Hp) : Prop where
 nd : h p = some (.row 2 [[iv,kv]] 1)
 it : Ow 1 iv (is.map kpt) h
 ks : ∀ x ∈ is,∃ mv,h x.1 = some (.row 2 [[.str x.2,mv]] 1)
def RT : Nat → Tr → Hp → Prop
 | 0,.nd p iv kv is ks,h => NR p iv kv is h∧Ow 1 kv (ks.map fun k => pt k.root) h
 | d + 1,.nd p iv kv is ks,h => NR p iv kv is h∧Ow 1 kv (ks.map fun k => pt k.root) h∧∀ k ∈ ks,RT d k h
theorem Ow.mono {s:Nat} {v:AV} {es:List (List AV)} : Mono (Ow s v es):=fun h S o => by
 rcases o with o | ⟨b,cap,h1,h2,h3⟩
 ·exact .inl o
 ·exact .inr ⟨b,cap,h1,(res_some h2).2,h3⟩
theorem sat.owr {s:Nat} {v:AV} {es:List (List AV)} {h:Hp} {F:List Asr} (hs : sat h (Ow s v es :: F)) : Ow s v es h:=hs.hd Ow.mono fun _ o => o
def IR (l:List Kp) (h:Hp) : Prop := ∀ x ∈ l,∃ mv,h x.1 = some (.row 2 [[.str x.2,mv]] 1)
theorem RT.of : ∀ (d:Nat) (t:Tr) {h:Hp} {F:List Asr},OKd d t → sat h (t.asr :: F) → IR t.flat h → RT d t h
 | 0,.nd p iv kv is ks,h,F,ok,hs,hi => by
  have hs:=sat_nd.1 hs
  rw [Tr.flat_nd] at hi
  exact ⟨⟨hs.at,hs.drop.owr,fun x hx => hi x (mem_weave _ _ hx)⟩,hs.drop.drop.owr⟩
 | d + 1,.nd p iv kv is ks,h,F,ok,hs,hi => by
  have hs:=sat_nd.1 hs
  obtain ⟨o1,o2,o3,o4⟩:=ok
  rw [Tr.flat_nd] at hi
  refine ⟨⟨hs.at,hs.drop.owr,fun x hx => hi x (mem_weave _ _ hx)⟩,hs.drop.drop.owr,fun k hk => ?_⟩
  obtain ⟨k1,k2,rfl⟩:=List.append_of_mem hk
  have g : sat h ((k1 ++ k :: k2).map Tr.asr ++ F):=hs.drop.drop.drop
  rw [List.map_append,List.map_cons,List.append_assoc,List.cons_append] at g
  exact RT.of d k (o4 k hk).1 g.mid fun x hx => hi x (mem_weave2 _ _ k.flat (by simpa using o3) (List.mem_map_of_mem hk) hx)
theorem RT.nr {d:Nat} {p:Nat} {iv kv : AV} {is:List Kp} {ks:List Tr} {h:Hp} (r:RT d (.nd p iv kv is ks) h) : NR p iv kv is h:=by
 cases d with
 | zero => exact r.1
 | succ d => exact r.1
theorem RT.kv {d:Nat} {p:Nat} {iv kv : AV} {is:List Kp} {ks:List Tr} {h:Hp} (r:RT d (.nd p iv kv is ks) h) : Ow 1 kv (ks.map fun k => pt k.root) h:=by
 cases d with
 | zero => exact r.2
 | succ d => exact r.2.1
theorem Ow.len {s:Nat} {v:AV} {es:List (List AV)} {h:Hp} (o:Ow s v es h) : lenL v = some (.int .i64 es.length):=by
 rcases o with ⟨rfl,rfl⟩ | ⟨b,cap,rfl,h2,h3⟩ <;> rfl
theorem Ow.row {s:Nat} {v:AV} {es:List (List AV)} {h:Hp} (o:Ow s v es h) {i:Nat} {x:List AV} (hi : es[i]? = some x) : ∃ b cap,v = .arr b s 0 es.length cap∧h b = some (.row s es cap)∧es.length ≤ cap:=by
 rcases o with ⟨rfl,rfl⟩ | ⟨b,cap,rfl,h2,h3⟩
 ·simp at hi
 ·exact ⟨b,cap,rfl,h2,h3⟩
section
variable {h:Hp}
theorem NR.arr {p:Nat} {iv kv : AV} {is:List Kp} (r:NR p iv kv is h) {i:Nat} {x:Kp} (hi : is[i]? = some x) : ∃ b cap,iv = .arr b 1 0 is.length cap∧h b = some (.row 1 (is.map kpt) cap):=by
 rcases r.it with ⟨_,h0⟩ | ⟨b,cap,h1,h2,h3⟩
 ·have : is = []:=by simpa using h0
  subst this; simp at hi
 ·rw [List.length_map] at h1
  exact ⟨b,cap,h1,h2⟩
theorem NR.len {p:Nat} {iv kv : AV} {is:List Kp} (r:NR p iv kv is h) : lenL iv = some (.int .i64 is.length):=by
 rcases r.it with ⟨h1,h0⟩ | ⟨b,cap,h1,h2,h3⟩
 ·have : is = []:=by simpa using h0
  subst this; subst h1; rfl
 ·rw [h1,List.length_map]; rfl
theorem kpt_get {is:List Kp} {i:Nat} {x:Kp} (hi : is[i]? = some x) : (is.map kpt)[i]? = some [.ptr x.1 2 0 0]:=by simp [hi,kpt]
theorem ia_go {b off len c i : Nat} (hi : i < len) : iaA 1 (.arr b 1 off len c) (.int .i64 i) = some (.ptr b 1 (off + i) 0):=by rw [iaA_go (by omega) (by omega)]; simp
end
theorem PlaceR.none {is:List Kp} {key:Key} {j:Nat} {q:Bool} (hp:PlaceR is key j q) (hq : q = false) (hs:Srt is) : ∀ x ∈ is,x.2 ≠ key:=by
 intro x hx hk
 obtain ⟨i,hi⟩:=List.getElem?_of_mem hx
 by_cases hij : i < j
 ·have:=hp.lo i x hi hij
  rw [hk,ltK_irrefl] at this; cases this
 ·have hi':=(List.getElem?_eq_some_iff.1 hi).1
  have hj:=List.getElem?_eq_getElem (l:=is) (i:=j) (by omega)
  have h1:=hp.no hq _ hj
  by_cases hij2 : i = j
  ·subst hij2
   rw [hi] at hj
   rw [← Option.some.inj hj,hk,ltK_irrefl] at h1; cases h1
  ·have h2:=List.pairwise_iff_getElem.1 hs j i (by omega) hi' (by omega)
   have h3:=(List.getElem?_eq_some_iff.1 hi).2
   rw [h3] at h2
   have:=ltK_trans h1 h2
   rw [hk,ltK_irrefl] at this; cases this
theorem weave_srt2 : ∀ (ls:List (List Kp)) (is l : List Kp),ls.length = is.length + 1 → l ∈ ls → Srt (weave ls is) → Srt l
 | [],is,l,h,h2,_ => by cases h2
 | l' :: ls,[],l,h,h2,h3 => by
  have : ls = []:=by simpa using h
  subst this
  simp at h2; subst h2; simpa [weave] using h3
 | l' :: ls,i :: is,l,h,h2,h3 => by
  have h4:=Srt.app.1 h3
  rcases List.mem_cons.1 h2 with rfl | h2
  ·exact h4.1
  ·exact weave_srt2 ls is l (by simpa using h) h2 (List.pairwise_cons.1 h4.2.1).2
def ahd {α:Type} (ls:List (List α)) (is:List α) : Nat → List α
 | 0 => []
 | i + 1 => ahd ls is i ++ ls.getD i [] ++ (is[i]?).toList
theorem ahd_weave {α:Type} {ls:List (List α)} {is:List α} (hl : ls = [] ∨ ls.length = is.length + 1) : ∀ i,i ≤ is.length → weave ls is = ahd ls is i ++ weave (ls.drop i) (is.drop i)
 | 0,_ => by simp [ahd]
 | i + 1,h => by
  have ih:=ahd_weave hl i (by omega)
  rw [ih,ahd,List.append_assoc,List.append_assoc]
  congr 1
  have e1 : is.drop i = is[i] :: is.drop (i + 1):=List.drop_eq_getElem_cons (by omega)
  rw [e1]
  rcases hl with rfl | hl
  ·simp [weave,List.getElem?_eq_getElem (show i < is.length by omega)]
  ·have e2 : ls.drop i = ls[i] :: ls.drop (i + 1):=List.drop_eq_getElem_cons (by omega)
   rw [e2]
   simp [weave,List.getElem?_eq_getElem (show i < is.length by omega),List.getElem?_eq_getElem (show i < ls.length by omega)]
theorem ahd_cut {α:Type} {ls:List (List α)} {is:List α} (hl : ls = [] ∨ ls.length = is.length + 1) {i:Nat} (hi : i ≤ is.length) : ∃ C,weave ls is = ahd ls is i ++ ls.getD i [] ++ C∧C.head? = is[i]?:=by
 rw [ahd_weave hl i hi]
 by_cases h : i = is.length
 ·subst h
  rw [List.drop_length]
  refine ⟨[],?_,by simp⟩
  rcases hl with rfl | hl
  ·simp [weave]
  ·have e2 : ls.drop is.length = [ls[is.length]]:=by
    rw [List.drop_eq_getElem_cons (by omega),List.drop_eq_nil_of_le (by omega)]
   rw [e2]
   simp [weave,List.getElem?_eq_getElem (show is.length < ls.length by omega)]
 ·have e1 : is.drop i = is[i] :: is.drop (i + 1):=List.drop_eq_getElem_cons (by omega)
  rw [e1]
  refine ⟨is[i] :: weave (ls.drop (i + 1)) (is.drop (i + 1)),?_,by simp [List.getElem?_eq_getElem (show i < is.length by omega)]⟩
  rcases hl with rfl | hl
  ·simp [weave]
  ·have e2 : ls.drop i = ls[i] :: ls.drop (i + 1):=List.drop_eq_getElem_cons (by omega)
   rw [e2]
   simp [weave,List.getElem?_eq_getElem (show i < ls.length by omega)]
def rngK (lo hi : Key) (x:Kp) : Bool := !(ltK x.2 lo) && (hi == [] || ltK x.2 hi)
theorem ahd_lo {ls:List (List Kp)} {is:List Kp} {lo:Key} {j:Nat} {q:Bool} (hp:PlaceR is lo j q) (hl : ls = [] ∨ ls.length = is.length + 1) (hs:Srt (weave ls is)) (hi:Key) : (ahd ls is j).filter (rngK lo hi) = []:=by
 have h1:=ahd_weave hl j hp.le
 rw [h1] at hs
 have sA:=(Srt.app.1 hs).1
 refine List.filter_eq_nil_iff.2 fun x hx => ?_
 have : ltK x.2 lo = true:=by
  cases j with
  | zero => simp [ahd] at hx
  | succ j =>
   have hj:=hp.le
   have e:=List.getElem?_eq_getElem (l:=is) (i:=j) (by omega)
   refine sA.le_last (y:=is[j]) ?_ (hp.lo j _ e (by omega)) x hx
   simp [ahd,e]
 simp [rngK,this]
theorem rng_hi {C:List Kp} {lo hi : Key} {x:Kp} (hs:Srt C) (hx:C.head? = some x) (h0 : hi ≠ []) (h1 : ltK x.2 hi = false) : C.filter (rngK lo hi) = []:=by
 refine List.filter_eq_nil_iff.2 fun y hy => ?_
 have:=hs.ge_head (fun y hy => by rw [hx] at hy; cases hy; exact h1) y hy
 simp [rngK,this,h0]
theorem cnd_join {P:Program} {st:List Fr} {e:Env} {h:Hp} {k:Kt} {v:AV} {t f : ACode} {Q:Env → Hp → Prop} (hh : cndR P v t f (.lp Q :: st) e h k) (hq:∀ e h,Q e h → fall P st e h k) : cndR P v t f st e h k:=by
 obtain ⟨b,hb,ht,hf⟩:=hh
 exact ⟨b,hb,fun q => wpA_imp t (ht q) hq (fun _ _ x => x) (fun _ _ _ x => x),fun q => wpA_imp f (hf q) hq (fun _ _ x => x) (fun _ _ _ x => x)⟩
section
variable {h:Hp} {l:List Asr} {A:Asr}
theorem sat.p8 {A1 A2 A3 A4 A5 A6 A7 A8 : Asr} (hs : sat h (A1 :: A2 :: A3 :: A4 :: A5 :: A6 :: A7 :: A8 :: A :: l)) : sat h (A :: A1 :: A2 :: A3 :: A4 :: A5 :: A6 :: A7 :: A8 :: l):=(hs.tl fun _ h => h.p7).swap
end
theorem sat.tls {l1 l l' : List Asr} : ∀ {h:Hp},sat h (l1 ++ l) → (∀ h,sat h l → sat h l') → sat h (l1 ++ l'):=by
 induction l1 with
 | nil => exact fun hs hi => hi _ hs
 | cons A l1 ih => exact fun hs hi => hs.tl fun _ g => ih g hi
theorem sat.swapl {l1 l2 l : List Asr} {h:Hp} (hs : sat h (l1 ++ (l2 ++ l))) : sat h (l2 ++ (l1 ++ l)):=hs.perm (List.perm_append_comm_assoc l1 l2 l)
theorem kpt_pt (is:List Kp) : is.map kpt = (is.map fun x => x.1).map pt:=by simp [kpt,pt]
theorem rt_pt (ks:List Tr) : (ks.map fun k => pt k.root) = (ks.map Tr.root).map pt:=by simp
def OKs : Nat → List Kp → List Tr → Prop
 | 0,_,ks => ks = []
 | d + 1,is,ks => 1 ≤ is.length∧ks.length = is.length + 1∧∀ k ∈ ks,OKd d k∧k.flat ≠ []
theorem okd_nd {d p : Nat} {iv kv : AV} {is:List Kp} {ks:List Tr} : OKd d (.nd p iv kv is ks) ↔ is.length ≤ 5∧OKs d is ks:=by
 cases d with
 | zero => exact Iff.rfl
 | succ d => exact ⟨fun ⟨a,b,c,e⟩ => ⟨b,a,c,e⟩,fun ⟨b,a,c,e⟩ => ⟨a,b,c,e⟩⟩
theorem weave_nil {α:Type} (is:List α) : weave [] is = is:=rfl
theorem weave_ne {α:Type} {ls:List (List α)} {is:List α} (h : 1 ≤ is.length) : weave ls is ≠ []:=by
 intro hh
 cases is with
 | nil => simp at h
 | cons i is =>
  have:=mem_weave ls (i :: is) (List.mem_cons_self)
  rw [hh] at this; cases this
theorem blk_join {P:Program} {st:List Fr} {e:Env} {h:Hp} {k:Kt} {id:Nat} {c:ACode} {Q:Env → Hp → Prop} (hh : run P c (.blk id :: .lp Q :: st) e h k) (hq:∀ e h,Q e h → fall P st e h k) : run P c (.blk id :: st) e h k:=by
 refine wpA_imp c hh (fun e h x => hq e h x) (fun _ _ x => x) (fun i e h x => ?_)
 show if i = id then _ else _
 have x : if i = id then Q e h else (kk P k st).2 i e h:=x
 by_cases hi : i = id
 ·rw [if_pos hi] at x ⊢; exact hq e h x
 ·rw [if_neg hi] at x ⊢; exact x
end Go.Hz
