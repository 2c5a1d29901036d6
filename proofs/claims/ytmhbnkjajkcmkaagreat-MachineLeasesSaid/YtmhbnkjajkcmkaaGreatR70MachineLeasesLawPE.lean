/- find, Marks, Put, by what the index says. -/
import Derived.Test.YtmhbnkjajkcmkaaGreatR70MachineLeasesLawPD
set_option linter.unusedSimpArgs false
set_option linter.unusedVariables false
set_option linter.unusedSectionVars false
set_option maxRecDepth 10000
namespace Go.Proofs.YtmhbnkjajkcmkaaGreat
open Go.Hz
section
variable {h:Hp} {F:List Asr}
theorem ixFind {b:Nat} {its:List Ixt} {key:Key} (hs : sat h (IxQ b its :: F)) (hS:SrtI its) :
  Triple Tryz.prog 200 [.ptr b 2 0 0,.str key] h (fun r h => r = findV (its.map Ixt.kp) key∧sat h (IxQ b its :: F)):=by
 obtain ⟨r,hok,g⟩:=sat_ixq.1 hs
 refine (find g (fun h hs => hs.at) (l:=its.map Ixt.kp) ?_ hS).mono ?_
 ·cases r with
  | none => exact .inl ⟨rfl,hok⟩
  | some dt =>
   obtain ⟨d,t⟩:=dt
   refine .inr ⟨d,t,rfl,hok.2,hok.1,fun h hs => RT.of d t hok.1 hs.drop ?_⟩
   rw [hok.2]; exact IR.of hs.drop.drop
 ·rintro r' h ⟨hr,hs⟩
  exact ⟨hr,sat_ixq.2 ⟨r,hok,hs⟩⟩
theorem findV_mid {l1 l2 : List Ixt} {x:Ixt} (hS:SrtI (l1 ++ x :: l2)) : findV ((l1 ++ x :: l2).map Ixt.kp) x.key = .ptr x.a 2 0 0:=by
 unfold findV
 have:=findKp_mem (x:=x.kp) hS (by simp)
 have h2 : findKp x.key ((l1 ++ x :: l2).map Ixt.kp) = some x.kp:=this
 rw [h2]; rfl
theorem findV_none {its:List Ixt} {key:Key} (h:∀ y ∈ its,y.key ≠ key) : findV (its.map Ixt.kp) key = .nilp:=by
 unfold findV
 rw [findKp_none fun x hx => by
  obtain ⟨y,hy,rfl⟩:=List.mem_map.1 hx
  exact h y hy]
theorem putE_in {L:IL} {key:Key} {m:Mk} (c1 : key ≠ []) (c2 : key.length ≤ 100) (c3 : 1 ≤ m.1) {l:Mk} (hg : lastM (getL L key) = l) :
  putE L key m = if m.1 ≤ l.1 then 15 else if m.2 = true∧l.2 = true then 2 else 0:=by
 unfold putE
 rw [if_neg (by rintro (h | h | h) <;> first | exact c1 h | omega),hg]
theorem ixPut {b:Nat} {L:IL} {key:Key} {m:Mk} (hs : sat h (IxP b L :: F)) (hw:WfL L) (hl:∀ x ∈ L,x.2.length ≤ 1000000000) (hn:L.length ≤ 1000000000) (hm : inI m.1) :
  Triple Tryz.prog 168 [.ptr b 2 0 0,.str key,.agg [.int .i64 m.1,.bool m.2]] h (fun r h => r = .int .i64 (putE L key m)∧sat h (IxP b (putL L key m) :: F)):=by
 refine t168 (Nat.le_of_ble_eq_true rfl) ?_
 simp (disch:=omega) only [F168,go_sem,simprocAttr]
 refine new_opq hs fun b5 h hs => ?_
 simp (disch:=omega) only [go_sem,simprocAttr,hs.at]
 have fin1 : putE L key m ≠ 0 → putL L key m = L:=fun h => by simp [putL,h]
 by_cases c1 : key = []
 ·subst c1
  have e : putE L [] m = 1:=by simp [putE]
  simp (disch:=omega) only [go_sem,simprocAttr]
  rw [e,fin1 (by rw [e]; decide)]
  exact ⟨rfl,hs.drop⟩
 have c1' : (key == ([] : List UInt8)) = false:=by rw [beq_eq_false_iff_ne]; exact c1
 by_cases c2 : 100 < key.length
 ·have e : putE L key m = 1:=by simp [putE,c2]
  have c2' : decide ((100:Int) < (key.length : Int)) = true:=by simp; omega
  simp (disch:=omega) only [go_sem,simprocAttr,c1',c2']
  rw [e,fin1 (by rw [e]; decide)]
  exact ⟨rfl,hs.drop⟩
 have c2' : decide ((100:Int) < (key.length : Int)) = false:=by simp; omega
 by_cases c3 : m.1 < 1
 ·have e : putE L key m = 1:=by simp [putE,c3]
  have c3' : decide (m.1 < 1) = true:=by simpa using c3
  simp (disch:=omega) only [go_sem,simprocAttr,c1',c2',c3',hs.at]
  rw [e,fin1 (by rw [e]; decide)]
  exact ⟨rfl,hs.drop⟩
 have c3' : decide (m.1 < 1) = false:=by simpa using c3
 simp (disch:=omega) only [go_sem,simprocAttr,c1',c2',c3',hs.at]
 obtain ⟨its,hL,hq⟩:=sat_ixp.1 hs.p1
 have hS:=SrtI.kv.2 (hL ▸ hw.1)
 refine call_use (ixFind (key:=key) hq hS) ?_
 rintro r h ⟨hr,hs⟩
 subst hr
 rcases kv_cut (its:=its) key with ⟨l1,x,l2,rfl,rfl⟩ | hnk
 ·rw [findV_mid hS]
  have hLe : L = l1.map Ixt.kv ++ (x.key,x.ms) :: l2.map Ixt.kv:=by rw [← hL]; simp [Ixt.kv]
  have hg : getL L x.key = x.ms:=by rw [hLe,getL_mid (by rw [← hLe]; exact hw.1)]
  have hne : x.ms ≠ []:=(hw.2 (x.key,x.ms) (by rw [hLe]; simp)).1
  have hxl : x.ms.length ≤ 1000000000:=hl (x.key,x.ms) (by rw [hLe]; simp)
  obtain ⟨R,g,back⟩:=ixq_open hs
  have hs:=sat_it.1 g
  have hpos : 0 < x.ms.length:=List.length_pos_iff.2 hne
  have hlast : (x.ms.map mkE)[x.ms.length - 1]? = some (mkE (x.ms.getLast hne)):=by
   rw [List.getElem?_map,List.getLast_eq_getElem,List.getElem?_eq_getElem (by omega)]; rfl
  have hlm : lastM (getL L x.key) = x.ms.getLast hne:=by rw [hg,lastM,List.getLast?_eq_some_getLast hne]; rfl
  have hE:=putE_in (m:=m) c1 (by omega) (by omega) hlm
  generalize x.ms.getLast hne = la at hlast hlm hE
  obtain ⟨bm,cm,hmv,hbm,hcm⟩:=hs.drop.owr.row hlast
  rw [List.length_map] at hmv
  have hlen:=hs.drop.owr.len
  rw [List.length_map] at hlen
  have e1 : ((x.ms.length : Int) - 1) = ((x.ms.length - 1 : Nat) : Int):=by omega
  have hia : iaA 2 (.arr bm 2 0 x.ms.length cm) (.int .i64 ((x.ms.length - 1 : Nat) : Int)) = some (.ptr bm 2 (x.ms.length - 1) 0):=by
   rw [iaA_go (by omega) (by omega)]; simp
  simp (disch:=omega) only [go_sem,simprocAttr]
  refine new_opq hs fun b8 h hs => ?_
  simp (disch:=omega) only [go_sem,simprocAttr,hs.at]
  have hsB:=hs.set (o':=.row 2 [[.int .i64 la.1,.bool la.2]] 1)
  have hs:=hs.set (o':=.row 2 [[.int .i64 0,.bool true]] 1)
  have hbm2:=(hs.p1.p1.p2)
  rw [show x.m = Ow 2 (.arr bm 2 0 x.ms.length cm) (x.ms.map mkE) by unfold Ixt.m; rw [hmv]] at hbm2
  have hbm3:=(hbm2.arr).1.at
  simp (disch:=omega) only [go_sem,simprocAttr,hs.p1.at,hlen,hmv,e1,hia,hbm3,hlast,mkE,hs.at]
  have hb5:=(hsB.p3.p3.p3.p3.p4).at
  simp (disch:=omega) only [go_sem,simprocAttr,hb5]
  by_cases t1 : m.1 ≤ la.1
  ·have t1' : decide (m.1 ≤ la.1) = true:=by simpa using t1
   have e : putE L x.key m = 15:=by rw [hE,if_pos t1]
   simp (disch:=omega) only [go_sem,simprocAttr,t1']
   rw [e,fin1 (by rw [e]; decide)]
   refine ⟨rfl,?_⟩
   have g:=(hsB.drop.p3.p3.p3.p3).d3
   exact sat_ixp.2 ⟨_,hL,back x _ F rfl rfl (sat_it.2 g)⟩
  have t1' : decide (m.1 ≤ la.1) = false:=by simpa using t1
  simp (disch:=omega) only [go_sem,simprocAttr,t1',hb5]
  by_cases t2 : m.2 = true∧la.2 = true
  ·have e : putE L x.key m = 2:=by rw [hE,if_neg t1,if_pos t2]
   simp (disch:=omega) only [go_sem,simprocAttr,t2.1,t2.2,hsB.at]
   rw [e,fin1 (by rw [e]; decide)]
   refine ⟨rfl,?_⟩
   have g:=(hsB.drop.p3.p3.p3.p3).d3
   rw [t2.2] at g
   exact sat_ixp.2 ⟨_,hL,back x _ F rfl rfl (sat_it.2 g)⟩
  have e : putE L x.key m = 0:=by rw [hE,if_neg t1,if_neg t2]
  have hput : putL L x.key m = (l1 ++ ⟨x.a,x.key,x.mv,x.ms ++ [m]⟩ :: l2).map Ixt.kv:=by
   rw [putL,if_pos e,hg,hLe,layL_mid (by rw [← hLe]; exact hw.1)]; simp [Ixt.kv]
  rw [e,hput]
  have hy2 : ∀ h bn,h bn = some (.row 2 [mkE m] 1) → srcA 2 h (.arr bn 2 0 1 1) = some [mkE m]:=fun h bn hh => src_one hh
  have hxk : x.k = pto x.a (.row 2 [[.str x.key,x.mv]] 1):=rfl
  have hxm : x.m = Ow 2 x.mv (x.ms.map mkE):=rfl
  obtain ⟨mr,md⟩:=m
  obtain ⟨lr,ld⟩:=la
  have t3 : md = false ∨ (md = true∧ld = false):=by
   cases md
   ·exact .inl rfl
   ·right; refine ⟨rfl,?_⟩
    cases ld
    ·rfl
    ·exact absurd ⟨rfl,rfl⟩ t2
  rcases t3 with rfl | ⟨rfl,rfl⟩
  ·simp (disch:=omega) only [go_sem,simprocAttr,hb5,hsB.p1.at,hsB.at]
   have hs:=hsB.p3.p3.p3.p3.p4
   refine new_opq hs fun bn h hs => ?_
   simp (disch:=omega) only [go_sem,simprocAttr,hs.at]
   refine app_sat (es:=x.ms.map mkE) (s:=2) (v:=x.mv) (F:=x.k :: R :: F) (hs.drop.drop.drop.p2.p1.p2.imp fun _ g => g) (hy2 _ bn hs.at) (atoms_mkE [_]) (by simp; omega) fun v' h hs hc' ha' => ?_
   simp (disch:=omega) only [go_sem,simprocAttr,hc',ha',hs.p1.at]
   have g:=hs.p1.set (o':=.row 2 [[.str x.key,v']] 1)
   refine sat_ixp.2 ⟨l1 ++ ⟨x.a,x.key,v',x.ms ++ [(mr,false)]⟩ :: l2,by simp [Ixt.kv],back ⟨x.a,x.key,v',x.ms ++ [(mr,false)]⟩ _ F rfl rfl (sat_it.2 ?_)⟩
   simpa [Ixt.k,Ixt.m,mkE] using g
  ·simp (disch:=omega) only [go_sem,simprocAttr,hb5,hsB.p1.at,hsB.at]
   have hs:=hsB.p3.p3.p3.p3.p4
   refine new_opq hs fun bn h hs => ?_
   simp (disch:=omega) only [go_sem,simprocAttr,hs.at]
   refine app_sat (es:=x.ms.map mkE) (s:=2) (v:=x.mv) (F:=x.k :: R :: F) (hs.drop.drop.drop.p2.p1.p2.imp fun _ g => g) (hy2 _ bn hs.at) (atoms_mkE [_]) (by simp; omega) fun v' h hs hc' ha' => ?_
   simp (disch:=omega) only [go_sem,simprocAttr,hc',ha',hs.p1.at]
   have g:=hs.p1.set (o':=.row 2 [[.str x.key,v']] 1)
   refine sat_ixp.2 ⟨l1 ++ ⟨x.a,x.key,v',x.ms ++ [(mr,true)]⟩ :: l2,by simp [Ixt.kv],back ⟨x.a,x.key,v',x.ms ++ [(mr,true)]⟩ _ F rfl rfl (sat_it.2 ?_)⟩
   simpa [Ixt.k,Ixt.m,mkE] using g
 ·rw [findV_none hnk]
  have hLk : ∀ y ∈ L,y.1 ≠ key:=fun y hy => by
   rw [← hL] at hy
   obtain ⟨z,hz,rfl⟩:=List.mem_map.1 hy
   exact hnk z hz
  have hg : getL L key = []:=getL_none hLk
  have hlm : lastM (getL L key) = (0,true):=by rw [hg]; rfl
  have hE:=putE_in (m:=m) c1 (by omega) (by omega) hlm
  obtain ⟨mr,md⟩:=m
  simp (disch:=omega) only [go_sem,simprocAttr]
  refine new_opq hs fun b8 h hs => ?_
  simp (disch:=omega) only [go_sem,simprocAttr,hs.at]
  have hsB:=hs.set (o':=.row 2 [[.int .i64 0,.bool true]] 1)
  have hb5:=(hsB.p1.p1.p2).at
  have t1' : decide (mr ≤ 0) = false:=by simp at c3 ⊢; omega
  simp (disch:=omega) only [go_sem,simprocAttr,hb5,t1']
  have t1 : ¬ mr ≤ 0:=by simpa using t1'
  cases md
  ·have e : putE L key (mr,false) = 0:=by rw [hE,if_neg t1,if_neg (by simp)]
   simp (disch:=omega) only [go_sem,simprocAttr,hb5]
   have hs:=hsB.p1.p1.p2
   refine new_opq hs fun bn h hs => ?_
   simp (disch:=omega) only [go_sem,simprocAttr,hs.at]
   refine new_opq hs fun ba h hs => ?_
   simp (disch:=omega) only [go_sem,simprocAttr,hs.at]
   have hs:=hs.p2.drop.p2.drop.p1.p1.p2
   have hx : ∀ y ∈ its,y.key ≠ (Ixt.mk ba key (.arr bn 2 0 1 1) [(mr,false)]).key:=hnk
   have hq : sat h (IxQ b its :: (Ixt.mk ba key (.arr bn 2 0 1 1) [(mr,false)]).p :: F) :=
    hs.tl fun h g => sat_it.2 (g.tl fun h g => g.ow (by simp))
   refine call_use (ixAdd hq hS hx (by rw [← hL,List.length_map] at hn; exact hn)) ?_
   intro r h hs
   simp (disch:=omega) only [go_sem,simprocAttr]
   rw [e]
   refine ⟨rfl,sat_ixp.2 ⟨_,?_,hs⟩⟩
   rw [putL,if_pos e,← hL,← layL_new hS hx,hL,hg]; rfl
  ·have e : putE L key (mr,true) = 2:=by rw [hE,if_neg t1,if_pos ⟨rfl,rfl⟩]
   simp (disch:=omega) only [go_sem,simprocAttr,hsB.at]
   rw [e,fin1 (by rw [e]; decide)]
   exact ⟨rfl,sat_ixp.2 ⟨_,hL,(hsB.p1).d1.d1⟩⟩
end
end Go.Proofs.YtmhbnkjajkcmkaaGreat
/- Keys; trimmed. -/
set_option maxRecDepth 10000
namespace Go.Proofs.YtmhbnkjajkcmkaaGreat
open Go.Hz
section
variable {h:Hp} {F:List Asr}
theorem atoms_str (l:List Key) : AtomsL (l.map fun k => [AV.str k]):=by
 intro e he v hv
 obtain ⟨k,_,rfl⟩:=List.mem_map.1 he
 simp only [List.mem_cons,List.not_mem_nil,or_false] at hv
 subst hv; rfl
theorem keys_filter {its:List Ixt} {lo hi : Key} : ((its.map Ixt.kp).filter (rngK lo hi)).map (fun x => x.2) = keysL (its.map Ixt.kv) lo hi:=by
 unfold keysL
 rw [List.filter_map,List.map_map,List.map_map,List.filter_map]
 rfl
def strsV (l:List Key) : AV:=.lst (l.map fun k => [.str k])
def outA (bo:Nat) (pre:List Key) (done:List Kp) : Asr:=fun h => ∃ ov,sat h [pto bo (.row 1 [[ov]] 1),Ow 1 ov ((pre ++ done.map fun x => x.2).map fun k => [.str k])]
theorem sat_outA {bo:Nat} {pre:List Key} {done:List Kp} : sat h (outA bo pre done :: F) ↔ ∃ ov,sat h (pto bo (.row 1 [[ov]] 1) :: Ow 1 ov ((pre ++ done.map fun x => x.2).map fun k => [.str k]) :: F):=by
 unfold outA
 rw [sat_ex]
 exact ⟨fun ⟨r,hs⟩ => ⟨r,sat_sl.1 hs⟩,fun ⟨r,hs⟩ => ⟨r,sat_sl (l1:=[_,_]) |>.2 hs⟩⟩
theorem ixKeysO {b:Nat} {L:IL} {lo hi : Key} (hs : sat h (IxP b L :: F)) (hw:WfL L) (hn:L.length ≤ 1000000000) :
  Triple Tryz.prog 95 [.ptr b 2 0 0,.str lo,.str hi] h (fun r h => sat h (Ow 1 r ((keysL L lo hi).map fun k => [.str k]) :: IxP b L :: F)):=by
 obtain ⟨its,hL,hq⟩:=sat_ixp.1 hs
 have hS:=SrtI.kv.2 (hL ▸ hw.1)
 have hn2 : its.length ≤ 1000000000:=by rw [← hL,List.length_map] at hn; exact hn
 obtain ⟨r,hok,g⟩:=sat_ixq.1 hq
 clear hs hq
 refine t95 (Nat.le_of_ble_eq_true rfl) ?_
 simp (disch:=omega) only [F95,go_sem,simprocAttr]
 have hs:=g
 refine new_opq hs fun bo h hs => ?_
 simp (disch:=omega) only [go_sem,simprocAttr,hs.at]
 have hb:=hs.p1.at
 simp (disch:=omega) only [go_sem,simprocAttr,hb]
 have hs0 : sat h (outA bo [] [] :: pto b (.row 2 [[rootV r,.int .i64 its.length]] 1) :: rootA r :: (its.map Ixt.p ++ F)):=sat_outA.2 ⟨.nils,hs.tl fun _ g => g.add ow_nil⟩
 have fin : ∀ h,sat h (outA bo [] ((its.map Ixt.kp).filter (rngK lo hi)) :: pto b (.row 2 [[rootV r,.int .i64 its.length]] 1) :: rootA r :: (its.map Ixt.p ++ F)) →
   ∃ ov,sat h (pto bo (.row 1 [[ov]] 1) :: Ow 1 ov ((keysL L lo hi).map fun k => [.str k]) :: IxP b L :: F):=by
  intro h hs
  obtain ⟨ov,hs⟩:=sat_outA.1 hs
  rw [List.nil_append,keys_filter,hL] at hs
  exact ⟨ov,hs.tl fun _ g => g.tl fun _ g => sat_ixp.2 ⟨its,hL,sat_ixq.2 ⟨r,hok,g⟩⟩⟩
 cases r with
 | none =>
  have h0 : its.map Ixt.kp = []:=hok
  refine call_use (walk0 hs0 lo hi _) ?_
  intro r h hs
  obtain ⟨ov,hs⟩:=fin h (by rw [h0]; exact hs)
  simp (disch:=omega) only [go_sem,simprocAttr,hs.at]
  exact hs.drop
 | some dt =>
  obtain ⟨d,t⟩:=dt
  have hlf : ((its.map Ixt.kp).filter (rngK lo hi)).length ≤ 1000000000:=Nat.le_trans (List.length_filter_le _ _) (by simpa using hn2)
  refine call_use (walk (A:=outA bo []) (full:=(its.map Ixt.kp).filter (rngK lo hi)) (f:=161) (caps:=[.ptr bo 1 0 0]) rfl ?_ d t [] h hok.1 (by rw [hok.2]; exact hS) (fun h hs => ?_) (by rw [hok.2,List.nil_append]; exact List.prefix_refl _) hs0) ?_
  ·intro done x h hpre hs
   obtain ⟨ov,hs⟩:=sat_outA.1 hs
   have hx : x ∈ its.map Ixt.kp:=(List.mem_filter.1 (hpre.subset (by simp))).1
   have hdl:=hpre.length_le
   simp only [List.length_append,List.length_cons,List.length_nil] at hdl
   obtain ⟨mv,hm⟩:=IR.of (hs.drop.drop.drop.drop) x hx
   refine t161 (Nat.le_of_ble_eq_true rfl) ?_
   simp (disch:=omega) only [F161,go_sem,simprocAttr]
   simp (disch:=omega) only [go_sem,simprocAttr,hs.at,hm]
   refine new_opq hs fun bn h hs => ?_
   simp (disch:=omega) only [go_sem,simprocAttr,hs.at]
   refine app_sat (hs.drop.p1) (src_one hs.at) (atoms_str [x.2]) (by simp; omega) fun v' h hs hc' ha' => ?_
   simp (disch:=omega) only [go_sem,simprocAttr,hs.p1.at,hc',ha']
   have:=hs.p1.set (o':=.row 1 [[v']] 1)
   refine sat_outA.2 ⟨v',?_⟩
   simpa using this
  ·exact RT.of d t hok.1 hs.drop (by rw [hok.2]; exact IR.of hs.drop.drop)
  ·intro r h hs
   rw [hok.2,List.nil_append] at hs
   obtain ⟨ov,hs⟩:=fin h hs
   simp (disch:=omega) only [go_sem,simprocAttr,hs.at]
   exact hs.drop
theorem clone_mark {b off len cap rc : Nat} {ms:List Mk} (hs : sat h (pto b (.row 2 (ms.map mkE) rc) :: F)) (h1 : off + len ≤ ms.length) (h2 : ms.length ≤ 1000000000) :
  Triple Tryz.prog 216 [.arr b 2 off len cap] h (fun r h => sat h (Ow 2 r (((ms.drop off).take len).map mkE) :: pto b (.row 2 (ms.map mkE) rc) :: F)):=by
 refine t216 (Nat.le_of_ble_eq_true rfl) ?_
 simp (disch:=omega) only [F216,go_sem,simprocAttr]
 refine new_opq hs fun n h hs => ?_
 simp (disch:=omega) only [go_sem,simprocAttr,hs.at]
 have hy : srcA 2 h (.arr b 2 off len cap) = some (((ms.drop off).take len).map mkE):=by
  have:=src_part (c:=cap) hs.p1 (off:=off) (len:=len) (by simpa using h1)
  rw [this]; simp
 refine app_sat (hs.ow (by simp)) hy (atoms_mkE _) (by simp; omega) fun v' h hs hc' ha' => ?_
 simp (disch:=omega) only [go_sem,simprocAttr]
 simpa using hs
end
end Go.Proofs.YtmhbnkjajkcmkaaGreat
/- trimmed, Trim, Height. -/
set_option maxRecDepth 10000
namespace Go.Proofs.YtmhbnkjajkcmkaaGreat
open Go.Hz
section
variable {h:Hp} {F:List Asr}
theorem trimmed {mv:AV} {ms:List Mk} {rev:Int} (hs : sat h (Ow 2 mv (ms.map mkE) :: F)) (hne : ms ≠ []) (hr:RisM ms) (hl : ms.length ≤ 1000000000) :
  Triple Tryz.prog 198 [mv,.int .i64 rev] h (fun r h => sat h (Ow 2 r ((trimM ms rev).map mkE) :: F)):=by
 obtain ⟨m0,hm0⟩ : ∃ m,ms[0]? = some m:=⟨_,List.getElem?_eq_getElem (List.length_pos_iff.2 hne)⟩
 obtain ⟨b,cap,rfl,g,hc⟩ : ∃ b cap,mv = .arr b 2 0 ms.length cap∧sat h (pto b (.row 2 (ms.map mkE) cap) :: F)∧ms.length ≤ cap:=by
  rcases hs.cases with ⟨_,h0,_⟩ | ⟨b,cap,hv,g,hc⟩
  ·exact absurd (by simpa using h0) hne
  ·rw [List.length_map] at hv hc; exact ⟨b,cap,hv,g,hc⟩
 clear hs
 refine t198 (Nat.le_of_ble_eq_true rfl) ?_
 simp (disch:=omega) only [F198,go_sem,simprocAttr]
 have hs:=g
 refine new_opq hs fun b2 h hs => ?_
 simp (disch:=omega) only [go_sem,simprocAttr,hs.at]
 refine new_opq hs fun b3 h hs => ?_
 simp (disch:=omega) only [go_sem,simprocAttr,hs.at]
 have hb2:=hs.p1.at
 simp (disch:=omega) only [go_sem,simprocAttr,hb2]
 refine call_use (search (N:=ms.length) (f:=215) (caps:=[.ptr b2 1 0 0,.ptr b3 1 0 0]) (pr:=fun i => match ms[i]? with | some m => decide (rev < m.1) | none => true) hs (by omega) rfl ?_ ?_) ?_
 ·intro i j hij hj hp
  have hx:=List.getElem?_eq_getElem hj
  have hy:=List.getElem?_eq_getElem (Nat.lt_of_le_of_lt hij hj)
  simp only [hx,hy,decide_eq_true_eq] at hp ⊢
  by_cases hij' : i = j
  ·subst hij'; exact hp
  ·have:=hr.mono (by omega) hy hx
   omega
 ·intro i h hi hs
  have hx:=List.getElem?_eq_getElem hi
  have hrow : (ms.map mkE)[i]? = some (mkE ms[i]):=by simp [hx]
  have hia : iaA 2 (.arr b 2 0 ms.length cap) (.int .i64 i) = some (.ptr b 2 i 0):=by rw [iaA_go (by omega) (by omega)]; simp
  refine t215 (Nat.le_of_ble_eq_true rfl) ?_
  simp (disch:=omega) only [F215,go_sem,simprocAttr]
  have hb3:=hs.at
  have hb2:=hs.p1.at
  have hb:=hs.p2.at
  simp (disch:=omega) only [go_sem,simprocAttr,hb2,hb3,hia,hb,hrow,mkE]
  simp only [hx]
  exact ⟨trivial,hs⟩
 ·rintro r h ⟨k,rfl,hk,hlo,hhi,hs⟩
  have hcnt : cntM ms rev = k:=cntM_eq hk (fun i m hi hik => by
   have:=hlo i hik
   simp only [hi,decide_eq_false_iff_not] at this; omega) (fun i m hi hik => by
   have:=hhi i hik (List.getElem?_eq_some_iff.1 hi).1
   simpa [hi] using this)
  have hb2:=hs.p1.at
  simp (disch:=omega) only [go_sem,simprocAttr,hb2]
  by_cases hk0 : k = 0
  ·have c1 : decide ((k:Int) - 1 < 0) = true:=by simp; omega
   simp (disch:=omega) only [go_sem,simprocAttr,c1,hb2]
   rw [trimM,if_pos (by rw [hcnt,hk0])]
   have:=(hs.drop.drop).ow (by simpa using hc)
   rw [List.length_map] at this
   exact this
  ·have c1 : decide (((k - 1 : Nat) : Int) < 0) = false:=by simp
   have e1 : ((k:Int) - 1) = ((k - 1 : Nat) : Int):=by omega
   have hx:=List.getElem?_eq_getElem (l:=ms) (i:=k - 1) (by omega)
   have hrow : (ms.map mkE)[k - 1]? = some (mkE ms[k - 1]):=by simp [hx]
   have hia : iaA 2 (.arr b 2 0 ms.length cap) (.int .i64 ((k - 1 : Nat) : Int)) = some (.ptr b 2 (k - 1) 0):=by rw [iaA_go (by omega) (by omega)]; simp
   have hb:=hs.p2.at
   simp (disch:=omega) only [go_sem,simprocAttr,c1,hb2,e1,hia,hb,hrow,mkE]
   have ht : trimM ms rev = ms.drop (if ms[k - 1].2 = true then k else k - 1):=by
    rw [trimM,if_neg (by rw [hcnt]; exact hk0),hcnt,List.getD_eq_getElem?_getD,hx]; rfl
   generalize ha : (if ms[k - 1].2 = true then k else k - 1) = a at ht
   have hal : a ≤ ms.length:=by subst ha; split <;> omega
   refine cnd_join (Q:=fun e' h' => h' = h∧(e' 2 = .ptr b2 1 0 0∧e' 5 = .int .i64 (a:Nat))) ?_ ?_
   ·cases hd : ms[k - 1].2
    ·rw [hd] at ha
     subst ha
     simp (disch:=omega) only [go_sem,simprocAttr]
    ·rw [hd] at ha
     subst ha
     have e2 : ((k - 1 : Nat) : Int) + 1 = (k:Int):=by omega
     simp (disch:=omega) only [go_sem,simprocAttr,e2]
   ·rintro e h' ⟨rfl,he⟩
    simp (disch:=omega) only [go_sem,simprocAttr,he,hb2,slcL_lo]
    refine call_use (clone_mark (off:=a) (len:=ms.length - a) (hs.drop.drop) (by omega) hl) ?_
    intro r h hs
    simp (disch:=omega) only [go_sem,simprocAttr]
    rw [ht]
    have:=hs.d1
    rw [List.take_of_length_le (by simp)] at this
    exact this
end
end Go.Proofs.YtmhbnkjajkcmkaaGreat
/- Height. -/
set_option maxRecDepth 10000
namespace Go.Proofs.YtmhbnkjajkcmkaaGreat
open Go.Hz
section
variable {h:Hp} {F:List Asr}
end
end Go.Proofs.YtmhbnkjajkcmkaaGreat
/- The store: a key at a revision. -/
set_option maxRecDepth 10000
namespace Go.Proofs.YtmhbnkjajkcmkaaGreat
open Go.Hz
abbrev tp : Nat:=199
abbrev td : Nat:=280
abbrev StP (s:Nat) (A:Sto) (o:AV) : Asr:=MvP tp td s A o
section
variable {h:Hp} {F:List Asr} {s:Nat} {A:Sto} {o:AV}
theorem putKey {kv:Kv} (hs : sat h F) : Triple Tryz.prog 294 [.agg (kvC kv)] h (fun r h => r = .str kv.key∧sat h F):=by
 refine t294 (Nat.le_of_ble_eq_true rfl) ?_
 simp (disch:=omega) only [F294,kvC,go_sem,simprocAttr]
 refine new_opq hs fun a h hs => ?_
 have ha:=hs.at
 simp (disch:=omega) only [go_sem,simprocAttr,ha]
 exact hs.drop
theorem delKey {k:Key} (hs : sat h F) : Triple Tryz.prog 295 [.agg [.str k]] h (fun r h => r = .str k∧sat h F):=by
 refine t295 (Nat.le_of_ble_eq_true rfl) ?_
 simp (disch:=omega) only [F295,go_sem,simprocAttr]
 refine new_opq hs fun a h hs => ?_
 have ha:=hs.at
 simp (disch:=omega) only [go_sem,simprocAttr,ha]
 exact hs.drop
theorem meth_put : methOf Tryz.prog tp "horologe/mvcc.key" = some 294:=by kernel_rfl
theorem meth_del : methOf Tryz.prog td "horologe/mvcc.key" = some 295:=by kernel_rfl
theorem inv_key {st:List Fr} {e:Env} {k:Kt} {d:Option Nat} {r:List (AItem × List AItem)} {obl:List AItem} (hs : sat h F) (c:Ch)
  (hk:∀ h',sat h' F → obls Tryz.prog obl (e.put d (.str c.key)) h'∧runS Tryz.prog r st (e.put d (.str c.key)) h' k) : effR Tryz.prog (invE Tryz.prog "horologe/mvcc.key" (chV tp td c) [] h) obl d r st e k:=by
 unfold effR
 cases c with
 | put kv =>
  simp only [invE,chV,meth_put]
  exact ⟨okFn_ok rfl,(putKey hs).mono fun v h' ⟨h1,h2⟩ => by subst h1; exact hk h' h2⟩
 | del k =>
  simp only [invE,chV,meth_del]
  exact ⟨okFn_ok rfl,(delKey hs).mono fun v h' ⟨h1,h2⟩ => by subst h1; exact hk h' h2⟩
theorem mvRev (hs : sat h (StP s A o :: F)) : Triple Tryz.prog 16 [.ptr s 7 0 0] h (fun r h => r = .int .i64 A.rev∧sat h (StP s A o :: F)):=by
 obtain ⟨ix,vm,cv,L,X,hok,hs2⟩:=mvP.1 hs
 have hp:=hs2.at
 refine t16 (Nat.le_of_ble_eq_true rfl) ?_
 simp (disch:=omega) only [F16,hp,go_sem,simprocAttr]
 exact mvP.2 ⟨ix,vm,cv,L,X,hok,hs2⟩
theorem at1 {b c q : Nat} {vs:List Ver} {rev:Int} {cap:Nat} (hs : sat h (pto b (.row 1 [[.arr q 2 0 vs.length cap]] 1) :: pto c (.row 1 [[.int .i64 rev]] 1) :: pto q (.row 2 (vs.map (verC tp td)) cap) :: F)) {i:Nat} (hi : i < vs.length) :
  Triple Tryz.prog 97 [.int .i64 i,.ptr b 1 0 0,.ptr c 1 0 0] h (fun r h => r = .bool (decide (vs[i].rev > rev))∧sat h (pto b (.row 1 [[.arr q 2 0 vs.length cap]] 1) :: pto c (.row 1 [[.int .i64 rev]] 1) :: pto q (.row 2 (vs.map (verC tp td)) cap) :: F)):=by
 have hb:=hs.at
 have hc:=hs.p1.at
 have hq:=hs.p2.at
 have hrow : (vs.map (verC tp td))[i]? = some (verC tp td vs[i]):=by simp [hi]
 refine t97 (Nat.le_of_ble_eq_true rfl) ?_
 simp (disch:=omega) only [F97,hb,hc,hq,hrow,verC,Int.toNat_natCast,go_sem,simprocAttr]
 exact hs
theorem mvAt {key:Key} {rev:Int} (hs : sat h (StP s A o :: F)) (hz:A.chs.length ≤ 100000000) : Triple Tryz.prog 44 [.ptr s 7 0 0,.str key,.int .i64 rev] h (fun r h =>
  r = .tup [.agg (kvC ((vAt (A.vers key) rev).getD kv0)),.bool (vAt (A.vers key) rev).isSome]∧sat h (StP s A o :: F)):=by
 obtain ⟨ix,vm,cv,L,X,hok,hs2⟩:=mvP.1 hs
 refine t44 (Nat.le_of_ble_eq_true rfl) ?_
 simp (disch:=omega) only [F44,go_sem,simprocAttr]
 refine new_opq hs2 fun a h hs => ?_
 simp (disch:=omega) only [go_sem,simprocAttr]
 refine new_opq hs fun b h hs => ?_
 have hp:=hs.p2.at
 have back : ∀ {h:Hp} {R:List Asr},sat h (pto b (.row 6 [kvC kv0] 1) :: R) → True:=fun _ => trivial
 have mk : ∀ {h:Hp},sat h (MvL tp td s ix vm cv o A L X ++ F) → sat h (StP s A o :: F):=fun hs => mvP.2 ⟨ix,vm,cv,L,X,hok,hs⟩
 by_cases hx : ∃ x ∈ X,x.key = key
 ·obtain ⟨x,hx,rfl⟩:=hx
  have hl:=lk_hit keyOK_str (show sat h (MpA (fun k : Key => AV.str k) Vn.key Vn.v vm X :: _) from hs.p5) hok.2.2.1 hx (ok:=false) (z:=.nils)
  simp only [Bool.false_eq_true,if_false] at hl
  simp (disch:=omega) only [go_sem,simprocAttr,hp,hl]
  refine new_opq hs fun c h hs => ?_
  have hc:=hs.at
  obtain ⟨hv1,hv2⟩:=hok.2.2.2.1 x hx
  obtain ⟨l1,l2,rfl⟩:=List.append_of_mem hx
  have hs : sat h ((pto c (.row 1 [[.nils]] 1) :: pto b (.row 6 [kvC kv0] 1) :: pto a (.row 1 [[.int .i64 rev]] 1) :: ([pto s (.row 7 [[.int .i64 A.rev,.int .i64 A.past,.int .i64 A.now.length,.ptr ix 2 0 0,.map vm,cv,o]] 1),IxP ix L,Ow 2 cv (A.chs.map (verC tp td)),MpA (fun k : Key => AV.str k) Vn.key Vn.v vm (l1 ++ x :: l2)] ++ l1.map (VnP tp td))) ++ VnP tp td x :: (l2.map (VnP tp td) ++ F)):=by
   simpa [MvL,kvC,kv0] using hs
  have hs:=hs.mid
  have mk2 : ∀ {h:Hp},sat h (VnP tp td x :: (([pto s (.row 7 [[.int .i64 A.rev,.int .i64 A.past,.int .i64 A.now.length,.ptr ix 2 0 0,.map vm,cv,o]] 1),IxP ix L,Ow 2 cv (A.chs.map (verC tp td)),MpA (fun k : Key => AV.str k) Vn.key Vn.v vm (l1 ++ x :: l2)] ++ l1.map (VnP tp td)) ++ (l2.map (VnP tp td) ++ F))) → sat h (StP s A o :: F):=by
   intro h hs
   refine mk ?_
   have:=hs.unmid
   simpa [MvL] using this
  have hs : sat h (VnP tp td x :: pto c (.row 1 [[.nils]] 1) :: pto b (.row 6 [kvC kv0] 1) :: pto a (.row 1 [[.int .i64 rev]] 1) :: (([pto s (.row 7 [[.int .i64 A.rev,.int .i64 A.past,.int .i64 A.now.length,.ptr ix 2 0 0,.map vm,cv,o]] 1),IxP ix L,Ow 2 cv (A.chs.map (verC tp td)),MpA (fun k : Key => AV.str k) Vn.key Vn.v vm (l1 ++ x :: l2)] ++ l1.map (VnP tp td)) ++ (l2.map (VnP tp td) ++ F))):=hs
  generalize (([pto s (.row 7 [[.int .i64 A.rev,.int .i64 A.past,.int .i64 A.now.length,.ptr ix 2 0 0,.map vm,cv,o]] 1),IxP ix L,Ow 2 cv (A.chs.map (verC tp td)),MpA (fun k : Key => AV.str k) Vn.key Vn.v vm (l1 ++ x :: l2)] ++ l1.map (VnP tp td)) ++ (l2.map (VnP tp td) ++ F)) = R at hs mk2
  obtain ⟨xk,xv,vs⟩:=x
  simp only [] at hv1 hv2
  have hris:=vers_ris hok.1 xk
  have hlen:=vers_le (A:=A) xk
  rw [← hv1] at hris hlen
  rcases hs.cases with ⟨_,hn0,_⟩ | ⟨q,cap,hv,hs3,hle⟩
  ·exact absurd (List.map_eq_nil_iff.1 hn0) hv2
  simp only [] at hv
  subst hv
  have hll : (vs.map (verC tp td)).length = vs.length:=by simp
  simp only [hll] at hs3 hle hc mk2
  have hs4:=hs3.p1.set (o':=.row 1 [[.arr q 2 0 vs.length cap]] 1)
  have hc4:=hs4.at
  simp (disch:=omega) only [go_sem,simprocAttr,hc,hc4,hll]
  generalize Hp.set h c _ = h2 at hs4 hc4 ⊢
  refine call_use (search (N:=vs.length) (f:=97) (caps:=[.ptr c 1 0 0,.ptr a 1 0 0]) (pr:=fun i => match vs[i]? with | some w => decide (w.rev > rev) | none => true) hs4.p2.p2.p3.p3 (by omega) rfl ?_ ?_) ?_
  ·intro i j hij hj hi
   rw [List.getElem?_eq_getElem (by omega)] at hi ⊢
   have h3 : vs[i].rev > rev:=by simpa using hi
   have : vs[i].rev ≤ vs[j].rev:=by
    rcases Nat.lt_or_eq_of_le hij with h | h
    ·exact Int.le_of_lt (List.pairwise_iff_getElem.1 hris i j (by omega) hj h)
    ·subst h; exact Int.le_refl _
   simp; omega
  ·intro i h hi hs
   refine (at1 hs hi).mono fun r h ⟨h1,h2⟩ => ⟨?_,h2⟩
   rw [h1,List.getElem?_eq_getElem hi]
  rintro r h ⟨k,hr,hk,hk1,hk2,hs⟩
  subst hr
  have hva:=vAt_k (l:=vs) (r:=rev) hk (fun i hi hik => by
   have:=hk1 i hik
   rw [List.getElem?_eq_getElem hi] at this
   have : ¬ vs[i].rev > rev:=by simpa using this
   omega) (fun i hi hik => by
   have:=hk2 i hik hi
   rw [List.getElem?_eq_getElem hi] at this
   simpa using this)
  have hva2 : vAt (A.vers xk) rev = if hk0 : 0 < k then (vs[k - 1]'(by omega)).c.kv else none:=by rw [← hv1]; exact hva
  have hc:=hs.at
  have hb:=hs.p3.at
  have hq:=hs.p2.at
  have mk3 : ∀ {h:Hp},sat h (pto q (.row 2 (vs.map (verC tp td)) cap) :: R) → sat h (StP s A o :: F):=by
   intro h hs
   have:=hs.ow (by simpa using hle)
   rw [hll] at this
   exact mk2 this
  by_cases hk0 : 0 < k
  ·rw [dif_pos hk0] at hva2
   have e0 : ((k:Int) == 0) = false:=by simp; omega
   have e1 : (k:Int) - 1 = ((k - 1 : Nat) : Int):=by omega
   have hrow : (vs.map (verC tp td))[k - 1]? = some (verC tp td (vs[k - 1]'(by omega))):=by rw [List.getElem?_map,List.getElem?_eq_getElem (by omega)]; rfl
   generalize (vs[k - 1]'(by omega)) = w at hva2 hrow
   rw [hva2]
   obtain ⟨wr,wc⟩:=w
   cases wc with
   | put kv =>
    simp (disch:=omega) only [go_sem,simprocAttr,e0,hc,e1,hq,hrow,verC,chV,Int.toNat_natCast,taA,tp,td,kvC]
    refine new_opq hs fun y h hs => ?_
    have hy:=hs.at
    have hs5:=hs.set (o':=.row 6 [kvC kv] 1)
    have hy5:=hs5.at
    have hb5:=hs5.p4.at
    simp only [kvC,kv0] at hy5 hb5 hs5
    simp (disch:=omega) only [go_sem,simprocAttr,hy,hy5,hb5,kvC]
    exact ⟨rfl,mk3 hs5.p4.set.drop.drop.drop.drop⟩
   | del dk =>
    simp (disch:=omega) only [go_sem,simprocAttr,e0,hc,e1,hq,hrow,verC,chV,Int.toNat_natCast,taA,tp,td,kvC]
    refine new_opq hs fun y h hs => ?_
    have hy:=hs.at
    have hs5:=hs.set (o':=.row 6 [kvC kv0] 1)
    have hy5:=hs5.at
    have hb5:=hs5.p4.at
    simp only [kvC,kv0] at hy5 hb5 hs5
    simp (disch:=omega) only [go_sem,simprocAttr,hy,hy5,hb5,kvC]
    exact ⟨rfl,mk3 hs5.p4.set.drop.drop.drop.drop⟩
  ·rw [dif_neg hk0] at hva2
   have : k = 0:=by omega
   subst this
   have e0 : (((0:Nat) : Int) == 0) = true:=rfl
   rw [hva2]
   simp (disch:=omega) only [go_sem,simprocAttr,e0,hb,kvC,kv0]
   exact ⟨rfl,mk3 hs.p3.set.drop.drop.drop⟩
 ·have hv0 : A.vers key = []:=by
   cases hh : A.vers key with
   | nil => rfl
   | cons y l => exact absurd (hok.2.2.2.2 key (by rw [hh]; simp)) hx
  have hl:=lk_miss keyOK_str (show sat h (MpA (fun k : Key => AV.str k) Vn.key Vn.v vm X :: _) from hs.p5) (q:=key) (fun x h1 h2 => hx ⟨x,h1,h2⟩) (ok:=false) (z:=.nils)
  simp only [Bool.false_eq_true,if_false] at hl
  simp (disch:=omega) only [go_sem,simprocAttr,hp,hl]
  refine new_opq hs fun c h hs => ?_
  have hc:=hs.at
  simp (disch:=omega) only [go_sem,simprocAttr,hc]
  have hs5:=hs.set (o':=.row 1 [[.nils]] 1)
  generalize Hp.set h c _ = h2 at hs5 ⊢
  refine call_use (search (N:=0) (f:=97) (caps:=[.ptr c 1 0 0,.ptr a 1 0 0]) (pr:=fun i => true) hs5 (by omega) rfl (fun _ _ _ _ _ => rfl) (fun i h hi => absurd hi (by omega))) ?_
  rintro r h ⟨k,hr,hk,_,_,hs⟩
  subst hr
  have : k = 0:=by omega
  subst this
  have e0 : (((0:Nat) : Int) == 0) = true:=rfl
  have hb:=hs.p1.at
  rw [hv0]
  simp (disch:=omega) only [go_sem,simprocAttr,e0,hb,kvC,kv0]
  exact ⟨rfl,mk hs.p1.set.drop.drop.drop⟩
end
end Go.Proofs.YtmhbnkjajkcmkaaGreat
/- The store: the keys of a range; a range; a new store; a write that begins. -/
set_option maxRecDepth 10000
namespace Go.Proofs.YtmhbnkjajkcmkaaGreat
open Go.Hz
section
variable {h:Hp} {F:List Asr} {s:Nat} {A:Sto} {o:AV}
theorem mvNew (hs : sat h F) : Triple Tryz.prog 30 [] h (fun r h => ∃ s,r = .ptr s 7 0 0∧sat h (StP s ⟨0,0,[],[]⟩ .nilp :: F)):=by
 refine t30 (Nat.le_of_ble_eq_true rfl) ?_
 simp (disch:=omega) only [F30,go_sem,simprocAttr]
 refine call_use (ixNew hs) ?_
 rintro r h ⟨b,hr,hs⟩
 subst hr
 simp (disch:=omega) only [go_sem,simprocAttr]
 refine new_opq hs fun m h hs => ?_
 simp (disch:=omega) only [go_sem,simprocAttr]
 refine new_opq hs fun q h hs => ?_
 simp (disch:=omega) only [go_sem,simprocAttr]
 refine ⟨q,rfl,mvP.2 ⟨b,m,.nils,[],[],⟨?_,?_,?_⟩,?_⟩⟩
 ·exact ⟨Int.le_refl _,Int.le_refl _,.nil,by simp,.nil,by simp,by simp,fun a v b h => by simp at h,by simp⟩
 ·exact ⟨WfL.nil,fun k => rfl⟩
 ·exact ⟨.nil,by simp,fun k h => absurd rfl h⟩
 ·have h1:=mpA_new (K:=fun k : Key => AV.str k) (key:=Vn.key) (v:=Vn.v) hs.p1
  have h2 : sat h (Ow 2 .nils [] :: MpA (fun k : Key => AV.str k) Vn.key Vn.v m [] :: pto q (.row 7 [[.int .i64 0,.int .i64 0,.int .i64 0,.ptr b 2 0 0,.map m,.nils,.nilp]] 1) :: IxQ b [] :: F):=h1.add ow_nil
  have h3 : sat h (IxP b [] :: pto q (.row 7 [[.int .i64 0,.int .i64 0,.int .i64 0,.ptr b 2 0 0,.map m,.nils,.nilp]] 1) :: Ow 2 .nils [] :: MpA (fun k : Key => AV.str k) Vn.key Vn.v m [] :: F):=sat_ixp.2 ⟨[],rfl,h2.p1.p1.p2.p3⟩
  exact h3.p1
def StKeys (A:Sto) (lo hi : Key) (ks:List Key) : Prop:=SrtS ks∧ks.length ≤ A.old.length + A.chs.length + 1∧if hi = [] then ks = [lo] else ∀ k,k ∈ ks ↔ A.vers k ≠ []∧inR lo hi k = true
theorem mvKeys {lo hi : Key} (hs : sat h (StP s A o :: F)) (hz:A.old.length + A.chs.length ≤ 100000000) : Triple Tryz.prog 43 [.ptr s 7 0 0,.str lo,.str hi] h (fun r h => ∃ ks,StKeys A lo hi ks∧sat h (Ow 1 r (ks.map fun k => [.str k]) :: StP s A o :: F)):=by
 obtain ⟨ix,vm,cv,L,X,hok,hs2⟩:=mvP.1 hs
 refine t43 (Nat.le_of_ble_eq_true rfl) ?_
 simp (disch:=omega) only [F43,go_sem,simprocAttr]
 by_cases hh : hi = []
 ·subst hh
  have e0 : (([] : List UInt8) == []) = true:=rfl
  simp (disch:=omega) only [go_sem,simprocAttr,e0]
  refine new_opq hs fun a h hs => ?_
  simp (disch:=omega) only [go_sem,simprocAttr]
  refine ⟨[lo],⟨List.pairwise_singleton _ _,by simp,by simp⟩,?_⟩
  have:=hs.ow (by simp)
  simpa using this
 ·have e0 : (hi == []) = false:=by simpa using hh
  have hp:=hs2.at
  simp (disch:=omega) only [go_sem,simprocAttr,e0,hp]
  have hs3 : sat h (IxP ix L :: pto s (.row 7 [[.int .i64 A.rev,.int .i64 A.past,.int .i64 A.now.length,.ptr ix 2 0 0,.map vm,cv,o]] 1) :: Ow 2 cv (A.chs.map (verC tp td)) :: MpA (fun k : Key => AV.str k) Vn.key Vn.v vm X :: (X.map (VnP tp td) ++ F)):=hs2.p1
  refine call_use (ixKeysO (lo:=lo) (hi:=hi) hs3 hok.2.1.1 (by have:=ix_num hok.2.1; omega)) ?_
  intro r h hs
  simp (disch:=omega) only [go_sem,simprocAttr]
  refine ⟨keysL L lo hi,⟨keysL_srt hok.2.1.1.1,?_,?_⟩,?_⟩
  ·have h1:=ix_num hok.2.1
   have : (keysL L lo hi).length ≤ L.length:=by unfold keysL; exact Nat.le_trans (List.length_filter_le _ _) (by simp)
   omega
  ·rw [if_neg hh]
   exact fun k => keysL_mem hok.2.1
  ·have hs4:=hs.tl fun h hs => (mvP.2 ⟨ix,vm,cv,L,X,hok,hs.p1⟩ : sat h (StP s A o :: F))
   exact hs4
theorem stkeys_at {ks:List Key} {lo hi : Key} (ok:StoOK A) (hk:StKeys A lo hi ks) {r:Int} (hr:A.past ≤ r) : ks.filterMap (fun k => vAt (A.vers k) r) = (A.at r).filter fun x => inK lo hi x.key:=by
 by_cases hh : hi = []
 ·subst hh
  have:=hk.2.2
  rw [if_pos rfl] at this
  subst this
  exact rng_at1 ok hr
 ·have h1:=hk.2.2
  rw [if_neg hh] at h1
  have e : (fun k => vAt (A.vers k) r) = kvget (A.at r):=funext fun k => vAt_at ok hr k
  rw [e]
  refine pick_keys (at_srt ok r) hk.1 (fun k hk' => ?_) fun x hx hin => ?_
  ·rw [inK,if_neg hh]; exact ((h1 k).1 hk').2
  ·rw [inK,if_neg hh] at hin
   exact (h1 _).2 ⟨at_vers ok hr hx,hin⟩
end
end Go.Proofs.YtmhbnkjajkcmkaaGreat
/- The store: a range. -/
set_option maxRecDepth 10000
namespace Go.Proofs.YtmhbnkjajkcmkaaGreat
open Go.Hz
section
variable {h:Hp} {F:List Asr} {s:Nat} {A:Sto} {o:AV}
theorem mvKeysR {lo hi : Key} (hs : sat h (StP s A o :: F)) (hz:A.old.length + A.chs.length ≤ 100000000) : Triple Tryz.prog 43 [.ptr s 7 0 0,.str lo,.str hi] h (fun r h => ∃ ks,StKeys A lo hi ks∧r = strsV ks∧sat h (StP s A o :: F)) :=
 Triple.lst 1 ((mvKeys hs hz).mono fun r h ⟨ks,h1,hs⟩ => ⟨_,_,hs,fun h hs => ⟨ks,h1,rfl,hs⟩⟩)
theorem mvRangeO {lo hi : Key} {rev lim : Int} (hs : sat h (StP s A o :: F)) (hz:A.old.length + A.chs.length ≤ 100000000) : Triple Tryz.prog 20 [.ptr s 7 0 0,.str lo,.str hi,.int .i64 rev,.int .i64 lim] h
  (fun r h => ∃ v,r = .tup [v,.int .i64 (stRange A lo hi rev lim).2.1,.int .i64 (stRange A lo hi rev lim).2.2]∧sat h (Ow 6 v ((stRange A lo hi rev lim).1.map kvC) :: StP s A o :: F)):=by
 have ok:=MvP.ok hs
 have hz2 : A.chs.length ≤ 100000000:=by omega
 obtain ⟨ix,vm,cv,L,X,hok,hs2⟩:=mvP.1 hs
 have hp:=hs2.at
 have mk : ∀ {h:Hp},sat h (MvL tp td s ix vm cv o A L X ++ F) → sat h (StP s A o :: F):=fun hs => mvP.2 ⟨ix,vm,cv,L,X,hok,hs⟩
 refine t20 (Nat.le_of_ble_eq_true rfl) ?_
 simp (disch:=omega) only [F20,go_sem,simprocAttr]
 by_cases c1 : rev < 0
 ·have ef : stRange A lo hi rev lim = ([],0,1):=by rw [stRange,if_pos c1]
  rw [ef]
  simp (disch:=omega) only [go_sem,simprocAttr,c1]
  exact ⟨.nils,rfl,(mk hs2).add ow_nil⟩
 by_cases c2 : A.rev < rev
 ·have ef : stRange A lo hi rev lim = ([],0,17):=by rw [stRange,if_neg c1,if_pos c2]
  rw [ef]
  simp (disch:=omega) only [go_sem,simprocAttr,c1,hp,show (rev > A.rev) = True by simp; omega]
  exact ⟨.nils,rfl,(mk hs2).add ow_nil⟩
 have d2 : (rev > A.rev) = False:=by simp; omega
 by_cases c3 : 0 < rev∧rev < A.past
 ·have ef : stRange A lo hi rev lim = ([],0,16):=by rw [stRange,if_neg c1,if_neg c2,if_pos c3]
  rw [ef]
  simp (disch:=omega) only [go_sem,simprocAttr,c1,hp,d2,show (rev > 0) = True by simp; omega,show (rev < A.past) = True by simp; omega]
  exact ⟨.nils,rfl,(mk hs2).add ow_nil⟩
 obtain ⟨r,hr,hrp⟩ : ∃ r,r = (if rev = 0 then A.rev else rev)∧A.past ≤ r:=⟨_,rfl,by have:=ok.rev; split <;> omega⟩
 have ef : stRange A lo hi rev lim = ((rngL (A.at r) lo hi lim).1,(rngL (A.at r) lo hi lim).2,0):=by rw [stRange,if_neg c1,if_neg c2,if_neg c3,hr]
 rw [ef]
 refine cnd_join (Q:=fun e h => sat h (StP s A o :: F)∧(e 0 = .ptr s 7 0 0∧e 1 = .str lo∧e 2 = .str hi∧e 3 = .int .i64 r∧e 4 = .int .i64 lim)) ?_ ?_
 ·by_cases r0 : rev = 0
  ·subst r0
   rw [if_pos rfl] at hr
   subst hr
   simp (disch:=omega) only [go_sem,simprocAttr,c1,hp,d2]
   exact mk hs2
  ·rw [if_neg r0] at hr
   subst hr
   have e0 : (r == 0) = false:=by simpa using r0
   simp (disch:=omega) only [go_sem,simprocAttr,c1,hp,d2,show (r > 0) = True by simp; omega,show (r < A.past) = False by simp; omega,e0]
   exact mk hs2
 clear hs hs2 hp
 rintro e h ⟨hs,he⟩
 simp (disch:=omega) only [go_sem,simprocAttr,he]
 refine call_use (mvKeysR (lo:=lo) (hi:=hi) hs hz) ?_
 rintro v h ⟨ks,hk,hv,hs⟩
 subst hv
 have hsel:=stkeys_at ok hk hrp
 have hkl:=hk.2.1
 have lenK : lenL (strsV ks) = some (.int .i64 ks.length):=by simp [strsV,lenL]
 simp (disch:=omega) only [go_sem,simprocAttr,lenK]
 generalize hpf : (fun k => vAt (A.vers k) r) = pf at hsel
 have hpf2 : ∀ k,vAt (A.vers k) r = pf k:=fun k => by rw [← hpf]
 refine run_up (N:=ks.length) (fun i e h => sat h (Ow 6 (e 13) ((cutL lim ((ks.take i).filterMap pf)).map kvC) :: StP s A o :: F)∧(e 0 = .ptr s 7 0 0∧e 3 = .int .i64 r∧e 4 = .int .i64 lim∧e 14 = .int .i64 ((ks.take i).filterMap pf).length∧e 50 = strsV ks∧e 51 = .int .i64 ks.length∧e 52 = .int .i64 i)) ⟨?_,?_⟩ ?_
 ·have : (cutL lim (([] : List Key).filterMap pf)).map kvC = []:=by simp [cutL]
  rw [List.take_zero,this]
  exact hs.add ow_nil
 ·simp [Env.upd_apply,he]
 clear hs he
 rintro i e h hi ⟨hs,he⟩
 have m1 : (i:Int) + 1 = ((i + 1 : Nat) : Int):=by omega
 simp (disch:=omega) only [go_sem,simprocAttr,he,m1]
 refine cnd_dec (fun h1 => ?_) (fun h1 => ?_)
 ·have hi : i < ks.length:=by omega
  have hik : iaA 1 (strsV ks) (.int .i64 (i:Int)) = some (.ro [.str ks[i]]):=ia_lst (f:=fun k => [AV.str k]) hi fun _ => rfl
  have hfl : ((ks.take i).filterMap pf).length ≤ 100000001:=by
   have:=List.length_filterMap_le pf (ks.take i)
   rw [List.length_take] at this
   omega
  have hst : (ks.take (i + 1)).filterMap pf = (ks.take i).filterMap pf ++ (pf ks[i]).toList:=by
   rw [List.take_succ_eq_append_getElem hi,List.filterMap_append]
   cases h : pf ks[i] <;> simp [h]
  simp (disch:=omega) only [go_sem,simprocAttr,he,hik]
  refine call_use (mvAt (key:=ks[i]) (rev:=r) hs.p1 hz2) ?_
  rintro r h ⟨hr,hs⟩
  subst hr
  simp (disch:=omega) only [go_sem,simprocAttr,hpf2]
  refine new_opq hs fun a h hs => ?_
  have ha:=hs.at
  cases hpk : pf ks[i] with
  | none =>
   rw [hpk,Option.toList_none,List.append_nil] at hst
   have hs:=hs.set (o':=.row 6 [kvC kv0] 1)
   simp only [kvC,kv0] at hs
   simp (disch:=omega) only [go_sem,simprocAttr,ha,hpk,Option.getD_none,Option.isSome_none,kvC,kv0,he,m1]
   rw [hst]
   exact ⟨by omega,hs.drop.p1,rfl⟩
  | some kv =>
   rw [hpk,Option.toList_some] at hst
   have hs2:=hs.set (o':=.row 6 [kvC kv] 1)
   have ha2:=hs2.at
   simp only [kvC] at hs2 ha2
   simp (disch:=omega) only [go_sem,simprocAttr,ha,hpk,Option.getD_some,Option.isSome_some,kvC,he]
   generalize Hp.set h a _ = h3 at hs2 ha2 ⊢
   have hol:=hs2.p2.els.len
   have hcl : (cutL lim ((ks.take i).filterMap pf)).length ≤ 100000001:=Nat.le_trans cutL_len hfl
   have hsn:=cutL_snoc (lim:=lim) (l:=(ks.take i).filterMap pf) (x:=kv)
   have hlen14 : ((((ks.take i).filterMap pf).length : Nat) : Int) + 1 = (((ks.take i).filterMap pf ++ [kv]).length : Int):=by simp
   rw [List.length_map] at hol
   by_cases l1 : lim < 1
   ·rw [if_pos (.inl l1)] at hsn
    simp (disch:=omega) only [go_sem,simprocAttr,l1,he,ha2]
    refine new_opq hs2 fun b h hs => ?_
    simp (disch:=omega) only [go_sem,simprocAttr]
    refine app_sat hs.p3 (src_one hs.at) (atoms_one (by simp [AV.isAtom])) (by simp; omega) fun v' h hs ca aa => ?_
    simp (disch:=omega) only [go_sem,simprocAttr,he,m1]
    rw [hst,hsn]
    refine ⟨by omega,?_,?_⟩
    ·have:=hs.p1.drop.p1.drop.p1.p1
     simpa [kvC] using this
    ·rw [hlen14]
   ·by_cases l2 : ((cutL lim ((ks.take i).filterMap pf)).length : Int) < lim
    ·rw [if_pos (.inr l2)] at hsn
     simp (disch:=omega) only [go_sem,simprocAttr,l1,l2,hol,he,ha2]
     refine new_opq hs2 fun b h hs => ?_
     simp (disch:=omega) only [go_sem,simprocAttr]
     refine app_sat hs.p3 (src_one hs.at) (atoms_one (by simp [AV.isAtom])) (by simp; omega) fun v' h hs ca aa => ?_
     simp (disch:=omega) only [go_sem,simprocAttr,he,m1]
     rw [hst,hsn]
     refine ⟨by omega,?_,?_⟩
     ·have:=hs.p1.drop.p1.drop.p1.p1
      simpa [kvC] using this
     ·rw [hlen14]
    ·rw [if_neg (by intro hh; rcases hh with hh | hh; exact l1 hh; exact l2 hh)] at hsn
     simp (disch:=omega) only [go_sem,simprocAttr,l1,l2,hol,he,m1]
     rw [hst,hsn]
     exact ⟨by omega,hs2.drop.p1,by rw [hlen14]⟩
 ·have hi : i = ks.length:=by omega
  subst hi
  simp (disch:=omega) only [go_sem,simprocAttr,he]
  rw [List.take_length,hsel] at hs
  refine ⟨_,?_,hs⟩
  rw [List.take_length,hsel]
  rfl
theorem mvRange {lo hi : Key} {rev lim : Int} (hs : sat h (StP s A o :: F)) (hz:A.old.length + A.chs.length ≤ 100000000) : Triple Tryz.prog 20 [.ptr s 7 0 0,.str lo,.str hi,.int .i64 rev,.int .i64 lim] h
  (fun r h => r = .tup [kvsV (stRange A lo hi rev lim).1,.int .i64 (stRange A lo hi rev lim).2.1,.int .i64 (stRange A lo hi rev lim).2.2]∧sat h (StP s A o :: F)) :=
 Triple.lst1 6 ((mvRangeO hs hz).mono fun r h ⟨v,hr,hs⟩ => ⟨v,_,_,_,hr,hs,fun h hs => ⟨rfl,hs⟩⟩)
end
end Go.Proofs.YtmhbnkjajkcmkaaGreat
/- The store: a write that begins; what it says of a key; a change laid down; Put. -/
set_option maxRecDepth 10000
namespace Go.Proofs.YtmhbnkjajkcmkaaGreat
open Go.Hz
abbrev WtP (w s : Nat) (A:Sto) (W:Wr) : Asr:=WrP tp td w s A W
section
variable {h:Hp} {F:List Asr} {s w : Nat} {A:Sto} {o:AV} {W:Wr}
theorem mvWrite (hs : sat h (StP s A o :: F)) : Triple Tryz.prog 147 [.ptr s 7 0 0] h (fun r h => ∃ w,r = .ptr w 4 0 0∧sat h (WtP w s A ⟨A.now,[]⟩ :: StP s A (.ptr w 4 0 0) :: F)):=by
 obtain ⟨ix,vm,cv,L,X,hok,hs2⟩:=mvP.1 hs
 refine t147 (Nat.le_of_ble_eq_true rfl) ?_
 simp (disch:=omega) only [F147,go_sem,simprocAttr]
 refine new_opq hs2 fun m h hs => ?_
 have hp:=hs.p1.at
 simp (disch:=omega) only [go_sem,simprocAttr,hp]
 refine new_opq hs fun w h hs => ?_
 have hp:=hs.p2.at
 simp (disch:=omega) only [go_sem,simprocAttr,hp]
 have hs3 : sat (h.set s (.row 7 [[.int .i64 A.rev,.int .i64 A.past,.int .i64 A.now.length,.ptr ix 2 0 0,.map vm,cv,.ptr w 4 0 0]] 1)) (pto s (.row 7 [[.int .i64 A.rev,.int .i64 A.past,.int .i64 A.now.length,.ptr ix 2 0 0,.map vm,cv,.ptr w 4 0 0]] 1) :: pto w (.row 4 [[.ptr s 7 0 0,.nils,.map m,.int .i64 A.now.length]] 1) :: pto m (.mp [] 0) :: IxP ix L :: Ow 2 cv (A.chs.map (verC tp td)) :: MpA (fun k : Key => AV.str k) Vn.key Vn.v vm X :: (X.map (VnP tp td) ++ F)):=hs.p2.set
 refine ⟨w,rfl,wrP.2 ⟨.nils,m,wrOK_nil A,?_⟩⟩
 have hs4:=hs3.p2.p2
 exact hs4.tl fun _ h => (mpA_new (h.tl fun _ h => (mvP.2 ⟨ix,vm,cv,L,X,hok,h⟩ : sat _ (StP s A (.ptr w 4 0 0) :: F)))).add ow_nil
theorem mvClosed (hs : sat h (WtP w s A W :: StP s A (.ptr w 4 0 0) :: F)) : Triple Tryz.prog 191 [.ptr w 4 0 0] h (fun r h => r = .bool false∧sat h (WtP w s A W :: StP s A (.ptr w 4 0 0) :: F)):=by
 obtain ⟨lv,bm,hw,hs1⟩:=wrP.1 hs
 obtain ⟨ix,vm,cv,L,X,hok,hs2⟩:=mvP.1 hs1.p3
 have hp:=hs2.at
 have hq:=hs1.at
 refine t191 (Nat.le_of_ble_eq_true rfl) ?_
 simp (disch:=omega) only [F191,hp,hq,go_sem,simprocAttr]
 exact hs
theorem mvNow {key:Key} (hs : sat h (WtP w s A W :: StP s A o :: F)) (hz:A.chs.length ≤ 100000000) : Triple Tryz.prog 193 [.ptr w 4 0 0,.str key] h (fun r h =>
  r = .tup [.agg (kvC ((kvget W.cur key).getD kv0)),.bool (kvget W.cur key).isSome]∧sat h (WtP w s A W :: StP s A o :: F)):=by
 have ok:=MvP.ok hs.p1
 obtain ⟨lv,bm,hw,hs1⟩:=wrP.1 hs
 have mk : ∀ {h:Hp},sat h (pto w (.row 4 [[.ptr s 7 0 0,lv,.map bm,.int .i64 W.cur.length]] 1) :: Ow 1 lv (W.l.map fun c => [chV tp td c]) :: MpA (fun k : Key => AV.str k) Ch.key (chV tp td) bm W.l :: StP s A o :: F) → sat h (WtP w s A W :: StP s A o :: F):=fun hs => wrP.2 ⟨lv,bm,hw,hs⟩
 refine t193 (Nat.le_of_ble_eq_true rfl) ?_
 simp (disch:=omega) only [F193,go_sem,simprocAttr]
 refine new_opq hs1 fun a h hs => ?_
 have hp:=hs.p1.at
 cases hc : wChg W key with
 | true =>
  obtain ⟨c,hcm,rfl⟩:=wChg_t hc
  have hl:=lk_hit keyOK_str hs.p3 hw.nd hcm (ok:=true) (z:=.nili)
  have hnow:=now_chg ok hw hcm
  rw [hnow]
  simp (disch:=omega) only [go_sem,simprocAttr,hp,hl]
  cases c with
  | put kv =>
   simp (disch:=omega) only [go_sem,simprocAttr,chV,taA,tp,td,kvC]
   refine new_opq hs fun y h hs => ?_
   have hy:=hs.at
   have hs5:=hs.set (o':=.row 6 [kvC kv] 1)
   have hy5:=hs5.at
   have hb5:=hs5.p1.at
   simp only [kvC,kv0] at hy5 hb5 hs5
   simp (disch:=omega) only [go_sem,simprocAttr,hy,hy5,hb5,kvC]
   exact ⟨rfl,mk hs5.p1.set.drop.drop⟩
  | del dk =>
   simp (disch:=omega) only [go_sem,simprocAttr,chV,taA,tp,td,kvC]
   refine new_opq hs fun y h hs => ?_
   have hy:=hs.at
   have hs5:=hs.set (o':=.row 6 [kvC kv0] 1)
   have hy5:=hs5.at
   have hb5:=hs5.p1.at
   simp only [kvC,kv0] at hy5 hb5 hs5
   simp (disch:=omega) only [go_sem,simprocAttr,hy,hy5,hb5,kvC]
   exact ⟨rfl,mk hs5.p1.set.drop.drop⟩
 | false =>
  have hl:=lk_miss keyOK_str hs.p3 (q:=key) (wChg_f hc) (ok:=true) (z:=.nili)
  simp (disch:=omega) only [go_sem,simprocAttr,hp,hl]
  obtain ⟨ix,vm,cv,L,X,hok,hs2⟩:=mvP.1 hs.p4
  have hq:=hs2.at
  simp (disch:=omega) only [go_sem,simprocAttr,hp,hq]
  refine call_use (mvAt (key:=key) (rev:=A.rev) hs.p4 hz) ?_
  rintro r h ⟨hr,hs⟩
  subst hr
  simp (disch:=omega) only [go_sem,simprocAttr]
  have hv : vAt (A.vers key) A.rev = kvget W.cur key:=by rw [vAt_at ok ok.rev,at_rev ok,now_same ok hw hc]
  rw [hv]
  have ha:=hs.p1.at
  simp (disch:=omega) only [go_sem,simprocAttr,ha,kvC]
  exact mk hs.p1.set.drop.p3.p3.p3
theorem mvLay {c:Ch} {lv:AV} {bm:Nat} {n:Int} (hw:WrOK A W) (hs : sat h (pto w (.row 4 [[.ptr s 7 0 0,lv,.map bm,.int .i64 n]] 1) :: Ow 1 lv (W.l.map fun c => [chV tp td c]) :: MpA (fun k : Key => AV.str k) Ch.key (chV tp td) bm W.l :: F)) (hz:W.l.length ≤ 100000000) (hc : wChg W c.key = false) (hk : c.key ≠ []∧c.key.length ≤ 100) (hd : c.kv = none → kvget W.cur c.key ≠ none) (hnum:∀ kv,c = .put kv → kv.mod = A.rev + 1∧KvIn (A.rev + 1) kv) : Triple Tryz.prog 196 [.ptr w 4 0 0,chV tp td c] h (fun r h =>
  ∃ lv,WrOK A ⟨done W.cur c,W.l ++ [c]⟩∧sat h (pto w (.row 4 [[.ptr s 7 0 0,lv,.map bm,.int .i64 n]] 1) :: Ow 1 lv ((W.l ++ [c]).map fun c => [chV tp td c]) :: MpA (fun k : Key => AV.str k) Ch.key (chV tp td) bm (W.l ++ [c]) :: F)):=by
 have hp:=hs.at
 have ca:=chV_atom (tp:=tp) (td:=td) c
 have cc:=chV_cells (tp:=tp) (td:=td) c
 refine t196 (Nat.le_of_ble_eq_true rfl) ?_
 simp (disch:=omega) only [F196,hp,cc,ca,go_sem,simprocAttr]
 refine new_opq hs fun a h hs => ?_
 simp (disch:=omega) only [go_sem,simprocAttr]
 refine app_sat hs.p2 (src_one hs.at) (atoms_one (by simp [ca])) (by simp; omega) fun v' h hs ca' aa => ?_
 have hp:=hs.p2.at
 have hs2:=hs.p2.set (o':=.row 4 [[.ptr s 7 0 0,v',.map bm,.int .i64 n]] 1)
 have hp2:=hs2.at
 simp (disch:=omega) only [go_sem,simprocAttr,hp,ca',aa,hp2]
 generalize Hp.set h w _ = h3 at hs2 hp2 ⊢
 refine inv_key hs2 c fun h hs => ?_
 have hp:=hs.at
 simp (disch:=omega) only [go_sem,simprocAttr,hp]
 refine mup_new keyOK_str hs.p3 (y:=c) (wChg_f hc) fun h hs => ?_
 simp (disch:=omega) only [go_sem,simprocAttr]
 refine ⟨v',hw.lay hc hk hd hnum,?_⟩
 simpa using hs.p3.drop.p2.p2
theorem mvPut {key val : Key} {lease:Int} (hs : sat h (WtP w s A W :: StP s A (.ptr w 4 0 0) :: F)) (hz:A.chs.length ≤ 100000000) (hzl:W.l.length ≤ 100000000) (hzc:W.cur.length ≤ 200000000) (hr:A.rev ≤ 1000000000000000) :
  Triple Tryz.prog 190 [.ptr w 4 0 0,.str key,.str val,.int .i64 lease] h (fun r h => r = .int .i64 (wPut (A.rev + 1) W key val lease).1∧sat h (WtP w s A (wPut (A.rev + 1) W key val lease).2 :: StP s A (.ptr w 4 0 0) :: F)):=by
 have ok:=MvP.ok hs.p1
 have hw:=WrP.ok hs
 have hpast:=ok.past
 have hrev:=ok.rev
 obtain ⟨lv,bm,_,hs1⟩:=wrP.1 hs
 have hp:=hs1.at
 obtain ⟨tw,hl⟩ : ∃ v,lkA true true .nili h (.map bm) (.str key) = some (.tup [v,.bool (wChg W key)]):=by
  cases hc : wChg W key with
  | true =>
   obtain ⟨c,hcm,rfl⟩:=wChg_t hc
   exact ⟨_,lk_hit keyOK_str hs1.p2 hw.nd hcm⟩
  | false => exact ⟨_,lk_miss keyOK_str hs1.p2 (wChg_f hc)⟩
 refine t190 (Nat.le_of_ble_eq_true rfl) ?_
 simp (disch:=omega) only [F190,hp,hl,go_sem,simprocAttr]
 refine call_use (mvNow (key:=key) hs hz) ?_
 rintro r h ⟨hr,hs⟩
 subst hr
 simp (disch:=omega) only [go_sem,simprocAttr]
 refine new_opq hs fun a h hs => ?_
 have ha:=hs.at
 generalize hkv : (kvget W.cur key).getD kv0 = kv
 have hs2:=hs.set (o':=.row 6 [kvC kv] 1)
 have ha2:=hs2.at
 simp only [kvC] at hs2 ha2
 simp (disch:=omega) only [go_sem,simprocAttr,ha,kvC]
 generalize Hp.set h a _ = h2 at hs2 ha2 ⊢
 by_cases k0 : key = []
 ·subst k0
  have ef : wPut (A.rev + 1) W [] val lease = (1,W):=by simp [wPut]
  rw [ef]
  have e0 : (([] : List UInt8) == []) = true:=rfl
  simp (disch:=omega) only [go_sem,simprocAttr,e0]
  exact hs2.drop
 have e0 : (key == []) = false:=by simpa using k0
 by_cases k1 : 100 < key.length
 ·have ef : wPut (A.rev + 1) W key val lease = (1,W):=by simp [wPut,k1]
  rw [ef]
  simp (disch:=omega) only [go_sem,simprocAttr,e0,show ((key.length : Int) > 100) = True by simp; omega]
  exact hs2.drop
 have e1 : ((key.length : Int) > 100) = False:=by simp; omega
 by_cases k2 : lease < 0
 ·have ef : wPut (A.rev + 1) W key val lease = (1,W):=by simp [wPut,k2]
  rw [ef]
  simp (disch:=omega) only [go_sem,simprocAttr,e0,e1,k2]
  exact hs2.drop
 have hn1 : ¬ (key = [] ∨ 100 < key.length ∨ lease < 0):=by rintro (h | h | h); exact k0 h; exact k1 h; exact k2 h
 by_cases k3 : 4096 < val.length
 ·have ef : wPut (A.rev + 1) W key val lease = (5,W):=by rw [wPut,if_neg hn1,if_pos k3]
  rw [ef]
  simp (disch:=omega) only [go_sem,simprocAttr,e0,e1,k2,show ((val.length : Int) > 4096) = True by simp; omega]
  exact hs2.drop
 have e3 : ((val.length : Int) > 4096) = False:=by simp; omega
 cases hchg : wChg W key with
 | true =>
  have ef : wPut (A.rev + 1) W key val lease = (18,W):=by rw [wPut,if_neg hn1,if_neg k3,if_pos hchg]
  rw [ef]
  simp (disch:=omega) only [go_sem,simprocAttr,e0,e1,k2,e3,hchg]
  exact hs2.drop
 | false =>
 have hnc : ¬ wChg W key = true:=by simp [hchg]
 obtain ⟨lv2,bm2,_,hs3⟩:=wrP.1 hs2.p1
 obtain ⟨ix,vm,cv,L,X,hok,hs4⟩:=mvP.1 hs2.p2
 have hp:=hs3.at
 have hq:=hs4.at
 cases hg : kvget W.cur key with
 | none =>
  rw [hg,Option.getD_none] at hkv
  subst hkv
  by_cases k4 : 4096 ≤ W.cur.length
  ·have ef : wPut (A.rev + 1) W key val lease = (14,W):=by rw [wPut,if_neg hn1,if_neg k3,if_neg hnc,if_pos ⟨hg,k4⟩]
   rw [ef]
   simp (disch:=omega) only [go_sem,simprocAttr,e0,e1,k2,e3,hchg,hg,Option.isSome_none,hp,show ((W.cur.length : Int) ≥ 4096) = True by simp; omega]
   exact hs2.drop
  have ef : wPut (A.rev + 1) W key val lease = (0,⟨done W.cur (.put (wNew (A.rev + 1) W key val lease)),W.l ++ [.put (wNew (A.rev + 1) W key val lease)]⟩):=by rw [wPut,if_neg hn1,if_neg k3,if_neg hnc,if_neg (fun h => k4 h.2)]
  rw [ef]
  simp (disch:=omega) only [go_sem,simprocAttr,e0,e1,k2,e3,hchg,hg,Option.isSome_none,hp,show ((W.cur.length : Int) ≥ 4096) = False by simp; omega]
  refine call_use (mvClosed hs2.p2.p2) ?_
  rintro r h ⟨hr,hs⟩
  subst hr
  simp (disch:=omega) only [go_sem,simprocAttr,Option.isSome_none]
  obtain ⟨lv3,bm3,_,hs5⟩:=wrP.1 hs
  obtain ⟨ix,vm,cv,L,X,hok,hs6⟩:=mvP.1 hs5.p3
  have hp:=hs5.at
  have hq:=hs6.at
  have ha:=hs5.p4.at
  simp (disch:=omega) only [go_sem,simprocAttr,hp,hq,ha,Option.isSome_none]
  have hsA:=hs5.p4.set (o':=.row 6 [[.str key,.str [],.int .i64 (A.rev + 1),.int .i64 0,.int .i64 0,.int .i64 0]] 1)
  have hwA:=hsA.p1.at
  have haA:=hsA.at
  generalize Hp.set h a _ = h4 at hsA hwA haA ⊢
  have hsB:=hsA.p1.set (o':=.row 4 [[.ptr s 7 0 0,lv3,.map bm3,.int .i64 (W.cur.length + 1)]] 1)
  have haB:=hsB.p1.at
  simp (disch:=omega) only [go_sem,simprocAttr,hwA,haA,haB]
  generalize Hp.set h4 w _ = h5 at hsB haB ⊢
  have hsC:=hsB.p1.set (o':=.row 6 [[.str key,.str val,.int .i64 (A.rev + 1),.int .i64 (A.rev + 1),.int .i64 1,.int .i64 lease]] 1)
  have hwn : wNew (A.rev + 1) W key val lease = ⟨key,val,A.rev + 1,A.rev + 1,1,lease⟩:=by simp [wNew,hg]
  have hlay : Triple Tryz.prog 196 [.ptr w 4 0 0,chV tp td (.put ⟨key,val,A.rev + 1,A.rev + 1,1,lease⟩)] _ _:=mvLay hw hsC.p4.p4.p4.p4 hzl (by rw [← hwn]; exact wNew_chg hchg) (by rw [← hwn]; exact wNew_len k0 (by omega)) (fun h => by cases h) (by rw [← hwn]; exact wNew_num ok hw hchg (by omega) (by omega))
  rw [hwn]
  refine call_use hlay ?_
  rintro r h ⟨lv4,hok',hs⟩
  simp (disch:=omega) only [go_sem,simprocAttr]
  have hdl:=done_len (c:=.put ⟨key,val,A.rev + 1,A.rev + 1,1,lease⟩) (hw.srt ok)
  rw [show (Ch.put ⟨key,val,A.rev + 1,A.rev + 1,1,lease⟩).key = key from rfl,hg] at hdl
  have hdl2 : ((done W.cur (.put ⟨key,val,A.rev + 1,A.rev + 1,1,lease⟩)).length : Int) = (W.cur.length : Int) + 1:=by rw [hdl]; simp [Ch.kv]
  refine wrP.2 ⟨lv4,bm3,hok',?_⟩
  rw [hdl2]
  exact hs.p4.drop.p3.p3.p3.p3
 | some x =>
  rw [hg,Option.getD_some] at hkv
  subst hkv
  have ef : wPut (A.rev + 1) W key val lease = (0,⟨done W.cur (.put (wNew (A.rev + 1) W key val lease)),W.l ++ [.put (wNew (A.rev + 1) W key val lease)]⟩):=by rw [wPut,if_neg hn1,if_neg k3,if_neg hnc,if_neg (fun h => by rw [hg] at h; cases h.1)]
  rw [ef]
  simp (disch:=omega) only [go_sem,simprocAttr,e0,e1,k2,e3,hchg,hg,Option.isSome_some]
  refine call_use (mvClosed hs2.p2.p2) ?_
  rintro r h ⟨hr,hs⟩
  subst hr
  simp (disch:=omega) only [go_sem,simprocAttr,Option.isSome_some]
  obtain ⟨lv3,bm3,_,hs5⟩:=wrP.1 hs
  obtain ⟨ix,vm,cv,L,X,hok,hs6⟩:=mvP.1 hs5.p3
  have hp:=hs5.at
  have hq:=hs6.at
  have ha:=hs5.p4.at
  have hxm:=cur_num ok hw x (kvget_some hg).1
  have hxk:=(kvget_some hg).2
  unfold KvIn at hxm
  have hwn : wNew (A.rev + 1) W key val lease = ⟨key,val,x.create,A.rev + 1,x.ver + 1,lease⟩:=by simp [wNew,hg]
  simp (disch:=omega) only [go_sem,simprocAttr,hp,hq,ha,Option.isSome_some]
  have hsC:=hs5.p4.set (o':=.row 6 [[.str x.key,.str val,.int .i64 x.create,.int .i64 (A.rev + 1),.int .i64 (x.ver + 1),.int .i64 lease]] 1)
  rw [hxk] at hsC ⊢
  have hlay : Triple Tryz.prog 196 [.ptr w 4 0 0,chV tp td (.put ⟨key,val,x.create,A.rev + 1,x.ver + 1,lease⟩)] _ _:=mvLay hw hsC.p4.p4.p4.p4 hzl (by rw [← hwn]; exact wNew_chg hchg) (by rw [← hwn]; exact wNew_len k0 (by omega)) (fun h => by cases h) (by rw [← hwn]; exact wNew_num ok hw hchg (by omega) (by omega))
  rw [hwn]
  refine call_use hlay ?_
  rintro r h ⟨lv4,hok',hs⟩
  simp (disch:=omega) only [go_sem,simprocAttr]
  have hdl:=done_len (c:=.put ⟨key,val,x.create,A.rev + 1,x.ver + 1,lease⟩) (hw.srt ok)
  rw [show (Ch.put ⟨key,val,x.create,A.rev + 1,x.ver + 1,lease⟩).key = key from rfl,hg] at hdl
  have hdl2 : (done W.cur (.put ⟨key,val,x.create,A.rev + 1,x.ver + 1,lease⟩)).length = W.cur.length:=by rw [hdl]; simp [Ch.kv]
  refine wrP.2 ⟨lv4,bm3,hok',?_⟩
  rw [hdl2]
  exact hs.p4.drop.p3.p3.p3.p3
end
end Go.Proofs.YtmhbnkjajkcmkaaGreat
/- slices: the pivot; reverseRange. -/
set_option maxRecDepth 10000
namespace Go.Proofs.YtmhbnkjajkcmkaaGreat
open Go.Hz Go.Sort
section
variable {h:Hp} {F:List Asr} {G:List AV → Prop} {lt:List AV → List AV → Bool}
theorem ord_L {fc:Nat} {caps:List AV} (hf : okFn Tryz.prog fc = true) (hc:CmpT Tryz.prog true G lt fc caps) (E:GoodE 3 true G) {d:Array (List AV)} {x y n b cap q : Nat} (hs : sat h (pto b (.row 3 d.toList cap) :: pto q (.row 1 [[.int .i64 n]] 1) :: F)) (hg:GA G d) (hx : x < d.size) (hy : y < d.size) (hn : n ≤ 1000) (hsz : d.size ≤ 1000000000000) :
  Triple Tryz.prog 265 [.arr b 3 0 d.size cap,.int .i64 x,.int .i64 y,.ptr q 1 0 0,.fn fc caps] h (fun r h => ∃ u v m : Nat,r = .tup [.int .i64 u,.int .i64 v]∧(u = x∧v = y ∨ u = y∧v = x)∧m ≤ n + 1∧sat h (pto b (.row 3 d.toList cap) :: pto q (.row 1 [[.int .i64 m]] 1) :: F)):=by
 have r1:=rd_c E hg hy
 have r2:=rd_c E hg hx
 refine t265 (Nat.le_of_ble_eq_true rfl) ?_
 simp (disch:=omega) only [F265,hs.at,r1,r2,go_sem,simprocAttr]
 refine callv_use hf (hc _ _ _ _ (hg _ hy) (hg _ hx) hs) ?_
 rintro r h ⟨c,hr,hcl,hs⟩
 subst hr
 simp (disch:=omega) only [go_sem,simprocAttr,hcl]
 cases hq : lt d[y]! d[x]!
 ·simp (disch:=omega) only [go_sem,simprocAttr]
  exact ⟨x,y,n,rfl,.inl ⟨rfl,rfl⟩,by omega,hs⟩
 ·simp (disch:=omega) only [go_sem,simprocAttr,hs.p1.at]
  have e : ((n:Int) + 1) = ((n + 1 : Nat) : Int):=by omega
  refine ⟨y,x,n + 1,rfl,.inr ⟨rfl,rfl⟩,by omega,?_⟩
  rw [← e]
  exact hs.p1.set.p1
theorem med_L {fc:Nat} {caps:List AV} (hf : okFn Tryz.prog fc = true) (hc:CmpT Tryz.prog true G lt fc caps) (E:GoodE 3 true G) {d:Array (List AV)} {x y z n b cap q : Nat} (hs : sat h (pto b (.row 3 d.toList cap) :: pto q (.row 1 [[.int .i64 n]] 1) :: F)) (hg:GA G d) (hx : x < d.size) (hy : y < d.size) (hz : z < d.size) (hn : n ≤ 990) (hsz : d.size ≤ 1000000000000) :
  Triple Tryz.prog 246 [.arr b 3 0 d.size cap,.int .i64 x,.int .i64 y,.int .i64 z,.ptr q 1 0 0,.fn fc caps] h (fun r h => ∃ u m : Nat,r = .int .i64 u∧(u = x ∨ u = y ∨ u = z)∧m ≤ n + 3∧sat h (pto b (.row 3 d.toList cap) :: pto q (.row 1 [[.int .i64 m]] 1) :: F)):=by
 refine t246 (Nat.le_of_ble_eq_true rfl) ?_
 simp (disch:=omega) only [F246,go_sem,simprocAttr]
 refine call_use (ord_L hf hc E hs hg hx hy (by omega) hsz) ?_
 rintro r h ⟨u1,v1,n1,hr,h1,m1,hs⟩
 subst hr
 simp (disch:=omega) only [go_sem,simprocAttr]
 refine call_use (ord_L hf hc E hs hg (by omega) hz (by omega) hsz) ?_
 rintro r h ⟨u2,v2,n2,hr,h2,m2,hs⟩
 subst hr
 simp (disch:=omega) only [go_sem,simprocAttr]
 refine call_use (ord_L hf hc E hs hg (by omega) (by omega) (by omega) hsz) ?_
 rintro r h ⟨u3,v3,n3,hr,h3,m3,hs⟩
 subst hr
 simp (disch:=omega) only [go_sem,simprocAttr]
 exact ⟨v3,n3,rfl,by omega,by omega,hs⟩
theorem mea_L {fc:Nat} {caps:List AV} (hf : okFn Tryz.prog fc = true) (hc:CmpT Tryz.prog true G lt fc caps) (E:GoodE 3 true G) {d:Array (List AV)} {x n b cap q : Nat} (hs : sat h (pto b (.row 3 d.toList cap) :: pto q (.row 1 [[.int .i64 n]] 1) :: F)) (hg:GA G d) (hx0 : 1 ≤ x) (hx : x + 1 < d.size) (hn : n ≤ 990) (hsz : d.size ≤ 1000000000000) :
  Triple Tryz.prog 245 [.arr b 3 0 d.size cap,.int .i64 x,.ptr q 1 0 0,.fn fc caps] h (fun r h => ∃ u m : Nat,r = .int .i64 u∧x ≤ u + 1∧u ≤ x + 1∧m ≤ n + 3∧sat h (pto b (.row 3 d.toList cap) :: pto q (.row 1 [[.int .i64 m]] 1) :: F)):=by
 have n1 : (x:Int) - 1 = ((x - 1 : Nat) : Int):=by omega
 have n2 : (x:Int) + 1 = ((x + 1 : Nat) : Int):=by omega
 refine t245 (Nat.le_of_ble_eq_true rfl) ?_
 simp (disch:=omega) only [F245,n1,n2,go_sem,simprocAttr]
 refine call_use (med_L hf hc E hs hg (by omega) (by omega) (by omega) (by omega) hsz) ?_
 rintro r h ⟨u,m,hr,h1,m1,hs⟩
 subst hr
 simp (disch:=omega) only [go_sem,simprocAttr]
 exact ⟨u,m,rfl,by omega,by omega,by omega,hs⟩
theorem piv_L {fc:Nat} {caps:List AV} (hf : okFn Tryz.prog fc = true) (hc:CmpT Tryz.prog true G lt fc caps) (E:GoodE 3 true G) {d:Array (List AV)} {a bb b cap : Nat} (hs : sat h (pto b (.row 3 d.toList cap) :: F)) (hg:GA G d) (ha : a + 12 < bb) (hb : bb ≤ d.size) (hsz : d.size ≤ 1000000000000) :
  Triple Tryz.prog 222 [.arr b 3 0 d.size cap,.int .i64 a,.int .i64 bb,.fn fc caps] h (fun r h => ∃ (u:Nat) (t:Nat),r = .tup [.int .i64 u,.int .i64 t]∧a ≤ u∧u < bb∧t ≤ 2∧sat h (pto b (.row 3 d.toList cap) :: F)):=by
 obtain ⟨l,hl⟩ : ∃ l,l = bb - a:=⟨_,rfl⟩
 have n0 : (bb:Int) - a = (l:Int):=by omega
 obtain ⟨g,hgg⟩ : ∃ g,g = l / 4:=⟨_,rfl⟩
 have n1 : (l:Int).tdiv 4 = (g:Int):=by rw [Int.tdiv_eq_ediv_of_nonneg (by omega)]; omega
 have n2 : (a:Int) + (g:Int) = ((a + g : Nat) : Int):=by omega
 have n3 : (a:Int) + (g:Int) * 2 = ((a + g * 2 : Nat) : Int):=by omega
 have n4 : (a:Int) + (g:Int) * 3 = ((a + g * 3 : Nat) : Int):=by omega
 have n5 : (8:Int) ≤ (l:Int):=by omega
 refine t222 (Nat.le_of_ble_eq_true rfl) ?_
 simp (disch:=omega) only [F222,n0,go_sem,simprocAttr]
 refine new_sat hs fun q hq hs => ?_
 have hs:=hs.p1
 simp (disch:=omega) only [go_sem,simprocAttr,n0,n1,n2,n3,n4,n5,Int.mul_one]
 refine cnd_join (Q:=fun e h => ∃ i j k m : Nat,a ≤ i∧i < bb∧a ≤ j∧j < bb∧a ≤ k∧k < bb∧m ≤ 9∧sat h (pto b (.row 3 d.toList cap) :: pto q (.row 1 [[.int .i64 m]] 1) :: F) ∧
  (e 0 = .arr b 3 0 d.size cap∧e 3 = .fn fc caps∧e 11 = .ptr q 1 0 0∧e 12 = .int .i64 i∧e 13 = .int .i64 j∧e 14 = .int .i64 k)) ?_ ?_
 ·refine cnd_dec (fun h50 => ?_) (fun h50 => ?_)
  ·simp (disch:=omega) only [go_sem,simprocAttr]
   refine call_use (mea_L (n:=0) hf hc E hs hg (by omega) (by omega) (by omega) hsz) ?_
   rintro r h ⟨u1,m1,hr,h1,h1',hm1,hs⟩
   subst hr
   simp (disch:=omega) only [go_sem,simprocAttr]
   refine call_use (mea_L hf hc E hs hg (by omega) (by omega) (by omega) hsz) ?_
   rintro r h ⟨u2,m2,hr,h2,h2',hm2,hs⟩
   subst hr
   simp (disch:=omega) only [go_sem,simprocAttr]
   refine call_use (mea_L hf hc E hs hg (by omega) (by omega) (by omega) hsz) ?_
   rintro r h ⟨u3,m3,hr,h3,h3',hm3,hs⟩
   subst hr
   simp (disch:=omega) only [go_sem,simprocAttr]
   exact ⟨u1,u2,u3,m3,by omega,by omega,by omega,by omega,by omega,by omega,by omega,hs,rfl,rfl,rfl⟩
  ·simp (disch:=omega) only [go_sem,simprocAttr]
   exact ⟨a + g,a + g * 2,a + g * 3,0,by omega,by omega,by omega,by omega,by omega,by omega,by omega,hs,rfl,rfl,rfl⟩
 ·rintro e h ⟨i,j,k,m,i1,i2,j1,j2,k1,k2,hm,hs,he⟩
  simp (disch:=omega) only [go_sem,simprocAttr,he]
  refine call_use (med_L hf hc E hs hg (by omega) (by omega) (by omega) (by omega) hsz) ?_
  rintro r h ⟨u,m',hr,hu,hm',hs⟩
  subst hr
  simp (disch:=omega) only [go_sem,simprocAttr,he,hs.p1.at]
  have hd:=hs.p1.drop
  cases e0 : ((m' : Int) == 0)
  ·cases e1 : ((m' : Int) == 12)
   ·simp (disch:=omega) only [go_sem,simprocAttr,he,e0,e1]
    exact ⟨u,0,rfl,by omega,by omega,by omega,hd⟩
   ·simp (disch:=omega) only [go_sem,simprocAttr,he,e0,e1]
    exact ⟨u,2,rfl,by omega,by omega,by omega,hd⟩
  ·simp (disch:=omega) only [go_sem,simprocAttr,he,e0]
   exact ⟨u,1,rfl,by omega,by omega,by omega,hd⟩
theorem rev_L (E:GoodE 3 true G) {d:Array (List AV)} {a bb b cap : Nat} {cf:AV} (hs : sat h (pto b (.row 3 d.toList cap) :: F)) (hg:GA G d) (ha : a < bb) (hb : bb ≤ d.size) (hsz : d.size ≤ 1000000000000) :
  Triple Tryz.prog 223 [.arr b 3 0 d.size cap,.int .i64 a,.int .i64 bb,cf] h (fun r h => PermIn a bb d (reverseRange d a bb)∧GA G (reverseRange d a bb)∧(reverseRange d a bb).size = d.size∧sat h (pto b (.row 3 (reverseRange d a bb).toList cap) :: F)):=by
 have n1 : (bb:Int) - 1 = ((bb - 1 : Nat) : Int):=by omega
 have hP:=reverseRange_holds d a bb (by omega) hb
 refine t223 (Nat.le_of_ble_eq_true rfl) ?_
 simp (disch:=omega) only [F223,n1,go_sem,simprocAttr]
 refine run_loopN (fun n e h => ∃ (i j : Nat) (d2:Array (List AV)),n = j + 1 - i∧a ≤ i∧i ≤ j + 1∧j < bb∧reverseLoop i j d2 = reverseRange d a bb∧GA G d2∧d2.size = d.size∧sat h (pto b (.row 3 d2.toList cap) :: F) ∧
  (e 0 = .arr b 3 0 d.size cap∧e 8 = .int .i64 i∧e 9 = .int .i64 j)) _ ⟨a,bb - 1,d,rfl,Nat.le_refl _,by omega,by omega,rfl,hg,rfl,hs,rfl,rfl,rfl⟩ ?_
 rintro n e h ⟨i,j,d2,rfl,hi,hij,hj,hI,hg2,hz2,hs,he⟩
 simp (disch:=omega) only [go_sem,simprocAttr,he]
 refine cnd_dec (fun hlt => ?_) (fun hge => ?_)
 ·have m1 : (i:Int) + 1 = ((i + 1 : Nat) : Int):=by omega
  have m2 : (j:Int) - 1 = ((j - 1 : Nat) : Int):=by omega
  obtain ⟨k1,k2,k3,k4,k5,k6,k7,k8,k9,k10,k11,⟨ky,y1,y2,y3,y4⟩,hw⟩:=sw_c E hg2 (i:=i) (j:=j) (by omega) (by omega)
  simp (disch:=omega) only [go_sem,simprocAttr,he,m1,m2,hs.at,k1,k2,k3,k4,k5,k6,k7,k8,k9,k10,k11,y1,y2,y3,y4,hw]
  refine ⟨j - 1 + 1 - (i + 1),by omega,i + 1,j - 1,_,rfl,by omega,by omega,by omega,?_,hg2.swp (by omega) (by omega),by rw [Go.Sort.swp_size]; exact hz2,hs.set,rfl,rfl⟩
  rw [← hI,reverseLoop.eq_1 i j,if_pos (by omega)]
 ·simp (disch:=omega) only [go_sem,simprocAttr,he]
  rw [reverseLoop,if_neg (by omega)] at hI
  subst hI
  exact ⟨hP,hg2,hz2,hs⟩
theorem ord_S (hc:LessT Tryz.prog false G lt 256) (E:GoodE 1 false G) {d:Array (List AV)} {x y n b cap q : Nat} (hs : sat h (pto b (.row 1 d.toList cap) :: pto q (.row 1 [[.int .i64 n]] 1) :: F)) (hg:GA G d) (hx : x < d.size) (hy : y < d.size) (hn : n ≤ 1000) (hsz : d.size ≤ 1000000000000) :
  Triple Tryz.prog 272 [.arr b 1 0 d.size cap,.int .i64 x,.int .i64 y,.ptr q 1 0 0] h (fun r h => ∃ u v m : Nat,r = .tup [.int .i64 u,.int .i64 v]∧(u = x∧v = y ∨ u = y∧v = x)∧m ≤ n + 1∧sat h (pto b (.row 1 d.toList cap) :: pto q (.row 1 [[.int .i64 m]] 1) :: F)):=by
 have r1:=rd_o E hg hy
 have r2:=rd_o E hg hx
 refine t272 (Nat.le_of_ble_eq_true rfl) ?_
 simp (disch:=omega) only [F272,hs.at,r1,r2,go_sem,simprocAttr]
 refine call_use (hc _ _ _ _ (hg _ hy) (hg _ hx) hs) ?_
 rintro r h ⟨hr,hs⟩
 subst hr
 simp (disch:=omega) only [go_sem,simprocAttr]
 cases hq : lt d[y]! d[x]!
 ·simp (disch:=omega) only [go_sem,simprocAttr]
  exact ⟨x,y,n,rfl,.inl ⟨rfl,rfl⟩,by omega,hs⟩
 ·simp (disch:=omega) only [go_sem,simprocAttr,hs.p1.at]
  have e : ((n:Int) + 1) = ((n + 1 : Nat) : Int):=by omega
  refine ⟨y,x,n + 1,rfl,.inr ⟨rfl,rfl⟩,by omega,?_⟩
  rw [← e]
  exact hs.p1.set.p1
theorem med_S (hc:LessT Tryz.prog false G lt 256) (E:GoodE 1 false G) {d:Array (List AV)} {x y z n b cap q : Nat} (hs : sat h (pto b (.row 1 d.toList cap) :: pto q (.row 1 [[.int .i64 n]] 1) :: F)) (hg:GA G d) (hx : x < d.size) (hy : y < d.size) (hz : z < d.size) (hn : n ≤ 990) (hsz : d.size ≤ 1000000000000) :
  Triple Tryz.prog 269 [.arr b 1 0 d.size cap,.int .i64 x,.int .i64 y,.int .i64 z,.ptr q 1 0 0] h (fun r h => ∃ u m : Nat,r = .int .i64 u∧(u = x ∨ u = y ∨ u = z)∧m ≤ n + 3∧sat h (pto b (.row 1 d.toList cap) :: pto q (.row 1 [[.int .i64 m]] 1) :: F)):=by
 refine t269 (Nat.le_of_ble_eq_true rfl) ?_
 simp (disch:=omega) only [F269,go_sem,simprocAttr]
 refine call_use (ord_S hc E hs hg hx hy (by omega) hsz) ?_
 rintro r h ⟨u1,v1,n1,hr,h1,m1,hs⟩
 subst hr
 simp (disch:=omega) only [go_sem,simprocAttr]
 refine call_use (ord_S hc E hs hg (by omega) hz (by omega) hsz) ?_
 rintro r h ⟨u2,v2,n2,hr,h2,m2,hs⟩
 subst hr
 simp (disch:=omega) only [go_sem,simprocAttr]
 refine call_use (ord_S hc E hs hg (by omega) (by omega) (by omega) hsz) ?_
 rintro r h ⟨u3,v3,n3,hr,h3,m3,hs⟩
 subst hr
 simp (disch:=omega) only [go_sem,simprocAttr]
 exact ⟨v3,n3,rfl,by omega,by omega,hs⟩
theorem mea_S (hc:LessT Tryz.prog false G lt 256) (E:GoodE 1 false G) {d:Array (List AV)} {x n b cap q : Nat} (hs : sat h (pto b (.row 1 d.toList cap) :: pto q (.row 1 [[.int .i64 n]] 1) :: F)) (hg:GA G d) (hx0 : 1 ≤ x) (hx : x + 1 < d.size) (hn : n ≤ 990) (hsz : d.size ≤ 1000000000000) :
  Triple Tryz.prog 268 [.arr b 1 0 d.size cap,.int .i64 x,.ptr q 1 0 0] h (fun r h => ∃ u m : Nat,r = .int .i64 u∧x ≤ u + 1∧u ≤ x + 1∧m ≤ n + 3∧sat h (pto b (.row 1 d.toList cap) :: pto q (.row 1 [[.int .i64 m]] 1) :: F)):=by
 have n1 : (x:Int) - 1 = ((x - 1 : Nat) : Int):=by omega
 have n2 : (x:Int) + 1 = ((x + 1 : Nat) : Int):=by omega
 refine t268 (Nat.le_of_ble_eq_true rfl) ?_
 simp (disch:=omega) only [F268,n1,n2,go_sem,simprocAttr]
 refine call_use (med_S hc E hs hg (by omega) (by omega) (by omega) (by omega) hsz) ?_
 rintro r h ⟨u,m,hr,h1,m1,hs⟩
 subst hr
 simp (disch:=omega) only [go_sem,simprocAttr]
 exact ⟨u,m,rfl,by omega,by omega,by omega,hs⟩
theorem piv_S (hc:LessT Tryz.prog false G lt 256) (E:GoodE 1 false G) {d:Array (List AV)} {a bb b cap : Nat} (hs : sat h (pto b (.row 1 d.toList cap) :: F)) (hg:GA G d) (ha : a + 12 < bb) (hb : bb ≤ d.size) (hsz : d.size ≤ 1000000000000) :
  Triple Tryz.prog 253 [.arr b 1 0 d.size cap,.int .i64 a,.int .i64 bb] h (fun r h => ∃ (u:Nat) (t:Nat),r = .tup [.int .i64 u,.int .i64 t]∧a ≤ u∧u < bb∧t ≤ 2∧sat h (pto b (.row 1 d.toList cap) :: F)):=by
 obtain ⟨l,hl⟩ : ∃ l,l = bb - a:=⟨_,rfl⟩
 have n0 : (bb:Int) - a = (l:Int):=by omega
 obtain ⟨g,hgg⟩ : ∃ g,g = l / 4:=⟨_,rfl⟩
 have n1 : (l:Int).tdiv 4 = (g:Int):=by rw [Int.tdiv_eq_ediv_of_nonneg (by omega)]; omega
 have n2 : (a:Int) + (g:Int) = ((a + g : Nat) : Int):=by omega
 have n3 : (a:Int) + (g:Int) * 2 = ((a + g * 2 : Nat) : Int):=by omega
 have n4 : (a:Int) + (g:Int) * 3 = ((a + g * 3 : Nat) : Int):=by omega
 have n5 : (8:Int) ≤ (l:Int):=by omega
 refine t253 (Nat.le_of_ble_eq_true rfl) ?_
 simp (disch:=omega) only [F253,n0,go_sem,simprocAttr]
 refine new_sat hs fun q hq hs => ?_
 have hs:=hs.p1
 simp (disch:=omega) only [go_sem,simprocAttr,n0,n1,n2,n3,n4,n5,Int.mul_one]
 refine cnd_join (Q:=fun e h => ∃ i j k m : Nat,a ≤ i∧i < bb∧a ≤ j∧j < bb∧a ≤ k∧k < bb∧m ≤ 9∧sat h (pto b (.row 1 d.toList cap) :: pto q (.row 1 [[.int .i64 m]] 1) :: F) ∧
  (e 0 = .arr b 1 0 d.size cap∧e 9 = .ptr q 1 0 0∧e 10 = .int .i64 i∧e 11 = .int .i64 j∧e 12 = .int .i64 k)) ?_ ?_
 ·refine cnd_dec (fun h50 => ?_) (fun h50 => ?_)
  ·simp (disch:=omega) only [go_sem,simprocAttr]
   refine call_use (mea_S (n:=0) hc E hs hg (by omega) (by omega) (by omega) hsz) ?_
   rintro r h ⟨u1,m1,hr,h1,h1',hm1,hs⟩
   subst hr
   simp (disch:=omega) only [go_sem,simprocAttr]
   refine call_use (mea_S hc E hs hg (by omega) (by omega) (by omega) hsz) ?_
   rintro r h ⟨u2,m2,hr,h2,h2',hm2,hs⟩
   subst hr
   simp (disch:=omega) only [go_sem,simprocAttr]
   refine call_use (mea_S hc E hs hg (by omega) (by omega) (by omega) hsz) ?_
   rintro r h ⟨u3,m3,hr,h3,h3',hm3,hs⟩
   subst hr
   simp (disch:=omega) only [go_sem,simprocAttr]
   exact ⟨u1,u2,u3,m3,by omega,by omega,by omega,by omega,by omega,by omega,by omega,hs,rfl,rfl,rfl⟩
  ·simp (disch:=omega) only [go_sem,simprocAttr]
   exact ⟨a + g,a + g * 2,a + g * 3,0,by omega,by omega,by omega,by omega,by omega,by omega,by omega,hs,rfl,rfl,rfl⟩
 ·rintro e h ⟨i,j,k,m,i1,i2,j1,j2,k1,k2,hm,hs,he⟩
  simp (disch:=omega) only [go_sem,simprocAttr,he]
  refine call_use (med_S hc E hs hg (by omega) (by omega) (by omega) (by omega) hsz) ?_
  rintro r h ⟨u,m',hr,hu,hm',hs⟩
  subst hr
  simp (disch:=omega) only [go_sem,simprocAttr,he,hs.p1.at]
  have hd:=hs.p1.drop
  cases e0 : ((m' : Int) == 0)
  ·cases e1 : ((m' : Int) == 12)
   ·simp (disch:=omega) only [go_sem,simprocAttr,he,e0,e1]
    exact ⟨u,0,rfl,by omega,by omega,by omega,hd⟩
   ·simp (disch:=omega) only [go_sem,simprocAttr,he,e0,e1]
    exact ⟨u,2,rfl,by omega,by omega,by omega,hd⟩
  ·simp (disch:=omega) only [go_sem,simprocAttr,he,e0]
   exact ⟨u,1,rfl,by omega,by omega,by omega,hd⟩
theorem rev_S (E:GoodE 1 false G) {d:Array (List AV)} {a bb b cap : Nat} {cf:AV} (hs : sat h (pto b (.row 1 d.toList cap) :: F)) (hg:GA G d) (ha : a < bb) (hb : bb ≤ d.size) (hsz : d.size ≤ 1000000000000) :
  Triple Tryz.prog 254 [.arr b 1 0 d.size cap,.int .i64 a,.int .i64 bb] h (fun r h => PermIn a bb d (reverseRange d a bb)∧GA G (reverseRange d a bb)∧(reverseRange d a bb).size = d.size∧sat h (pto b (.row 1 (reverseRange d a bb).toList cap) :: F)):=by
 have n1 : (bb:Int) - 1 = ((bb - 1 : Nat) : Int):=by omega
 have hP:=reverseRange_holds d a bb (by omega) hb
 refine t254 (Nat.le_of_ble_eq_true rfl) ?_
 simp (disch:=omega) only [F254,n1,go_sem,simprocAttr]
 refine run_loopN (fun n e h => ∃ (i j : Nat) (d2:Array (List AV)),n = j + 1 - i∧a ≤ i∧i ≤ j + 1∧j < bb∧reverseLoop i j d2 = reverseRange d a bb∧GA G d2∧d2.size = d.size∧sat h (pto b (.row 1 d2.toList cap) :: F) ∧
  (e 0 = .arr b 1 0 d.size cap∧e 6 = .int .i64 i∧e 7 = .int .i64 j)) _ ⟨a,bb - 1,d,rfl,Nat.le_refl _,by omega,by omega,rfl,hg,rfl,hs,rfl,rfl,rfl⟩ ?_
 rintro n e h ⟨i,j,d2,rfl,hi,hij,hj,hI,hg2,hz2,hs,he⟩
 simp (disch:=omega) only [go_sem,simprocAttr,he]
 refine cnd_dec (fun hlt => ?_) (fun hge => ?_)
 ·have m1 : (i:Int) + 1 = ((i + 1 : Nat) : Int):=by omega
  have m2 : (j:Int) - 1 = ((j - 1 : Nat) : Int):=by omega
  obtain ⟨k1,k2,k3,k4,k5,k6,k7,k8,k9,k10,k11,⟨ky,y1,y2,y3,y4⟩,hw⟩:=sw_o E hg2 (i:=i) (j:=j) (by omega) (by omega)
  simp (disch:=omega) only [go_sem,simprocAttr,he,m1,m2,hs.at,k1,k2,k3,k4,k5,k6,k7,k8,k9,k10,k11,y1,y2,y3,y4,hw]
  refine ⟨j - 1 + 1 - (i + 1),by omega,i + 1,j - 1,_,rfl,by omega,by omega,by omega,?_,hg2.swp (by omega) (by omega),by rw [Go.Sort.swp_size]; exact hz2,hs.set,rfl,rfl⟩
  rw [← hI,reverseLoop.eq_1 i j,if_pos (by omega)]
 ·simp (disch:=omega) only [go_sem,simprocAttr,he]
  rw [reverseLoop,if_neg (by omega)] at hI
  subst hI
  exact ⟨hP,hg2,hz2,hs⟩
end
end Go.Proofs.YtmhbnkjajkcmkaaGreat
/- math/bits.Len, slices.nextPowerOfTwo, xorshift, breakPatterns. -/
set_option maxRecDepth 10000
namespace Go.Proofs.YtmhbnkjajkcmkaaGreat
open Go.Hz Go.Sort
section
variable {h:Hp} {F:List Asr} {G:List AV → Prop} {lt:List AV → List AV → Bool}
theorem len64 {n:Nat} (hs : sat h F) (hn : n < 4294967296) : Triple Tryz.prog 228 [.int .u64 n] h (fun r h => ∃ t : Nat,r = .int .i64 t∧n < 2 ^ t∧(1 ≤ n → 2 ^ t ≤ 2 * n)∧t ≤ 32∧sat h F):=by
 have s16 : (n:Int).fdiv (2 ^ min 16 64) = ((n / 65536 : Nat) : Int):=by simp [Int.fdiv_eq_ediv]
 refine t228 (Nat.le_of_ble_eq_true rfl) ?_
 simp (disch:=omega) only [F228,go_sem,simprocAttr]
 refine cnd_dec (fun h1 => absurd h1 (by omega)) (fun h1 => ?_)
 simp (disch:=omega) only [go_sem,simprocAttr]
 refine cnd_join (Q:=fun e h => ∃ k t : Nat,k = n / 2 ^ t∧(t = 0 ∨ t = 16∧1 ≤ k)∧k < 65536∧sat h F∧(e 0 = .int .u64 k∧e 2 = .int .i64 t)) ?_ ?_
 ·refine cnd_dec (fun h2 => ?_) (fun h2 => ?_)
  ·simp (disch:=omega) only [go_sem,simprocAttr,s16]
   exact ⟨n / 65536,16,rfl,.inr ⟨rfl,by omega⟩,by omega,hs,rfl,rfl⟩
  ·simp (disch:=omega) only [go_sem,simprocAttr]
   exact ⟨n,0,by simp,.inl rfl,by omega,hs,rfl,rfl⟩
 ·rintro e h ⟨k,t,hk,ht,hk2,hs,he⟩
  have s8 : (k:Int).fdiv (2 ^ min 8 64) = ((k / 256 : Nat) : Int):=by simp [Int.fdiv_eq_ediv]
  simp (disch:=omega) only [go_sem,simprocAttr,he]
  refine cnd_join (Q:=fun e h => ∃ k t : Nat,k = n / 2 ^ t∧(t = 0 ∨ t ≤ 24∧1 ≤ k)∧k < 256∧sat h F∧(e 0 = .int .u64 k∧e 2 = .int .i64 t)) ?_ ?_
  ·refine cnd_dec (fun h2 => ?_) (fun h2 => ?_)
   ·have w2 : (t:Int) + 8 = ((t + 8 : Nat) : Int):=by omega
    simp (disch:=omega) only [go_sem,simprocAttr,he,s8,w2]
    exact ⟨k / 256,t + 8,by rw [Nat.pow_add,← Nat.div_div_eq_div_mul,← hk],.inr ⟨by omega,by omega⟩,by omega,hs,rfl,rfl⟩
   ·simp (disch:=omega) only [go_sem,simprocAttr,he]
    exact ⟨k,t,hk,by omega,by omega,hs,rfl,rfl⟩
  ·rintro e h ⟨k,t,hk,ht,hk2,hs,he⟩
   have w3 : IntKind.u8.wrap (k:Int) = (k:Int):=by simp [IntKind.wrap,IntKind.signed,IntKind.bits]; omega
   simp (disch:=omega) only [go_sem,simprocAttr,he,w3]
   refine ixs_use (by kernel_rfl) hk2 fun u hu1 hu2 hu3 => ?_
   have w4 : IntKind.i64.wrap (u:Int) = (u:Int):=by simp [IntKind.wrap,IntKind.signed,IntKind.bits]; omega
   have w5 : (t:Int) + (u:Int) = ((t + u : Nat) : Int):=by omega
   simp (disch:=omega) only [go_sem,simprocAttr,he,w4,w5]
   have p0 : 0 < 2 ^ t:=Nat.pow_pos (by omega)
   have e1 : 2 ^ t * k ≤ n:=by rw [hk]; exact Nat.mul_div_le n _
   have e2 : n < 2 ^ t * (k + 1):=by rw [hk]; exact Nat.lt_mul_div_succ n p0
   refine ⟨t + u,rfl,?_,fun hn1 => ?_,by omega,hs⟩
   ·rw [Nat.pow_add]
    exact Nat.lt_of_lt_of_le e2 (Nat.mul_le_mul_left _ hu1)
   ·rw [Nat.pow_add]
    have hk1 : 1 ≤ k:=by
     rcases ht with h0 | h0
     ·subst h0; simp at hk; omega
     ·exact h0.2
    calc 2 ^ t * 2 ^ u ≤ 2 ^ t * (2 * k):=Nat.mul_le_mul_left _ (hu2 hk1)
     _ = 2 * (2 ^ t * k):=by rw [← Nat.mul_assoc,Nat.mul_comm (2 ^ t) 2,Nat.mul_assoc]
     _ ≤ 2 * n:=Nat.mul_le_mul_left _ e1
theorem len0 {n:Nat} (hs : sat h F) (hn : n < 4294967296) : Triple Tryz.prog 204 [.int .u64 n] h (fun r h => ∃ t : Nat,r = .int .i64 t∧n < 2 ^ t∧(1 ≤ n → 2 ^ t ≤ 2 * n)∧t ≤ 32∧sat h F):=by
 refine t204 (Nat.le_of_ble_eq_true rfl) ?_
 simp (disch:=omega) only [F204,go_sem,simprocAttr]
 refine call_use (len64 hs hn) ?_
 rintro r h ⟨t,hr,h1,h2,h3,hs⟩
 subst hr
 simp (disch:=omega) only [go_sem,simprocAttr]
 exact ⟨t,rfl,h1,h2,h3,hs⟩
theorem npow {n:Nat} (hs : sat h F) (hn : n < 1000000000) (hn1 : 1 ≤ n) : Triple Tryz.prog 243 [.int .i64 n] h (fun r h => ∃ t : Nat,r = .int .u64 ((2 ^ t : Nat) : Int)∧n < 2 ^ t∧2 ^ t ≤ 2 * n∧t ≤ 32∧sat h F):=by
 have w1 : IntKind.u64.wrap (n:Int) = (n:Int):=by simp [IntKind.wrap,IntKind.signed,IntKind.bits]; omega
 refine t243 (Nat.le_of_ble_eq_true rfl) ?_
 simp (disch:=omega) only [F243,w1,go_sem,simprocAttr]
 refine call_use (len0 hs (by omega)) ?_
 rintro r h ⟨t,hr,h1,h2,h3,hs⟩
 subst hr
 have w2 : IntKind.u64.wrap (1 * 2 ^ min t 64) = ((2 ^ t : Nat) : Int):=by
  rw [Nat.min_eq_left (by omega)]
  have : (2:Nat) ^ t < 2 ^ 33:=Nat.pow_lt_pow_right (by omega) (by omega)
  have e : (1:Int) * 2 ^ t = ((2 ^ t : Nat) : Int):=by simp
  rw [e]
  exact wu64 (by omega)
 simp (disch:=omega) only [go_sem,simprocAttr,Int.toNat_natCast,w2]
 exact ⟨by omega,t,rfl,h1,h2 hn1,h3,hs⟩
theorem xnext {q:Nat} {z:Int} (hs : sat h (pto q (.row 1 [[.int .u64 z]] 1) :: F)) : Triple Tryz.prog 244 [.ptr q 1 0 0] h (fun r h => ∃ z' : Int,r = .int .u64 z'∧sat h (pto q (.row 1 [[.int .u64 z']] 1) :: F)):=by
 refine t244 (Nat.le_of_ble_eq_true rfl) ?_
 simp (disch:=omega) only [F244,hs.at,go_sem,simprocAttr]
 exact ⟨_,rfl,hs.set⟩
theorem brk_L (E:GoodE 3 true G) {d:Array (List AV)} {a bb b cap : Nat} {cf:AV} (hs : sat h (pto b (.row 3 d.toList cap) :: F)) (hg:GA G d) (ha : a + 12 < bb) (hb : bb ≤ d.size) (hsz : d.size ≤ 100000000) :
  Triple Tryz.prog 221 [.arr b 3 0 d.size cap,.int .i64 a,.int .i64 bb,cf] h (fun r h => ∃ d2 : Array (List AV),PermIn a bb d d2∧GA G d2∧d2.size = d.size∧sat h (pto b (.row 3 d2.toList cap) :: F)):=by
 obtain ⟨l,hl⟩ : ∃ l,l = bb - a:=⟨_,rfl⟩
 have n0 : (bb:Int) - a = (l:Int):=by omega
 obtain ⟨g,hgg⟩ : ∃ g,g = l / 4:=⟨_,rfl⟩
 have n1 : (l:Int).tdiv 4 = (g:Int):=by rw [Int.tdiv_eq_ediv_of_nonneg (by omega)]; omega
 have n2 : (a:Int) + (g:Int) * 2 = ((a + g * 2 : Nat) : Int):=by omega
 have n3 : ((a + g * 2 : Nat) : Int) - 1 = ((a + g * 2 - 1 : Nat) : Int):=by omega
 have n4 : ((a + g * 2 : Nat) : Int) + 1 = ((a + g * 2 + 1 : Nat) : Int):=by omega
 have n5 : (8:Int) ≤ (l:Int):=by omega
 have w1:=wu64 (n:=l) (by omega)
 refine t221 (Nat.le_of_ble_eq_true rfl) ?_
 simp (disch:=omega) only [F221,n0,n5,w1,go_sem,simprocAttr]
 refine new_opq hs fun q h hs => ?_
 simp (disch:=omega) only [go_sem,simprocAttr,hs.at,n0,w1]
 refine call_use (npow (hs.set (o':=.row 1 [[.int .u64 l]] 1)) (n:=l) (by omega) (by omega)) ?_
 rintro r h ⟨t,hr,h1,h2,h3,hs⟩
 subst hr
 simp (disch:=omega) only [go_sem,simprocAttr,n1,n2,n3]
 have ht : (2:Nat) ^ t < 2 ^ 33:=Nat.pow_lt_pow_right (by omega) (by omega)
 refine run_loopN (fun n e h => ∃ (i:Nat) (d2:Array (List AV)) (z:Int),n = a + g * 2 + 2 - i∧a + g * 2 - 1 ≤ i∧i ≤ a + g * 2 + 2∧PermIn a bb d d2∧GA G d2∧d2.size = d.size∧sat h (pto q (.row 1 [[.int .u64 z]] 1) :: pto b (.row 3 d2.toList cap) :: F) ∧
  (e 0 = .arr b 3 0 d.size cap∧e 1 = .int .i64 a∧e 8 = .int .i64 l∧e 9 = .ptr q 1 0 0∧e 10 = .int .u64 ((2 ^ t : Nat) : Int)∧e 11 = .int .i64 i)) _ ⟨a + g * 2 - 1,d,_,rfl,Nat.le_refl _,by omega,permIn_refl d a bb,hg,rfl,hs,rfl,rfl,rfl,rfl,rfl,rfl⟩ ?_
 rintro n e h ⟨i,d2,z,rfl,hi1,hi2,hp,hg2,hz2,hs,he⟩
 simp (disch:=omega) only [go_sem,simprocAttr,he,n1,n2,n4]
 refine cnd_dec (fun hle => ?_) (fun hgt => ?_)
 ·simp (disch:=omega) only [go_sem,simprocAttr,he]
  refine call_use (xnext hs) ?_
  rintro r h ⟨z',hr,hs⟩
  subst hr
  have m1 : ((2 ^ t : Nat) : Int) - 1 = ((2 ^ t - 1 : Nat) : Int):=by omega
  obtain ⟨o,ho,hol⟩:=and_lt z' (m:=2 ^ t - 1) (by omega)
  have w2:=wi64 (n:=o) (by omega)
  have w3:=wu64 (n:=2 ^ t - 1) (by omega)
  simp (disch:=omega) only [go_sem,simprocAttr,he,m1,w3,ho,w2]
  refine cnd_join (Q:=fun e h => ∃ u : Nat,u < l∧sat h (pto q (.row 1 [[.int .u64 z']] 1) :: pto b (.row 3 d2.toList cap) :: F) ∧
   (e 0 = .arr b 3 0 d.size cap∧e 1 = .int .i64 a∧e 8 = .int .i64 l∧e 9 = .ptr q 1 0 0∧e 10 = .int .u64 ((2 ^ t : Nat) : Int)∧e 11 = .int .i64 i∧e 12 = .int .i64 u)) ?_ ?_
  ·refine cnd_dec (fun hge => ?_) (fun hlt => ?_)
   ·have m2 : (o:Int) - (l:Int) = ((o - l : Nat) : Int):=by omega
    simp (disch:=omega) only [go_sem,simprocAttr,he,m2]
    exact ⟨o - l,by omega,hs,rfl⟩
   ·simp (disch:=omega) only [go_sem,simprocAttr,he]
    exact ⟨o,by omega,hs,rfl⟩
  ·rintro e h ⟨u,hu,hs,he⟩
   have hs:=hs.p1
   have m3 : (a:Int) + (u:Int) = ((a + u : Nat) : Int):=by omega
   have m4 : (i:Int) + 1 = ((i + 1 : Nat) : Int):=by omega
   obtain ⟨k1,k2,k3,k4,k5,k6,k7,k8,k9,k10,k11,⟨ky,y1,y2,y3,y4⟩,hw⟩:=sw_c E hg2 (i:=i) (j:=a + u) (by omega) (by omega)
   simp (disch:=omega) only [go_sem,simprocAttr,he,m3,m4,hs.at,k1,k2,k3,k4,k5,k6,k7,k8,k9,k10,k11,y1,y2,y3,y4,hw]
   have hs2:=(hs.set (o':=.row 3 (swp d2 i (a + u)).toList cap)).p1
   exact ⟨a + g * 2 + 2 - (i + 1),by omega,i + 1,_,z',rfl,by omega,by omega,permIn_trans _ _ _ _ _ hp (swp_permIn d2 a bb i (a + u) (by omega) (by omega) (by omega) (by omega) (by omega)),hg2.swp (by omega) (by omega),by rw [Go.Sort.swp_size]; exact hz2,hs2,rfl⟩
 ·simp (disch:=omega) only [go_sem,simprocAttr,he]
  exact ⟨d2,hp,hg2,hz2,hs.drop⟩
theorem brk_S (E:GoodE 1 false G) {d:Array (List AV)} {a bb b cap : Nat} {cf:AV} (hs : sat h (pto b (.row 1 d.toList cap) :: F)) (hg:GA G d) (ha : a + 12 < bb) (hb : bb ≤ d.size) (hsz : d.size ≤ 100000000) :
  Triple Tryz.prog 252 [.arr b 1 0 d.size cap,.int .i64 a,.int .i64 bb] h (fun r h => ∃ d2 : Array (List AV),PermIn a bb d d2∧GA G d2∧d2.size = d.size∧sat h (pto b (.row 1 d2.toList cap) :: F)):=by
 obtain ⟨l,hl⟩ : ∃ l,l = bb - a:=⟨_,rfl⟩
 have n0 : (bb:Int) - a = (l:Int):=by omega
 obtain ⟨g,hgg⟩ : ∃ g,g = l / 4:=⟨_,rfl⟩
 have n1 : (l:Int).tdiv 4 = (g:Int):=by rw [Int.tdiv_eq_ediv_of_nonneg (by omega)]; omega
 have n2 : (a:Int) + (g:Int) * 2 = ((a + g * 2 : Nat) : Int):=by omega
 have n3 : ((a + g * 2 : Nat) : Int) - 1 = ((a + g * 2 - 1 : Nat) : Int):=by omega
 have n4 : ((a + g * 2 : Nat) : Int) + 1 = ((a + g * 2 + 1 : Nat) : Int):=by omega
 have n5 : (8:Int) ≤ (l:Int):=by omega
 have w1:=wu64 (n:=l) (by omega)
 refine t252 (Nat.le_of_ble_eq_true rfl) ?_
 simp (disch:=omega) only [F252,n0,n5,w1,go_sem,simprocAttr]
 refine new_opq hs fun q h hs => ?_
 simp (disch:=omega) only [go_sem,simprocAttr,hs.at,n0,w1]
 refine call_use (npow (hs.set (o':=.row 1 [[.int .u64 l]] 1)) (n:=l) (by omega) (by omega)) ?_
 rintro r h ⟨t,hr,h1,h2,h3,hs⟩
 subst hr
 simp (disch:=omega) only [go_sem,simprocAttr,n1,n2,n3]
 have ht : (2:Nat) ^ t < 2 ^ 33:=Nat.pow_lt_pow_right (by omega) (by omega)
 refine run_loopN (fun n e h => ∃ (i:Nat) (d2:Array (List AV)) (z:Int),n = a + g * 2 + 2 - i∧a + g * 2 - 1 ≤ i∧i ≤ a + g * 2 + 2∧PermIn a bb d d2∧GA G d2∧d2.size = d.size∧sat h (pto q (.row 1 [[.int .u64 z]] 1) :: pto b (.row 1 d2.toList cap) :: F) ∧
  (e 0 = .arr b 1 0 d.size cap∧e 1 = .int .i64 a∧e 6 = .int .i64 l∧e 7 = .ptr q 1 0 0∧e 8 = .int .u64 ((2 ^ t : Nat) : Int)∧e 9 = .int .i64 i)) _ ⟨a + g * 2 - 1,d,_,rfl,Nat.le_refl _,by omega,permIn_refl d a bb,hg,rfl,hs,rfl,rfl,rfl,rfl,rfl,rfl⟩ ?_
 rintro n e h ⟨i,d2,z,rfl,hi1,hi2,hp,hg2,hz2,hs,he⟩
 simp (disch:=omega) only [go_sem,simprocAttr,he,n1,n2,n4]
 refine cnd_dec (fun hle => ?_) (fun hgt => ?_)
 ·simp (disch:=omega) only [go_sem,simprocAttr,he]
  refine call_use (xnext hs) ?_
  rintro r h ⟨z',hr,hs⟩
  subst hr
  have m1 : ((2 ^ t : Nat) : Int) - 1 = ((2 ^ t - 1 : Nat) : Int):=by omega
  obtain ⟨o,ho,hol⟩:=and_lt z' (m:=2 ^ t - 1) (by omega)
  have w2:=wi64 (n:=o) (by omega)
  have w3:=wu64 (n:=2 ^ t - 1) (by omega)
  simp (disch:=omega) only [go_sem,simprocAttr,he,m1,w3,ho,w2]
  refine cnd_join (Q:=fun e h => ∃ u : Nat,u < l∧sat h (pto q (.row 1 [[.int .u64 z']] 1) :: pto b (.row 1 d2.toList cap) :: F) ∧
   (e 0 = .arr b 1 0 d.size cap∧e 1 = .int .i64 a∧e 6 = .int .i64 l∧e 7 = .ptr q 1 0 0∧e 8 = .int .u64 ((2 ^ t : Nat) : Int)∧e 9 = .int .i64 i∧e 10 = .int .i64 u)) ?_ ?_
  ·refine cnd_dec (fun hge => ?_) (fun hlt => ?_)
   ·have m2 : (o:Int) - (l:Int) = ((o - l : Nat) : Int):=by omega
    simp (disch:=omega) only [go_sem,simprocAttr,he,m2]
    exact ⟨o - l,by omega,hs,rfl⟩
   ·simp (disch:=omega) only [go_sem,simprocAttr,he]
    exact ⟨o,by omega,hs,rfl⟩
  ·rintro e h ⟨u,hu,hs,he⟩
   have hs:=hs.p1
   have m3 : (a:Int) + (u:Int) = ((a + u : Nat) : Int):=by omega
   have m4 : (i:Int) + 1 = ((i + 1 : Nat) : Int):=by omega
   obtain ⟨k1,k2,k3,k4,k5,k6,k7,k8,k9,k10,k11,⟨ky,y1,y2,y3,y4⟩,hw⟩:=sw_o E hg2 (i:=i) (j:=a + u) (by omega) (by omega)
   simp (disch:=omega) only [go_sem,simprocAttr,he,m3,m4,hs.at,k1,k2,k3,k4,k5,k6,k7,k8,k9,k10,k11,y1,y2,y3,y4,hw]
   have hs2:=(hs.set (o':=.row 1 (swp d2 i (a + u)).toList cap)).p1
   exact ⟨a + g * 2 + 2 - (i + 1),by omega,i + 1,_,z',rfl,by omega,by omega,permIn_trans _ _ _ _ _ hp (swp_permIn d2 a bb i (a + u) (by omega) (by omega) (by omega) (by omega) (by omega)),hg2.swp (by omega) (by omega),by rw [Go.Sort.swp_size]; exact hz2,hs2,rfl⟩
 ·simp (disch:=omega) only [go_sem,simprocAttr,he]
  exact ⟨d2,hp,hg2,hz2,hs.drop⟩
end
end Go.Proofs.YtmhbnkjajkcmkaaGreat
/- slices: partial insertion sort, the partitions. -/
set_option maxRecDepth 10000
namespace Go.Proofs.YtmhbnkjajkcmkaaGreat
open Go.Hz Go.Sort
section
variable {h:Hp} {F:List Asr} {G:List AV → Prop} {lt:List AV → List AV → Bool}
theorem par_L {fc:Nat} {caps:List AV} (hf : okFn Tryz.prog fc = true) (hc:CmpT Tryz.prog true G lt fc caps) (E:GoodE 3 true G) {d:Array (List AV)} {a bb b cap : Nat} (hs : sat h (pto b (.row 3 d.toList cap) :: F)) (hg:GA G d) (ha : a < bb) (hb : bb ≤ d.size) (hsz : d.size ≤ 1000000000000) :
  Triple Tryz.prog 224 [.arr b 3 0 d.size cap,.int .i64 a,.int .i64 bb,.fn fc caps] h (fun r h => r = .bool (partialInsertionSort lt d a bb).2∧GA G (partialInsertionSort lt d a bb).1∧(partialInsertionSort lt d a bb).1.size = d.size∧sat h (pto b (.row 3 (partialInsertionSort lt d a bb).1.toList cap) :: F)):=by
 have w0 : (a:Int) + 1 = ((a + 1 : Nat) : Int):=by omega
 refine t224 (Nat.le_of_ble_eq_true rfl) ?_
 simp (disch:=omega) only [F224,w0,go_sem,simprocAttr]
 refine run_loopN (fun n e h => ∃ (k i : Nat) (d1:Array (List AV)),n = 5 - k∧k ≤ 5∧a + 1 ≤ i∧i ≤ bb∧partialIns lt a bb (5 - k) i d1 = partialInsertionSort lt d a bb∧GA G d1∧d1.size = d.size∧sat h (pto b (.row 3 d1.toList cap) :: F) ∧
  (e 0 = .arr b 3 0 d.size cap∧e 1 = .int .i64 a∧e 2 = .int .i64 bb∧e 3 = .fn fc caps∧e 9 = .int .i64 i∧e 10 = .int .i64 k)) 5 ⟨0,a + 1,d,rfl,by omega,Nat.le_refl _,by omega,rfl,hg,rfl,hs,rfl,rfl,rfl,rfl,rfl,rfl⟩ ?_
 rintro n e h ⟨k,i,d1,rfl,hk,hi1,hi2,hI,hg1,hz1,hs,he⟩
 simp (disch:=omega) only [go_sem,simprocAttr,he]
 refine cnd_dec (fun hk5 => ?_) (fun hk5 => ?_)
 rotate_left
 ·obtain rfl : k = 5:=by omega
  simp (disch:=omega) only [go_sem,simprocAttr,he]
  rw [← hI]
  exact ⟨rfl,hg1,hz1,hs⟩
 obtain ⟨s,hs5⟩ : ∃ s,5 - k = s + 1:=⟨4 - k,by omega⟩
 rw [hs5,partialIns_succ] at hI
 simp (disch:=omega) only [go_sem,simprocAttr,he]
 refine blk_join (Q:=fun e h => ∃ i2 : Nat,i2 = scanSorted lt d1 bb i∧i ≤ i2∧i2 ≤ bb∧sat h (pto b (.row 3 d1.toList cap) :: F) ∧
  (e 0 = .arr b 3 0 d.size cap∧e 1 = .int .i64 a∧e 2 = .int .i64 bb∧e 3 = .fn fc caps∧e 9 = .int .i64 i2∧e 10 = .int .i64 k)) ?_ ?_
 ·refine run_loopN (fun n e h => ∃ i2 : Nat,n = bb - i2∧scanSorted lt d1 bb i2 = scanSorted lt d1 bb i∧i ≤ i2∧i2 ≤ bb∧sat h (pto b (.row 3 d1.toList cap) :: F) ∧
   (e 0 = .arr b 3 0 d.size cap∧e 1 = .int .i64 a∧e 2 = .int .i64 bb∧e 3 = .fn fc caps∧e 9 = .int .i64 i2∧e 10 = .int .i64 k)) _ ⟨i,rfl,rfl,Nat.le_refl _,hi2,hs,?_⟩ ?_
  ·simp only [Env.upd_apply,he,and_self,reduceIte,Nat.reduceEqDiff]
  rintro n e h ⟨i2,rfl,hJ,hj1,hj2,hs,he⟩
  simp (disch:=omega) only [go_sem,simprocAttr,he]
  refine cnd_dec (fun hlt => ?_) (fun hge => ?_)
  ·have m1 : (i2:Int) - 1 = ((i2 - 1 : Nat) : Int):=by omega
   have m2 : (i2:Int) + 1 = ((i2 + 1 : Nat) : Int):=by omega
   have r1:=rd_c E hg1 (i:=i2) (by omega)
   have r2:=rd_c E hg1 (i:=i2 - 1) (by omega)
   simp (disch:=omega) only [go_sem,simprocAttr,he,hs.at,r1,r2,m1]
   refine callv_use hf (hc _ _ _ _ (hg1 _ (by omega)) (hg1 _ (by omega)) hs) ?_
   rintro r h ⟨c,hr,hcl,hs⟩
   subst hr
   simp (disch:=omega) only [go_sem,simprocAttr,he,hlt,m1,hcl]
   have hst : scanSorted lt d1 bb i2 = if lt d1[i2]! d1[i2 - 1]! = true then i2 else scanSorted lt d1 bb (i2 + 1):=by
    rw [scanSorted.eq_1 lt d1 bb i2]
    cases lt d1[i2]! d1[i2 - 1]! <;> simp [show i2 < bb from by omega]
   cases hq : lt d1[i2]! d1[i2 - 1]!
   ·simp (disch:=omega) only [go_sem,simprocAttr,he,m2]
    exact ⟨bb - (i2 + 1),by omega,i2 + 1,rfl,by rw [← hJ,hst,hq]; rfl,by omega,by omega,hs,rfl⟩
   ·simp (disch:=omega) only [go_sem,simprocAttr,he]
    exact ⟨i2,by rw [← hJ,hst,hq]; rfl,by omega,by omega,hs,rfl⟩
  ·simp (disch:=omega) only [go_sem,simprocAttr,he,hge]
   exact ⟨i2,by rw [← hJ,scanSorted,if_neg (by simp; omega)],by omega,by omega,hs,rfl⟩
 ·rintro e h ⟨i2,hi2',hi3,hi4,hs,he⟩
  rw [← hi2'] at hI
  have hbe : ((i2:Int) == (bb:Int)) = decide (i2 = bb):=by
   by_cases hq : i2 = bb
   ·subst hq; simp
   ·simp [hq]; omega
  simp (disch:=omega) only [go_sem,simprocAttr,he,hbe]
  refine cnd_bool (fun hq => ?_) (fun hq => ?_)
  ·have hq : i2 = bb:=by simpa using hq
   rw [if_pos hq] at hI
   simp (disch:=omega) only [go_sem,simprocAttr,he]
   rw [← hI]
   exact ⟨rfl,hg1,hz1,hs⟩
  have hq : i2 ≠ bb:=by simpa using hq
  rw [if_neg hq] at hI
  have m0 : (bb:Int) - a = ((bb - a : Nat) : Int):=by omega
  simp (disch:=omega) only [go_sem,simprocAttr,he,m0]
  refine cnd_dec (fun h50 => ?_) (fun h50 => ?_)
  ·rw [if_pos (by omega)] at hI
   simp (disch:=omega) only [go_sem,simprocAttr,he]
   rw [← hI]
   exact ⟨rfl,hg1,hz1,hs⟩
  rw [if_neg (by omega)] at hI
  have m1 : (i2:Int) - 1 = ((i2 - 1 : Nat) : Int):=by omega
  have m2 : (i2:Int) - a = ((i2 - a : Nat) : Int):=by omega
  simp (disch:=omega) only [go_sem,simprocAttr,he]
  obtain ⟨k1,k2,k3,k4,k5,k6,k7,k8,k9,k10,k11,⟨ky,y1,y2,y3,y4⟩,hw⟩:=sw_c E hg1 (i:=i2) (j:=i2 - 1) (by omega) (by omega)
  simp (disch:=omega) only [go_sem,simprocAttr,he,m1,m2,hs.at,k1,k2,k3,k4,k5,k6,k7,k8,k9,k10,k11,y1,y2,y3,y4,hw]
  have hs2:=hs.set (o':=.row 3 (swp d1 i2 (i2 - 1)).toList cap)
  have hg2:=hg1.swp (i:=i2) (j:=i2 - 1) (by omega) (by omega)
  have hz2 : (swp d1 i2 (i2 - 1)).size = d.size:=by rw [Go.Sort.swp_size]; exact hz1
  generalize swp d1 i2 (i2 - 1) = dS at *
  refine cnd_join (Q:=fun e h => ∃ d3 : Array (List AV),d3 = fixDown lt a i2 dS∧GA G d3∧d3.size = d.size∧sat h (pto b (.row 3 d3.toList cap) :: F) ∧
   (e 0 = .arr b 3 0 d.size cap∧e 1 = .int .i64 a∧e 2 = .int .i64 bb∧e 3 = .fn fc caps∧e 9 = .int .i64 i2∧e 10 = .int .i64 k)) ?_ ?_
  ·refine cnd_dec (fun hge => ?_) (fun hlt => ?_)
   rotate_left
   ·simp (disch:=omega) only [go_sem,simprocAttr,he]
    exact ⟨dS,by rw [fixDown,if_neg (by omega)],hg2,hz2,hs2⟩
   simp (disch:=omega) only [go_sem,simprocAttr,he,m1]
   refine run_loopN (fun n e h => ∃ (j:Nat) (d3:Array (List AV)),n = j∧j ≤ i2 - 1∧shiftDown lt j d3 = fixDown lt a i2 dS∧GA G d3∧d3.size = d.size∧sat h (pto b (.row 3 d3.toList cap) :: F) ∧
    (e 0 = .arr b 3 0 d.size cap∧e 1 = .int .i64 a∧e 2 = .int .i64 bb∧e 3 = .fn fc caps∧e 9 = .int .i64 i2∧e 10 = .int .i64 k∧e 11 = .int .i64 j)) (i2 - 1) ⟨i2 - 1,dS,rfl,Nat.le_refl _,by rw [fixDown,if_pos (by omega)],hg2,hz2,hs2,?_⟩ ?_
   ·simp only [Env.upd_apply,he,and_self,reduceIte,Nat.reduceEqDiff]
   rintro j e h ⟨_,d3,rfl,hj,hJ,hg3,hz3,hs,he⟩
   simp (disch:=omega) only [go_sem,simprocAttr,he]
   refine cnd_dec (fun hj1 => ?_) (fun hj1 => ?_)
   ·obtain ⟨j,rfl⟩ : ∃ q,j = q + 1:=⟨j - 1,by omega⟩
    have m3 : ((j + 1 : Nat) : Int) - 1 = (j:Int):=by omega
    have r1:=rd_c E hg3 (i:=j + 1) (by omega)
    have r2:=rd_c E hg3 (i:=j) (by omega)
    simp (disch:=omega) only [go_sem,simprocAttr,he,hs.at,r1,r2,m3]
    refine callv_use hf (hc _ _ _ _ (hg3 _ (by omega)) (hg3 _ (by omega)) hs) ?_
    rintro r h ⟨c,hr,hcl,hs⟩
    subst hr
    simp (disch:=omega) only [go_sem,simprocAttr,he,m3,hcl]
    rw [shiftDown] at hJ
    cases hq2 : lt d3[j + 1]! d3[j]!
    ·simp (disch:=omega) only [go_sem,simprocAttr,he]
     exact ⟨d3,by rw [← hJ,hq2]; rfl,hg3,hz3,hs⟩
    ·simp (disch:=omega) only [go_sem,simprocAttr,he]
     obtain ⟨k1,k2,k3,k4,k5,k6,k7,k8,k9,k10,k11,⟨ky,y1,y2,y3,y4⟩,hw⟩:=sw_c E hg3 (i:=j + 1) (j:=j) (by omega) (by omega)
     simp (disch:=omega) only [go_sem,simprocAttr,he,m3,hs.at,k1,k2,k3,k4,k5,k6,k7,k8,k9,k10,k11,y1,y2,y3,y4,hw]
     exact ⟨j,by omega,j,_,rfl,by omega,by rw [← hJ,hq2]; rfl,hg3.swp (by omega) (by omega),by rw [Go.Sort.swp_size]; exact hz3,hs.set,rfl⟩
   ·obtain rfl : j = 0:=by omega
    simp (disch:=omega) only [go_sem,simprocAttr,he]
    exact ⟨d3,by rw [← hJ,shiftDown],hg3,hz3,hs⟩
  ·rintro e h ⟨d3,hd3,hg3,hz3,hs,he⟩
   have m4 : (bb:Int) - i2 = ((bb - i2 : Nat) : Int):=by omega
   have m5 : (i2:Int) + 1 = ((i2 + 1 : Nat) : Int):=by omega
   have m6 : (k:Int) + 1 = ((k + 1 : Nat) : Int):=by omega
   rw [← hd3] at hI
   have hk5' : 5 - (k + 1) = s:=by omega
   simp (disch:=omega) only [go_sem,simprocAttr,he,m4]
   refine cnd_join (Q:=fun e h => ∃ d4 : Array (List AV),d4 = fixUp lt bb i2 d3∧GA G d4∧d4.size = d.size∧sat h (pto b (.row 3 d4.toList cap) :: F) ∧
    (e 0 = .arr b 3 0 d.size cap∧e 1 = .int .i64 a∧e 2 = .int .i64 bb∧e 3 = .fn fc caps∧e 9 = .int .i64 i2∧e 10 = .int .i64 k)) ?_ ?_
   ·refine cnd_dec (fun hge => ?_) (fun hlt => ?_)
    rotate_left
    ·simp (disch:=omega) only [go_sem,simprocAttr,he]
     exact ⟨d3,by rw [fixUp,if_neg (by omega)],hg3,hz3,hs⟩
    simp (disch:=omega) only [go_sem,simprocAttr,he,m5]
    refine run_loopN (fun n e h => ∃ (j:Nat) (d4:Array (List AV)),n = bb - j∧i2 + 1 ≤ j∧j ≤ bb∧shiftUp lt bb j d4 = fixUp lt bb i2 d3∧GA G d4∧d4.size = d.size∧sat h (pto b (.row 3 d4.toList cap) :: F) ∧
     (e 0 = .arr b 3 0 d.size cap∧e 1 = .int .i64 a∧e 2 = .int .i64 bb∧e 3 = .fn fc caps∧e 9 = .int .i64 i2∧e 10 = .int .i64 k∧e 12 = .int .i64 j)) _ ⟨i2 + 1,d3,rfl,Nat.le_refl _,by omega,by rw [fixUp,if_pos (by omega)],hg3,hz3,hs,?_⟩ ?_
    ·simp only [Env.upd_apply,he,and_self,reduceIte,Nat.reduceEqDiff]
    rintro n e h ⟨j,d4,rfl,hj,hj2,hJ,hg4,hz4,hs,he⟩
    simp (disch:=omega) only [go_sem,simprocAttr,he]
    refine cnd_dec (fun hj1 => ?_) (fun hj1 => ?_)
    ·have m3 : (j:Int) - 1 = ((j - 1 : Nat) : Int):=by omega
     have m7 : (j:Int) + 1 = ((j + 1 : Nat) : Int):=by omega
     have r1:=rd_c E hg4 (i:=j) (by omega)
     have r2:=rd_c E hg4 (i:=j - 1) (by omega)
     simp (disch:=omega) only [go_sem,simprocAttr,he,hs.at,r1,r2,m3]
     refine callv_use hf (hc _ _ _ _ (hg4 _ (by omega)) (hg4 _ (by omega)) hs) ?_
     rintro r h ⟨c,hr,hcl,hs⟩
     subst hr
     simp (disch:=omega) only [go_sem,simprocAttr,he,m3,hcl]
     rw [shiftUp,if_pos (by omega)] at hJ
     cases hq2 : lt d4[j]! d4[j - 1]!
     ·simp (disch:=omega) only [go_sem,simprocAttr,he]
      exact ⟨d4,by rw [← hJ,hq2]; rfl,hg4,hz4,hs⟩
     ·simp (disch:=omega) only [go_sem,simprocAttr,he]
      obtain ⟨k1,k2,k3,k4,k5,k6,k7,k8,k9,k10,k11,⟨ky,y1,y2,y3,y4⟩,hw⟩:=sw_c E hg4 (i:=j) (j:=j - 1) (by omega) (by omega)
      simp (disch:=omega) only [go_sem,simprocAttr,he,m3,m7,hs.at,k1,k2,k3,k4,k5,k6,k7,k8,k9,k10,k11,y1,y2,y3,y4,hw]
      exact ⟨bb - (j + 1),by omega,j + 1,_,rfl,by omega,by omega,by rw [← hJ,hq2]; rfl,hg4.swp (by omega) (by omega),by rw [Go.Sort.swp_size]; exact hz4,hs.set,rfl⟩
    ·simp (disch:=omega) only [go_sem,simprocAttr,he]
     exact ⟨d4,by rw [← hJ,shiftUp,if_neg (by omega)],hg4,hz4,hs⟩
   ·rintro e h ⟨d4,hd4,hg4,hz4,hs,he⟩
    rw [← hd4] at hI
    simp (disch:=omega) only [go_sem,simprocAttr,he,m6]
    exact ⟨5 - (k + 1),by omega,k + 1,i2,d4,rfl,by omega,by omega,by omega,by rw [hk5']; exact hI,hg4,hz4,hs,rfl,rfl⟩
theorem par_S (hc:LessT Tryz.prog false G lt 256) (E:GoodE 1 false G) {d:Array (List AV)} {a bb b cap : Nat} (hs : sat h (pto b (.row 1 d.toList cap) :: F)) (hg:GA G d) (ha : a < bb) (hb : bb ≤ d.size) (hsz : d.size ≤ 1000000000000) :
  Triple Tryz.prog 255 [.arr b 1 0 d.size cap,.int .i64 a,.int .i64 bb] h (fun r h => r = .bool (partialInsertionSort lt d a bb).2∧GA G (partialInsertionSort lt d a bb).1∧(partialInsertionSort lt d a bb).1.size = d.size∧sat h (pto b (.row 1 (partialInsertionSort lt d a bb).1.toList cap) :: F)):=by
 have w0 : (a:Int) + 1 = ((a + 1 : Nat) : Int):=by omega
 refine t255 (Nat.le_of_ble_eq_true rfl) ?_
 simp (disch:=omega) only [F255,w0,go_sem,simprocAttr]
 refine run_loopN (fun n e h => ∃ (k i : Nat) (d1:Array (List AV)),n = 5 - k∧k ≤ 5∧a + 1 ≤ i∧i ≤ bb∧partialIns lt a bb (5 - k) i d1 = partialInsertionSort lt d a bb∧GA G d1∧d1.size = d.size∧sat h (pto b (.row 1 d1.toList cap) :: F) ∧
  (e 0 = .arr b 1 0 d.size cap∧e 1 = .int .i64 a∧e 2 = .int .i64 bb∧e 7 = .int .i64 i∧e 8 = .int .i64 k)) 5 ⟨0,a + 1,d,rfl,by omega,Nat.le_refl _,by omega,rfl,hg,rfl,hs,rfl,rfl,rfl,rfl,rfl⟩ ?_
 rintro n e h ⟨k,i,d1,rfl,hk,hi1,hi2,hI,hg1,hz1,hs,he⟩
 simp (disch:=omega) only [go_sem,simprocAttr,he]
 refine cnd_dec (fun hk5 => ?_) (fun hk5 => ?_)
 rotate_left
 ·obtain rfl : k = 5:=by omega
  simp (disch:=omega) only [go_sem,simprocAttr,he]
  rw [← hI]
  exact ⟨rfl,hg1,hz1,hs⟩
 obtain ⟨s,hs5⟩ : ∃ s,5 - k = s + 1:=⟨4 - k,by omega⟩
 rw [hs5,partialIns_succ] at hI
 simp (disch:=omega) only [go_sem,simprocAttr,he]
 refine blk_join (Q:=fun e h => ∃ i2 : Nat,i2 = scanSorted lt d1 bb i∧i ≤ i2∧i2 ≤ bb∧sat h (pto b (.row 1 d1.toList cap) :: F) ∧
  (e 0 = .arr b 1 0 d.size cap∧e 1 = .int .i64 a∧e 2 = .int .i64 bb∧e 7 = .int .i64 i2∧e 8 = .int .i64 k)) ?_ ?_
 ·refine run_loopN (fun n e h => ∃ i2 : Nat,n = bb - i2∧scanSorted lt d1 bb i2 = scanSorted lt d1 bb i∧i ≤ i2∧i2 ≤ bb∧sat h (pto b (.row 1 d1.toList cap) :: F) ∧
   (e 0 = .arr b 1 0 d.size cap∧e 1 = .int .i64 a∧e 2 = .int .i64 bb∧e 7 = .int .i64 i2∧e 8 = .int .i64 k)) _ ⟨i,rfl,rfl,Nat.le_refl _,hi2,hs,?_⟩ ?_
  ·simp only [Env.upd_apply,he,and_self,reduceIte,Nat.reduceEqDiff]
  rintro n e h ⟨i2,rfl,hJ,hj1,hj2,hs,he⟩
  simp (disch:=omega) only [go_sem,simprocAttr,he]
  refine cnd_dec (fun hlt => ?_) (fun hge => ?_)
  ·have m1 : (i2:Int) - 1 = ((i2 - 1 : Nat) : Int):=by omega
   have m2 : (i2:Int) + 1 = ((i2 + 1 : Nat) : Int):=by omega
   have r1:=rd_o E hg1 (i:=i2) (by omega)
   have r2:=rd_o E hg1 (i:=i2 - 1) (by omega)
   simp (disch:=omega) only [go_sem,simprocAttr,he,hs.at,r1,r2,m1]
   refine call_use (hc _ _ _ _ (hg1 _ (by omega)) (hg1 _ (by omega)) hs) ?_
   rintro r h ⟨hr,hs⟩
   subst hr
   simp (disch:=omega) only [go_sem,simprocAttr,he,hlt,m1]
   have hst : scanSorted lt d1 bb i2 = if lt d1[i2]! d1[i2 - 1]! = true then i2 else scanSorted lt d1 bb (i2 + 1):=by
    rw [scanSorted.eq_1 lt d1 bb i2]
    cases lt d1[i2]! d1[i2 - 1]! <;> simp [show i2 < bb from by omega]
   cases hq : lt d1[i2]! d1[i2 - 1]!
   ·simp (disch:=omega) only [go_sem,simprocAttr,he,m2]
    exact ⟨bb - (i2 + 1),by omega,i2 + 1,rfl,by rw [← hJ,hst,hq]; rfl,by omega,by omega,hs,rfl⟩
   ·simp (disch:=omega) only [go_sem,simprocAttr,he]
    exact ⟨i2,by rw [← hJ,hst,hq]; rfl,by omega,by omega,hs,rfl⟩
  ·simp (disch:=omega) only [go_sem,simprocAttr,he,hge]
   exact ⟨i2,by rw [← hJ,scanSorted,if_neg (by simp; omega)],by omega,by omega,hs,rfl⟩
 ·rintro e h ⟨i2,hi2',hi3,hi4,hs,he⟩
  rw [← hi2'] at hI
  have hbe : ((i2:Int) == (bb:Int)) = decide (i2 = bb):=by
   by_cases hq : i2 = bb
   ·subst hq; simp
   ·simp [hq]; omega
  simp (disch:=omega) only [go_sem,simprocAttr,he,hbe]
  refine cnd_bool (fun hq => ?_) (fun hq => ?_)
  ·have hq : i2 = bb:=by simpa using hq
   rw [if_pos hq] at hI
   simp (disch:=omega) only [go_sem,simprocAttr,he]
   rw [← hI]
   exact ⟨rfl,hg1,hz1,hs⟩
  have hq : i2 ≠ bb:=by simpa using hq
  rw [if_neg hq] at hI
  have m0 : (bb:Int) - a = ((bb - a : Nat) : Int):=by omega
  simp (disch:=omega) only [go_sem,simprocAttr,he,m0]
  refine cnd_dec (fun h50 => ?_) (fun h50 => ?_)
  ·rw [if_pos (by omega)] at hI
   simp (disch:=omega) only [go_sem,simprocAttr,he]
   rw [← hI]
   exact ⟨rfl,hg1,hz1,hs⟩
  rw [if_neg (by omega)] at hI
  have m1 : (i2:Int) - 1 = ((i2 - 1 : Nat) : Int):=by omega
  have m2 : (i2:Int) - a = ((i2 - a : Nat) : Int):=by omega
  simp (disch:=omega) only [go_sem,simprocAttr,he]
  obtain ⟨k1,k2,k3,k4,k5,k6,k7,k8,k9,k10,k11,⟨ky,y1,y2,y3,y4⟩,hw⟩:=sw_o E hg1 (i:=i2) (j:=i2 - 1) (by omega) (by omega)
  simp (disch:=omega) only [go_sem,simprocAttr,he,m1,m2,hs.at,k1,k2,k3,k4,k5,k6,k7,k8,k9,k10,k11,y1,y2,y3,y4,hw]
  have hs2:=hs.set (o':=.row 1 (swp d1 i2 (i2 - 1)).toList cap)
  have hg2:=hg1.swp (i:=i2) (j:=i2 - 1) (by omega) (by omega)
  have hz2 : (swp d1 i2 (i2 - 1)).size = d.size:=by rw [Go.Sort.swp_size]; exact hz1
  generalize swp d1 i2 (i2 - 1) = dS at *
  refine cnd_join (Q:=fun e h => ∃ d3 : Array (List AV),d3 = fixDown lt a i2 dS∧GA G d3∧d3.size = d.size∧sat h (pto b (.row 1 d3.toList cap) :: F) ∧
   (e 0 = .arr b 1 0 d.size cap∧e 1 = .int .i64 a∧e 2 = .int .i64 bb∧e 7 = .int .i64 i2∧e 8 = .int .i64 k)) ?_ ?_
  ·refine cnd_dec (fun hge => ?_) (fun hlt => ?_)
   rotate_left
   ·simp (disch:=omega) only [go_sem,simprocAttr,he]
    exact ⟨dS,by rw [fixDown,if_neg (by omega)],hg2,hz2,hs2⟩
   simp (disch:=omega) only [go_sem,simprocAttr,he,m1]
   refine run_loopN (fun n e h => ∃ (j:Nat) (d3:Array (List AV)),n = j∧j ≤ i2 - 1∧shiftDown lt j d3 = fixDown lt a i2 dS∧GA G d3∧d3.size = d.size∧sat h (pto b (.row 1 d3.toList cap) :: F) ∧
    (e 0 = .arr b 1 0 d.size cap∧e 1 = .int .i64 a∧e 2 = .int .i64 bb∧e 7 = .int .i64 i2∧e 8 = .int .i64 k∧e 9 = .int .i64 j)) (i2 - 1) ⟨i2 - 1,dS,rfl,Nat.le_refl _,by rw [fixDown,if_pos (by omega)],hg2,hz2,hs2,?_⟩ ?_
   ·simp only [Env.upd_apply,he,and_self,reduceIte,Nat.reduceEqDiff]
   rintro j e h ⟨_,d3,rfl,hj,hJ,hg3,hz3,hs,he⟩
   simp (disch:=omega) only [go_sem,simprocAttr,he]
   refine cnd_dec (fun hj1 => ?_) (fun hj1 => ?_)
   ·obtain ⟨j,rfl⟩ : ∃ q,j = q + 1:=⟨j - 1,by omega⟩
    have m3 : ((j + 1 : Nat) : Int) - 1 = (j:Int):=by omega
    have r1:=rd_o E hg3 (i:=j + 1) (by omega)
    have r2:=rd_o E hg3 (i:=j) (by omega)
    simp (disch:=omega) only [go_sem,simprocAttr,he,hs.at,r1,r2,m3]
    refine call_use (hc _ _ _ _ (hg3 _ (by omega)) (hg3 _ (by omega)) hs) ?_
    rintro r h ⟨hr,hs⟩
    subst hr
    simp (disch:=omega) only [go_sem,simprocAttr,he,m3]
    rw [shiftDown] at hJ
    cases hq2 : lt d3[j + 1]! d3[j]!
    ·simp (disch:=omega) only [go_sem,simprocAttr,he]
     exact ⟨d3,by rw [← hJ,hq2]; rfl,hg3,hz3,hs⟩
    ·simp (disch:=omega) only [go_sem,simprocAttr,he]
     obtain ⟨k1,k2,k3,k4,k5,k6,k7,k8,k9,k10,k11,⟨ky,y1,y2,y3,y4⟩,hw⟩:=sw_o E hg3 (i:=j + 1) (j:=j) (by omega) (by omega)
     simp (disch:=omega) only [go_sem,simprocAttr,he,m3,hs.at,k1,k2,k3,k4,k5,k6,k7,k8,k9,k10,k11,y1,y2,y3,y4,hw]
     exact ⟨j,by omega,j,_,rfl,by omega,by rw [← hJ,hq2]; rfl,hg3.swp (by omega) (by omega),by rw [Go.Sort.swp_size]; exact hz3,hs.set,rfl⟩
   ·obtain rfl : j = 0:=by omega
    simp (disch:=omega) only [go_sem,simprocAttr,he]
    exact ⟨d3,by rw [← hJ,shiftDown],hg3,hz3,hs⟩
  ·rintro e h ⟨d3,hd3,hg3,hz3,hs,he⟩
   have m4 : (bb:Int) - i2 = ((bb - i2 : Nat) : Int):=by omega
   have m5 : (i2:Int) + 1 = ((i2 + 1 : Nat) : Int):=by omega
   have m6 : (k:Int) + 1 = ((k + 1 : Nat) : Int):=by omega
   rw [← hd3] at hI
   have hk5' : 5 - (k + 1) = s:=by omega
   simp (disch:=omega) only [go_sem,simprocAttr,he,m4]
   refine cnd_join (Q:=fun e h => ∃ d4 : Array (List AV),d4 = fixUp lt bb i2 d3∧GA G d4∧d4.size = d.size∧sat h (pto b (.row 1 d4.toList cap) :: F) ∧
    (e 0 = .arr b 1 0 d.size cap∧e 1 = .int .i64 a∧e 2 = .int .i64 bb∧e 7 = .int .i64 i2∧e 8 = .int .i64 k)) ?_ ?_
   ·refine cnd_dec (fun hge => ?_) (fun hlt => ?_)
    rotate_left
    ·simp (disch:=omega) only [go_sem,simprocAttr,he]
     exact ⟨d3,by rw [fixUp,if_neg (by omega)],hg3,hz3,hs⟩
    simp (disch:=omega) only [go_sem,simprocAttr,he,m5]
    refine run_loopN (fun n e h => ∃ (j:Nat) (d4:Array (List AV)),n = bb - j∧i2 + 1 ≤ j∧j ≤ bb∧shiftUp lt bb j d4 = fixUp lt bb i2 d3∧GA G d4∧d4.size = d.size∧sat h (pto b (.row 1 d4.toList cap) :: F) ∧
     (e 0 = .arr b 1 0 d.size cap∧e 1 = .int .i64 a∧e 2 = .int .i64 bb∧e 7 = .int .i64 i2∧e 8 = .int .i64 k∧e 10 = .int .i64 j)) _ ⟨i2 + 1,d3,rfl,Nat.le_refl _,by omega,by rw [fixUp,if_pos (by omega)],hg3,hz3,hs,?_⟩ ?_
    ·simp only [Env.upd_apply,he,and_self,reduceIte,Nat.reduceEqDiff]
    rintro n e h ⟨j,d4,rfl,hj,hj2,hJ,hg4,hz4,hs,he⟩
    simp (disch:=omega) only [go_sem,simprocAttr,he]
    refine cnd_dec (fun hj1 => ?_) (fun hj1 => ?_)
    ·have m3 : (j:Int) - 1 = ((j - 1 : Nat) : Int):=by omega
     have m7 : (j:Int) + 1 = ((j + 1 : Nat) : Int):=by omega
     have r1:=rd_o E hg4 (i:=j) (by omega)
     have r2:=rd_o E hg4 (i:=j - 1) (by omega)
     simp (disch:=omega) only [go_sem,simprocAttr,he,hs.at,r1,r2,m3]
     refine call_use (hc _ _ _ _ (hg4 _ (by omega)) (hg4 _ (by omega)) hs) ?_
     rintro r h ⟨hr,hs⟩
     subst hr
     simp (disch:=omega) only [go_sem,simprocAttr,he,m3]
     rw [shiftUp,if_pos (by omega)] at hJ
     cases hq2 : lt d4[j]! d4[j - 1]!
     ·simp (disch:=omega) only [go_sem,simprocAttr,he]
      exact ⟨d4,by rw [← hJ,hq2]; rfl,hg4,hz4,hs⟩
     ·simp (disch:=omega) only [go_sem,simprocAttr,he]
      obtain ⟨k1,k2,k3,k4,k5,k6,k7,k8,k9,k10,k11,⟨ky,y1,y2,y3,y4⟩,hw⟩:=sw_o E hg4 (i:=j) (j:=j - 1) (by omega) (by omega)
      simp (disch:=omega) only [go_sem,simprocAttr,he,m3,m7,hs.at,k1,k2,k3,k4,k5,k6,k7,k8,k9,k10,k11,y1,y2,y3,y4,hw]
      exact ⟨bb - (j + 1),by omega,j + 1,_,rfl,by omega,by omega,by rw [← hJ,hq2]; rfl,hg4.swp (by omega) (by omega),by rw [Go.Sort.swp_size]; exact hz4,hs.set,rfl⟩
    ·simp (disch:=omega) only [go_sem,simprocAttr,he]
     exact ⟨d4,by rw [← hJ,shiftUp,if_neg (by omega)],hg4,hz4,hs⟩
   ·rintro e h ⟨d4,hd4,hg4,hz4,hs,he⟩
    rw [← hd4] at hI
    simp (disch:=omega) only [go_sem,simprocAttr,he,m6]
    exact ⟨5 - (k + 1),by omega,k + 1,i2,d4,rfl,by omega,by omega,by omega,by rw [hk5']; exact hI,hg4,hz4,hs,rfl,rfl⟩
end
end Go.Proofs.YtmhbnkjajkcmkaaGreat
/- slices: the partitions. -/
set_option maxRecDepth 10000
namespace Go.Proofs.YtmhbnkjajkcmkaaGreat
open Go.Hz Go.Sort
section
variable {h:Hp} {F:List Asr} {G:List AV → Prop} {lt:List AV → List AV → Bool}
theorem peq_L {fc:Nat} {caps:List AV} (hf : okFn Tryz.prog fc = true) (hc:CmpT Tryz.prog true G lt fc caps) (E:GoodE 3 true G) {d:Array (List AV)} {a bb p b cap : Nat} (hs : sat h (pto b (.row 3 d.toList cap) :: F)) (hg:GA G d) (hp1 : a ≤ p) (hp2 : p < bb) (hb : bb ≤ d.size) (hsz : d.size ≤ 1000000000000) :
  Triple Tryz.prog 225 [.arr b 3 0 d.size cap,.int .i64 a,.int .i64 bb,.int .i64 p,.fn fc caps] h (fun r h => r = .int .i64 (partitionEqual lt d a bb p).1∧GA G (partitionEqual lt d a bb p).2∧(partitionEqual lt d a bb p).2.size = d.size∧sat h (pto b (.row 3 (partitionEqual lt d a bb p).2.toList cap) :: F)):=by
 have w0 : (a:Int) + 1 = ((a + 1 : Nat) : Int):=by omega
 have w1 : (bb:Int) - 1 = ((bb - 1 : Nat) : Int):=by omega
 obtain ⟨k1,k2,k3,k4,k5,k6,k7,k8,k9,k10,k11,⟨ky,y1,y2,y3,y4⟩,hw⟩:=sw_c E hg (i:=a) (j:=p) (by omega) (by omega)
 refine t225 (Nat.le_of_ble_eq_true rfl) ?_
 simp (disch:=omega) only [F225,w0,w1,hs.at,k1,k2,k3,k4,k5,k6,k7,k8,k9,k10,k11,y1,y2,y3,y4,hw,go_sem,simprocAttr]
 have hs2:=hs.set (o':=.row 3 (swp d a p).toList cap)
 have hg2:=hg.swp (i:=a) (j:=p) (by omega) (by omega)
 have hz2 : (swp d a p).size = d.size:=by rw [Go.Sort.swp_size]
 have hR : partEqLoop lt a (a + 1) (bb - 1) (swp d a p) = partitionEqual lt d a bb p:=rfl
 refine run_loopN (fun n e h => ∃ (i j : Nat) (D:Array (List AV)),n = j + 1 - i∧a < i∧i ≤ j + 1∧j < bb∧partEqLoop lt a i j D = partitionEqual lt d a bb p∧GA G D∧D.size = d.size∧sat h (pto b (.row 3 D.toList cap) :: F) ∧
  (e 0 = .arr b 3 0 d.size cap∧e 1 = .int .i64 a∧e 4 = .fn fc caps∧e 11 = .int .i64 i∧e 12 = .int .i64 j)) _ ⟨a + 1,bb - 1,_,rfl,by omega,by omega,by omega,hR,hg2,hz2,hs2,rfl,rfl,rfl,rfl,rfl⟩ ?_
 rintro n e h ⟨i,j,D,rfl,hai,hij,hjb,hI,hgD,hzD,hs,he⟩
 rw [partEqLoop_eq] at hI
 simp (disch:=omega) only [go_sem,simprocAttr,he]
 refine blk_join (Q:=fun e h => ∃ i2 : Nat,i2 = scanUp (fun x => !lt D[a]! x) D j i∧i ≤ i2∧i2 ≤ j + 1∧sat h (pto b (.row 3 D.toList cap) :: F)∧(e 0 = .arr b 3 0 d.size cap∧e 1 = .int .i64 a∧e 4 = .fn fc caps∧e 11 = .int .i64 i2∧e 12 = .int .i64 j)) ?_ ?_
 ·refine run_loopN (fun n e h => ∃ i2 : Nat,n = j + 1 - i2∧scanUp (fun x => !lt D[a]! x) D j i2 = scanUp (fun x => !lt D[a]! x) D j i∧i ≤ i2∧i2 ≤ j + 1∧sat h (pto b (.row 3 D.toList cap) :: F)∧(e 0 = .arr b 3 0 d.size cap∧e 1 = .int .i64 a∧e 4 = .fn fc caps∧e 11 = .int .i64 i2∧e 12 = .int .i64 j)) _ ⟨i,rfl,rfl,Nat.le_refl _,by omega,hs,?_⟩ ?_
  ·simp only [Env.upd_apply,he,and_self,reduceIte,Nat.reduceEqDiff]
  rintro n e h ⟨i2,rfl,hJ,hj1,hj2,hs,he⟩
  simp (disch:=omega) only [go_sem,simprocAttr,he]
  refine cnd_dec (fun hl1 => ?_) (fun hl1 => ?_)
  ·have m2 : (i2:Int) + 1 = ((i2 + 1 : Nat) : Int):=by omega
   have r1:=rd_c E hgD (i:=i2) (by omega)
   have r2:=rd_c E hgD (i:=a) (by omega)
   simp (disch:=omega) only [go_sem,simprocAttr,he,hs.at,r1,r2]
   refine callv_use hf (hc _ _ _ _ (hgD _ (by omega)) (hgD _ (by omega)) hs) ?_
   rintro r h ⟨c,hr,hcl,hs⟩
   subst hr
   simp (disch:=omega) only [go_sem,simprocAttr,he,hl1,hcl]
   have hst : scanUp (fun x => !lt D[a]! x) D j i2 = if (!lt D[a]! D[i2]!) = true then scanUp (fun x => !lt D[a]! x) D j (i2 + 1) else i2:=by
    rw [scanUp.eq_1 _ _ _ i2]
    simp only [show i2 ≤ j from by omega,decide_true,Bool.true_and]
   cases hq : lt D[a]! D[i2]!
   ·simp (disch:=omega) only [go_sem,simprocAttr,he,m2]
    exact ⟨j + 1 - (i2 + 1),by omega,i2 + 1,rfl,by rw [← hJ,hst,hq]; rfl,by omega,by omega,hs,rfl⟩
   ·simp (disch:=omega) only [go_sem,simprocAttr,he,m2]
    exact ⟨i2,by rw [← hJ,hst,hq]; rfl,by omega,by omega,hs,rfl⟩
  ·simp (disch:=omega) only [go_sem,simprocAttr,he,hl1]
   exact ⟨i2,by rw [← hJ,scanUp.eq_1 _ _ _ i2,if_neg (by simp; omega)],by omega,by omega,hs,rfl⟩
 rintro e h ⟨i2,hi2,hi3,hi4,hs,he⟩
 rw [← hi2] at hI
 simp (disch:=omega) only [go_sem,simprocAttr,he]
 refine blk_join (Q:=fun e h => ∃ j2 : Nat,j2 = scanDown (fun x => lt D[a]! x) D i2 j∧j2 ≤ j∧i2 ≤ j2 + 1∧sat h (pto b (.row 3 D.toList cap) :: F)∧(e 0 = .arr b 3 0 d.size cap∧e 1 = .int .i64 a∧e 4 = .fn fc caps∧e 11 = .int .i64 i2∧e 12 = .int .i64 j2)) ?_ ?_
 ·refine run_loopN (fun n e h => ∃ j2 : Nat,n = j2∧scanDown (fun x => lt D[a]! x) D i2 j2 = scanDown (fun x => lt D[a]! x) D i2 j∧j2 ≤ j∧i2 ≤ j2 + 1∧sat h (pto b (.row 3 D.toList cap) :: F)∧(e 0 = .arr b 3 0 d.size cap∧e 1 = .int .i64 a∧e 4 = .fn fc caps∧e 11 = .int .i64 i2∧e 12 = .int .i64 j2)) _ ⟨j,rfl,rfl,Nat.le_refl _,by omega,hs,?_⟩ ?_
  ·simp only [Env.upd_apply,he,and_self,reduceIte,Nat.reduceEqDiff]
  rintro j2 e h ⟨_,rfl,hJ,hj1,hj2,hs,he⟩
  simp (disch:=omega) only [go_sem,simprocAttr,he]
  refine cnd_dec (fun hl1 => ?_) (fun hl1 => ?_)
  ·obtain ⟨j2,rfl⟩ : ∃ q,j2 = q + 1:=⟨j2 - 1,by omega⟩
   have m2 : ((j2 + 1 : Nat) : Int) - 1 = (j2:Int):=by omega
   have r1:=rd_c E hgD (i:=j2 + 1) (by omega)
   have r2:=rd_c E hgD (i:=a) (by omega)
   simp (disch:=omega) only [go_sem,simprocAttr,he,hs.at,r1,r2]
   refine callv_use hf (hc _ _ _ _ (hgD _ (by omega)) (hgD _ (by omega)) hs) ?_
   rintro r h ⟨c,hr,hcl,hs⟩
   subst hr
   simp (disch:=omega) only [go_sem,simprocAttr,he,hl1,hcl]
   have hst : scanDown (fun x => lt D[a]! x) D i2 (j2 + 1) = if (lt D[a]! D[j2 + 1]!) = true then scanDown (fun x => lt D[a]! x) D i2 j2 else j2 + 1:=by
    rw [scanDown]
    simp only [show i2 ≤ j2 + 1 from by omega,decide_true,Bool.true_and]
   cases hq : lt D[a]! D[j2 + 1]!
   ·simp (disch:=omega) only [go_sem,simprocAttr,he,m2]
    exact ⟨j2 + 1,by rw [← hJ,hst,hq]; rfl,by omega,by omega,hs,rfl⟩
   ·simp (disch:=omega) only [go_sem,simprocAttr,he,m2]
    exact ⟨j2,by omega,j2,rfl,by rw [← hJ,hst,hq]; rfl,by omega,by omega,hs,rfl⟩
  ·simp (disch:=omega) only [go_sem,simprocAttr,he,hl1]
   refine ⟨j2,?_,by omega,by omega,hs,rfl⟩
   rw [← hJ]
   cases j2 with
   | zero => rw [scanDown]
   | succ j2 => rw [scanDown,if_neg (by simp; omega)]
 rintro e h ⟨j2,hj2,hj3,hj4,hs,he⟩
 rw [← hj2] at hI
 simp (disch:=omega) only [go_sem,simprocAttr,he]
 refine cnd_dec (fun hgt => ?_) (fun hle => ?_)
 ·rw [if_pos (by omega)] at hI
  simp (disch:=omega) only [go_sem,simprocAttr,he]
  rw [← hI]
  exact ⟨rfl,hgD,hzD,hs⟩
 ·rw [if_neg (by omega)] at hI
  have m1 : (i2:Int) + 1 = ((i2 + 1 : Nat) : Int):=by omega
  have m2 : (j2:Int) - 1 = ((j2 - 1 : Nat) : Int):=by omega
  have hne : i2 ≠ j2:=fun hh => by
   have u:=(scanUp_spec (fun x => !lt D[a]! x) D j _ i rfl).2.2.2
   have v:=(scanDown_spec (fun x => lt D[a]! x) D i2 j).2.2.2
   rw [← hi2] at u
   rw [← hj2] at v
   have u:=u (by omega)
   have v:=v (by omega) (by omega)
   rw [← hh] at v
   simp at u v
   rw [u] at v; cases v
  simp (disch:=omega) only [go_sem,simprocAttr,he]
  obtain ⟨k1,k2,k3,k4,k5,k6,k7,k8,k9,k10,k11,⟨ky,y1,y2,y3,y4⟩,hw⟩:=sw_c E hgD (i:=i2) (j:=j2) (by omega) (by omega)
  simp (disch:=omega) only [go_sem,simprocAttr,he,m1,m2,hs.at,k1,k2,k3,k4,k5,k6,k7,k8,k9,k10,k11,y1,y2,y3,y4,hw]
  exact ⟨j2 - 1 + 1 - (i2 + 1),by omega,i2 + 1,j2 - 1,_,rfl,by omega,by omega,by omega,hI,hgD.swp (by omega) (by omega),by rw [Go.Sort.swp_size]; exact hzD,hs.set,rfl,rfl⟩
theorem prt_L {fc:Nat} {caps:List AV} (hf : okFn Tryz.prog fc = true) (hc:CmpT Tryz.prog true G lt fc caps) (E:GoodE 3 true G) {d:Array (List AV)} {a bb p b cap : Nat} (hs : sat h (pto b (.row 3 d.toList cap) :: F)) (hg:GA G d) (hp1 : a ≤ p) (hp2 : p < bb) (hb : bb ≤ d.size) (hsz : d.size ≤ 1000000000000) :
  Triple Tryz.prog 226 [.arr b 3 0 d.size cap,.int .i64 a,.int .i64 bb,.int .i64 p,.fn fc caps] h (fun r h => r = .tup [.int .i64 (partition lt d a bb p).1,.bool (partition lt d a bb p).2.1]∧GA G (partition lt d a bb p).2.2∧(partition lt d a bb p).2.2.size = d.size∧sat h (pto b (.row 3 (partition lt d a bb p).2.2.toList cap) :: F)):=by
 have w0 : (a:Int) + 1 = ((a + 1 : Nat) : Int):=by omega
 have w1 : (bb:Int) - 1 = ((bb - 1 : Nat) : Int):=by omega
 obtain ⟨k1,k2,k3,k4,k5,k6,k7,k8,k9,k10,k11,⟨ky,y1,y2,y3,y4⟩,hw⟩:=sw_c E hg (i:=a) (j:=p) (by omega) (by omega)
 refine t226 (Nat.le_of_ble_eq_true rfl) ?_
 simp (disch:=omega) only [F226,w0,w1,hs.at,k1,k2,k3,k4,k5,k6,k7,k8,k9,k10,k11,y1,y2,y3,y4,hw,go_sem,simprocAttr]
 have hs:=hs.set (o':=.row 3 (swp d a p).toList cap)
 have hg2:=hg.swp (i:=a) (j:=p) (by omega) (by omega)
 have hz2 : (swp d a p).size = d.size:=by rw [Go.Sort.swp_size]
 clear k1 k2 k3 k4 k5 k6 k7 k8 k9 k10 k11 y1 y2 y3 y4 hw
 have hpd : partition lt d a bb p = partition lt d a bb p:=rfl
 conv at hpd => lhs; unfold partition
 simp only at hpd
 generalize partition lt d a bb p = res at *
 generalize swp d a p = D at *
 obtain ⟨B,hB⟩ : ∃ B,B = bb - 1:=⟨_,rfl⟩
 obtain ⟨A,hA⟩ : ∃ A,A = a + 1:=⟨_,rfl⟩
 rw [← hB,← hA] at hpd
 refine run_cut (fun e h => sat h (pto b (.row 3 D.toList cap) :: F)∧(e 0 = .arr b 3 0 d.size cap∧e 1 = .int .i64 a∧e 4 = .fn fc caps∧e 12 = .int .i64 A∧e 13 = .int .i64 B)) ⟨hs,rfl,rfl,rfl,by rw [hA]; rfl,by rw [hB]; rfl⟩ ?_
 rintro e h ⟨hs,he⟩
 refine blk_join (Q:=fun e h => ∃ i2 : Nat,i2 = scanUp (fun x => lt x D[a]!) D B A∧A ≤ i2∧i2 ≤ B + 1∧sat h (pto b (.row 3 D.toList cap) :: F)∧(e 0 = .arr b 3 0 d.size cap∧e 1 = .int .i64 a∧e 4 = .fn fc caps∧e 12 = .int .i64 i2∧e 13 = .int .i64 B)) ?_ ?_
 ·refine run_loopN (fun n e h => ∃ i2 : Nat,n = B + 1 - i2∧scanUp (fun x => lt x D[a]!) D B i2 = scanUp (fun x => lt x D[a]!) D B A∧A ≤ i2∧i2 ≤ B + 1∧sat h (pto b (.row 3 D.toList cap) :: F)∧(e 0 = .arr b 3 0 d.size cap∧e 1 = .int .i64 a∧e 4 = .fn fc caps∧e 12 = .int .i64 i2∧e 13 = .int .i64 B)) _ ⟨A,rfl,rfl,Nat.le_refl _,by omega,hs,?_⟩ ?_
  ·simp only [Env.upd_apply,he,and_self,reduceIte,Nat.reduceEqDiff]
  rintro n e h ⟨i2,rfl,hJ,hj1,hj2,hs,he⟩
  simp (disch:=omega) only [go_sem,simprocAttr,he]
  refine cnd_dec (fun hl1 => ?_) (fun hl1 => ?_)
  ·have m2 : (i2:Int) + 1 = ((i2 + 1 : Nat) : Int):=by omega
   have r1:=rd_c E hg2 (i:=i2) (by omega)
   have r2:=rd_c E hg2 (i:=a) (by omega)
   simp (disch:=omega) only [go_sem,simprocAttr,he,hs.at,r1,r2]
   refine callv_use hf (hc _ _ _ _ (hg2 _ (by omega)) (hg2 _ (by omega)) hs) ?_
   rintro r h ⟨c,hr,hcl,hs⟩
   subst hr
   simp (disch:=omega) only [go_sem,simprocAttr,he,hl1,hcl]
   have hst : scanUp (fun x => lt x D[a]!) D B i2 = if (lt D[i2]! D[a]!) = true then scanUp (fun x => lt x D[a]!) D B (i2 + 1) else i2:=by
    rw [scanUp.eq_1 _ _ _ i2]
    simp only [show i2 ≤ B from by omega,decide_true,Bool.true_and]
   cases hq : lt D[i2]! D[a]!
   ·simp (disch:=omega) only [go_sem,simprocAttr,he,m2]
    exact ⟨i2,by rw [← hJ,hst,hq]; rfl,by omega,by omega,hs,rfl⟩
   ·simp (disch:=omega) only [go_sem,simprocAttr,he,m2]
    exact ⟨B + 1 - (i2 + 1),by omega,i2 + 1,rfl,by rw [← hJ,hst,hq]; rfl,by omega,by omega,hs,rfl⟩
  ·simp (disch:=omega) only [go_sem,simprocAttr,he,hl1]
   exact ⟨i2,by rw [← hJ,scanUp.eq_1 _ _ _ i2,if_neg (by simp; omega)],by omega,by omega,hs,rfl⟩
 rintro e h ⟨i1,hi1,hi3,hi4,hs,he⟩
 rw [← hi1] at hpd
 simp (disch:=omega) only [go_sem,simprocAttr,he]
 refine blk_join (Q:=fun e h => ∃ j2 : Nat,j2 = scanDown (fun x => !lt x D[a]!) D i1 B∧j2 ≤ B∧i1 ≤ j2 + 1∧sat h (pto b (.row 3 D.toList cap) :: F)∧(e 0 = .arr b 3 0 d.size cap∧e 1 = .int .i64 a∧e 4 = .fn fc caps∧e 12 = .int .i64 i1∧e 13 = .int .i64 j2)) ?_ ?_
 ·refine run_loopN (fun n e h => ∃ j2 : Nat,n = j2∧scanDown (fun x => !lt x D[a]!) D i1 j2 = scanDown (fun x => !lt x D[a]!) D i1 B∧j2 ≤ B∧i1 ≤ j2 + 1∧sat h (pto b (.row 3 D.toList cap) :: F)∧(e 0 = .arr b 3 0 d.size cap∧e 1 = .int .i64 a∧e 4 = .fn fc caps∧e 12 = .int .i64 i1∧e 13 = .int .i64 j2)) _ ⟨B,rfl,rfl,Nat.le_refl _,by omega,hs,?_⟩ ?_
  ·simp only [Env.upd_apply,he,and_self,reduceIte,Nat.reduceEqDiff]
  rintro j2 e h ⟨_,rfl,hJ,hj1,hj2,hs,he⟩
  simp (disch:=omega) only [go_sem,simprocAttr,he]
  refine cnd_dec (fun hl1 => ?_) (fun hl1 => ?_)
  ·obtain ⟨j2,rfl⟩ : ∃ q,j2 = q + 1:=⟨j2 - 1,by omega⟩
   have m2 : ((j2 + 1 : Nat) : Int) - 1 = (j2:Int):=by omega
   have r1:=rd_c E hg2 (i:=j2 + 1) (by omega)
   have r2:=rd_c E hg2 (i:=a) (by omega)
   simp (disch:=omega) only [go_sem,simprocAttr,he,hs.at,r1,r2]
   refine callv_use hf (hc _ _ _ _ (hg2 _ (by omega)) (hg2 _ (by omega)) hs) ?_
   rintro r h ⟨c,hr,hcl,hs⟩
   subst hr
   simp (disch:=omega) only [go_sem,simprocAttr,he,hl1,hcl]
   have hst : scanDown (fun x => !lt x D[a]!) D i1 (j2 + 1) = if (!lt D[j2 + 1]! D[a]!) = true then scanDown (fun x => !lt x D[a]!) D i1 j2 else j2 + 1:=by
    rw [scanDown]
    simp only [show i1 ≤ j2 + 1 from by omega,decide_true,Bool.true_and]
   cases hq : lt D[j2 + 1]! D[a]!
   ·simp (disch:=omega) only [go_sem,simprocAttr,he,m2]
    exact ⟨j2,by omega,j2,rfl,by rw [← hJ,hst,hq]; rfl,by omega,by omega,hs,rfl⟩
   ·simp (disch:=omega) only [go_sem,simprocAttr,he,m2]
    exact ⟨j2 + 1,by rw [← hJ,hst,hq]; rfl,by omega,by omega,hs,rfl⟩
  ·simp (disch:=omega) only [go_sem,simprocAttr,he,hl1]
   refine ⟨j2,?_,by omega,by omega,hs,rfl⟩
   rw [← hJ]
   cases j2 with
   | zero => rw [scanDown]
   | succ j2 => rw [scanDown,if_neg (by simp; omega)]
 rintro e h ⟨j1,hj1,hj3,hj4,hs,he⟩
 rw [← hj1] at hpd
 simp (disch:=omega) only [go_sem,simprocAttr,he]
 refine cnd_dec (fun hgt => ?_) (fun hle => ?_)
 ·rw [if_pos (by omega)] at hpd
  simp (disch:=omega) only [go_sem,simprocAttr,he]
  obtain ⟨k1,k2,k3,k4,k5,k6,k7,k8,k9,k10,k11,⟨ky,y1,y2,y3,y4⟩,hw⟩:=sw_c E hg2 (i:=j1) (j:=a) (by omega) (by omega)
  simp (disch:=omega) only [go_sem,simprocAttr,he,hs.at,k1,k2,k3,k4,k5,k6,k7,k8,k9,k10,k11,y1,y2,y3,y4,hw]
  rw [← hpd]
  exact ⟨rfl,hg2.swp (by omega) (by omega),by rw [Go.Sort.swp_size]; exact hz2,hs.set⟩
 rw [if_neg (by omega)] at hpd
 have m1 : (i1:Int) + 1 = ((i1 + 1 : Nat) : Int):=by omega
 have m2 : (j1:Int) - 1 = ((j1 - 1 : Nat) : Int):=by omega
 have hne : i1 ≠ j1:=fun hh => by
  have u:=(scanUp_spec (fun x => lt x D[a]!) D B _ A rfl).2.2.2
  have v:=(scanDown_spec (fun x => !lt x D[a]!) D i1 B).2.2.2
  rw [← hi1] at u
  rw [← hj1] at v
  have u:=u (by omega)
  have v:=v (by omega) (by omega)
  rw [← hh] at v
  simp at u v
  rw [u] at v; cases v
 simp (disch:=omega) only [go_sem,simprocAttr,he]
 obtain ⟨k1,k2,k3,k4,k5,k6,k7,k8,k9,k10,k11,⟨ky,y1,y2,y3,y4⟩,hw⟩:=sw_c E hg2 (i:=i1) (j:=j1) (by omega) (by omega)
 simp (disch:=omega) only [go_sem,simprocAttr,he,m1,m2,hs.at,k1,k2,k3,k4,k5,k6,k7,k8,k9,k10,k11,y1,y2,y3,y4,hw]
 have hs:=hs.set (o':=.row 3 (swp D i1 j1).toList cap)
 have hg4:=hg2.swp (i:=i1) (j:=j1) (by omega) (by omega)
 have hz4 : (swp D i1 j1).size = d.size:=by rw [Go.Sort.swp_size]; exact hz2
 clear k1 k2 k3 k4 k5 k6 k7 k8 k9 k10 k11 y1 y2 y3 y4 hw
 generalize swp D i1 j1 = D2 at *
 refine blk_join (Q:=fun e h => ∃ (j:Nat) (D3:Array (List AV)),(j,D3) = partLoop lt a (i1 + 1) (j1 - 1) D2∧a ≤ j∧j < bb∧GA G D3∧D3.size = d.size∧sat h (pto b (.row 3 D3.toList cap) :: F) ∧
  (e 0 = .arr b 3 0 d.size cap∧e 1 = .int .i64 a∧e 13 = .int .i64 j)) ?_ ?_
 ·refine run_loopN (fun n e h => ∃ (i j : Nat) (D3:Array (List AV)),n = j + 1 - i∧a < i∧i ≤ j + 1∧j < bb∧partLoop lt a i j D3 = partLoop lt a (i1 + 1) (j1 - 1) D2∧GA G D3∧D3.size = d.size∧sat h (pto b (.row 3 D3.toList cap) :: F) ∧
   (e 0 = .arr b 3 0 d.size cap∧e 1 = .int .i64 a∧e 4 = .fn fc caps∧e 12 = .int .i64 i∧e 13 = .int .i64 j)) _ ⟨i1 + 1,j1 - 1,_,rfl,by omega,by omega,by omega,rfl,hg4,hz4,hs,?_⟩ ?_
  ·simp only [Env.upd_apply,he,and_self,reduceIte,Nat.reduceEqDiff]
  rintro n e h ⟨i,j,D3,rfl,hai,hij,hjb,hI,hgD,hzD,hs,he⟩
  rw [partLoop_eq] at hI
  simp (disch:=omega) only [go_sem,simprocAttr,he]
  refine blk_join (Q:=fun e h => ∃ i2 : Nat,i2 = scanUp (fun x => lt x D3[a]!) D3 j i∧i ≤ i2∧i2 ≤ j + 1∧sat h (pto b (.row 3 D3.toList cap) :: F)∧(e 0 = .arr b 3 0 d.size cap∧e 1 = .int .i64 a∧e 4 = .fn fc caps∧e 12 = .int .i64 i2∧e 13 = .int .i64 j)) ?_ ?_
  ·refine run_loopN (fun n e h => ∃ i2 : Nat,n = j + 1 - i2∧scanUp (fun x => lt x D3[a]!) D3 j i2 = scanUp (fun x => lt x D3[a]!) D3 j i∧i ≤ i2∧i2 ≤ j + 1∧sat h (pto b (.row 3 D3.toList cap) :: F)∧(e 0 = .arr b 3 0 d.size cap∧e 1 = .int .i64 a∧e 4 = .fn fc caps∧e 12 = .int .i64 i2∧e 13 = .int .i64 j)) _ ⟨i,rfl,rfl,Nat.le_refl _,by omega,hs,?_⟩ ?_
   ·simp only [Env.upd_apply,he,and_self,reduceIte,Nat.reduceEqDiff]
   rintro n e h ⟨i2,rfl,hJ,hj1,hj2,hs,he⟩
   simp (disch:=omega) only [go_sem,simprocAttr,he]
   refine cnd_dec (fun hl1 => ?_) (fun hl1 => ?_)
   ·have m2 : (i2:Int) + 1 = ((i2 + 1 : Nat) : Int):=by omega
    have r1:=rd_c E hgD (i:=i2) (by omega)
    have r2:=rd_c E hgD (i:=a) (by omega)
    simp (disch:=omega) only [go_sem,simprocAttr,he,hs.at,r1,r2]
    refine callv_use hf (hc _ _ _ _ (hgD _ (by omega)) (hgD _ (by omega)) hs) ?_
    rintro r h ⟨c,hr,hcl,hs⟩
    subst hr
    simp (disch:=omega) only [go_sem,simprocAttr,he,hl1,hcl]
    have hst : scanUp (fun x => lt x D3[a]!) D3 j i2 = if (lt D3[i2]! D3[a]!) = true then scanUp (fun x => lt x D3[a]!) D3 j (i2 + 1) else i2:=by
     rw [scanUp.eq_1 _ _ _ i2]
     simp only [show i2 ≤ j from by omega,decide_true,Bool.true_and]
    cases hq : lt D3[i2]! D3[a]!
    ·simp (disch:=omega) only [go_sem,simprocAttr,he,m2]
     exact ⟨i2,by rw [← hJ,hst,hq]; rfl,by omega,by omega,hs,rfl⟩
    ·simp (disch:=omega) only [go_sem,simprocAttr,he,m2]
     exact ⟨j + 1 - (i2 + 1),by omega,i2 + 1,rfl,by rw [← hJ,hst,hq]; rfl,by omega,by omega,hs,rfl⟩
   ·simp (disch:=omega) only [go_sem,simprocAttr,he,hl1]
    exact ⟨i2,by rw [← hJ,scanUp.eq_1 _ _ _ i2,if_neg (by simp; omega)],by omega,by omega,hs,rfl⟩
  rintro e h ⟨i2,hi2,hi3,hi4,hs,he⟩
  rw [← hi2] at hI
  simp (disch:=omega) only [go_sem,simprocAttr,he]
  refine blk_join (Q:=fun e h => ∃ j2 : Nat,j2 = scanDown (fun x => !lt x D3[a]!) D3 i2 j∧j2 ≤ j∧i2 ≤ j2 + 1∧sat h (pto b (.row 3 D3.toList cap) :: F)∧(e 0 = .arr b 3 0 d.size cap∧e 1 = .int .i64 a∧e 4 = .fn fc caps∧e 12 = .int .i64 i2∧e 13 = .int .i64 j2)) ?_ ?_
  ·refine run_loopN (fun n e h => ∃ j2 : Nat,n = j2∧scanDown (fun x => !lt x D3[a]!) D3 i2 j2 = scanDown (fun x => !lt x D3[a]!) D3 i2 j∧j2 ≤ j∧i2 ≤ j2 + 1∧sat h (pto b (.row 3 D3.toList cap) :: F)∧(e 0 = .arr b 3 0 d.size cap∧e 1 = .int .i64 a∧e 4 = .fn fc caps∧e 12 = .int .i64 i2∧e 13 = .int .i64 j2)) _ ⟨j,rfl,rfl,Nat.le_refl _,by omega,hs,?_⟩ ?_
   ·simp only [Env.upd_apply,he,and_self,reduceIte,Nat.reduceEqDiff]
   rintro j2 e h ⟨_,rfl,hJ,hj1,hj2,hs,he⟩
   simp (disch:=omega) only [go_sem,simprocAttr,he]
   refine cnd_dec (fun hl1 => ?_) (fun hl1 => ?_)
   ·obtain ⟨j2,rfl⟩ : ∃ q,j2 = q + 1:=⟨j2 - 1,by omega⟩
    have m2 : ((j2 + 1 : Nat) : Int) - 1 = (j2:Int):=by omega
    have r1:=rd_c E hgD (i:=j2 + 1) (by omega)
    have r2:=rd_c E hgD (i:=a) (by omega)
    simp (disch:=omega) only [go_sem,simprocAttr,he,hs.at,r1,r2]
    refine callv_use hf (hc _ _ _ _ (hgD _ (by omega)) (hgD _ (by omega)) hs) ?_
    rintro r h ⟨c,hr,hcl,hs⟩
    subst hr
    simp (disch:=omega) only [go_sem,simprocAttr,he,hl1,hcl]
    have hst : scanDown (fun x => !lt x D3[a]!) D3 i2 (j2 + 1) = if (!lt D3[j2 + 1]! D3[a]!) = true then scanDown (fun x => !lt x D3[a]!) D3 i2 j2 else j2 + 1:=by
     rw [scanDown]
     simp only [show i2 ≤ j2 + 1 from by omega,decide_true,Bool.true_and]
    cases hq : lt D3[j2 + 1]! D3[a]!
    ·simp (disch:=omega) only [go_sem,simprocAttr,he,m2]
     exact ⟨j2,by omega,j2,rfl,by rw [← hJ,hst,hq]; rfl,by omega,by omega,hs,rfl⟩
    ·simp (disch:=omega) only [go_sem,simprocAttr,he,m2]
     exact ⟨j2 + 1,by rw [← hJ,hst,hq]; rfl,by omega,by omega,hs,rfl⟩
   ·simp (disch:=omega) only [go_sem,simprocAttr,he,hl1]
    refine ⟨j2,?_,by omega,by omega,hs,rfl⟩
    rw [← hJ]
    cases j2 with
    | zero => rw [scanDown]
    | succ j2 => rw [scanDown,if_neg (by simp; omega)]
  rintro e h ⟨j2,hj2,hj3,hj4,hs,he⟩
  rw [← hj2] at hI
  simp (disch:=omega) only [go_sem,simprocAttr,he]
  refine cnd_dec (fun hgt => ?_) (fun hle => ?_)
  ·rw [if_pos (by omega)] at hI
   simp (disch:=omega) only [go_sem,simprocAttr,he]
   exact ⟨j2,D3,hI,by omega,by omega,hgD,hzD,hs,rfl⟩
  ·rw [if_neg (by omega)] at hI
   have m1 : (i2:Int) + 1 = ((i2 + 1 : Nat) : Int):=by omega
   have m2 : (j2:Int) - 1 = ((j2 - 1 : Nat) : Int):=by omega
   have hne : i2 ≠ j2:=fun hh => by
    have u:=(scanUp_spec (fun x => lt x D3[a]!) D3 j _ i rfl).2.2.2
    have v:=(scanDown_spec (fun x => !lt x D3[a]!) D3 i2 j).2.2.2
    rw [← hi2] at u
    rw [← hj2] at v
    have u:=u (by omega)
    have v:=v (by omega) (by omega)
    rw [← hh] at v
    simp at u v
    rw [u] at v; cases v
   simp (disch:=omega) only [go_sem,simprocAttr,he]
   obtain ⟨k1,k2,k3,k4,k5,k6,k7,k8,k9,k10,k11,⟨ky,y1,y2,y3,y4⟩,hw⟩:=sw_c E hgD (i:=i2) (j:=j2) (by omega) (by omega)
   simp (disch:=omega) only [go_sem,simprocAttr,he,m1,m2,hs.at,k1,k2,k3,k4,k5,k6,k7,k8,k9,k10,k11,y1,y2,y3,y4,hw]
   exact ⟨j2 - 1 + 1 - (i2 + 1),by omega,i2 + 1,j2 - 1,_,rfl,by omega,by omega,by omega,hI,hgD.swp (by omega) (by omega),by rw [Go.Sort.swp_size]; exact hzD,hs.set,rfl,rfl⟩
 ·rintro e h ⟨j,D3,hI,haj,hjb,hgD,hzD,hs,he⟩
  rw [← hI] at hpd
  simp (disch:=omega) only [go_sem,simprocAttr,he]
  obtain ⟨k1,k2,k3,k4,k5,k6,k7,k8,k9,k10,k11,⟨ky,y1,y2,y3,y4⟩,hw⟩:=sw_c E hgD (i:=j) (j:=a) (by omega) (by omega)
  simp (disch:=omega) only [go_sem,simprocAttr,he,hs.at,k1,k2,k3,k4,k5,k6,k7,k8,k9,k10,k11,y1,y2,y3,y4,hw]
  rw [← hpd]
  exact ⟨rfl,hgD.swp (by omega) (by omega),by rw [Go.Sort.swp_size]; exact hzD,hs.set⟩
theorem peq_S (hc:LessT Tryz.prog false G lt 256) (E:GoodE 1 false G) {d:Array (List AV)} {a bb p b cap : Nat} (hs : sat h (pto b (.row 1 d.toList cap) :: F)) (hg:GA G d) (hp1 : a ≤ p) (hp2 : p < bb) (hb : bb ≤ d.size) (hsz : d.size ≤ 1000000000000) :
  Triple Tryz.prog 257 [.arr b 1 0 d.size cap,.int .i64 a,.int .i64 bb,.int .i64 p] h (fun r h => r = .int .i64 (partitionEqual lt d a bb p).1∧GA G (partitionEqual lt d a bb p).2∧(partitionEqual lt d a bb p).2.size = d.size∧sat h (pto b (.row 1 (partitionEqual lt d a bb p).2.toList cap) :: F)):=by
 have w0 : (a:Int) + 1 = ((a + 1 : Nat) : Int):=by omega
 have w1 : (bb:Int) - 1 = ((bb - 1 : Nat) : Int):=by omega
 obtain ⟨k1,k2,k3,k4,k5,k6,k7,k8,k9,k10,k11,⟨ky,y1,y2,y3,y4⟩,hw⟩:=sw_o E hg (i:=a) (j:=p) (by omega) (by omega)
 refine t257 (Nat.le_of_ble_eq_true rfl) ?_
 simp (disch:=omega) only [F257,w0,w1,hs.at,k1,k2,k3,k4,k5,k6,k7,k8,k9,k10,k11,y1,y2,y3,y4,hw,go_sem,simprocAttr]
 have hs2:=hs.set (o':=.row 1 (swp d a p).toList cap)
 have hg2:=hg.swp (i:=a) (j:=p) (by omega) (by omega)
 have hz2 : (swp d a p).size = d.size:=by rw [Go.Sort.swp_size]
 have hR : partEqLoop lt a (a + 1) (bb - 1) (swp d a p) = partitionEqual lt d a bb p:=rfl
 refine run_loopN (fun n e h => ∃ (i j : Nat) (D:Array (List AV)),n = j + 1 - i∧a < i∧i ≤ j + 1∧j < bb∧partEqLoop lt a i j D = partitionEqual lt d a bb p∧GA G D∧D.size = d.size∧sat h (pto b (.row 1 D.toList cap) :: F) ∧
  (e 0 = .arr b 1 0 d.size cap∧e 1 = .int .i64 a∧e 9 = .int .i64 i∧e 10 = .int .i64 j)) _ ⟨a + 1,bb - 1,_,rfl,by omega,by omega,by omega,hR,hg2,hz2,hs2,rfl,rfl,rfl,rfl⟩ ?_
 rintro n e h ⟨i,j,D,rfl,hai,hij,hjb,hI,hgD,hzD,hs,he⟩
 rw [partEqLoop_eq] at hI
 simp (disch:=omega) only [go_sem,simprocAttr,he]
 refine blk_join (Q:=fun e h => ∃ i2 : Nat,i2 = scanUp (fun x => !lt D[a]! x) D j i∧i ≤ i2∧i2 ≤ j + 1∧sat h (pto b (.row 1 D.toList cap) :: F)∧(e 0 = .arr b 1 0 d.size cap∧e 1 = .int .i64 a∧e 9 = .int .i64 i2∧e 10 = .int .i64 j)) ?_ ?_
 ·refine run_loopN (fun n e h => ∃ i2 : Nat,n = j + 1 - i2∧scanUp (fun x => !lt D[a]! x) D j i2 = scanUp (fun x => !lt D[a]! x) D j i∧i ≤ i2∧i2 ≤ j + 1∧sat h (pto b (.row 1 D.toList cap) :: F)∧(e 0 = .arr b 1 0 d.size cap∧e 1 = .int .i64 a∧e 9 = .int .i64 i2∧e 10 = .int .i64 j)) _ ⟨i,rfl,rfl,Nat.le_refl _,by omega,hs,?_⟩ ?_
  ·simp only [Env.upd_apply,he,and_self,reduceIte,Nat.reduceEqDiff]
  rintro n e h ⟨i2,rfl,hJ,hj1,hj2,hs,he⟩
  simp (disch:=omega) only [go_sem,simprocAttr,he]
  refine cnd_dec (fun hl1 => ?_) (fun hl1 => ?_)
  ·have m2 : (i2:Int) + 1 = ((i2 + 1 : Nat) : Int):=by omega
   have r1:=rd_o E hgD (i:=i2) (by omega)
   have r2:=rd_o E hgD (i:=a) (by omega)
   simp (disch:=omega) only [go_sem,simprocAttr,he,hs.at,r1,r2]
   refine call_use (hc _ _ _ _ (hgD _ (by omega)) (hgD _ (by omega)) hs) ?_
   rintro r h ⟨hr,hs⟩
   subst hr
   simp (disch:=omega) only [go_sem,simprocAttr,he,hl1]
   have hst : scanUp (fun x => !lt D[a]! x) D j i2 = if (!lt D[a]! D[i2]!) = true then scanUp (fun x => !lt D[a]! x) D j (i2 + 1) else i2:=by
    rw [scanUp.eq_1 _ _ _ i2]
    simp only [show i2 ≤ j from by omega,decide_true,Bool.true_and]
   cases hq : lt D[a]! D[i2]!
   ·simp (disch:=omega) only [go_sem,simprocAttr,he,m2]
    exact ⟨j + 1 - (i2 + 1),by omega,i2 + 1,rfl,by rw [← hJ,hst,hq]; rfl,by omega,by omega,hs,rfl⟩
   ·simp (disch:=omega) only [go_sem,simprocAttr,he,m2]
    exact ⟨i2,by rw [← hJ,hst,hq]; rfl,by omega,by omega,hs,rfl⟩
  ·simp (disch:=omega) only [go_sem,simprocAttr,he,hl1]
   exact ⟨i2,by rw [← hJ,scanUp.eq_1 _ _ _ i2,if_neg (by simp; omega)],by omega,by omega,hs,rfl⟩
 rintro e h ⟨i2,hi2,hi3,hi4,hs,he⟩
 rw [← hi2] at hI
 simp (disch:=omega) only [go_sem,simprocAttr,he]
 refine blk_join (Q:=fun e h => ∃ j2 : Nat,j2 = scanDown (fun x => lt D[a]! x) D i2 j∧j2 ≤ j∧i2 ≤ j2 + 1∧sat h (pto b (.row 1 D.toList cap) :: F)∧(e 0 = .arr b 1 0 d.size cap∧e 1 = .int .i64 a∧e 9 = .int .i64 i2∧e 10 = .int .i64 j2)) ?_ ?_
 ·refine run_loopN (fun n e h => ∃ j2 : Nat,n = j2∧scanDown (fun x => lt D[a]! x) D i2 j2 = scanDown (fun x => lt D[a]! x) D i2 j∧j2 ≤ j∧i2 ≤ j2 + 1∧sat h (pto b (.row 1 D.toList cap) :: F)∧(e 0 = .arr b 1 0 d.size cap∧e 1 = .int .i64 a∧e 9 = .int .i64 i2∧e 10 = .int .i64 j2)) _ ⟨j,rfl,rfl,Nat.le_refl _,by omega,hs,?_⟩ ?_
  ·simp only [Env.upd_apply,he,and_self,reduceIte,Nat.reduceEqDiff]
  rintro j2 e h ⟨_,rfl,hJ,hj1,hj2,hs,he⟩
  simp (disch:=omega) only [go_sem,simprocAttr,he]
  refine cnd_dec (fun hl1 => ?_) (fun hl1 => ?_)
  ·obtain ⟨j2,rfl⟩ : ∃ q,j2 = q + 1:=⟨j2 - 1,by omega⟩
   have m2 : ((j2 + 1 : Nat) : Int) - 1 = (j2:Int):=by omega
   have r1:=rd_o E hgD (i:=j2 + 1) (by omega)
   have r2:=rd_o E hgD (i:=a) (by omega)
   simp (disch:=omega) only [go_sem,simprocAttr,he,hs.at,r1,r2]
   refine call_use (hc _ _ _ _ (hgD _ (by omega)) (hgD _ (by omega)) hs) ?_
   rintro r h ⟨hr,hs⟩
   subst hr
   simp (disch:=omega) only [go_sem,simprocAttr,he,hl1]
   have hst : scanDown (fun x => lt D[a]! x) D i2 (j2 + 1) = if (lt D[a]! D[j2 + 1]!) = true then scanDown (fun x => lt D[a]! x) D i2 j2 else j2 + 1:=by
    rw [scanDown]
    simp only [show i2 ≤ j2 + 1 from by omega,decide_true,Bool.true_and]
   cases hq : lt D[a]! D[j2 + 1]!
   ·simp (disch:=omega) only [go_sem,simprocAttr,he,m2]
    exact ⟨j2 + 1,by rw [← hJ,hst,hq]; rfl,by omega,by omega,hs,rfl⟩
   ·simp (disch:=omega) only [go_sem,simprocAttr,he,m2]
    exact ⟨j2,by omega,j2,rfl,by rw [← hJ,hst,hq]; rfl,by omega,by omega,hs,rfl⟩
  ·simp (disch:=omega) only [go_sem,simprocAttr,he,hl1]
   refine ⟨j2,?_,by omega,by omega,hs,rfl⟩
   rw [← hJ]
   cases j2 with
   | zero => rw [scanDown]
   | succ j2 => rw [scanDown,if_neg (by simp; omega)]
 rintro e h ⟨j2,hj2,hj3,hj4,hs,he⟩
 rw [← hj2] at hI
 simp (disch:=omega) only [go_sem,simprocAttr,he]
 refine cnd_dec (fun hgt => ?_) (fun hle => ?_)
 ·rw [if_pos (by omega)] at hI
  simp (disch:=omega) only [go_sem,simprocAttr,he]
  rw [← hI]
  exact ⟨rfl,hgD,hzD,hs⟩
 ·rw [if_neg (by omega)] at hI
  have m1 : (i2:Int) + 1 = ((i2 + 1 : Nat) : Int):=by omega
  have m2 : (j2:Int) - 1 = ((j2 - 1 : Nat) : Int):=by omega
  have hne : i2 ≠ j2:=fun hh => by
   have u:=(scanUp_spec (fun x => !lt D[a]! x) D j _ i rfl).2.2.2
   have v:=(scanDown_spec (fun x => lt D[a]! x) D i2 j).2.2.2
   rw [← hi2] at u
   rw [← hj2] at v
   have u:=u (by omega)
   have v:=v (by omega) (by omega)
   rw [← hh] at v
   simp at u v
   rw [u] at v; cases v
  simp (disch:=omega) only [go_sem,simprocAttr,he]
  obtain ⟨k1,k2,k3,k4,k5,k6,k7,k8,k9,k10,k11,⟨ky,y1,y2,y3,y4⟩,hw⟩:=sw_o E hgD (i:=i2) (j:=j2) (by omega) (by omega)
  simp (disch:=omega) only [go_sem,simprocAttr,he,m1,m2,hs.at,k1,k2,k3,k4,k5,k6,k7,k8,k9,k10,k11,y1,y2,y3,y4,hw]
  exact ⟨j2 - 1 + 1 - (i2 + 1),by omega,i2 + 1,j2 - 1,_,rfl,by omega,by omega,by omega,hI,hgD.swp (by omega) (by omega),by rw [Go.Sort.swp_size]; exact hzD,hs.set,rfl,rfl⟩
theorem prt_S (hc:LessT Tryz.prog false G lt 256) (E:GoodE 1 false G) {d:Array (List AV)} {a bb p b cap : Nat} (hs : sat h (pto b (.row 1 d.toList cap) :: F)) (hg:GA G d) (hp1 : a ≤ p) (hp2 : p < bb) (hb : bb ≤ d.size) (hsz : d.size ≤ 1000000000000) :
  Triple Tryz.prog 258 [.arr b 1 0 d.size cap,.int .i64 a,.int .i64 bb,.int .i64 p] h (fun r h => r = .tup [.int .i64 (partition lt d a bb p).1,.bool (partition lt d a bb p).2.1]∧GA G (partition lt d a bb p).2.2∧(partition lt d a bb p).2.2.size = d.size∧sat h (pto b (.row 1 (partition lt d a bb p).2.2.toList cap) :: F)):=by
 have w0 : (a:Int) + 1 = ((a + 1 : Nat) : Int):=by omega
 have w1 : (bb:Int) - 1 = ((bb - 1 : Nat) : Int):=by omega
 obtain ⟨k1,k2,k3,k4,k5,k6,k7,k8,k9,k10,k11,⟨ky,y1,y2,y3,y4⟩,hw⟩:=sw_o E hg (i:=a) (j:=p) (by omega) (by omega)
 refine t258 (Nat.le_of_ble_eq_true rfl) ?_
 simp (disch:=omega) only [F258,w0,w1,hs.at,k1,k2,k3,k4,k5,k6,k7,k8,k9,k10,k11,y1,y2,y3,y4,hw,go_sem,simprocAttr]
 have hs:=hs.set (o':=.row 1 (swp d a p).toList cap)
 have hg2:=hg.swp (i:=a) (j:=p) (by omega) (by omega)
 have hz2 : (swp d a p).size = d.size:=by rw [Go.Sort.swp_size]
 clear k1 k2 k3 k4 k5 k6 k7 k8 k9 k10 k11 y1 y2 y3 y4 hw
 have hpd : partition lt d a bb p = partition lt d a bb p:=rfl
 conv at hpd => lhs; unfold partition
 simp only at hpd
 generalize partition lt d a bb p = res at *
 generalize swp d a p = D at *
 obtain ⟨B,hB⟩ : ∃ B,B = bb - 1:=⟨_,rfl⟩
 obtain ⟨A,hA⟩ : ∃ A,A = a + 1:=⟨_,rfl⟩
 rw [← hB,← hA] at hpd
 refine run_cut (fun e h => sat h (pto b (.row 1 D.toList cap) :: F)∧(e 0 = .arr b 1 0 d.size cap∧e 1 = .int .i64 a∧e 10 = .int .i64 A∧e 11 = .int .i64 B)) ⟨hs,rfl,rfl,by rw [hA]; rfl,by rw [hB]; rfl⟩ ?_
 rintro e h ⟨hs,he⟩
 refine blk_join (Q:=fun e h => ∃ i2 : Nat,i2 = scanUp (fun x => lt x D[a]!) D B A∧A ≤ i2∧i2 ≤ B + 1∧sat h (pto b (.row 1 D.toList cap) :: F)∧(e 0 = .arr b 1 0 d.size cap∧e 1 = .int .i64 a∧e 10 = .int .i64 i2∧e 11 = .int .i64 B)) ?_ ?_
 ·refine run_loopN (fun n e h => ∃ i2 : Nat,n = B + 1 - i2∧scanUp (fun x => lt x D[a]!) D B i2 = scanUp (fun x => lt x D[a]!) D B A∧A ≤ i2∧i2 ≤ B + 1∧sat h (pto b (.row 1 D.toList cap) :: F)∧(e 0 = .arr b 1 0 d.size cap∧e 1 = .int .i64 a∧e 10 = .int .i64 i2∧e 11 = .int .i64 B)) _ ⟨A,rfl,rfl,Nat.le_refl _,by omega,hs,?_⟩ ?_
  ·simp only [Env.upd_apply,he,and_self,reduceIte,Nat.reduceEqDiff]
  rintro n e h ⟨i2,rfl,hJ,hj1,hj2,hs,he⟩
  simp (disch:=omega) only [go_sem,simprocAttr,he]
  refine cnd_dec (fun hl1 => ?_) (fun hl1 => ?_)
  ·have m2 : (i2:Int) + 1 = ((i2 + 1 : Nat) : Int):=by omega
   have r1:=rd_o E hg2 (i:=i2) (by omega)
   have r2:=rd_o E hg2 (i:=a) (by omega)
   simp (disch:=omega) only [go_sem,simprocAttr,he,hs.at,r1,r2]
   refine call_use (hc _ _ _ _ (hg2 _ (by omega)) (hg2 _ (by omega)) hs) ?_
   rintro r h ⟨hr,hs⟩
   subst hr
   simp (disch:=omega) only [go_sem,simprocAttr,he,hl1]
   have hst : scanUp (fun x => lt x D[a]!) D B i2 = if (lt D[i2]! D[a]!) = true then scanUp (fun x => lt x D[a]!) D B (i2 + 1) else i2:=by
    rw [scanUp.eq_1 _ _ _ i2]
    simp only [show i2 ≤ B from by omega,decide_true,Bool.true_and]
   cases hq : lt D[i2]! D[a]!
   ·simp (disch:=omega) only [go_sem,simprocAttr,he,m2]
    exact ⟨i2,by rw [← hJ,hst,hq]; rfl,by omega,by omega,hs,rfl⟩
   ·simp (disch:=omega) only [go_sem,simprocAttr,he,m2]
    exact ⟨B + 1 - (i2 + 1),by omega,i2 + 1,rfl,by rw [← hJ,hst,hq]; rfl,by omega,by omega,hs,rfl⟩
  ·simp (disch:=omega) only [go_sem,simprocAttr,he,hl1]
   exact ⟨i2,by rw [← hJ,scanUp.eq_1 _ _ _ i2,if_neg (by simp; omega)],by omega,by omega,hs,rfl⟩
 rintro e h ⟨i1,hi1,hi3,hi4,hs,he⟩
 rw [← hi1] at hpd
 simp (disch:=omega) only [go_sem,simprocAttr,he]
 refine blk_join (Q:=fun e h => ∃ j2 : Nat,j2 = scanDown (fun x => !lt x D[a]!) D i1 B∧j2 ≤ B∧i1 ≤ j2 + 1∧sat h (pto b (.row 1 D.toList cap) :: F)∧(e 0 = .arr b 1 0 d.size cap∧e 1 = .int .i64 a∧e 10 = .int .i64 i1∧e 11 = .int .i64 j2)) ?_ ?_
 ·refine run_loopN (fun n e h => ∃ j2 : Nat,n = j2∧scanDown (fun x => !lt x D[a]!) D i1 j2 = scanDown (fun x => !lt x D[a]!) D i1 B∧j2 ≤ B∧i1 ≤ j2 + 1∧sat h (pto b (.row 1 D.toList cap) :: F)∧(e 0 = .arr b 1 0 d.size cap∧e 1 = .int .i64 a∧e 10 = .int .i64 i1∧e 11 = .int .i64 j2)) _ ⟨B,rfl,rfl,Nat.le_refl _,by omega,hs,?_⟩ ?_
  ·simp only [Env.upd_apply,he,and_self,reduceIte,Nat.reduceEqDiff]
  rintro j2 e h ⟨_,rfl,hJ,hj1,hj2,hs,he⟩
  simp (disch:=omega) only [go_sem,simprocAttr,he]
  refine cnd_dec (fun hl1 => ?_) (fun hl1 => ?_)
  ·obtain ⟨j2,rfl⟩ : ∃ q,j2 = q + 1:=⟨j2 - 1,by omega⟩
   have m2 : ((j2 + 1 : Nat) : Int) - 1 = (j2:Int):=by omega
   have r1:=rd_o E hg2 (i:=j2 + 1) (by omega)
   have r2:=rd_o E hg2 (i:=a) (by omega)
   simp (disch:=omega) only [go_sem,simprocAttr,he,hs.at,r1,r2]
   refine call_use (hc _ _ _ _ (hg2 _ (by omega)) (hg2 _ (by omega)) hs) ?_
   rintro r h ⟨hr,hs⟩
   subst hr
   simp (disch:=omega) only [go_sem,simprocAttr,he,hl1]
   have hst : scanDown (fun x => !lt x D[a]!) D i1 (j2 + 1) = if (!lt D[j2 + 1]! D[a]!) = true then scanDown (fun x => !lt x D[a]!) D i1 j2 else j2 + 1:=by
    rw [scanDown]
    simp only [show i1 ≤ j2 + 1 from by omega,decide_true,Bool.true_and]
   cases hq : lt D[j2 + 1]! D[a]!
   ·simp (disch:=omega) only [go_sem,simprocAttr,he,m2]
    exact ⟨j2,by omega,j2,rfl,by rw [← hJ,hst,hq]; rfl,by omega,by omega,hs,rfl⟩
   ·simp (disch:=omega) only [go_sem,simprocAttr,he,m2]
    exact ⟨j2 + 1,by rw [← hJ,hst,hq]; rfl,by omega,by omega,hs,rfl⟩
  ·simp (disch:=omega) only [go_sem,simprocAttr,he,hl1]
   refine ⟨j2,?_,by omega,by omega,hs,rfl⟩
   rw [← hJ]
   cases j2 with
   | zero => rw [scanDown]
   | succ j2 => rw [scanDown,if_neg (by simp; omega)]
 rintro e h ⟨j1,hj1,hj3,hj4,hs,he⟩
 rw [← hj1] at hpd
 simp (disch:=omega) only [go_sem,simprocAttr,he]
 refine cnd_dec (fun hgt => ?_) (fun hle => ?_)
 ·rw [if_pos (by omega)] at hpd
  simp (disch:=omega) only [go_sem,simprocAttr,he]
  obtain ⟨k1,k2,k3,k4,k5,k6,k7,k8,k9,k10,k11,⟨ky,y1,y2,y3,y4⟩,hw⟩:=sw_o E hg2 (i:=j1) (j:=a) (by omega) (by omega)
  simp (disch:=omega) only [go_sem,simprocAttr,he,hs.at,k1,k2,k3,k4,k5,k6,k7,k8,k9,k10,k11,y1,y2,y3,y4,hw]
  rw [← hpd]
  exact ⟨rfl,hg2.swp (by omega) (by omega),by rw [Go.Sort.swp_size]; exact hz2,hs.set⟩
 rw [if_neg (by omega)] at hpd
 have m1 : (i1:Int) + 1 = ((i1 + 1 : Nat) : Int):=by omega
 have m2 : (j1:Int) - 1 = ((j1 - 1 : Nat) : Int):=by omega
 have hne : i1 ≠ j1:=fun hh => by
  have u:=(scanUp_spec (fun x => lt x D[a]!) D B _ A rfl).2.2.2
  have v:=(scanDown_spec (fun x => !lt x D[a]!) D i1 B).2.2.2
  rw [← hi1] at u
  rw [← hj1] at v
  have u:=u (by omega)
  have v:=v (by omega) (by omega)
  rw [← hh] at v
  simp at u v
  rw [u] at v; cases v
 simp (disch:=omega) only [go_sem,simprocAttr,he]
 obtain ⟨k1,k2,k3,k4,k5,k6,k7,k8,k9,k10,k11,⟨ky,y1,y2,y3,y4⟩,hw⟩:=sw_o E hg2 (i:=i1) (j:=j1) (by omega) (by omega)
 simp (disch:=omega) only [go_sem,simprocAttr,he,m1,m2,hs.at,k1,k2,k3,k4,k5,k6,k7,k8,k9,k10,k11,y1,y2,y3,y4,hw]
 have hs:=hs.set (o':=.row 1 (swp D i1 j1).toList cap)
 have hg4:=hg2.swp (i:=i1) (j:=j1) (by omega) (by omega)
 have hz4 : (swp D i1 j1).size = d.size:=by rw [Go.Sort.swp_size]; exact hz2
 clear k1 k2 k3 k4 k5 k6 k7 k8 k9 k10 k11 y1 y2 y3 y4 hw
 generalize swp D i1 j1 = D2 at *
 refine blk_join (Q:=fun e h => ∃ (j:Nat) (D3:Array (List AV)),(j,D3) = partLoop lt a (i1 + 1) (j1 - 1) D2∧a ≤ j∧j < bb∧GA G D3∧D3.size = d.size∧sat h (pto b (.row 1 D3.toList cap) :: F) ∧
  (e 0 = .arr b 1 0 d.size cap∧e 1 = .int .i64 a∧e 11 = .int .i64 j)) ?_ ?_
 ·refine run_loopN (fun n e h => ∃ (i j : Nat) (D3:Array (List AV)),n = j + 1 - i∧a < i∧i ≤ j + 1∧j < bb∧partLoop lt a i j D3 = partLoop lt a (i1 + 1) (j1 - 1) D2∧GA G D3∧D3.size = d.size∧sat h (pto b (.row 1 D3.toList cap) :: F) ∧
   (e 0 = .arr b 1 0 d.size cap∧e 1 = .int .i64 a∧e 10 = .int .i64 i∧e 11 = .int .i64 j)) _ ⟨i1 + 1,j1 - 1,_,rfl,by omega,by omega,by omega,rfl,hg4,hz4,hs,?_⟩ ?_
  ·simp only [Env.upd_apply,he,and_self,reduceIte,Nat.reduceEqDiff]
  rintro n e h ⟨i,j,D3,rfl,hai,hij,hjb,hI,hgD,hzD,hs,he⟩
  rw [partLoop_eq] at hI
  simp (disch:=omega) only [go_sem,simprocAttr,he]
  refine blk_join (Q:=fun e h => ∃ i2 : Nat,i2 = scanUp (fun x => lt x D3[a]!) D3 j i∧i ≤ i2∧i2 ≤ j + 1∧sat h (pto b (.row 1 D3.toList cap) :: F)∧(e 0 = .arr b 1 0 d.size cap∧e 1 = .int .i64 a∧e 10 = .int .i64 i2∧e 11 = .int .i64 j)) ?_ ?_
  ·refine run_loopN (fun n e h => ∃ i2 : Nat,n = j + 1 - i2∧scanUp (fun x => lt x D3[a]!) D3 j i2 = scanUp (fun x => lt x D3[a]!) D3 j i∧i ≤ i2∧i2 ≤ j + 1∧sat h (pto b (.row 1 D3.toList cap) :: F)∧(e 0 = .arr b 1 0 d.size cap∧e 1 = .int .i64 a∧e 10 = .int .i64 i2∧e 11 = .int .i64 j)) _ ⟨i,rfl,rfl,Nat.le_refl _,by omega,hs,?_⟩ ?_
   ·simp only [Env.upd_apply,he,and_self,reduceIte,Nat.reduceEqDiff]
   rintro n e h ⟨i2,rfl,hJ,hj1,hj2,hs,he⟩
   simp (disch:=omega) only [go_sem,simprocAttr,he]
   refine cnd_dec (fun hl1 => ?_) (fun hl1 => ?_)
   ·have m2 : (i2:Int) + 1 = ((i2 + 1 : Nat) : Int):=by omega
    have r1:=rd_o E hgD (i:=i2) (by omega)
    have r2:=rd_o E hgD (i:=a) (by omega)
    simp (disch:=omega) only [go_sem,simprocAttr,he,hs.at,r1,r2]
    refine call_use (hc _ _ _ _ (hgD _ (by omega)) (hgD _ (by omega)) hs) ?_
    rintro r h ⟨hr,hs⟩
    subst hr
    simp (disch:=omega) only [go_sem,simprocAttr,he,hl1]
    have hst : scanUp (fun x => lt x D3[a]!) D3 j i2 = if (lt D3[i2]! D3[a]!) = true then scanUp (fun x => lt x D3[a]!) D3 j (i2 + 1) else i2:=by
     rw [scanUp.eq_1 _ _ _ i2]
     simp only [show i2 ≤ j from by omega,decide_true,Bool.true_and]
    cases hq : lt D3[i2]! D3[a]!
    ·simp (disch:=omega) only [go_sem,simprocAttr,he,m2]
     exact ⟨i2,by rw [← hJ,hst,hq]; rfl,by omega,by omega,hs,rfl⟩
    ·simp (disch:=omega) only [go_sem,simprocAttr,he,m2]
     exact ⟨j + 1 - (i2 + 1),by omega,i2 + 1,rfl,by rw [← hJ,hst,hq]; rfl,by omega,by omega,hs,rfl⟩
   ·simp (disch:=omega) only [go_sem,simprocAttr,he,hl1]
    exact ⟨i2,by rw [← hJ,scanUp.eq_1 _ _ _ i2,if_neg (by simp; omega)],by omega,by omega,hs,rfl⟩
  rintro e h ⟨i2,hi2,hi3,hi4,hs,he⟩
  rw [← hi2] at hI
  simp (disch:=omega) only [go_sem,simprocAttr,he]
  refine blk_join (Q:=fun e h => ∃ j2 : Nat,j2 = scanDown (fun x => !lt x D3[a]!) D3 i2 j∧j2 ≤ j∧i2 ≤ j2 + 1∧sat h (pto b (.row 1 D3.toList cap) :: F)∧(e 0 = .arr b 1 0 d.size cap∧e 1 = .int .i64 a∧e 10 = .int .i64 i2∧e 11 = .int .i64 j2)) ?_ ?_
  ·refine run_loopN (fun n e h => ∃ j2 : Nat,n = j2∧scanDown (fun x => !lt x D3[a]!) D3 i2 j2 = scanDown (fun x => !lt x D3[a]!) D3 i2 j∧j2 ≤ j∧i2 ≤ j2 + 1∧sat h (pto b (.row 1 D3.toList cap) :: F)∧(e 0 = .arr b 1 0 d.size cap∧e 1 = .int .i64 a∧e 10 = .int .i64 i2∧e 11 = .int .i64 j2)) _ ⟨j,rfl,rfl,Nat.le_refl _,by omega,hs,?_⟩ ?_
   ·simp only [Env.upd_apply,he,and_self,reduceIte,Nat.reduceEqDiff]
   rintro j2 e h ⟨_,rfl,hJ,hj1,hj2,hs,he⟩
   simp (disch:=omega) only [go_sem,simprocAttr,he]
   refine cnd_dec (fun hl1 => ?_) (fun hl1 => ?_)
   ·obtain ⟨j2,rfl⟩ : ∃ q,j2 = q + 1:=⟨j2 - 1,by omega⟩
    have m2 : ((j2 + 1 : Nat) : Int) - 1 = (j2:Int):=by omega
    have r1:=rd_o E hgD (i:=j2 + 1) (by omega)
    have r2:=rd_o E hgD (i:=a) (by omega)
    simp (disch:=omega) only [go_sem,simprocAttr,he,hs.at,r1,r2]
    refine call_use (hc _ _ _ _ (hgD _ (by omega)) (hgD _ (by omega)) hs) ?_
    rintro r h ⟨hr,hs⟩
    subst hr
    simp (disch:=omega) only [go_sem,simprocAttr,he,hl1]
    have hst : scanDown (fun x => !lt x D3[a]!) D3 i2 (j2 + 1) = if (!lt D3[j2 + 1]! D3[a]!) = true then scanDown (fun x => !lt x D3[a]!) D3 i2 j2 else j2 + 1:=by
     rw [scanDown]
     simp only [show i2 ≤ j2 + 1 from by omega,decide_true,Bool.true_and]
    cases hq : lt D3[j2 + 1]! D3[a]!
    ·simp (disch:=omega) only [go_sem,simprocAttr,he,m2]
     exact ⟨j2,by omega,j2,rfl,by rw [← hJ,hst,hq]; rfl,by omega,by omega,hs,rfl⟩
    ·simp (disch:=omega) only [go_sem,simprocAttr,he,m2]
     exact ⟨j2 + 1,by rw [← hJ,hst,hq]; rfl,by omega,by omega,hs,rfl⟩
   ·simp (disch:=omega) only [go_sem,simprocAttr,he,hl1]
    refine ⟨j2,?_,by omega,by omega,hs,rfl⟩
    rw [← hJ]
    cases j2 with
    | zero => rw [scanDown]
    | succ j2 => rw [scanDown,if_neg (by simp; omega)]
  rintro e h ⟨j2,hj2,hj3,hj4,hs,he⟩
  rw [← hj2] at hI
  simp (disch:=omega) only [go_sem,simprocAttr,he]
  refine cnd_dec (fun hgt => ?_) (fun hle => ?_)
  ·rw [if_pos (by omega)] at hI
   simp (disch:=omega) only [go_sem,simprocAttr,he]
   exact ⟨j2,D3,hI,by omega,by omega,hgD,hzD,hs,rfl⟩
  ·rw [if_neg (by omega)] at hI
   have m1 : (i2:Int) + 1 = ((i2 + 1 : Nat) : Int):=by omega
   have m2 : (j2:Int) - 1 = ((j2 - 1 : Nat) : Int):=by omega
   have hne : i2 ≠ j2:=fun hh => by
    have u:=(scanUp_spec (fun x => lt x D3[a]!) D3 j _ i rfl).2.2.2
    have v:=(scanDown_spec (fun x => !lt x D3[a]!) D3 i2 j).2.2.2
    rw [← hi2] at u
    rw [← hj2] at v
    have u:=u (by omega)
    have v:=v (by omega) (by omega)
    rw [← hh] at v
    simp at u v
    rw [u] at v; cases v
   simp (disch:=omega) only [go_sem,simprocAttr,he]
   obtain ⟨k1,k2,k3,k4,k5,k6,k7,k8,k9,k10,k11,⟨ky,y1,y2,y3,y4⟩,hw⟩:=sw_o E hgD (i:=i2) (j:=j2) (by omega) (by omega)
   simp (disch:=omega) only [go_sem,simprocAttr,he,m1,m2,hs.at,k1,k2,k3,k4,k5,k6,k7,k8,k9,k10,k11,y1,y2,y3,y4,hw]
   exact ⟨j2 - 1 + 1 - (i2 + 1),by omega,i2 + 1,j2 - 1,_,rfl,by omega,by omega,by omega,hI,hgD.swp (by omega) (by omega),by rw [Go.Sort.swp_size]; exact hzD,hs.set,rfl,rfl⟩
 ·rintro e h ⟨j,D3,hI,haj,hjb,hgD,hzD,hs,he⟩
  rw [← hI] at hpd
  simp (disch:=omega) only [go_sem,simprocAttr,he]
  obtain ⟨k1,k2,k3,k4,k5,k6,k7,k8,k9,k10,k11,⟨ky,y1,y2,y3,y4⟩,hw⟩:=sw_o E hgD (i:=j) (j:=a) (by omega) (by omega)
  simp (disch:=omega) only [go_sem,simprocAttr,he,hs.at,k1,k2,k3,k4,k5,k6,k7,k8,k9,k10,k11,y1,y2,y3,y4,hw]
  rw [← hpd]
  exact ⟨rfl,hgD.swp (by omega) (by omega),by rw [Go.Sort.swp_size]; exact hzD,hs.set⟩
end
end Go.Proofs.YtmhbnkjajkcmkaaGreat
/- slices: pdqsort. -/
set_option maxRecDepth 10000
namespace Go.Proofs.YtmhbnkjajkcmkaaGreat
open Go.Hz Go.Sort
section
variable {h:Hp} {F:List Asr} {G:List AV → Prop} {lt:List AV → List AV → Bool}
theorem pdq_L {fc:Nat} {caps:List AV} (hf : okFn Tryz.prog fc = true) (hc:CmpT Tryz.prog true G lt fc caps) (E:GoodE 3 true G) (hO:SWO lt) : ∀ (m:Nat) (F:List Asr) (h:Hp) (d:Array (List AV)) (a bb lim b cap : Nat),bb - a ≤ m → sat h (pto b (.row 3 d.toList cap) :: F) → GA G d → a ≤ bb → bb ≤ d.size → d.size ≤ 100000000 → Below lt a bb d → lim ≤ 64 →
  Triple Tryz.prog 203 [.arr b 3 0 d.size cap,.int .i64 a,.int .i64 bb,.int .i64 lim,.fn fc caps] h (fun r h => ∃ R : Array (List AV),PermIn a bb d R∧SortedIn lt a bb R∧GA G R∧R.size = d.size∧sat h (pto b (.row 3 R.toList cap) :: F)):=by
 intro m
 induction m using Nat.strongRecOn with
 | _ m ih =>
 intro F h d a0 b0 lim0 b cap hm hs hg ha hb hsz hB hlim
 refine t203 (Nat.le_of_ble_eq_true rfl) ?_
 simp (disch:=omega) only [F203,go_sem,simprocAttr]
 refine run_loopN (fun n e h => ∃ (a bb lim : Nat) (wb wp : Bool) (D:Array (List AV)),n = bb - a∧bb - a ≤ b0 - a0∧a ≤ bb∧bb ≤ d.size∧lim ≤ 64∧Below lt a bb D∧GA G D∧D.size = d.size ∧
  (∀ R,PermIn a bb D R → SortedIn lt a bb R → PermIn a0 b0 d R∧SortedIn lt a0 b0 R)∧sat h (pto b (.row 3 D.toList cap) :: F) ∧
  (e 0 = .arr b 3 0 d.size cap∧e 1 = .int .i64 a∧e 2 = .int .i64 bb∧e 3 = .int .i64 lim∧e 4 = .fn fc caps∧e 10 = .bool wb∧e 11 = .bool wp)) _ ⟨a0,b0,lim0,true,true,d,rfl,Nat.le_refl _,ha,hb,hlim,hB,hg,rfl,fun R h1 h2 => ⟨h1,h2⟩,hs,rfl,rfl,rfl,rfl,rfl,rfl,rfl⟩ ?_
 rintro n e h ⟨a,bb,lim,wb,wp,D,rfl,hl,hab,hbs,hlim,hB,hgD,hzD,hC,hs,he⟩
 have n0 : (bb:Int) - a = ((bb - a : Nat) : Int):=by omega
 simp (disch:=omega) only [go_sem,simprocAttr,he,n0]
 refine cnd_dec (fun h12 => ?_) (fun h12 => ?_)
 ·simp (disch:=omega) only [go_sem,simprocAttr,he]
  refine call_use (by rw [← hzD]; exact ins_L hf hc E hs hgD hab (by omega) (by omega)) ?_
  rintro r h ⟨hg1,hz1,hs⟩
  obtain ⟨p1,p2⟩:=insertionSort_holds (lt:=lt) hO D a bb hab (by omega)
  obtain ⟨c1,c2⟩:=hC _ p1 p2
  simp (disch:=omega) only [go_sem,simprocAttr]
  exact ⟨_,c1,c2,hg1,by omega,hs⟩
 have hle : ((lim:Int) == 0) = decide (lim = 0):=by
  by_cases hq : lim = 0
  ·subst hq; rfl
  ·simp [hq]
 simp (disch:=omega) only [go_sem,simprocAttr,he,hle]
 refine cnd_bool (fun h0 => ?_) (fun h0 => ?_)
 ·simp (disch:=omega) only [go_sem,simprocAttr,he]
  refine call_use (by rw [← hzD]; exact heap_L hf hc E hs hgD hab (by omega) (by omega)) ?_
  rintro r h ⟨hg1,hz1,hs⟩
  obtain ⟨p1,p2⟩:=heapSort_holds (lt:=lt) hO D a bb hab (by omega)
  obtain ⟨c1,c2⟩:=hC _ p1 p2
  simp (disch:=omega) only [go_sem,simprocAttr]
  exact ⟨_,c1,c2,hg1,by omega,hs⟩
 have h0 : lim ≠ 0:=by simpa using h0
 simp (disch:=omega) only [go_sem,simprocAttr,he]
 refine cnd_join (Q:=fun e h => ∃ (D1:Array (List AV)) (lim1:Nat),PermIn a bb D D1∧GA G D1∧D1.size = d.size∧lim1 ≤ 64∧sat h (pto b (.row 3 D1.toList cap) :: F) ∧
  (e 0 = .arr b 3 0 d.size cap∧e 1 = .int .i64 a∧e 2 = .int .i64 bb∧e 3 = .int .i64 lim1∧e 4 = .fn fc caps∧e 10 = .bool wb∧e 11 = .bool wp∧e 12 = .int .i64 (bb - a : Nat))) ?_ ?_
 ·cases wb
  ·have ml : (lim:Int) - 1 = ((lim - 1 : Nat) : Int):=by omega
   simp (disch:=omega) only [go_sem,simprocAttr,he]
   refine call_use (by rw [← hzD]; exact brk_L E hs hgD (by omega) (by omega) (by omega)) ?_
   rintro r h ⟨D1,p1,hg1,hz1,hs⟩
   simp (disch:=omega) only [go_sem,simprocAttr,he,ml]
   exact ⟨D1,lim - 1,p1,hg1,by omega,by omega,hs,rfl⟩
  ·simp (disch:=omega) only [go_sem,simprocAttr,he]
   exact ⟨D,lim,permIn_refl D a bb,hgD,hzD,hlim,hs,rfl⟩
 rintro e h ⟨D1,lim1,hp1,hg1,hz1,hlim1,hs,he⟩
 simp (disch:=omega) only [go_sem,simprocAttr,he]
 refine call_use (by rw [← hz1]; exact piv_L hf hc E hs hg1 (by omega) (by omega) (by omega)) ?_
 rintro r h ⟨u,t,hr,hu1,hu2,ht,hs⟩
 subst hr
 simp (disch:=omega) only [go_sem,simprocAttr,he]
 have hte : ((t:Int) == 2) = decide (t = 2):=by
  by_cases hq : t = 2
  ·subst hq; rfl
  ·simp [hq]; omega
 simp (disch:=omega) only [go_sem,simprocAttr,hte]
 refine cnd_join (Q:=fun e h => ∃ (D2:Array (List AV)) (u t : Nat),PermIn a bb D D2∧GA G D2∧D2.size = d.size∧a ≤ u∧u < bb∧sat h (pto b (.row 3 D2.toList cap) :: F) ∧
  (e 0 = .arr b 3 0 d.size cap∧e 1 = .int .i64 a∧e 2 = .int .i64 bb∧e 3 = .int .i64 lim1∧e 4 = .fn fc caps∧e 10 = .bool wb∧e 11 = .bool wp∧e 12 = .int .i64 (bb - a : Nat)∧e 13 = .int .i64 u∧e 14 = .int .i64 t)) ?_ ?_
 ·refine cnd_bool (fun ht2 => ?_) (fun ht2 => ?_)
  ·have q1 : (bb:Int) - 1 = ((bb - 1 : Nat) : Int):=by omega
   have q2 : (u:Int) - a = ((u - a : Nat) : Int):=by omega
   have q3 : ((bb - 1 : Nat) : Int) - ((u - a : Nat) : Int) = ((bb - 1 - (u - a) : Nat) : Int):=by omega
   simp (disch:=omega) only [go_sem,simprocAttr,he]
   refine call_use (by rw [← hz1]; exact rev_L E hs hg1 (by omega) (by omega) (by omega)) ?_
   rintro r h ⟨p2,hg2,hz2,hs⟩
   simp (disch:=omega) only [go_sem,simprocAttr,he,q1,q2,q3]
   exact ⟨_,bb - 1 - (u - a),1,permIn_trans _ _ _ _ _ hp1 p2,hg2,by omega,by omega,by omega,hs,rfl,rfl⟩
  ·simp (disch:=omega) only [go_sem,simprocAttr,he]
   exact ⟨D1,u,t,hp1,hg1,hz1,by omega,by omega,hs,rfl,rfl⟩
 rintro e h ⟨D2,u,t,hp2,hg2,hz2,hu1,hu2,hs,he⟩
 simp (disch:=omega) only [go_sem,simprocAttr,he]
 refine cnd_join (Q:=fun e h => ∃ (q:Bool) (v:AV) (w:Bool),(if q = true then v else AV.bool false) = .bool w∧sat h (pto b (.row 3 D2.toList cap) :: F)∧(e 0 = .arr b 3 0 d.size cap∧e 1 = .int .i64 a∧e 2 = .int .i64 bb∧e 3 = .int .i64 lim1∧e 4 = .fn fc caps∧e 10 = .bool wb∧e 11 = .bool wp∧e 12 = .int .i64 (bb - a : Nat)∧e 13 = .int .i64 u∧e 14 = .int .i64 t∧e 69 = .bool q∧e 70 = v)) ?_ ?_
 ·cases wb
  ·simp (disch:=omega) only [go_sem,simprocAttr,he]
   exact ⟨_,_,false,rfl,hs,rfl,rfl⟩
  ·simp (disch:=omega) only [go_sem,simprocAttr,he]
   exact ⟨_,_,wp,rfl,hs,rfl,rfl⟩
 rintro e h ⟨q,v,w,hq,hs,he⟩
 simp (disch:=omega) only [go_sem,simprocAttr,he,hq]
 refine cnd_join (Q:=fun e h => ∃ (q:Bool) (v:AV) (w:Bool),(if q = true then v else AV.bool false) = .bool w∧sat h (pto b (.row 3 D2.toList cap) :: F)∧(e 0 = .arr b 3 0 d.size cap∧e 1 = .int .i64 a∧e 2 = .int .i64 bb∧e 3 = .int .i64 lim1∧e 4 = .fn fc caps∧e 10 = .bool wb∧e 11 = .bool wp∧e 12 = .int .i64 (bb - a : Nat)∧e 13 = .int .i64 u∧e 72 = .bool q∧e 74 = v)) ?_ ?_
 ·cases w
  ·simp (disch:=omega) only [go_sem,simprocAttr,he]
   exact ⟨_,_,false,rfl,hs,rfl,rfl⟩
  ·simp (disch:=omega) only [go_sem,simprocAttr,he]
   exact ⟨_,_,_,rfl,hs,rfl,rfl⟩
 rintro e h ⟨q2,v2,w2,hq2,hs,he⟩
 simp (disch:=omega) only [go_sem,simprocAttr,he,hq2]
 have hB2 : Below lt a bb D2:=Below.permA permIn_all (by omega) hB hp2
 refine cnd_join (Q:=fun e h => ∃ D3 : Array (List AV),PermIn a bb D D3∧GA G D3∧D3.size = d.size∧sat h (pto b (.row 3 D3.toList cap) :: F)∧(e 0 = .arr b 3 0 d.size cap∧e 1 = .int .i64 a∧e 2 = .int .i64 bb∧e 3 = .int .i64 lim1∧e 4 = .fn fc caps∧e 10 = .bool wb∧e 11 = .bool wp∧e 12 = .int .i64 (bb - a : Nat)∧e 13 = .int .i64 u)) ?_ ?_
 ·cases w2
  ·simp (disch:=omega) only [go_sem,simprocAttr,he]
   exact ⟨D2,hp2,hg2,hz2,hs⟩
  ·simp (disch:=omega) only [go_sem,simprocAttr,he]
   refine call_use (by rw [← hz2]; exact par_L hf hc E hs hg2 (by omega) (by omega) (by omega)) ?_
   rintro r h ⟨hr,hg3,hz3,hs⟩
   subst hr
   obtain ⟨p1,p2⟩:=partialInsertionSort_holds (lt:=lt) hO D2 a bb (by omega) (by omega) hB2
   have p3:=permIn_trans _ _ _ _ _ hp2 p1
   simp (disch:=omega) only [go_sem,simprocAttr,he]
   refine cnd_bool (fun hd => ?_) (fun hd => ?_)
   ·obtain ⟨c1,c2⟩:=hC _ p3 (p2 hd)
    simp (disch:=omega) only [go_sem,simprocAttr,he]
    exact ⟨_,c1,c2,hg3,by omega,hs⟩
   ·simp (disch:=omega) only [go_sem,simprocAttr,he]
    exact ⟨_,p3,hg3,by omega,hs⟩
 rintro e h ⟨D3,hp3,hg3,hz3,hs,he⟩
 simp (disch:=omega) only [go_sem,simprocAttr,he]
 refine cnd_join (Q:=fun e h => ∃ (q:Bool) (v:AV) (w:Bool),(if q = true then v else AV.bool false) = .bool w∧w = (decide (0 < a) && !lt D3[a - 1]! D3[u]!)∧sat h (pto b (.row 3 D3.toList cap) :: F)∧(e 0 = .arr b 3 0 d.size cap∧e 1 = .int .i64 a∧e 2 = .int .i64 bb∧e 3 = .int .i64 lim1∧e 4 = .fn fc caps∧e 10 = .bool wb∧e 11 = .bool wp∧e 12 = .int .i64 (bb - a : Nat)∧e 13 = .int .i64 u∧e 83 = .bool q∧e 96 = v)) ?_ ?_
 ·refine cnd_dec (fun ha0 => ?_) (fun ha0 => ?_)
  ·have m1 : (a:Int) - 1 = ((a - 1 : Nat) : Int):=by omega
   have r1:=rd_c E hg3 (i:=a - 1) (by omega)
   have r2:=rd_c E hg3 (i:=u) (by omega)
   simp (disch:=omega) only [go_sem,simprocAttr,he,hs.at,r1,r2,m1]
   refine callv_use hf (hc _ _ _ _ (hg3 _ (by omega)) (hg3 _ (by omega)) hs) ?_
   rintro r h ⟨c,hr,hcl,hs⟩
   subst hr
   simp (disch:=omega) only [go_sem,simprocAttr,he,ha0,hcl]
   exact ⟨_,_,_,rfl,by rw [decide_eq_true (by omega),Bool.true_and],hs,rfl,rfl⟩
  ·simp (disch:=omega) only [go_sem,simprocAttr,he,ha0]
   exact ⟨_,_,_,rfl,by rw [decide_eq_false (by omega),Bool.false_and],hs,rfl,rfl⟩
 rintro e h ⟨q3,v3,w3,hq3,hw3,hs,he⟩
 simp (disch:=omega) only [go_sem,simprocAttr,he,hq3]
 have hB3 : Below lt a bb D3:=Below.permA permIn_all (by omega) hB hp3
 have hC3 : ∀ R,PermIn a bb D3 R → SortedIn lt a bb R → PermIn a0 b0 d R∧SortedIn lt a0 b0 R:=fun R h1 h2 => hC R (permIn_trans _ _ _ _ _ hp3 h1) h2
 refine cnd_bool (fun hw => ?_) (fun hw => ?_)
 ·subst hw
  simp only [Bool.true_eq,Bool.and_eq_true,decide_eq_true_eq,Bool.not_eq_true'] at hw3
  simp (disch:=omega) only [go_sem,simprocAttr,he]
  refine call_use (by rw [← hz3]; exact peq_L hf hc E hs hg3 hu1 hu2 (by omega) (by omega)) ?_
  rintro r h ⟨hr,hg4,hz4,hs⟩
  obtain ⟨mid,d4,hx⟩ : ∃ mid d4,partitionEqual lt D3 a bb u = (mid,d4):=⟨_,_,rfl⟩
  rw [hx] at hr hg4 hz4 hs
  simp only at hr hg4 hz4 hs
  subst hr
  obtain ⟨e1,e2,e3,e4,e5⟩:=round_eq hO (partitionEqual_holds lt) hw3.1 hu1 hu2 (by omega) hB3 hw3.2 hx
  simp (disch:=omega) only [go_sem,simprocAttr,he]
  exact ⟨bb - mid,by omega,mid,bb,lim1,wb,wp,d4,rfl,by omega,by omega,by omega,hlim1,e4,hg4,by omega,fun R h1 h2 => hC3 R (e5 R h1 h2).1 (e5 R h1 h2).2,hs,rfl,rfl,rfl,rfl,rfl⟩
 ·simp (disch:=omega) only [go_sem,simprocAttr,he]
  refine call_use (by rw [← hz3]; exact prt_L hf hc E hs hg3 hu1 hu2 (by omega) (by omega)) ?_
  rintro r h ⟨hr,hg4,hz4,hs⟩
  obtain ⟨mid,ap,d4,hx⟩ : ∃ mid ap d4,partition lt D3 a bb u = (mid,ap,d4):=⟨_,_,_,rfl⟩
  rw [hx] at hr hg4 hz4 hs
  simp only at hr hg4 hz4 hs
  subst hr
  obtain ⟨e1,e2,e3,eL,eR,c1,c2⟩:=round_part hO (partition_holds lt) hu1 hu2 (by omega) hB3 hx
  have q1 : (mid:Int) - a = ((mid - a : Nat) : Int):=by omega
  have q2 : (bb:Int) - mid = ((bb - mid : Nat) : Int):=by omega
  have q3 : (mid:Int) + 1 = ((mid + 1 : Nat) : Int):=by omega
  have q4 : ((bb - a : Nat) : Int).tdiv 8 = (((bb - a) / 8 : Nat) : Int):=by rw [Int.tdiv_eq_ediv_of_nonneg (by omega)]; omega
  simp (disch:=omega) only [go_sem,simprocAttr,he,q1,q2,q4]
  refine cnd_dec (fun hlt => ?_) (fun hge => ?_)
  ·simp (disch:=omega) only [go_sem,simprocAttr,he,q3]
   refine call_use (by rw [← hz3,← e3]; exact ih (mid - a) (by omega) F _ d4 a mid lim1 b cap (Nat.le_refl _) hs hg4 e1 (by omega) (by omega) eL hlim1) ?_
   rintro r h ⟨R1,p1,s1,hg5,hz5,hs⟩
   obtain ⟨f1,f2⟩:=c1 R1 p1 s1
   simp (disch:=omega) only [go_sem,simprocAttr,he,q3]
   exact ⟨bb - (mid + 1),by omega,mid + 1,bb,lim1,_,ap,R1,rfl,by omega,by omega,by omega,hlim1,f1,hg5,by omega,fun R h1 h2 => hC3 R (f2 R h1 h2).1 (f2 R h1 h2).2,hs,rfl,rfl,rfl,rfl,rfl⟩
  ·simp (disch:=omega) only [go_sem,simprocAttr,he,q3]
   refine call_use (by rw [← hz3,← e3]; exact ih (bb - (mid + 1)) (by omega) F _ d4 (mid + 1) bb lim1 b cap (Nat.le_refl _) hs hg4 (by omega) (by omega) (by omega) eR hlim1) ?_
   rintro r h ⟨R1,p1,s1,hg5,hz5,hs⟩
   obtain ⟨f1,f2⟩:=c2 R1 p1 s1
   simp (disch:=omega) only [go_sem,simprocAttr,he,q3]
   exact ⟨mid - a,by omega,a,mid,lim1,_,ap,R1,rfl,by omega,by omega,by omega,hlim1,f1,hg5,by omega,fun R h1 h2 => hC3 R (f2 R h1 h2).1 (f2 R h1 h2).2,hs,rfl,rfl,rfl,rfl,rfl⟩
theorem pdq_S (hc:LessT Tryz.prog false G lt 256) (E:GoodE 1 false G) (hO:SWO lt) : ∀ (m:Nat) (F:List Asr) (h:Hp) (d:Array (List AV)) (a bb lim b cap : Nat),bb - a ≤ m → sat h (pto b (.row 1 d.toList cap) :: F) → GA G d → a ≤ bb → bb ≤ d.size → d.size ≤ 100000000 → Below lt a bb d → lim ≤ 64 →
  Triple Tryz.prog 238 [.arr b 1 0 d.size cap,.int .i64 a,.int .i64 bb,.int .i64 lim] h (fun r h => ∃ R : Array (List AV),PermIn a bb d R∧SortedIn lt a bb R∧GA G R∧R.size = d.size∧sat h (pto b (.row 1 R.toList cap) :: F)):=by
 intro m
 induction m using Nat.strongRecOn with
 | _ m ih =>
 intro F h d a0 b0 lim0 b cap hm hs hg ha hb hsz hB hlim
 refine t238 (Nat.le_of_ble_eq_true rfl) ?_
 simp (disch:=omega) only [F238,go_sem,simprocAttr]
 refine run_loopN (fun n e h => ∃ (a bb lim : Nat) (wb wp : Bool) (D:Array (List AV)),n = bb - a∧bb - a ≤ b0 - a0∧a ≤ bb∧bb ≤ d.size∧lim ≤ 64∧Below lt a bb D∧GA G D∧D.size = d.size ∧
  (∀ R,PermIn a bb D R → SortedIn lt a bb R → PermIn a0 b0 d R∧SortedIn lt a0 b0 R)∧sat h (pto b (.row 1 D.toList cap) :: F) ∧
  (e 0 = .arr b 1 0 d.size cap∧e 1 = .int .i64 a∧e 2 = .int .i64 bb∧e 3 = .int .i64 lim∧e 8 = .bool wb∧e 9 = .bool wp)) _ ⟨a0,b0,lim0,true,true,d,rfl,Nat.le_refl _,ha,hb,hlim,hB,hg,rfl,fun R h1 h2 => ⟨h1,h2⟩,hs,rfl,rfl,rfl,rfl,rfl,rfl⟩ ?_
 rintro n e h ⟨a,bb,lim,wb,wp,D,rfl,hl,hab,hbs,hlim,hB,hgD,hzD,hC,hs,he⟩
 have n0 : (bb:Int) - a = ((bb - a : Nat) : Int):=by omega
 simp (disch:=omega) only [go_sem,simprocAttr,he,n0]
 refine cnd_dec (fun h12 => ?_) (fun h12 => ?_)
 ·simp (disch:=omega) only [go_sem,simprocAttr,he]
  refine call_use (by rw [← hzD]; exact ins_S hc E hs hgD hab (by omega) (by omega)) ?_
  rintro r h ⟨hg1,hz1,hs⟩
  obtain ⟨p1,p2⟩:=insertionSort_holds (lt:=lt) hO D a bb hab (by omega)
  obtain ⟨c1,c2⟩:=hC _ p1 p2
  simp (disch:=omega) only [go_sem,simprocAttr]
  exact ⟨_,c1,c2,hg1,by omega,hs⟩
 have hle : ((lim:Int) == 0) = decide (lim = 0):=by
  by_cases hq : lim = 0
  ·subst hq; rfl
  ·simp [hq]
 simp (disch:=omega) only [go_sem,simprocAttr,he,hle]
 refine cnd_bool (fun h0 => ?_) (fun h0 => ?_)
 ·simp (disch:=omega) only [go_sem,simprocAttr,he]
  refine call_use (by rw [← hzD]; exact heap_S hc E hs hgD hab (by omega) (by omega)) ?_
  rintro r h ⟨hg1,hz1,hs⟩
  obtain ⟨p1,p2⟩:=heapSort_holds (lt:=lt) hO D a bb hab (by omega)
  obtain ⟨c1,c2⟩:=hC _ p1 p2
  simp (disch:=omega) only [go_sem,simprocAttr]
  exact ⟨_,c1,c2,hg1,by omega,hs⟩
 have h0 : lim ≠ 0:=by simpa using h0
 simp (disch:=omega) only [go_sem,simprocAttr,he]
 refine cnd_join (Q:=fun e h => ∃ (D1:Array (List AV)) (lim1:Nat),PermIn a bb D D1∧GA G D1∧D1.size = d.size∧lim1 ≤ 64∧sat h (pto b (.row 1 D1.toList cap) :: F) ∧
  (e 0 = .arr b 1 0 d.size cap∧e 1 = .int .i64 a∧e 2 = .int .i64 bb∧e 3 = .int .i64 lim1∧e 8 = .bool wb∧e 9 = .bool wp∧e 10 = .int .i64 (bb - a : Nat))) ?_ ?_
 ·cases wb
  ·have ml : (lim:Int) - 1 = ((lim - 1 : Nat) : Int):=by omega
   simp (disch:=omega) only [go_sem,simprocAttr,he]
   refine call_use (by rw [← hzD]; exact brk_S (cf:=.nilp) E hs hgD (by omega) (by omega) (by omega)) ?_
   rintro r h ⟨D1,p1,hg1,hz1,hs⟩
   simp (disch:=omega) only [go_sem,simprocAttr,he,ml]
   exact ⟨D1,lim - 1,p1,hg1,by omega,by omega,hs,rfl⟩
  ·simp (disch:=omega) only [go_sem,simprocAttr,he]
   exact ⟨D,lim,permIn_refl D a bb,hgD,hzD,hlim,hs,rfl⟩
 rintro e h ⟨D1,lim1,hp1,hg1,hz1,hlim1,hs,he⟩
 simp (disch:=omega) only [go_sem,simprocAttr,he]
 refine call_use (by rw [← hz1]; exact piv_S hc E hs hg1 (by omega) (by omega) (by omega)) ?_
 rintro r h ⟨u,t,hr,hu1,hu2,ht,hs⟩
 subst hr
 simp (disch:=omega) only [go_sem,simprocAttr,he]
 have hte : ((t:Int) == 2) = decide (t = 2):=by
  by_cases hq : t = 2
  ·subst hq; rfl
  ·simp [hq]; omega
 simp (disch:=omega) only [go_sem,simprocAttr,hte]
 refine cnd_join (Q:=fun e h => ∃ (D2:Array (List AV)) (u t : Nat),PermIn a bb D D2∧GA G D2∧D2.size = d.size∧a ≤ u∧u < bb∧sat h (pto b (.row 1 D2.toList cap) :: F) ∧
  (e 0 = .arr b 1 0 d.size cap∧e 1 = .int .i64 a∧e 2 = .int .i64 bb∧e 3 = .int .i64 lim1∧e 8 = .bool wb∧e 9 = .bool wp∧e 10 = .int .i64 (bb - a : Nat)∧e 11 = .int .i64 u∧e 12 = .int .i64 t)) ?_ ?_
 ·refine cnd_bool (fun ht2 => ?_) (fun ht2 => ?_)
  ·have q1 : (bb:Int) - 1 = ((bb - 1 : Nat) : Int):=by omega
   have q2 : (u:Int) - a = ((u - a : Nat) : Int):=by omega
   have q3 : ((bb - 1 : Nat) : Int) - ((u - a : Nat) : Int) = ((bb - 1 - (u - a) : Nat) : Int):=by omega
   simp (disch:=omega) only [go_sem,simprocAttr,he]
   refine call_use (by rw [← hz1]; exact rev_S (cf:=.nilp) E hs hg1 (by omega) (by omega) (by omega)) ?_
   rintro r h ⟨p2,hg2,hz2,hs⟩
   simp (disch:=omega) only [go_sem,simprocAttr,he,q1,q2,q3]
   exact ⟨_,bb - 1 - (u - a),1,permIn_trans _ _ _ _ _ hp1 p2,hg2,by omega,by omega,by omega,hs,rfl,rfl⟩
  ·simp (disch:=omega) only [go_sem,simprocAttr,he]
   exact ⟨D1,u,t,hp1,hg1,hz1,by omega,by omega,hs,rfl,rfl⟩
 rintro e h ⟨D2,u,t,hp2,hg2,hz2,hu1,hu2,hs,he⟩
 simp (disch:=omega) only [go_sem,simprocAttr,he]
 refine cnd_join (Q:=fun e h => ∃ (q:Bool) (v:AV) (w:Bool),(if q = true then v else AV.bool false) = .bool w∧sat h (pto b (.row 1 D2.toList cap) :: F)∧(e 0 = .arr b 1 0 d.size cap∧e 1 = .int .i64 a∧e 2 = .int .i64 bb∧e 3 = .int .i64 lim1∧e 8 = .bool wb∧e 9 = .bool wp∧e 10 = .int .i64 (bb - a : Nat)∧e 11 = .int .i64 u∧e 12 = .int .i64 t∧e 62 = .bool q∧e 63 = v)) ?_ ?_
 ·cases wb
  ·simp (disch:=omega) only [go_sem,simprocAttr,he]
   exact ⟨_,_,false,rfl,hs,rfl,rfl⟩
  ·simp (disch:=omega) only [go_sem,simprocAttr,he]
   exact ⟨_,_,wp,rfl,hs,rfl,rfl⟩
 rintro e h ⟨q,v,w,hq,hs,he⟩
 simp (disch:=omega) only [go_sem,simprocAttr,he,hq]
 refine cnd_join (Q:=fun e h => ∃ (q:Bool) (v:AV) (w:Bool),(if q = true then v else AV.bool false) = .bool w∧sat h (pto b (.row 1 D2.toList cap) :: F)∧(e 0 = .arr b 1 0 d.size cap∧e 1 = .int .i64 a∧e 2 = .int .i64 bb∧e 3 = .int .i64 lim1∧e 8 = .bool wb∧e 9 = .bool wp∧e 10 = .int .i64 (bb - a : Nat)∧e 11 = .int .i64 u∧e 65 = .bool q∧e 67 = v)) ?_ ?_
 ·cases w
  ·simp (disch:=omega) only [go_sem,simprocAttr,he]
   exact ⟨_,_,false,rfl,hs,rfl,rfl⟩
  ·simp (disch:=omega) only [go_sem,simprocAttr,he]
   exact ⟨_,_,_,rfl,hs,rfl,rfl⟩
 rintro e h ⟨q2,v2,w2,hq2,hs,he⟩
 simp (disch:=omega) only [go_sem,simprocAttr,he,hq2]
 have hB2 : Below lt a bb D2:=Below.permA permIn_all (by omega) hB hp2
 refine cnd_join (Q:=fun e h => ∃ D3 : Array (List AV),PermIn a bb D D3∧GA G D3∧D3.size = d.size∧sat h (pto b (.row 1 D3.toList cap) :: F)∧(e 0 = .arr b 1 0 d.size cap∧e 1 = .int .i64 a∧e 2 = .int .i64 bb∧e 3 = .int .i64 lim1∧e 8 = .bool wb∧e 9 = .bool wp∧e 10 = .int .i64 (bb - a : Nat)∧e 11 = .int .i64 u)) ?_ ?_
 ·cases w2
  ·simp (disch:=omega) only [go_sem,simprocAttr,he]
   exact ⟨D2,hp2,hg2,hz2,hs⟩
  ·simp (disch:=omega) only [go_sem,simprocAttr,he]
   refine call_use (by rw [← hz2]; exact par_S hc E hs hg2 (by omega) (by omega) (by omega)) ?_
   rintro r h ⟨hr,hg3,hz3,hs⟩
   subst hr
   obtain ⟨p1,p2⟩:=partialInsertionSort_holds (lt:=lt) hO D2 a bb (by omega) (by omega) hB2
   have p3:=permIn_trans _ _ _ _ _ hp2 p1
   simp (disch:=omega) only [go_sem,simprocAttr,he]
   refine cnd_bool (fun hd => ?_) (fun hd => ?_)
   ·obtain ⟨c1,c2⟩:=hC _ p3 (p2 hd)
    simp (disch:=omega) only [go_sem,simprocAttr,he]
    exact ⟨_,c1,c2,hg3,by omega,hs⟩
   ·simp (disch:=omega) only [go_sem,simprocAttr,he]
    exact ⟨_,p3,hg3,by omega,hs⟩
 rintro e h ⟨D3,hp3,hg3,hz3,hs,he⟩
 simp (disch:=omega) only [go_sem,simprocAttr,he]
 refine cnd_join (Q:=fun e h => ∃ (q:Bool) (v:AV) (w:Bool),(if q = true then v else AV.bool false) = .bool w∧w = (decide (0 < a) && !lt D3[a - 1]! D3[u]!)∧sat h (pto b (.row 1 D3.toList cap) :: F)∧(e 0 = .arr b 1 0 d.size cap∧e 1 = .int .i64 a∧e 2 = .int .i64 bb∧e 3 = .int .i64 lim1∧e 8 = .bool wb∧e 9 = .bool wp∧e 10 = .int .i64 (bb - a : Nat)∧e 11 = .int .i64 u∧e 75 = .bool q∧e 86 = v)) ?_ ?_
 ·refine cnd_dec (fun ha0 => ?_) (fun ha0 => ?_)
  ·have m1 : (a:Int) - 1 = ((a - 1 : Nat) : Int):=by omega
   have r1:=rd_o E hg3 (i:=a - 1) (by omega)
   have r2:=rd_o E hg3 (i:=u) (by omega)
   simp (disch:=omega) only [go_sem,simprocAttr,he,hs.at,r1,r2,m1]
   refine call_use (hc _ _ _ _ (hg3 _ (by omega)) (hg3 _ (by omega)) hs) ?_
   rintro r h ⟨hr,hs⟩
   subst hr
   simp (disch:=omega) only [go_sem,simprocAttr,he,ha0]
   exact ⟨_,_,_,rfl,by rw [decide_eq_true (by omega),Bool.true_and],hs,rfl,rfl⟩
  ·simp (disch:=omega) only [go_sem,simprocAttr,he,ha0]
   exact ⟨_,_,_,rfl,by rw [decide_eq_false (by omega),Bool.false_and],hs,rfl,rfl⟩
 rintro e h ⟨q3,v3,w3,hq3,hw3,hs,he⟩
 simp (disch:=omega) only [go_sem,simprocAttr,he,hq3]
 have hB3 : Below lt a bb D3:=Below.permA permIn_all (by omega) hB hp3
 have hC3 : ∀ R,PermIn a bb D3 R → SortedIn lt a bb R → PermIn a0 b0 d R∧SortedIn lt a0 b0 R:=fun R h1 h2 => hC R (permIn_trans _ _ _ _ _ hp3 h1) h2
 refine cnd_bool (fun hw => ?_) (fun hw => ?_)
 ·subst hw
  simp only [Bool.true_eq,Bool.and_eq_true,decide_eq_true_eq,Bool.not_eq_true'] at hw3
  simp (disch:=omega) only [go_sem,simprocAttr,he]
  refine call_use (by rw [← hz3]; exact peq_S hc E hs hg3 hu1 hu2 (by omega) (by omega)) ?_
  rintro r h ⟨hr,hg4,hz4,hs⟩
  obtain ⟨mid,d4,hx⟩ : ∃ mid d4,partitionEqual lt D3 a bb u = (mid,d4):=⟨_,_,rfl⟩
  rw [hx] at hr hg4 hz4 hs
  simp only at hr hg4 hz4 hs
  subst hr
  obtain ⟨e1,e2,e3,e4,e5⟩:=round_eq hO (partitionEqual_holds lt) hw3.1 hu1 hu2 (by omega) hB3 hw3.2 hx
  simp (disch:=omega) only [go_sem,simprocAttr,he]
  exact ⟨bb - mid,by omega,mid,bb,lim1,wb,wp,d4,rfl,by omega,by omega,by omega,hlim1,e4,hg4,by omega,fun R h1 h2 => hC3 R (e5 R h1 h2).1 (e5 R h1 h2).2,hs,rfl,rfl,rfl,rfl,rfl⟩
 ·simp (disch:=omega) only [go_sem,simprocAttr,he]
  refine call_use (by rw [← hz3]; exact prt_S hc E hs hg3 hu1 hu2 (by omega) (by omega)) ?_
  rintro r h ⟨hr,hg4,hz4,hs⟩
  obtain ⟨mid,ap,d4,hx⟩ : ∃ mid ap d4,partition lt D3 a bb u = (mid,ap,d4):=⟨_,_,_,rfl⟩
  rw [hx] at hr hg4 hz4 hs
  simp only at hr hg4 hz4 hs
  subst hr
  obtain ⟨e1,e2,e3,eL,eR,c1,c2⟩:=round_part hO (partition_holds lt) hu1 hu2 (by omega) hB3 hx
  have q1 : (mid:Int) - a = ((mid - a : Nat) : Int):=by omega
  have q2 : (bb:Int) - mid = ((bb - mid : Nat) : Int):=by omega
  have q3 : (mid:Int) + 1 = ((mid + 1 : Nat) : Int):=by omega
  have q4 : ((bb - a : Nat) : Int).tdiv 8 = (((bb - a) / 8 : Nat) : Int):=by rw [Int.tdiv_eq_ediv_of_nonneg (by omega)]; omega
  simp (disch:=omega) only [go_sem,simprocAttr,he,q1,q2,q4]
  refine cnd_dec (fun hlt => ?_) (fun hge => ?_)
  ·simp (disch:=omega) only [go_sem,simprocAttr,he,q3]
   refine call_use (by rw [← hz3,← e3]; exact ih (mid - a) (by omega) F _ d4 a mid lim1 b cap (Nat.le_refl _) hs hg4 e1 (by omega) (by omega) eL hlim1) ?_
   rintro r h ⟨R1,p1,s1,hg5,hz5,hs⟩
   obtain ⟨f1,f2⟩:=c1 R1 p1 s1
   simp (disch:=omega) only [go_sem,simprocAttr,he,q3]
   exact ⟨bb - (mid + 1),by omega,mid + 1,bb,lim1,_,ap,R1,rfl,by omega,by omega,by omega,hlim1,f1,hg5,by omega,fun R h1 h2 => hC3 R (f2 R h1 h2).1 (f2 R h1 h2).2,hs,rfl,rfl,rfl,rfl,rfl⟩
  ·simp (disch:=omega) only [go_sem,simprocAttr,he,q3]
   refine call_use (by rw [← hz3,← e3]; exact ih (bb - (mid + 1)) (by omega) F _ d4 (mid + 1) bb lim1 b cap (Nat.le_refl _) hs hg4 (by omega) (by omega) (by omega) eR hlim1) ?_
   rintro r h ⟨R1,p1,s1,hg5,hz5,hs⟩
   obtain ⟨f1,f2⟩:=c2 R1 p1 s1
   simp (disch:=omega) only [go_sem,simprocAttr,he,q3]
   exact ⟨mid - a,by omega,a,mid,lim1,_,ap,R1,rfl,by omega,by omega,by omega,hlim1,f1,hg5,by omega,fun R h1 h2 => hC3 R (f2 R h1 h2).1 (f2 R h1 h2).2,hs,rfl,rfl,rfl,rfl,rfl⟩
end
end Go.Proofs.YtmhbnkjajkcmkaaGreat
/- slices.Sort, slices.Compact of strings. -/
set_option maxRecDepth 10000
namespace Go.Proofs.YtmhbnkjajkcmkaaGreat
open Go.Hz Go.Sort
def keyS : List AV → Key
 | .str x :: _ => x
 | _ => []
def ltS (a b : List AV) : Bool:=ltK (keyS a) (keyS b)
theorem swo_ltS : SWO ltS:=⟨fun x => ltK_irrefl _,fun x y z h1 h2 => ltK_trans h1 h2,fun x y z h1 h2 => by
 cases h : ltS x z with
 | false => rfl
 | true =>
  have:=ltK_lt_of_lt_of_ge (a:=keyS x) (b:=keyS z) (c:=keyS y) h h2
  rw [show ltK (keyS x) (keyS y) = ltS x y from rfl,h1] at this; cases this⟩
def GSt (c:List AV) : Prop := ∃ k : Key,c = [.str k]
theorem goodE_st : GoodE 1 false GSt where
 len:=by rintro _ ⟨x,rfl⟩; rfl
 atoms:=by rintro _ ⟨x,rfl⟩; rfl
 cells:=by rintro _ ⟨x,rfl⟩; rfl
 pos:=by omega
 one:=fun _ => rfl
section
variable {h:Hp} {F:List Asr}
theorem nan_S {a:Key} (hs : sat h F) : Triple Tryz.prog 237 [.str a] h (fun r h => r = .bool false∧sat h F):=by
 refine t237 (Nat.le_of_ble_eq_true rfl) ?_
 simp (disch:=omega) only [F237,go_sem,simprocAttr]
 exact hs
theorem less_S : LessT Tryz.prog false GSt ltS 256:=by
 rintro _ _ L h ⟨x,rfl⟩ ⟨y,rfl⟩ hs
 show Triple Tryz.prog _ [.str x,.str y] h _
 refine t256 (Nat.le_of_ble_eq_true rfl) ?_
 simp (disch:=omega) only [F256,go_sem,simprocAttr]
 refine call_use (nan_S hs) ?_
 rintro r h ⟨hr,hs⟩
 subst hr
 simp (disch:=omega) only [go_sem,simprocAttr]
 exact ⟨rfl,hs⟩
theorem insn_S (hs : sat h F) : Triple Tryz.prog 250 [.nils,.int .i64 0,.int .i64 0] h (fun r h => sat h F):=by
 refine t250 (Nat.le_of_ble_eq_true rfl) ?_
 simp (disch:=omega) only [F250,go_sem,simprocAttr]
 refine run_loopN (fun n e h => sat h F∧(e 1 = .int .i64 0∧e 2 = .int .i64 0∧e 6 = .int .i64 1)) 0 ⟨hs,rfl,rfl,rfl⟩ ?_
 rintro n e h ⟨hs,he⟩
 simp (disch:=omega) only [go_sem,simprocAttr,he]
 exact hs
theorem pdqn_S {lim:AV} (hs : sat h F) : Triple Tryz.prog 238 [.nils,.int .i64 0,.int .i64 0,lim] h (fun r h => sat h F):=by
 refine t238 (Nat.le_of_ble_eq_true rfl) ?_
 simp (disch:=omega) only [F238,go_sem,simprocAttr]
 refine run_loopN (fun n e h => sat h F∧(e 0 = .nils∧e 1 = .int .i64 0∧e 2 = .int .i64 0)) 0 ⟨hs,rfl,rfl,rfl⟩ ?_
 rintro n e h ⟨hs,he⟩
 have z0 : decide ((0:Int) - 0 ≤ 12) = true:=rfl
 simp (disch:=omega) only [go_sem,simprocAttr,he,z0]
 refine call_use (insn_S hs) ?_
 intro r h hs
 simp (disch:=omega) only [go_sem,simprocAttr]
 exact hs
theorem ga_strs {l:List Key} : GA GSt (l.map fun k => [AV.str k]).toArray:=by
 intro i hi
 have hi : i < l.length:=by simpa using hi
 exact ⟨l[i],by simp [hi]⟩
theorem sort_S {v:AV} {ks:List Key} (hs : sat h (Ow 1 v (ks.map fun k => [.str k]) :: F)) (hz : ks.length ≤ 100000000) : Triple Tryz.prog 211 [v] h (fun r h => ∃ ks' : List Key,ks'.Perm ks∧ks'.Pairwise (fun a b => ltK b a = false)∧sat h (Ow 1 v (ks'.map fun k => [.str k]) :: F)):=by
 rcases hs.cases with ⟨rfl,hn,h2⟩ | ⟨b,cap,rfl,h2,hle⟩
 ·have : ks = []:=by simpa using hn
  subst this
  refine t211 (Nat.le_of_ble_eq_true rfl) ?_
  simp (disch:=omega) only [F211,go_sem,simprocAttr]
  refine call_use (len0 (n:=0) h2 (by omega)) ?_
  rintro r h ⟨t,hr,h1,h2,h3,hs⟩
  subst hr
  simp (disch:=omega) only [go_sem,simprocAttr]
  refine call_use (pdqn_S hs) ?_
  intro r h hs
  simp (disch:=omega) only [go_sem,simprocAttr]
  exact ⟨[],.refl _,.nil,hs.add ow_nil⟩
 ·have hsz : (ks.map fun k => [AV.str k]).toArray.size = ks.length:=by simp
  have hll : (ks.map fun k => [AV.str k]).length = ks.length:=by simp
  rw [hll] at hle ⊢
  have w1:=wu64 (n:=ks.length) (by omega)
  refine t211 (Nat.le_of_ble_eq_true rfl) ?_
  simp (disch:=omega) only [F211,w1,go_sem,simprocAttr]
  refine call_use (len0 h2 (by omega)) ?_
  rintro r h ⟨t,hr,h1,_,h3,hs⟩
  subst hr
  simp (disch:=omega) only [go_sem,simprocAttr]
  have hp:=pdq_S less_S goodE_st swo_ltS _ F h (ks.map fun k => [AV.str k]).toArray 0 ks.length t b cap (Nat.le_refl _) (by simpa using hs) ga_strs (Nat.zero_le _) (by simp) (by simp; omega) (.inl rfl) (by omega)
  rw [hsz] at hp
  refine call_use hp ?_
  rintro r h ⟨R,p1,p2,p3,p4,hs⟩
  simp (disch:=omega) only [go_sem,simprocAttr]
  have hR : ∃ ks' : List Key,R.toList = ks'.map fun k => [AV.str k]:=by
   have : ∀ x ∈ R.toList,GSt x:=by
    intro x hx
    obtain ⟨i,hi,rfl⟩:=List.getElem_of_mem hx
    have:=p3 i (by simpa using hi)
    simpa [getElem!_pos R i (by simpa using hi)] using this
   generalize R.toList = l at this
   induction l with
   | nil => exact ⟨[],rfl⟩
   | cons x l ih =>
    obtain ⟨l',hl'⟩:=ih fun y hy => this y (List.mem_cons_of_mem _ hy)
    obtain ⟨k,hk⟩:=this x (by simp)
    exact ⟨k :: l',by rw [hl',hk]; rfl⟩
  obtain ⟨ks',hks⟩:=hR
  have q1 : R.toList.Perm (ks.map fun k => [AV.str k]):=by
   have:=p1.2.2
   have e1 : R.extract 0 ks.length = R:=by rw [show ks.length = R.size from p4.symm]; simp
   have e2 : (ks.map fun k => [AV.str k]).toArray.extract 0 ks.length = (ks.map fun k => [AV.str k]).toArray:=by
    simp [List.take_of_length_le]
   rw [e1,e2] at this
   exact this
  have q2 : R.toList.Pairwise (fun a b => ltS b a = false):=by
   rw [List.pairwise_iff_getElem]
   intro i j hi hj hij
   have hj' : j < R.size:=by simpa using hj
   have hi' : i < R.size:=by simpa using hi
   have:=p2 i j (Nat.zero_le _) hij (by rw [← p4]; exact hj')
   simpa [getElem!_pos R i hi',getElem!_pos R j hj'] using this
  rw [hks] at q1 q2 hs
  refine ⟨ks',?_,?_,?_⟩
  ·have:=q1.map keyS
   simpa [Function.comp_def,keyS] using this
  ·rw [List.pairwise_map] at q2
   exact q2
  ·have hl5 : ks'.length = ks.length:=by have:=q1.length_eq; simpa using this
   have:=hs.ow (by simp; omega)
   simpa [hl5] using this
theorem srtS_app {R:List Key} {y x : Key} {k:Nat} (hR:SrtS R) (hk : k + 1 = R.length) (hy:R[k]? = some y) (hx : ltK y x = true) : SrtS (R ++ [x]):=by
 refine List.pairwise_append.2 ⟨hR,List.pairwise_singleton _ _,fun a ha b hb => ?_⟩
 simp at hb; subst hb
 obtain ⟨m,hm,rfl⟩:=List.getElem_of_mem ha
 have hk2 : k < R.length:=by omega
 rw [List.getElem?_eq_getElem hk2] at hy
 cases hy
 by_cases hmk : m = k
 ·subst hmk; exact hx
 ·exact ltK_trans (List.pairwise_iff_getElem.1 hR m k hm hk2 (by omega)) hx
theorem comp_S {v:AV} {ks:List Key} (hs : sat h (Ow 1 v (ks.map fun k => [.str k]) :: F)) (hk : ks.Pairwise fun a b => ltK b a = false) (hz : ks.length ≤ 100000000) : Triple Tryz.prog 212 [v] h (fun r h => ∃ R : List Key,SrtS R∧(∀ x,x ∈ R ↔ x ∈ ks)∧R.length ≤ ks.length∧r = .lst (R.map fun k => [.str k])∧sat h F):=by
 refine Triple.view ?_
 have fin : ∀ {h:Hp},sat h (Ow 1 v (ks.map fun k => [.str k]) :: F) → SrtS ks → ∃ r' h'',GV v h r' h''∧∃ R : List Key,SrtS R∧(∀ x,x ∈ R ↔ x ∈ ks)∧R.length ≤ ks.length∧r' = .lst (R.map fun k => [.str k])∧sat h'' F:=by
  intro h hs h1
  obtain ⟨h',g,hs'⟩:=hs.view
  exact ⟨_,h',g,ks,h1,fun _ => Iff.rfl,Nat.le_refl _,rfl,hs'⟩
 have hlv:=hs.els.len
 rw [List.length_map] at hlv
 refine t212 (Nat.le_of_ble_eq_true rfl) ?_
 simp (disch:=omega) only [F212,hlv,go_sem,simprocAttr]
 refine cnd_dec (fun h1 => ?_) (fun h1 => ?_)
 ·simp (disch:=omega) only [go_sem,simprocAttr]
  refine fin hs ?_
  match ks,h1 with
  | [],_ => exact .nil
  | [k],_ => exact List.pairwise_singleton _ _
  | a :: b :: l,h1 => exact absurd h1 (by simp; omega)
 rcases hs.cases with ⟨_,hn,_⟩ | ⟨b,cap,rfl,h2,hle⟩
 ·have : ks = []:=by simpa using hn
  subst this
  exact absurd (show ((([] : List Key).length : Nat) : Int) < 2 by simp) h1
 have hll : (ks.map fun k => [AV.str k]).length = ks.length:=by simp
 simp only [hll] at hle fin ⊢
 simp (disch:=omega) only [go_sem,simprocAttr]
 refine run_loopN (fun n e h => ∃ i : Nat,n = ks.length - i∧1 ≤ i∧i ≤ ks.length∧SrtS (ks.take i)∧sat h (pto b (.row 1 (ks.map fun k => [.str k]) cap) :: F)∧(e 0 = .arr b 1 0 ks.length cap∧e 3 = .int .i64 i)) (ks.length - 1) ⟨1,rfl,Nat.le_refl _,by omega,?_,h2,rfl,rfl⟩ ?_
 ·cases ks with
  | nil => exact .nil
  | cons k l => exact List.pairwise_singleton _ _
 clear hs h2
 rintro n e h ⟨i,rfl,hi1,hi2,hsr,hs,he⟩
 have hb:=hs.at
 have m1 : (i:Int) + 1 = ((i + 1 : Nat) : Int):=by omega
 have m2 : (i:Int) - 1 = ((i - 1 : Nat) : Int):=by omega
 simp (disch:=omega) only [go_sem,simprocAttr,he]
 refine cnd_dec (fun h3 => ?_) (fun h3 => ?_)
 ·have hi : i < ks.length:=by omega
  have hr1 : (ks.map fun k => [AV.str k])[i]? = some [.str ks[i]]:=by simp [hi]
  have hr2 : (ks.map fun k => [AV.str k])[i - 1]? = some [.str (ks[i - 1]'(by omega))]:=by rw [List.getElem?_map,List.getElem?_eq_getElem (by omega)]; rfl
  by_cases hq : ks[i] = ks[i - 1]'(by omega)
  ·have eq : (ks[i] == ks[i - 1]'(by omega)) = true:=by simpa using hq
   simp (disch:=omega) only [go_sem,simprocAttr,he,hb,hr1,hr2,m2,Int.toNat_natCast,eq]
   have hsl:=slcL_lo (s:=1) (b:=b) (off:=0) (len:=ks.length) (cap:=cap) (k1:=.i64) (x:=(i:Int)) (by omega) (by omega) hle
   rw [Int.toNat_natCast,Nat.zero_add] at hsl
   simp (disch:=omega) only [go_sem,simprocAttr,hsl]
   refine blk_join (Q:=fun e h => ∃ (k:Nat) (es:List Key),es.length = ks.length∧k ≤ ks.length∧SrtS (es.take k)∧(∀ x,x ∈ es.take k ↔ x ∈ ks)∧sat h (pto b (.row 1 (es.map fun k => [.str k]) cap) :: F)∧(e 0 = .arr b 1 0 ks.length cap∧e 3 = .int .i64 k)) ?_ ?_
   ·refine run_loopN (fun n e h => ∃ (j k : Nat) (es:List Key),n = ks.length - i - j∧1 ≤ j∧i + j ≤ ks.length∧es.length = ks.length∧1 ≤ k∧k + 1 ≤ i + j∧SrtS (es.take k)∧(∀ x,x ∈ es.take k ↔ x ∈ ks.take (i + j))∧es[k - 1]? = ks[i + j - 1]?∧(∀ m,i + j ≤ m + 1 → es[m]? = ks[m]?)∧sat h (pto b (.row 1 (es.map fun k => [.str k]) cap) :: F) ∧
     (e 0 = .arr b 1 0 ks.length cap∧e 3 = .int .i64 k∧e 4 = .arr b 1 i (ks.length - i) (cap - i)∧e 5 = .int .i64 j)) (ks.length - i - 1)
     ⟨1,i,ks,rfl,Nat.le_refl _,by omega,rfl,hi1,Nat.le_refl _,hsr,?_,?_,fun m _ => rfl,hs,he.1,he.2,rfl,rfl⟩ ?_
    ·intro x
     rw [List.take_succ_eq_append_getElem hi,List.mem_append]
     constructor
     ·exact fun h => .inl h
     ·rintro (h | h)
      ·exact h
      ·simp at h; subst h
       rw [hq,List.mem_take_iff_getElem]
       exact ⟨i - 1,by omega,rfl⟩
    ·rw [show i + 1 - 1 = i by omega,List.getElem?_eq_getElem (by omega),List.getElem?_eq_getElem hi,hq]
    clear hs he hb
    rintro n e h ⟨j,k,es,rfl,j1,j2,hel,k1,k2,hR,hmem,hlast,hrest,hs,he⟩
    have hb:=hs.at
    have mj : (j:Int) + 1 = ((j + 1 : Nat) : Int):=by omega
    have mj2 : (j:Int) - 1 = ((j - 1 : Nat) : Int):=by omega
    have mk : (k:Int) + 1 = ((k + 1 : Nat) : Int):=by omega
    simp (disch:=omega) only [go_sem,simprocAttr,he]
    refine cnd_dec (fun h4 => ?_) (fun h4 => ?_)
    ·have hij : i + j < ks.length:=by omega
     have r1 : (es.map fun k => [AV.str k])[i + j]? = some [.str ks[i + j]]:=by rw [List.getElem?_map,hrest _ (by omega),List.getElem?_eq_getElem hij]; rfl
     have r2 : (es.map fun k => [AV.str k])[i + (j - 1)]? = some [.str (ks[i + j - 1]'(by omega))]:=by
      rw [List.getElem?_map,hrest _ (by omega),show i + (j - 1) = i + j - 1 by omega,List.getElem?_eq_getElem (by omega)]; rfl
     have hkk : k < es.length:=by omega
     have rk : (es.map fun k => [AV.str k])[k]? = some [.str es[k]]:=by rw [List.getElem?_map,List.getElem?_eq_getElem hkk]; rfl
     have tk : ks.take (i + (j + 1)) = ks.take (i + j) ++ [ks[i + j]]:=List.take_succ_eq_append_getElem hij
     by_cases hq2 : ks[i + j] = ks[i + j - 1]'(by omega)
     ·have eq2 : (ks[i + j] != ks[i + j - 1]'(by omega)) = false:=by simpa using hq2
      simp (disch:=omega) only [go_sem,simprocAttr,he,hb,r1,r2,mj2,Int.toNat_natCast,eq2,mj]
      refine ⟨ks.length - i - (j + 1),by omega,j + 1,k,es,rfl,by omega,by omega,hel,k1,by omega,hR,?_,?_,fun m hm => hrest m (by omega),hs,rfl,rfl⟩
      ·intro x
       rw [tk,List.mem_append,← hmem]
       constructor
       ·exact fun h => .inl h
       ·rintro (h | h)
        ·exact h
        ·simp at h; subst h
         rw [hq2,hmem,List.mem_take_iff_getElem]
         exact ⟨i + j - 1,by omega,rfl⟩
      ·rw [hlast,show i + (j + 1) - 1 = i + j by omega,List.getElem?_eq_getElem (by omega),List.getElem?_eq_getElem hij,hq2]
     ·have eq2 : (ks[i + j] != ks[i + j - 1]'(by omega)) = true:=by simpa using hq2
      simp (disch:=omega) only [go_sem,simprocAttr,he,hb,r1,r2,rk,mj2,Int.toNat_natCast,eq2,mj,mk]
      have hlt : ltK (ks[i + j - 1]'(by omega)) ks[i + j] = true:=by
       have hnd:=List.pairwise_iff_getElem.1 hk (i + j - 1) (i + j) (by omega) hij (by omega)
       cases hl : ltK (ks[i + j - 1]'(by omega)) ks[i + j] with
       | true => rfl
       | false => exact absurd (ltK_total hnd hl) hq2
      have hst : (es.set k ks[i + j]).take (k + 1) = es.take k ++ [ks[i + j]]:=by
       rw [List.take_succ_eq_append_getElem (by simpa using hkk),List.take_set_of_le (Nat.le_refl _),List.getElem_set_self]
      refine ⟨ks.length - i - (j + 1),by omega,j + 1,k + 1,es.set k ks[i + j],rfl,by omega,by omega,by simpa using hel,by omega,by omega,?_,?_,?_,?_,?_,rfl,rfl⟩
      ·rw [hst]
       refine srtS_app (k:=k - 1) (y:=ks[i + j - 1]'(by omega)) hR (by rw [List.length_take]; omega) ?_ hlt
       rw [List.getElem?_take,if_pos (by omega),hlast,List.getElem?_eq_getElem (by omega)]
      ·intro x
       rw [hst,tk,List.mem_append,List.mem_append,hmem]
      ·rw [show k + 1 - 1 = k by omega,List.getElem?_set_self hkk,show i + (j + 1) - 1 = i + j by omega,List.getElem?_eq_getElem hij]
      ·intro m hm
       rw [List.getElem?_set_ne (by omega)]
       exact hrest m (by omega)
      ·have:=hs.set (o':=.row 1 ((es.set k ks[i + j]).map fun k => [.str k]) cap)
       simpa [List.map_set] using this
    ·have hij : i + j = ks.length:=by omega
     rw [hij,List.take_length] at hmem
     simp (disch:=omega) only [go_sem,simprocAttr,he]
     exact ⟨k,es,hel,by omega,hR,hmem,hs,rfl⟩
   clear hs he hb
   rintro e h ⟨k,es,hel,hkl,hR,hmem,hs,he⟩
   have hsl:=slcL_lo (s:=1) (b:=b) (off:=0) (len:=ks.length) (cap:=cap) (k1:=.i64) (x:=(k:Int)) (by omega) (by omega) hle
   have hsh:=slcL_hi (s:=1) (b:=b) (off:=0) (len:=ks.length) (cap:=cap) (k2:=.i64) (y:=(k:Int)) (by omega) (by omega) hle
   rw [Int.toNat_natCast] at hsl hsh
   simp (disch:=omega) only [go_sem,simprocAttr,he,hsl]
   refine clr_use hs (by simp; omega) (by omega) fun h hs => ?_
   simp (disch:=omega) only [go_sem,simprocAttr,he,hsh]
   have ht : ((List.take k (es.map fun k => [AV.str k]) ++ List.replicate (ks.length - k) [AV.str []] ++ List.drop (k + (ks.length - k)) (es.map fun k => [AV.str k])).take k) = (es.take k).map fun k => [AV.str k]:=by
    rw [List.append_assoc,List.take_append_of_le_length (by simp; omega),List.take_take,Nat.min_self,List.map_take]
   have hs3:=hs.set (o':=.row 1 ((es.take k).map fun k => [AV.str k]) cap)
   have g1:=GV.trim (.arr b 1 0 k cap) k hs.at
   rw [ht] at g1
   refine ⟨_,_,g1.trans (GV.arr hs3.at (by simp; omega) (by omega)),es.take k,hR,hmem,by rw [List.length_take]; omega,rfl,hs3.del⟩
  ·have eq : (ks[i] == ks[i - 1]'(by omega)) = false:=by simpa using hq
   simp (disch:=omega) only [go_sem,simprocAttr,he,hb,hr1,hr2,m2,Int.toNat_natCast,eq,m1]
   refine ⟨ks.length - (i + 1),by omega,i + 1,rfl,by omega,by omega,?_,hs,rfl⟩
   have hlt : ltK (ks[i - 1]'(by omega)) ks[i] = true:=by
    have hnd:=List.pairwise_iff_getElem.1 hk (i - 1) i (by omega) hi (by omega)
    cases hl : ltK (ks[i - 1]'(by omega)) ks[i] with
    | true => rfl
    | false => exact absurd (ltK_total hnd hl) hq
   rw [List.take_succ_eq_append_getElem hi]
   refine srtS_app (k:=i - 1) (y:=ks[i - 1]'(by omega)) hsr (by rw [List.length_take]; omega) ?_ hlt
   rw [List.getElem?_take,if_pos (by omega),List.getElem?_eq_getElem (by omega)]
 ·have hi : i = ks.length:=by omega
  subst hi
  rw [List.take_length] at hsr
  simp (disch:=omega) only [go_sem,simprocAttr,he]
  have:=hs.ow (by simpa using hle)
  rw [hll] at this
  exact fin this hsr
end
end Go.Proofs.YtmhbnkjajkcmkaaGreat
/- The store: the keys that a write sees. -/
set_option maxRecDepth 10000
namespace Go.Proofs.YtmhbnkjajkcmkaaGreat
open Go.Hz
section
variable {h:Hp} {F:List Asr} {s w : Nat} {A:Sto} {o:AV} {W:Wr}
def kvKey (e:AV × AV × Nat) : Key:=match e.1 with | .str k => k | _ => []
def WKeys (A:Sto) (W:Wr) (lo hi : Key) (ks:List Key) : Prop:=SrtS ks∧ks.length ≤ A.old.length + A.chs.length + W.l.length + 1∧if hi = [] then ks = [lo] else ∀ k,k ∈ ks ↔ (A.vers k ≠ [] ∨ wChg W k = true)∧inR lo hi k = true
theorem mvWKeys {lo hi : Key} (hs : sat h (WtP w s A W :: StP s A o :: F)) (hz:A.old.length + A.chs.length + W.l.length ≤ 90000000) : Triple Tryz.prog 192 [.ptr w 4 0 0,.str lo,.str hi] h (fun r h => ∃ ks,WKeys A W lo hi ks∧r = strsV ks∧sat h (WtP w s A W :: StP s A o :: F)):=by
 obtain ⟨lv,bm,hw,hs1⟩:=wrP.1 hs
 have hp:=hs1.at
 refine t192 (Nat.le_of_ble_eq_true rfl) ?_
 simp (disch:=omega) only [F192,hp,go_sem,simprocAttr]
 refine call_use (mvKeys (lo:=lo) (hi:=hi) hs1.p2.p2.p2.p3 (by omega)) ?_
 rintro v h ⟨ks0,hk,hs⟩
 have tail : ∀ {h:Hp} {v:AV} {ks1:List Key} {F' : List Asr},True:=trivial
 by_cases hh : hi = []
 ·subst hh
  have e0 : (([] : List UInt8) != []) = false:=rfl
  have hk0:=hk.2.2
  rw [if_pos rfl] at hk0
  subst hk0
  simp (disch:=omega) only [go_sem,simprocAttr,e0]
  refine call_use (sort_S hs (by simp)) ?_
  rintro r h ⟨ks',p1,p2,hs⟩
  simp (disch:=omega) only [go_sem,simprocAttr]
  refine call_use (comp_S hs p2 (by rw [p1.length_eq]; simp)) ?_
  rintro r h ⟨R,r1,r2,r3,hr,hs⟩
  subst hr
  simp (disch:=omega) only [go_sem,simprocAttr]
  refine ⟨R,⟨r1,by have:=p1.length_eq; simp at this; omega,?_⟩,rfl,wrP.2 ⟨lv,bm,hw,hs.p3.p3.p3⟩⟩
  rw [if_pos rfl]
  refine srts_ext r1 (List.pairwise_singleton _ _) fun x => ?_
  rw [r2,p1.mem_iff]
 ·have e0 : (hi != []) = true:=by simpa using hh
  have hk0:=hk.2.2
  rw [if_neg hh] at hk0
  obtain ⟨pl,c,⟨q1,q2,q3⟩,hs⟩:=mpA.1 hs.p3.p3.p3.p3.p4
  have hp:=hs.p3.at
  simp (disch:=omega) only [go_sem,simprocAttr,e0,hp]
  refine rng_use hs fun q h hs => ?_
  simp (disch:=omega) only [go_sem,simprocAttr]
  generalize hkvs : kvOf (fun k : Key => AV.str k) Ch.key (chV tp td) pl = kvs at hs
  have hx0 : ∀ x ∈ kvs,∃ p ∈ pl,x = (.str p.1.key,chV tp td p.1,p.2):=by
   intro x hx
   rw [← hkvs] at hx
   obtain ⟨p,hp,rfl⟩:=List.mem_map.1 hx
   exact ⟨p,hp,rfl⟩
  have hlenK : kvs.length = W.l.length:=by rw [← hkvs,kvOf,List.length_map,← q1.length_eq,List.length_map]
  have hc : ∀ x ∈ kvs,x.2.2 < c:=fun x hx => by obtain ⟨p,hp,rfl⟩:=hx0 x hx; exact q3 p hp
  have hn : (kvs.map (·.2.2)).Nodup:=by rw [← hkvs]; simpa [kvOf,Function.comp_def] using q2
  refine blk_join (Q:=fun e h => ∃ (v:AV) (ex:List Key),ex.Perm (W.l.map Ch.key)∧sat h (Ow 1 v ((ks0 ++ ex.filter (inR lo hi)).map fun k => [.str k]) :: WtP w s A W :: StP s A o :: F)∧(e 7 = v)) ?_ ?_
  ·refine run_loopN (fun k e h => ∃ es rest,k = rest.length∧(es ++ rest).Perm kvs∧sat h (pto q (.itr (some bm) c (es.map (·.2.2)) c) :: pto bm (.mp kvs c) :: Ow 1 (e 7) ((ks0 ++ (es.map kvKey).filter (inR lo hi)).map fun k => [.str k]) :: StP s A o :: pto w (.row 4 [[.ptr s 7 0 0,lv,.map bm,.int .i64 W.cur.length]] 1) :: Ow 1 lv (W.l.map fun c => [chV tp td c]) :: F) ∧
    (e 1 = .str lo∧e 2 = .str hi∧e 22 = .ptr q 1 0 0)) kvs.length ⟨[],kvs,rfl,.refl _,by simpa [Env.upd_apply] using hs,rfl,rfl,rfl⟩ ?_
   clear hs hp
   rintro k e h ⟨es,rest,rfl,hpm,hs,he⟩
   simp (disch:=omega) only [go_sem,simprocAttr,he]
   refine nxt_use hs (Nat.le_refl _) hc (fun x hx hns h hs => ?_) (fun hall => ?_)
   ·obtain ⟨p,hp,rfl⟩:=hx0 x hx
    obtain ⟨rest',r1,r2⟩:=rng_step hpm hx hns
    have hen:=ent_at hs hx hn
    have hel : es.length ≤ kvs.length:=by have:=r1.length_eq; simp at this; omega
    simp (disch:=omega) only [go_sem,simprocAttr,he]
    rw [hen]
    simp (disch:=omega) only [go_sem,simprocAttr,he]
    have hsnoc : ((es ++ [((AV.str p.1.key,chV tp td p.1,p.2) : AV × AV × Nat)]).map kvKey).filter (inR lo hi) = (es.map kvKey).filter (inR lo hi) ++ [p.1.key].filter (inR lo hi):=by
     rw [List.map_append,List.filter_append]; rfl
    have hfl : ((es.map kvKey).filter (inR lo hi)).length ≤ kvs.length:=Nat.le_trans (List.length_filter_le _ _) (by simpa using hel)
    have hk1:=hk.2.1
    cases b1 : Op.bytesLess p.1.key lo with
    | true =>
     have hin : inR lo hi p.1.key = false:=by show (!(Op.bytesLess p.1.key lo) && _) = false; rw [b1]; rfl
     simp (disch:=omega) only [go_sem,simprocAttr,he,b1]
     refine ⟨rest'.length,by omega,es ++ [(AV.str p.1.key,chV tp td p.1,p.2)],rest',rfl,r1,?_⟩
     rw [hsnoc,List.filter_cons_of_neg (by simp [hin]),List.filter_nil,List.append_nil]
     simpa using hs
    | false =>
     cases b2 : Op.bytesLess p.1.key hi with
     | false =>
      have hin : inR lo hi p.1.key = false:=by show (!(Op.bytesLess p.1.key lo) && (hi == [] || Op.bytesLess p.1.key hi)) = false; rw [b1,b2]; simpa using hh
      simp (disch:=omega) only [go_sem,simprocAttr,he,b1,b2]
      refine ⟨rest'.length,by omega,es ++ [(AV.str p.1.key,chV tp td p.1,p.2)],rest',rfl,r1,?_⟩
      rw [hsnoc,List.filter_cons_of_neg (by simp [hin]),List.filter_nil,List.append_nil]
      simpa using hs
     | true =>
      have hin : inR lo hi p.1.key = true:=by show (!(Op.bytesLess p.1.key lo) && (hi == [] || Op.bytesLess p.1.key hi)) = true; rw [b1,b2]; simp
      simp (disch:=omega) only [go_sem,simprocAttr,he,b1,b2]
      refine new_opq hs fun a h hs => ?_
      simp (disch:=omega) only [go_sem,simprocAttr]
      refine app_sat hs.p3 (src_one hs.at) (atoms_one (by simp [AV.isAtom])) (by simp only [List.length_map,List.length_append,List.length_cons,List.length_nil]; omega) fun v' h hs ca aa => ?_
      simp (disch:=omega) only [go_sem,simprocAttr,he]
      refine ⟨rest'.length,by omega,es ++ [(AV.str p.1.key,chV tp td p.1,p.2)],rest',rfl,r1,?_⟩
      rw [hsnoc,List.filter_cons_of_pos hin,List.filter_nil]
      simpa using hs.p1.drop.p5.p5.p5.p3.p5.p5
   ·have r1:=rng_end hpm hn hall
    simp (disch:=omega) only [go_sem,simprocAttr]
    refine ⟨e 7,es.map kvKey,?_,?_⟩
    ·refine (r1.map kvKey).trans ?_
     rw [← hkvs]
     have:=q1.map Ch.key
     simpa [kvOf,Function.comp_def,kvKey] using this
    ·have hs6:=hs.drop.p4.p4.p4.p4.p4
     rw [← hkvs] at hs6
     have hm : sat h (MpA (fun k : Key => AV.str k) Ch.key (chV tp td) bm W.l :: _):=mpA.2 ⟨pl,c,⟨q1,q2,q3⟩,hs6⟩
     have hm2:=hm.p2.p2.p2.p4.p4
     have hm3 : sat h (WtP w s A W :: Ow 1 (e 7) ((ks0 ++ (es.map kvKey).filter (inR lo hi)).map fun k => [.str k]) :: StP s A o :: F):=wrP.2 ⟨lv,bm,hw,hm2⟩
     exact ⟨hm3.p1,rfl⟩
  clear hs hp
  rintro e h ⟨v,ex,hex,hs,he⟩
  have hk1:=hk.2.1
  have hexl : (ex.filter (inR lo hi)).length ≤ W.l.length:=by
   have:=hex.length_eq
   rw [List.length_map] at this
   exact this ▸ List.length_filter_le _ _
  simp (disch:=omega) only [go_sem,simprocAttr,he]
  refine call_use (sort_S hs (by rw [List.length_append]; omega)) ?_
  rintro r h ⟨ks',p1,p2,hs⟩
  simp (disch:=omega) only [go_sem,simprocAttr,he]
  have hpl:=p1.length_eq
  rw [List.length_append] at hpl
  refine call_use (comp_S hs p2 (by omega)) ?_
  rintro r h ⟨R,r1,r2,r3,hr,hs⟩
  subst hr
  simp (disch:=omega) only [go_sem,simprocAttr]
  refine ⟨R,⟨r1,by omega,?_⟩,rfl,hs⟩
  rw [if_neg hh]
  intro k
  rw [r2,p1.mem_iff,List.mem_append,hk0,List.mem_filter,hex.mem_iff]
  have hch : k ∈ W.l.map Ch.key ↔ wChg W k = true:=by
   rw [List.mem_map,wChg,List.any_eq_true]
   simp
  rw [hch]
  constructor
  ·rintro (⟨h1,h2⟩ | ⟨h1,h2⟩)
   ·exact ⟨.inl h1,h2⟩
   ·exact ⟨.inr h1,h2⟩
  ·rintro ⟨h1 | h1,h2⟩
   ·exact .inl ⟨h1,h2⟩
   ·exact .inr ⟨h1,h2⟩
end
end Go.Proofs.YtmhbnkjajkcmkaaGreat
/- The store: a change is taken in; a write is done. -/
set_option maxRecDepth 10000
namespace Go.Proofs.YtmhbnkjajkcmkaaGreat
open Go.Hz
section
variable {h:Hp} {F:List Asr} {s w : Nat} {A:Sto} {o:AV} {W:Wr} {n:Int}
theorem mvNoteG {v:Ver} (hs : sat h (MvN tp td s n A o :: F)) (hvr : inI v.rev) (hz:A.old.length + A.chs.length ≤ 90000000) : Triple Tryz.prog 169 [.ptr s 7 0 0,.agg (verC tp td v)] h (fun r h => ∃ ix vm cv L X,(StoOK (A.snoc v) → StoOK (A.snoc v)∧IxOK (A.snoc v) L∧VmOK (A.snoc v) X)∧sat h (MvLn tp td s ix vm cv o n (A.snoc v) L X ++ F)):=by
 obtain ⟨ix,vm,cv,L,X,hok,hs2⟩:=mvN.1 hs
 have hix:=fun ok' : StoOK (A.snoc v) => ix_snoc ok' hok.2.1
 have ca:=chV_atom (tp:=tp) (td:=td) v.c
 have cc:=chV_cells (tp:=tp) (td:=td) v.c
 have e1 : (A.snoc v).rev = A.rev:=rfl
 have e2 : (A.snoc v).past = A.past:=rfl
 obtain ⟨kv,hta⟩ : ∃ kv : Kv,taA tp true (.agg [.str [],.str [],.int .i64 0,.int .i64 0,.int .i64 0,.int .i64 0]) (chV tp td v.c) = some (.tup [.agg (kvC kv),.bool v.c.kv.isSome]):=by
  cases v.c with
  | put kv => exact ⟨kv,rfl⟩
  | del k => exact ⟨kv0,rfl⟩
 have hta2 : taA 199 true (.agg [.str [],.str [],.int .i64 0,.int .i64 0,.int .i64 0,.int .i64 0]) (chV tp td v.c) = some (.tup [.agg (kvC kv),.bool v.c.kv.isSome]):=hta
 refine t169 (Nat.le_of_ble_eq_true rfl) ?_
 simp (disch:=omega) only [F169,verC,ca,go_sem,simprocAttr]
 refine new_opq hs2 fun a h hs => ?_
 have ha:=hs.at
 simp (disch:=omega) only [go_sem,simprocAttr,ha,hta2,verC]
 refine new_opq hs fun b h hs => ?_
 have hb:=hs.at
 have hs3:=hs.set (o':=.row 6 [kvC kv] 1)
 have ha:=hs3.p1.at
 have hp:=hs3.p2.at
 simp only [kvC,verC] at hs3 ha hp
 simp (disch:=omega) only [go_sem,simprocAttr,hb,kvC,ha,hp]
 generalize Hp.set h b _ = h3 at hs3 ha hp ⊢
 refine inv_key hs3 v.c fun h hs => ?_
 have ha:=hs.p1.at
 have hp:=hs.p2.at
 simp (disch:=omega) only [go_sem,simprocAttr,ha,hp]
 have hb1 : (!v.c.kv.isSome) = (mkV v).2:=by show _ = v.c.kv.isNone; cases v.c.kv <;> rfl
 rw [hb1]
 have hs4 : sat h (IxP ix L :: pto b (.row 6 [[.str kv.key,.str kv.val,.int .i64 kv.create,.int .i64 kv.mod,.int .i64 kv.ver,.int .i64 kv.lease]] 1) :: pto a (.row 2 [[.int .i64 v.rev,chV tp td v.c]] 1) :: pto s (.row 7 [[.int .i64 A.rev,.int .i64 A.past,.int .i64 n,.ptr ix 2 0 0,.map vm,cv,o]] 1) :: Ow 2 cv (A.chs.map (verC tp td)) :: MpA (fun k : Key => AV.str k) Vn.key Vn.v vm X :: (X.map (VnP tp td) ++ F)):=hs.p3
 have hLn:=ix_num hok.2.1
 have hLl:=ix_len hok.2.1
 refine call_use (ixPut (key:=v.c.key) (m:=mkV v) hs4 hok.2.1.1 (fun x hx => by have:=hLl x hx; omega) (by omega) hvr) ?_
 rintro r h ⟨hr',hs⟩
 subst hr'
 have ha:=hs.p2.at
 have hp:=hs.p3.at
 simp (disch:=omega) only [go_sem,simprocAttr,ha,hp]
 refine inv_key hs v.c fun h hs => ?_
 have ha:=hs.p2.at
 have hp:=hs.p3.at
 simp (disch:=omega) only [go_sem,simprocAttr,ha,hp]
 refine inv_key hs v.c fun h hs => ?_
 have ha:=hs.p2.at
 have hp:=hs.p3.at
 by_cases hx : ∃ x ∈ X,x.key = v.c.key
 ·obtain ⟨x,hx,hxk⟩:=hx
  have hl:=lk_hit keyOK_str hs.p5 hok.2.2.1 hx (ok:=false) (z:=.nils)
  simp only [Bool.false_eq_true,if_false] at hl
  rw [hxk] at hl
  simp (disch:=omega) only [go_sem,simprocAttr,ha,hp,hl,ca]
  refine new_opq hs fun n2 h hs => ?_
  obtain ⟨l1,l2,rfl⟩:=List.append_of_mem hx
  have hs5 : sat h ((pto n2 (.row 2 [[.int .i64 v.rev,chV tp td v.c]] 1) :: IxP ix (putL L v.c.key (mkV v)) :: pto b (.row 6 [[.str kv.key,.str kv.val,.int .i64 kv.create,.int .i64 kv.mod,.int .i64 kv.ver,.int .i64 kv.lease]] 1) :: pto a (.row 2 [[.int .i64 v.rev,chV tp td v.c]] 1) :: pto s (.row 7 [[.int .i64 A.rev,.int .i64 A.past,.int .i64 n,.ptr ix 2 0 0,.map vm,cv,o]] 1) :: Ow 2 cv (A.chs.map (verC tp td)) :: MpA (fun k : Key => AV.str k) Vn.key Vn.v vm (l1 ++ x :: l2) :: l1.map (VnP tp td)) ++ VnP tp td x :: (l2.map (VnP tp td) ++ F)):=by simpa using hs
  have hs6 : sat h (VnP tp td x :: pto n2 (.row 2 [[.int .i64 v.rev,chV tp td v.c]] 1) :: IxP ix (putL L v.c.key (mkV v)) :: pto b (.row 6 [[.str kv.key,.str kv.val,.int .i64 kv.create,.int .i64 kv.mod,.int .i64 kv.ver,.int .i64 kv.lease]] 1) :: pto a (.row 2 [[.int .i64 v.rev,chV tp td v.c]] 1) :: pto s (.row 7 [[.int .i64 A.rev,.int .i64 A.past,.int .i64 n,.ptr ix 2 0 0,.map vm,cv,o]] 1) :: Ow 2 cv (A.chs.map (verC tp td)) :: MpA (fun k : Key => AV.str k) Vn.key Vn.v vm (l1 ++ x :: l2) :: (l1.map (VnP tp td) ++ (l2.map (VnP tp td) ++ F))):=hs5.mid
  have hxv:=(hok.2.2.2.1 x (by simp)).1
  have hxl:=vers_le (A:=A) x.key
  rw [← hxv] at hxl
  simp (disch:=omega) only [go_sem,simprocAttr]
  refine app_satO (s:=2) hs6 (src_one hs6.p1.at) (atoms_one (by simp only [List.all_cons,List.all_nil,atom_int,ca,Bool.and_self])) (by simp; omega) fun v' h hs ca' aa => ?_
  have hp:=hs.p5.at
  simp (disch:=omega) only [go_sem,simprocAttr,hp,ca',aa]
  rw [← hxk]
  refine mup_set keyOK_str hs.p7 hok.2.2.1 (x:=x) (y:=(⟨x.key,v',x.vs ++ [v]⟩ : Vn)) (by simp) rfl fun h hs => ?_
  have hX' : ((l1 ++ x :: l2).map fun z => if z.key = x.key then (⟨x.key,v',x.vs ++ [v]⟩ : Vn) else z) = l1 ++ ⟨x.key,v',x.vs ++ [v]⟩ :: l2:=by
   have hnd:=hok.2.2.1
   rw [List.map_append,List.map_cons,List.nodup_append,List.nodup_cons] at hnd
   rw [List.map_append,List.map_cons,if_pos rfl]
   congr 1
   ·exact (List.map_congr_left fun z hz => if_neg fun e : z.key = x.key => hnd.2.2 _ (List.mem_map_of_mem hz) _ (by simp) e).trans (List.map_id _)
   ·congr 1
    exact (List.map_congr_left fun z hz => if_neg fun e : z.key = x.key => hnd.2.1.1 (e ▸ List.mem_map_of_mem hz)).trans (List.map_id _)
  rw [hX'] at hs
  have ha:=hs.p5.at
  have hp:=hs.p6.at
  simp (disch:=omega) only [go_sem,simprocAttr,ha,hp,ca]
  refine new_opq hs fun n3 h hs => ?_
  simp (disch:=omega) only [go_sem,simprocAttr]
  refine app_sat hs.p8 (src_one hs.at) (atoms_one (by simp only [List.all_cons,List.all_nil,atom_int,ca,Bool.and_self])) (by simp; omega) fun cv' h hs ca2 aa2 => ?_
  have hp:=hs.p8.at
  simp (disch:=omega) only [go_sem,simprocAttr,hp,ca2,aa2]
  refine ⟨ix,vm,cv',putL L v.c.key (mkV v),l1 ++ ⟨x.key,v',x.vs ++ [v]⟩ :: l2,fun ok' => ⟨ok',hix ok',vmOK_old hok.2.2 hxk⟩,?_⟩
  have hs7:=hs.p8.set (o':=.row 7 [[.int .i64 A.rev,.int .i64 A.past,.int .i64 n,.ptr ix 2 0 0,.map vm,cv',o]] 1)
  have t1 : (A.snoc v).chs.map (verC tp td) = A.chs.map (verC tp td) ++ [[.int .i64 v.rev,chV tp td v.c]]:=by simp [Sto.snoc,verC]
  rw [← t1] at hs7
  have t2 : VnP tp td ⟨x.key,v',x.vs ++ [v]⟩ = Ow 2 v' (x.vs.map (verC tp td) ++ [[.int .i64 v.rev,chV tp td v.c]]):=by simp [VnP,verC]
  rw [← t2] at hs7
  have hs8:=hs7.p2.drop.p4.drop.p5.drop.p5.drop.p2.p2.p4.p3.p4
  have hs9:=sat.unmid (l1:=[pto s (.row 7 [[.int .i64 A.rev,.int .i64 A.past,.int .i64 n,.ptr ix 2 0 0,.map vm,cv',o]] 1),IxP ix (putL L v.c.key (mkV v)),Ow 2 cv' ((A.snoc v).chs.map (verC tp td)),MpA (fun k : Key => AV.str k) Vn.key Vn.v vm (l1 ++ ⟨x.key,v',x.vs ++ [v]⟩ :: l2)] ++ l1.map (VnP tp td)) (l2:=l2.map (VnP tp td) ++ F) hs8
  simpa [MvLn,e1,e2] using hs9
 ·have hl:=lk_miss keyOK_str hs.p5 (q:=v.c.key) (fun x h1 h2 => hx ⟨x,h1,h2⟩) (ok:=false) (z:=.nils)
  simp only [Bool.false_eq_true,if_false] at hl
  simp (disch:=omega) only [go_sem,simprocAttr,ha,hp,hl,ca]
  refine new_opq hs fun n2 h hs => ?_
  simp (disch:=omega) only [go_sem,simprocAttr]
  have hs6 : sat h (Ow 2 .nils [] :: pto n2 (.row 2 [[.int .i64 v.rev,chV tp td v.c]] 1) :: _):=hs.add ow_nil
  refine app_satO (s:=2) hs6 (src_one hs6.p1.at) (atoms_one (by simp only [List.all_cons,List.all_nil,atom_int,ca,Bool.and_self])) (by simp) fun v' h hs ca' aa => ?_
  have hp:=hs.p5.at
  simp (disch:=omega) only [go_sem,simprocAttr,hp,ca',aa]
  refine mup_new keyOK_str hs.p7 (y:=(⟨v.c.key,v',[v]⟩ : Vn)) (fun x h1 h2 => hx ⟨x,h1,h2⟩) fun h hs => ?_
  have ha:=hs.p5.at
  have hp:=hs.p6.at
  simp (disch:=omega) only [go_sem,simprocAttr,ha,hp,ca]
  refine new_opq hs fun n3 h hs => ?_
  simp (disch:=omega) only [go_sem,simprocAttr]
  refine app_sat hs.p8 (src_one hs.at) (atoms_one (by simp only [List.all_cons,List.all_nil,atom_int,ca,Bool.and_self])) (by simp; omega) fun cv' h hs ca2 aa2 => ?_
  have hp:=hs.p8.at
  simp (disch:=omega) only [go_sem,simprocAttr,hp,ca2,aa2]
  refine ⟨ix,vm,cv',putL L v.c.key (mkV v),X ++ [⟨v.c.key,v',[v]⟩],fun ok' => ⟨ok',hix ok',vmOK_new hok.2.2 (fun x h1 h2 => hx ⟨x,h1,h2⟩)⟩,?_⟩
  have hs7:=hs.p8.set (o':=.row 7 [[.int .i64 A.rev,.int .i64 A.past,.int .i64 n,.ptr ix 2 0 0,.map vm,cv',o]] 1)
  have t1 : (A.snoc v).chs.map (verC tp td) = A.chs.map (verC tp td) ++ [[.int .i64 v.rev,chV tp td v.c]]:=by simp [Sto.snoc,verC]
  rw [← t1] at hs7
  have t2 : VnP tp td ⟨v.c.key,v',[v]⟩ = Ow 2 v' ([] ++ [[.int .i64 v.rev,chV tp td v.c]]):=by simp [VnP,verC]
  rw [← t2] at hs7
  have hs8:=hs7.p2.drop.p4.drop.p5.drop.p5.drop.p2.p2.p4.p3.p4
  have hs9:=sat.unmid (l1:=[pto s (.row 7 [[.int .i64 A.rev,.int .i64 A.past,.int .i64 n,.ptr ix 2 0 0,.map vm,cv',o]] 1),IxP ix (putL L v.c.key (mkV v)),Ow 2 cv' ((A.snoc v).chs.map (verC tp td)),MpA (fun k : Key => AV.str k) Vn.key Vn.v vm (X ++ [⟨v.c.key,v',[v]⟩])] ++ X.map (VnP tp td)) (l2:=F) hs8
  simpa [MvLn,e1,e2] using hs9
theorem mvNote {v:Ver} (hs : sat h (MvN tp td s n A o :: F)) (ok' : StoOK (A.snoc v)) (hz:A.old.length + A.chs.length ≤ 90000000) (hr:A.rev ≤ 1000000000000000) : Triple Tryz.prog 169 [.ptr s 7 0 0,.agg (verC tp td v)] h (fun r h => sat h (MvN tp td s n (A.snoc v) o :: F)):=by
 have hvr:=ok'.chr v (by simp [Sto.snoc])
 have hpa:=ok'.past
 have e1 : (A.snoc v).rev = A.rev:=rfl
 have e2 : (A.snoc v).past = A.past:=rfl
 exact (mvNoteG hs (by unfold inI; omega) hz).mono fun r h ⟨ix,vm,cv,L,X,h1,h2⟩ => mvN.2 ⟨ix,vm,cv,L,X,h1 ok',h2⟩
end
end Go.Proofs.YtmhbnkjajkcmkaaGreat
/- The store: a write is done; keys are deleted. -/
set_option maxRecDepth 10000
namespace Go.Proofs.YtmhbnkjajkcmkaaGreat
open Go.Hz
section
variable {h:Hp} {F:List Asr} {s w : Nat} {A:Sto} {o:AV} {W:Wr}
theorem mvDone (hs : sat h (WtP w s A W :: StP s A (.ptr w 4 0 0) :: F)) (hz:A.old.length + A.chs.length + W.l.length ≤ 80000000) (hr:A.rev ≤ 100000000000000) : Triple Tryz.prog 149 [.ptr w 4 0 0] h (fun r h => r = .int .i64 (stDone A W).rev∧sat h (StP s (stDone A W) .nilp :: F)):=by
 have ok:=MvP.ok hs.p1
 have hpa:=ok.past
 have hre:=ok.rev
 obtain ⟨lv0,bm0,hw,hs0⟩:=wrP.1 hs
 have hp0:=hs0.at
 refine t149 (Nat.le_of_ble_eq_true rfl) ?_
 simp (disch:=omega) only [F149,hp0,go_sem,simprocAttr]
 refine call_use (mvClosed hs) ?_
 rintro r h ⟨hr,hs⟩
 subst hr
 simp (disch:=omega) only [go_sem,simprocAttr]
 obtain ⟨lv,bm,_,hs1⟩:=wrP.1 hs
 obtain ⟨ix,vm,cv,L,X,hok,hs2⟩:=mvP.1 hs1.p3
 have hq:=hs2.at
 have hs3 : sat h (pto s (.row 7 [[.int .i64 A.rev,.int .i64 A.past,.int .i64 A.now.length,.ptr ix 2 0 0,.map vm,cv,.ptr w 4 0 0]] 1) :: IxP ix L :: Ow 2 cv (A.chs.map (verC tp td)) :: MpA (fun k : Key => AV.str k) Vn.key Vn.v vm X :: (X.map (VnP tp td) ++ (pto w (.row 4 [[.ptr s 7 0 0,lv,.map bm,.int .i64 W.cur.length]] 1) :: Ow 1 lv (W.l.map fun c => [chV tp td c]) :: MpA (fun k : Key => AV.str k) Ch.key (chV tp td) bm W.l :: F))):=hs2
 have hs4:=hs3.set (o':=.row 7 [[.int .i64 A.rev,.int .i64 A.past,.int .i64 A.now.length,.ptr ix 2 0 0,.map vm,cv,.nilp]] 1)
 have mk : ∀ {h:Hp},sat h (pto s (.row 7 [[.int .i64 A.rev,.int .i64 A.past,.int .i64 A.now.length,.ptr ix 2 0 0,.map vm,cv,.nilp]] 1) :: IxP ix L :: Ow 2 cv (A.chs.map (verC tp td)) :: MpA (fun k : Key => AV.str k) Vn.key Vn.v vm X :: (X.map (VnP tp td) ++ (pto w (.row 4 [[.ptr s 7 0 0,lv,.map bm,.int .i64 W.cur.length]] 1) :: Ow 1 lv (W.l.map fun c => [chV tp td c]) :: MpA (fun k : Key => AV.str k) Ch.key (chV tp td) bm W.l :: F))) →
   sat h (StP s A .nilp :: pto w (.row 4 [[.ptr s 7 0 0,lv,.map bm,.int .i64 W.cur.length]] 1) :: Ow 1 lv (W.l.map fun c => [chV tp td c]) :: MpA (fun k : Key => AV.str k) Ch.key (chV tp td) bm W.l :: F):=fun hs => mvP.2 ⟨ix,vm,cv,L,X,hok,hs⟩
 have hs5:=mk hs4
 have hw5:=hs5.p1.at
 have hlv:=hs5.p2.els.len
 rw [List.length_map] at hlv
 have hsq:=hs4.at
 simp (disch:=omega) only [go_sem,simprocAttr,hq,hw5,hlv]
 by_cases hl : W.l = []
 ·have e0 : ((W.l.length : Int) == 0) = true:=by rw [hl]; rfl
  have ef : stDone A W = A:=by rw [stDone,if_pos hl]
  rw [ef]
  simp (disch:=omega) only [go_sem,simprocAttr,e0,hsq]
  exact hs5.p1.drop.p1.drop.p1.drop
 have e0 : ((W.l.length : Int) == 0) = false:=by
  have:=List.length_pos_iff.2 hl
  simp; omega
 have okd:=stDone_ok ok hw
 have ed : stDone A W = ⟨A.rev + 1,A.past,A.old,A.chs ++ W.l.map fun c => ⟨A.rev + 1,c⟩⟩:=by rw [stDone,if_neg hl]
 have hnow:=stDone_now hw
 rw [ed] at okd hnow ⊢
 have ok0 : StoOK ⟨A.rev + 1,A.past,A.old,A.chs⟩:=stOK_front okd
 have mkN : ∀ {h:Hp} {n:Int},sat h (pto s (.row 7 [[.int .i64 (A.rev + 1),.int .i64 A.past,.int .i64 n,.ptr ix 2 0 0,.map vm,cv,.nilp]] 1) :: IxP ix L :: Ow 2 cv (A.chs.map (verC tp td)) :: MpA (fun k : Key => AV.str k) Vn.key Vn.v vm X :: (X.map (VnP tp td) ++ (pto w (.row 4 [[.ptr s 7 0 0,lv,.map bm,.int .i64 W.cur.length]] 1) :: Ow 1 lv (W.l.map fun c => [chV tp td c]) :: MpA (fun k : Key => AV.str k) Ch.key (chV tp td) bm W.l :: F))) →
   sat h (MvN tp td s n ⟨A.rev + 1,A.past,A.old,A.chs⟩ .nilp :: pto w (.row 4 [[.ptr s 7 0 0,lv,.map bm,.int .i64 W.cur.length]] 1) :: Ow 1 lv (W.l.map fun c => [chV tp td c]) :: MpA (fun k : Key => AV.str k) Ch.key (chV tp td) bm W.l :: F):=fun hs => mvN.2 ⟨ix,vm,cv,L,X,⟨ok0,hok.2.1,hok.2.2⟩,hs⟩
 generalize Hp.set h s _ = h4 at hs4 hs5 hw5 hsq ⊢
 have hs6:=hs4.set (o':=.row 7 [[.int .i64 (A.rev + 1),.int .i64 A.past,.int .i64 A.now.length,.ptr ix 2 0 0,.map vm,cv,.nilp]] 1)
 have hw6:=(mkN hs6).p1.at
 have hs7:=hs6.set (o':=.row 7 [[.int .i64 (A.rev + 1),.int .i64 A.past,.int .i64 W.cur.length,.ptr ix 2 0 0,.map vm,cv,.nilp]] 1)
 have hs8:=mkN hs7
 have hw8:=hs8.p1.at
 rw [Hp.set_set] at hs8 hw8
 simp (disch:=omega) only [go_sem,simprocAttr,e0,hsq,hw6,hw8,hlv]
 generalize Hp.set h4 s _ = h5 at hs8 hw8 ⊢
 rcases hs8.p2.cases with ⟨_,hn0,_⟩ | ⟨b,cap,hv,hs9,hle⟩
 ·exact absurd (List.map_eq_nil_iff.1 hn0) hl
 subst hv
 have hll : (W.l.map fun c => [chV tp td c]).length = W.l.length:=by simp
 rw [hll] at hle
 simp only [hll]
 refine run_up (N:=W.l.length) (fun i e h => sat h (MvN tp td s W.cur.length ⟨A.rev + 1,A.past,A.old,A.chs ++ (W.l.take i).map fun c => ⟨A.rev + 1,c⟩⟩ .nilp :: pto b (.row 1 (W.l.map fun c => [chV tp td c]) cap) :: F) ∧
  (e 3 = .ptr s 7 0 0∧e 46 = .arr b 1 0 W.l.length cap∧e 47 = .int .i64 W.l.length∧e 48 = .int .i64 i)) ⟨?_,rfl,rfl,rfl,rfl⟩ ?_
 ·have : A.chs ++ ((W.l.take 0).map fun c => (⟨A.rev + 1,c⟩ : Ver)) = A.chs:=by simp
  rw [this]
  exact hs9.p2.drop.p2.drop.p1
 clear hs hs0 hs1 hs2 hs3 hs4 hs5 hs6 hs7 hs8 hs9 hp0 hw5 hw6 hw8 hsq hq
 rintro i e h hi ⟨hs,he⟩
 have m1 : (i:Int) + 1 = ((i + 1 : Nat) : Int):=by omega
 simp (disch:=omega) only [go_sem,simprocAttr,he]
 refine cnd_dec (fun h1 => ?_) (fun h1 => ?_)
 ·have hi : i < W.l.length:=by omega
  have hb:=hs.p1.at
  have hrow : (W.l.map fun c => [chV tp td c])[i]? = some [chV tp td W.l[i]]:=by simp [hi]
  obtain ⟨ix',vm',cv',L',X',hok',hs2⟩:=mvN.1 hs
  have hq:=hs2.at
  simp (disch:=omega) only [go_sem,simprocAttr,he,hb,hrow,hq,Int.toNat_natCast]
  have hsn : (⟨A.rev + 1,A.past,A.old,A.chs ++ (W.l.take i).map fun c => ⟨A.rev + 1,c⟩⟩ : Sto).snoc ⟨A.rev + 1,W.l[i]⟩ = ⟨A.rev + 1,A.past,A.old,A.chs ++ (W.l.take (i + 1)).map fun c => ⟨A.rev + 1,c⟩⟩:=by
   unfold Sto.snoc
   rw [List.take_succ_eq_append_getElem hi]
   simp only [List.map_append,List.map_cons,List.map_nil,List.append_assoc]
  have hok2 : StoOK ⟨A.rev + 1,A.past,A.old,A.chs ++ (W.l.take (i + 1)).map fun c => ⟨A.rev + 1,c⟩⟩:=by
   have h2 : (A.chs ++ W.l.map fun c => (⟨A.rev + 1,c⟩ : Ver)) = (A.chs ++ (W.l.take (i + 1)).map fun c => (⟨A.rev + 1,c⟩ : Ver)) ++ (W.l.drop (i + 1)).map fun c => (⟨A.rev + 1,c⟩ : Ver):=by
    rw [List.append_assoc,← List.map_append,List.take_append_drop]
   rw [h2] at okd
   exact stOK_front okd
  have hcc:=chV_cells (tp:=tp) (td:=td) W.l[i]
  have hn:=mvNote (v:=⟨A.rev + 1,W.l[i]⟩) hs (by rw [hsn]; exact hok2) (by simp only [List.length_append,List.length_map,List.length_take]; omega) (by show A.rev + 1 ≤ _; omega)
  rw [hsn] at hn
  have hca:=chV_atom (tp:=tp) (td:=td) W.l[i]
  simp (disch:=omega) only [go_sem,simprocAttr,hcc,hca]
  refine call_use hn ?_
  intro r h hs
  simp (disch:=omega) only [go_sem,simprocAttr,he,m1]
  exact ⟨by omega,hs⟩
 ·have hi : i = W.l.length:=by omega
  subst hi
  rw [List.take_length] at hs
  obtain ⟨ix',vm',cv',L',X',hok',hs2⟩:=mvN.1 hs
  have hq:=hs2.at
  simp (disch:=omega) only [go_sem,simprocAttr,he,hq]
  rw [← hnow] at hs
  exact hs.d1
theorem mvWKeysR {lo hi : Key} (hs : sat h (WtP w s A W :: StP s A o :: F)) (hz:A.old.length + A.chs.length + W.l.length ≤ 40000000) : Triple Tryz.prog 192 [.ptr w 4 0 0,.str lo,.str hi] h (fun r h => ∃ ks,WKeys A W lo hi ks∧r = strsV ks∧sat h (WtP w s A W :: StP s A o :: F)):=mvWKeys hs (by omega)
theorem mvDel {lo hi : Key} (hs : sat h (WtP w s A W :: StP s A (.ptr w 4 0 0) :: F)) (hz:A.old.length + A.chs.length + W.l.length ≤ 40000000) : Triple Tryz.prog 155 [.ptr w 4 0 0,.str lo,.str hi] h (fun r h => ∃ ks,WKeys A W lo hi ks∧r = .int .i64 (wDels W ks).1∧sat h (WtP w s A (wDels W ks).2 :: StP s A (.ptr w 4 0 0) :: F)):=by
 have ok:=MvP.ok hs.p1
 have hkey:=now_keys ok
 refine t155 (Nat.le_of_ble_eq_true rfl) ?_
 simp (disch:=omega) only [F155,go_sem,simprocAttr]
 refine call_use (mvClosed hs) ?_
 rintro r h ⟨hr,hs⟩
 subst hr
 simp (disch:=omega) only [go_sem,simprocAttr]
 refine call_use (mvWKeysR (lo:=lo) (hi:=hi) hs hz) ?_
 rintro v h ⟨ks,hk,hv,hs⟩
 subst hv
 have hw:=WrP.ok hs
 have hkl:=hk.2.1
 have lenK : lenL (strsV ks) = some (.int .i64 ks.length):=by simp [strsV,lenL]
 simp (disch:=omega) only [go_sem,simprocAttr,lenK]
 refine run_up (N:=ks.length) (fun i e h => sat h (WtP w s A (wDels W (ks.take i)).2 :: StP s A (.ptr w 4 0 0) :: F)∧(e 0 = .ptr w 4 0 0∧e 7 = .int .i64 (wDels W (ks.take i)).1∧e 19 = strsV ks∧e 20 = .int .i64 ks.length∧e 21 = .int .i64 i)) ⟨hs,rfl,rfl,rfl,rfl,rfl⟩ ?_
 clear hs
 rintro i e h hi ⟨hs,he⟩
 have m1 : (i:Int) + 1 = ((i + 1 : Nat) : Int):=by omega
 simp (disch:=omega) only [go_sem,simprocAttr,he,m1]
 refine cnd_dec (fun h1 => ?_) (fun h1 => ?_)
 ·have hi : i < ks.length:=by omega
  have hik : iaA 1 (strsV ks) (.int .i64 (i:Int)) = some (.ro [.str ks[i]]):=ia_lst (f:=fun k => [AV.str k]) hi fun _ => rfl
  have hst : wDels W (ks.take (i + 1)) = ((wDels W (ks.take i)).1 + (wDel1 (wDels W (ks.take i)).2 ks[i]).1,(wDel1 (wDels W (ks.take i)).2 ks[i]).2):=by
   rw [List.take_succ_eq_append_getElem hi]; exact wDels_snoc
  have hbnd:=wDels_len (ks:=ks.take i) (W:=W)
  rw [List.length_take] at hbnd
  generalize hWi : wDels W (ks.take i) = Wi at hs he hst hbnd
  obtain ⟨ni,Wi⟩:=Wi
  simp only [] at hs he hst hbnd
  have hwi:=WrP.ok hs
  obtain ⟨lv,bm,_,hs1⟩:=wrP.1 hs
  have hp:=hs1.at
  obtain ⟨tw,hl⟩ : ∃ v,lkA true true .nili h (.map bm) (.str ks[i]) = some (.tup [v,.bool (wChg Wi ks[i])]):=by
   cases hc : wChg Wi ks[i] with
   | true =>
    obtain ⟨c,hcm,hck⟩:=wChg_t hc
    rw [← hck]
    exact ⟨_,lk_hit keyOK_str hs1.p2 hwi.nd hcm⟩
   | false => exact ⟨_,lk_miss keyOK_str hs1.p2 (wChg_f hc)⟩
  simp (disch:=omega) only [go_sem,simprocAttr,he,hik,hp,hl]
  refine call_use (mvNow (key:=ks[i]) hs (by omega)) ?_
  rintro r h ⟨hr,hs⟩
  subst hr
  simp (disch:=omega) only [go_sem,simprocAttr]
  refine new_opq hs fun a h hs => ?_
  have ha:=hs.at
  generalize hkv : (kvget Wi.cur ks[i]).getD kv0 = kv
  have hs2:=hs.set (o':=.row 6 [kvC kv] 1)
  simp only [kvC] at hs2
  simp (disch:=omega) only [go_sem,simprocAttr,ha,kvC,he]
  generalize Hp.set h a _ = h2 at hs2 ⊢
  by_cases hskip : wChg Wi ks[i] = true ∨ kvget Wi.cur ks[i] = none
  ·have e1 : wDel1 Wi ks[i] = (0,Wi):=by rw [wDel1,if_pos hskip]
   rw [e1] at hst
   simp only [Nat.add_zero] at hst
   rw [hst]
   cases hg : kvget Wi.cur ks[i] with
   | none =>
    simp (disch:=omega) only [go_sem,simprocAttr,Option.isSome_none,he,m1]
    exact ⟨by omega,hs2.drop⟩
   | some y =>
    have hc : wChg Wi ks[i] = true:=by rcases hskip with h | h; exact h; rw [hg] at h; cases h
    simp (disch:=omega) only [go_sem,simprocAttr,Option.isSome_some,hc,he,m1]
    exact ⟨by omega,hs2.drop⟩
  ·have hc : wChg Wi ks[i] = false:=by simpa using fun h => hskip (.inl h)
   obtain ⟨y,hy⟩ : ∃ y,kvget Wi.cur ks[i] = some y:=by
    cases hg : kvget Wi.cur ks[i] with
    | none => exact absurd (.inr hg) hskip
    | some y => exact ⟨y,rfl⟩
   have e1 : wDel1 Wi ks[i] = (1,⟨done Wi.cur (.del ks[i]),Wi.l ++ [.del ks[i]]⟩):=by rw [wDel1,if_neg hskip]
   rw [e1] at hst
   rw [hst]
   have hyk : ks[i] ≠ []∧ks[i].length ≤ 100:=by
    have h3:=hy
    rw [now_same ok hwi hc] at h3
    obtain ⟨h4,h5⟩:=kvget_some h3
    rw [← h5]; exact hkey y h4
   simp (disch:=omega) only [go_sem,simprocAttr,hy,Option.isSome_some,hc,he]
   obtain ⟨lv2,bm2,_,hs3⟩:=wrP.1 hs2.p1
   have hlay : Triple Tryz.prog 196 [.ptr w 4 0 0,chV tp td (.del ks[i])] _ _:=mvLay hwi hs3 (by omega) hc hyk (fun _ => by show kvget Wi.cur ks[i] ≠ none; rw [hy]; simp) (fun _ h => by cases h)
   refine call_use hlay ?_
   rintro r h ⟨lv4,hok',hs⟩
   have hp:=hs.at
   have hpos : 0 < Wi.cur.length:=List.length_pos_of_mem (kvget_some hy).1
   have hcl:=cur_le hwi
   have m3 : (ni:Int) + 1 = ((ni + 1 : Nat) : Int):=by omega
   simp (disch:=omega) only [go_sem,simprocAttr,he,hp,m1,m3]
   have hdl:=done_len (c:=.del ks[i]) (hwi.srt ok)
   rw [show (Ch.del ks[i]).key = ks[i] from rfl,hy] at hdl
   have hdl2 : ((done Wi.cur (.del ks[i])).length : Int) = (Wi.cur.length : Int) - 1:=by rw [hdl]; simp [Ch.kv]; omega
   refine ⟨by omega,wrP.2 ⟨lv4,bm2,hok',?_⟩⟩
   rw [hdl2]
   exact hs.set.p3.drop.p3.p3.p3.p3
 ·have hi : i = ks.length:=by omega
  subst hi
  rw [List.take_length] at hs he
  simp (disch:=omega) only [go_sem,simprocAttr,he]
  exact ⟨ks,hk,rfl,hs⟩
end
end Go.Proofs.YtmhbnkjajkcmkaaGreat
/- A write of a store: what it deletes, and tells, by the keys that there are. -/
set_option maxRecDepth 10000
namespace Go.Proofs.YtmhbnkjajkcmkaaGreat
open Go.Hz
section
variable {h:Hp} {F:List Asr} {s w x : Nat} {A:Sto} {W:Go.Hz.Wr} {o:AV}
theorem wkeysSame {A:Sto} {W:Go.Hz.Wr} {lo hi : Key} {ks:List Key} (ok:StoOK A) (hw:WrOK A W) (hk:WKeys A W lo hi ks) : wDels W ks = wDels W ((W.cur.filter fun y => inK lo hi y.key).map Kv.key):=by
 obtain ⟨h1,_,h2⟩:=hk
 by_cases hh : hi = []
 ·rw [if_pos hh] at h2
  subst h2
  refine wDels_same ok hw h1 (fun k hk => ?_) fun y hy hin => ?_
  ·rw [List.mem_singleton.1 hk]; unfold inK; rw [if_pos hh]; simp
  ·unfold inK at hin; rw [if_pos hh] at hin; simpa using hin
 ·rw [if_neg hh] at h2
  refine wDels_same ok hw h1 (fun k hk => ?_) fun y hy hin => ?_
  ·unfold inK; rw [if_neg hh]; exact ((h2 k).1 hk).2
  ·unfold inK at hin; rw [if_neg hh] at hin
   refine (h2 _).2 ⟨?_,hin⟩
   cases hc : wChg W y.key with
   | true => exact .inr rfl
   | false =>
    left
    have hg:=kvget_mem (hw.srt ok) hy
    rw [now_same ok hw hc,← at_rev ok] at hg
    obtain ⟨h3,_⟩:=kvget_some hg
    exact at_vers ok ok.rev h3
theorem wkeysPick {lo hi : Key} {ks:List Key} (ok:StoOK A) (hw:WrOK A W) (hk:WKeys A W lo hi ks) : ks.filterMap (kvget W.cur) = W.cur.filter fun y => inK lo hi y.key:=by
 obtain ⟨h1,_,h2⟩:=hk
 by_cases hh : hi = []
 ·rw [if_pos hh] at h2
  subst h2
  refine pick_keys (hw.srt ok) h1 (fun k hk => ?_) fun y hy hin => ?_
  ·rw [List.mem_singleton.1 hk]; unfold inK; rw [if_pos hh]; simp
  ·unfold inK at hin; rw [if_pos hh] at hin; simpa using hin
 ·rw [if_neg hh] at h2
  refine pick_keys (hw.srt ok) h1 (fun k hk => ?_) fun y hy hin => ?_
  ·unfold inK; rw [if_neg hh]; exact ((h2 k).1 hk).2
  ·unfold inK at hin; rw [if_neg hh] at hin
   refine (h2 _).2 ⟨?_,hin⟩
   cases hc : wChg W y.key with
   | true => exact .inr rfl
   | false =>
    left
    have hg:=kvget_mem (hw.srt ok) hy
    rw [now_same ok hw hc,← at_rev ok] at hg
    obtain ⟨h3,_⟩:=kvget_some hg
    exact at_vers ok ok.rev h3
theorem mvWRngO {lo hi : Key} {lim:Int} (hs : sat h (WtP w s A W :: StP s A o :: F)) (hz:A.old.length + A.chs.length + W.l.length ≤ 40000000) : Triple Tryz.prog 152 [.ptr w 4 0 0,.str lo,.str hi,.int .i64 lim] h
  (fun r h => ∃ v,r = .tup [v,.int .i64 (rngL W.cur lo hi lim).2]∧sat h (Ow 6 v ((rngL W.cur lo hi lim).1.map kvC) :: WtP w s A W :: StP s A o :: F)):=by
 have ok:=MvP.ok hs.p1
 have hw:=WrP.ok hs
 refine t152 (Nat.le_of_ble_eq_true rfl) ?_
 simp (disch:=omega) only [F152,go_sem,simprocAttr]
 refine call_use (mvWKeysR (lo:=lo) (hi:=hi) hs hz) ?_
 rintro v h ⟨ks,hk,hv,hs⟩
 subst hv
 have hsel:=wkeysPick ok hw hk
 have hkl:=hk.2.1
 have lenk : lenL (strsV ks) = some (.int .i64 ks.length):=by simp [strsV,lenL]
 obtain ⟨pf,hpf⟩ : ∃ pf : Key → Option Kv,pf = kvget W.cur:=⟨_,rfl⟩
 rw [← hpf] at hsel
 have hpf2 : ∀ k,kvget W.cur k = pf k:=fun k => by rw [hpf]
 simp (disch:=omega) only [go_sem,simprocAttr,lenk]
 refine run_up (N:=ks.length) (fun i e h => sat h (Ow 6 (e 10) ((cutL lim ((ks.take i).filterMap pf)).map kvC) :: WtP w s A W :: StP s A o :: F)∧(e 0 = .ptr w 4 0 0∧e 3 = .int .i64 lim∧e 11 = .int .i64 (((ks.take i).filterMap pf).length : Nat)∧e 19 = strsV ks∧e 20 = .int .i64 ks.length∧e 21 = .int .i64 i)) ⟨?_,?_⟩ ?_
 ·have : (cutL lim (([] : List Key).filterMap pf)).map kvC = []:=by simp [cutL]
  rw [List.take_zero,this]
  exact hs.add ow_nil
 ·simp [Env.upd_apply,initE]
 clear hs
 rintro i e h hi ⟨hs,he⟩
 have m1 : (i:Int) + 1 = ((i + 1 : Nat) : Int):=by omega
 simp (disch:=omega) only [go_sem,simprocAttr,he,m1]
 refine cnd_dec (fun h1 => ?_) (fun h1 => ?_)
 ·have hi : i < ks.length:=by omega
  have hik : iaA 1 (strsV ks) (.int .i64 (i:Int)) = some (.ro [.str ks[i]]):=ia_lst (f:=fun k => [AV.str k]) hi fun _ => rfl
  have hfl : ((ks.take i).filterMap pf).length ≤ 100000001:=by
   have:=List.length_filterMap_le pf (ks.take i)
   rw [List.length_take] at this
   omega
  have hst : (ks.take (i + 1)).filterMap pf = (ks.take i).filterMap pf ++ (pf ks[i]).toList:=by
   rw [List.take_succ_eq_append_getElem hi,List.filterMap_append]
   cases h : pf ks[i] <;> simp [h]
  simp (disch:=omega) only [go_sem,simprocAttr,he,hik]
  refine call_use (mvNow (key:=ks[i]) hs.p2.p2 (by omega)) ?_
  rintro r h ⟨hr,hs⟩
  subst hr
  simp (disch:=omega) only [go_sem,simprocAttr,hpf2]
  refine new_opq hs fun a h hs => ?_
  have ha:=hs.at
  cases hpk : pf ks[i] with
  | none =>
   rw [hpk,Option.toList_none,List.append_nil] at hst
   have hs:=hs.set (o':=.row 6 [kvC kv0] 1)
   simp only [kvC,kv0] at hs
   simp (disch:=omega) only [go_sem,simprocAttr,ha,hpk,Option.getD_none,Option.isSome_none,kvC,kv0,he,m1]
   rw [hst]
   exact ⟨by omega,hs.drop.p1.p1.p2,rfl⟩
  | some kv =>
   rw [hpk,Option.toList_some] at hst
   have hs2:=hs.set (o':=.row 6 [kvC kv] 1)
   have ha2:=hs2.at
   simp only [kvC] at hs2 ha2
   simp (disch:=omega) only [go_sem,simprocAttr,ha,hpk,Option.getD_some,Option.isSome_some,kvC,he]
   generalize Hp.set h a _ = h3 at hs2 ha2 ⊢
   have hol:=hs2.p3.els.len
   have hcl : (cutL lim ((ks.take i).filterMap pf)).length ≤ 100000001:=Nat.le_trans cutL_len hfl
   have hsn:=cutL_snoc (lim:=lim) (l:=(ks.take i).filterMap pf) (x:=kv)
   have hlen14 : ((((ks.take i).filterMap pf).length : Nat) : Int) + 1 = (((ks.take i).filterMap pf ++ [kv]).length : Int):=by simp
   rw [List.length_map] at hol
   by_cases l1 : lim < 1
   ·rw [if_pos (.inl l1)] at hsn
    simp (disch:=omega) only [go_sem,simprocAttr,l1,he,ha2]
    refine new_opq hs2 fun b h hs => ?_
    simp (disch:=omega) only [go_sem,simprocAttr]
    refine app_sat hs.p4 (src_one hs.at) (atoms_one (by simp [AV.isAtom])) (by simp; omega) fun v' h hs ca aa => ?_
    simp (disch:=omega) only [go_sem,simprocAttr,he,m1]
    rw [hst,hsn]
    refine ⟨by omega,?_,?_⟩
    ·have:=hs.p1.drop.p1.drop.p2.p2.p2
     simpa [kvC] using this
    ·rw [hlen14]
   ·by_cases l2 : ((cutL lim ((ks.take i).filterMap pf)).length : Int) < lim
    ·rw [if_pos (.inr l2)] at hsn
     simp (disch:=omega) only [go_sem,simprocAttr,l1,l2,hol,he,ha2]
     refine new_opq hs2 fun b h hs => ?_
     simp (disch:=omega) only [go_sem,simprocAttr]
     refine app_sat hs.p4 (src_one hs.at) (atoms_one (by simp [AV.isAtom])) (by simp; omega) fun v' h hs ca aa => ?_
     simp (disch:=omega) only [go_sem,simprocAttr,he,m1]
     rw [hst,hsn]
     refine ⟨by omega,?_,?_⟩
     ·have:=hs.p1.drop.p1.drop.p2.p2.p2
      simpa [kvC] using this
     ·rw [hlen14]
    ·rw [if_neg (by intro hh; rcases hh with hh | hh; exact l1 hh; exact l2 hh)] at hsn
     simp (disch:=omega) only [go_sem,simprocAttr,l1,l2,hol,he,m1]
     rw [hst,hsn]
     exact ⟨by omega,hs2.drop.p1.p1.p2,by rw [hlen14]⟩
 ·have hi : i = ks.length:=by omega
  subst hi
  simp (disch:=omega) only [go_sem,simprocAttr,he]
  rw [List.take_length,hsel] at hs
  refine ⟨_,?_,hs⟩
  rw [List.take_length,hsel]
  rfl
theorem mvWRng {lo hi : Key} {lim:Int} (hs : sat h (WtP w s A W :: StP s A o :: F)) (hz:A.old.length + A.chs.length + W.l.length ≤ 40000000) : Triple Tryz.prog 152 [.ptr w 4 0 0,.str lo,.str hi,.int .i64 lim] h
  (fun r h => r = .tup [kvsV (rngL W.cur lo hi lim).1,.int .i64 (rngL W.cur lo hi lim).2]∧sat h (WtP w s A W :: StP s A o :: F)) :=
 Triple.lst1 6 ((mvWRngO hs hz).mono fun r h ⟨v,hr,hs⟩ => ⟨v,_,_,_,hr,hs,fun h hs => ⟨rfl,hs⟩⟩)
end
end Go.Proofs.YtmhbnkjajkcmkaaGreat
/- Transactions: what is wrong with one. -/
set_option maxRecDepth 10000
namespace Go.Proofs.YtmhbnkjajkcmkaaGreat
open Go.Hz
section
variable {h:Hp} {F:List Asr}
theorem eL_first {l:List Int} {i:Nat} (hi : i < l.length) (h1:∀ j (hj : j < l.length),j < i → l[j] = 0) (h2 : l[i] ≠ 0) : eL l = l[i]:=by
 have e : l = l.take i ++ l[i] :: l.drop (i + 1):=by rw [← List.drop_eq_getElem_cons hi,List.take_append_drop]
 have h3 : eL (l.take i) = 0:=eL_zero.2 fun x hx => by
  obtain ⟨j,hj,rfl⟩:=List.getElem_of_mem hx
  rw [List.length_take] at hj
  rw [List.getElem_take]
  exact h1 j (by omega) (by omega)
 have h4 : eL l = eL (l.take i ++ l[i] :: l.drop (i + 1)):=congrArg eL e
 rw [h4,eL_app,eL_cons,h3,eF_0]
 unfold eF; rw [if_neg h2]
theorem txFirst {l:List Int} {p n : Nat} (hn : n = l.length) (hln : l.length ≤ 100) (hs : sat h (pto p (.row 1 (l.map fun x => [.int .i64 x]) n) :: F)) : Triple Tryz.prog 184 [.arr p 1 0 n n] h (fun r h => r = .int .i64 (eL l)∧sat h F):=by
 subst hn
 refine t184 (Nat.le_of_ble_eq_true rfl) ?_
 simp (disch:=omega) only [F184,go_sem,simprocAttr]
 refine run_up (N:=l.length) (fun i e h => (∀ j (hj : j < l.length),j < i → l[j] = 0)∧sat h (pto p (.row 1 (l.map fun x => [.int .i64 x]) l.length) :: F)∧(e 5 = .arr p 1 0 l.length l.length∧e 6 = .int .i64 l.length∧e 7 = .int .i64 i)) ⟨fun j _ h => by omega,hs,by simp [Env.upd_apply,initE]⟩ ?_
 clear hs
 rintro i e h hi ⟨hno,hs,he⟩
 have m1 : (i:Int) + 1 = ((i + 1 : Nat) : Int):=by omega
 by_cases hil : i < l.length
 ·have c1 : ((i:Int) < l.length) = True:=by simp; omega
  have hp:=hs.at
  have hrow : (l.map fun x => [AV.int .i64 x])[i]? = some [.int .i64 l[i]]:=by simp [hil]
  by_cases h0 : l[i] = 0
  ·rw [h0] at hrow
   simp (disch:=omega) only [go_sem,simprocAttr,he,c1,hp,hrow,Int.toNat_natCast,m1]
   refine ⟨hil,fun j hj hji => ?_,hs⟩
   by_cases hjj : j = i
   ·subst hjj; exact h0
   ·exact hno j hj (by omega)
  ·have c2 : (l[i] != 0) = true:=by simpa using h0
   have e1:=eL_first hil hno h0
   simp (disch:=omega) only [go_sem,simprocAttr,he,c1,hp,hrow,Int.toNat_natCast,c2]
   exact ⟨by rw [e1],hs.drop⟩
 ·have c1 : ((i:Int) < l.length) = False:=by simp; omega
  simp (disch:=omega) only [go_sem,simprocAttr,he,c1]
  refine ⟨?_,hs.drop⟩
  rw [eL_zero.2]
  intro x hx
  obtain ⟨j,hj,rfl⟩:=List.getElem_of_mem hx
  exact hno j hj (by omega)
theorem txFirst2 {a b : Int} {p:Nat} (hs : sat h (pto p (.row 1 [[.int .i64 a],[.int .i64 b]] 2) :: F)) : Triple Tryz.prog 184 [.arr p 1 0 2 2] h (fun r h => r = .int .i64 (eF a b)∧sat h F):=by
 have:=txFirst (l:=[a,b]) (n:=2) rfl (by simp) hs
 rwa [show eL [a,b] = eF a b from by unfold eL; simp only [List.foldl_cons,List.foldl_nil,eF_0]] at this
theorem txFirst3 {a b c : Int} {p:Nat} (hs : sat h (pto p (.row 1 [[.int .i64 a],[.int .i64 b],[.int .i64 c]] 3) :: F)) : Triple Tryz.prog 184 [.arr p 1 0 3 3] h (fun r h => r = .int .i64 (eF (eF a b) c)∧sat h F):=by
 have:=txFirst (l:=[a,b,c]) (n:=3) rfl (by simp) hs
 rwa [show eL [a,b,c] = eF (eF a b) c from by unfold eL; simp only [List.foldl_cons,List.foldl_nil,eF_0]] at this
theorem txMust {b:Bool} {x:Int} (hs : sat h F) : Triple Tryz.prog 187 [.bool b,.int .i64 x] h (fun r h => r = .int .i64 (if b = true then 0 else x)∧sat h F):=by
 refine t187 (Nat.le_of_ble_eq_true rfl) ?_
 simp (disch:=omega) only [F187,go_sem,simprocAttr]
 cases b
 ·simp (disch:=omega) only [go_sem,simprocAttr]
  exact hs
 ·simp (disch:=omega) only [go_sem,simprocAttr]
  exact hs
theorem txKey {k:Key} (hs : sat h F) : Triple Tryz.prog 208 [.str k] h (fun r h => r = .bool (tKey k)∧sat h F):=by
 have e1 : (k != []) = !(k == []):=rfl
 have e2 : decide ((k.length : Int) ≤ 100) = decide (k.length ≤ 100):=by rw [decide_eq_decide]; omega
 refine t208 (Nat.le_of_ble_eq_true rfl) ?_
 simp (disch:=omega) only [F208,go_sem,simprocAttr]
 unfold tKey
 cases hk : k == []
 ·rw [hk,Bool.not_false] at e1
  simp (disch:=omega) only [go_sem,simprocAttr,e1,e2]
  exact hs
 ·rw [hk,Bool.not_true] at e1
  simp (disch:=omega) only [go_sem,simprocAttr,e1]
  exact ⟨rfl,hs⟩
theorem txIf {c:If9} (hs : sat h F) : Triple Tryz.prog 185 [.agg c.row] h (fun r h => r = .int .i64 (tIf c)∧sat h F):=by
 refine t185 (Nat.le_of_ble_eq_true rfl) ?_
 simp (disch:=omega) only [F185,If9.row,go_sem,simprocAttr]
 refine new_opq hs fun p h hs => ?_
 have hp:=hs.at
 simp (disch:=omega) only [go_sem,simprocAttr,hp]
 refine call_use' (txKey (k:=c.key) hs) ?_
 rintro r h ⟨hr,hs⟩
 subst hr
 have hp:=hs.at
 simp (disch:=omega) only [go_sem,simprocAttr,hp]
 refine call_use' (txMust hs) ?_
 rintro r h ⟨hr,hs⟩
 subst hr
 have hp:=hs.at
 have fin : tIf c = eF (if tKey c.key = true then 0 else 1) (if 0 ≤ c.tgt∧c.tgt ≤ 4∧0 ≤ c.sign∧c.sign ≤ 3 then 0 else 3):=by
  unfold tIf eF
  cases hk : tKey c.key <;> simp
 by_cases a1 : 0 ≤ c.tgt <;> by_cases a2 : c.tgt ≤ 4 <;> by_cases a3 : 0 ≤ c.sign <;> by_cases a4 : c.sign ≤ 3
 all_goals
  simp (disch:=omega) only [go_sem,simprocAttr,hp,a1,a2,a3,a4,ge_iff_le]
  refine call_use (txMust hs) ?_
  rintro r h ⟨hr,hs⟩
  subst hr
  simp (disch:=omega) only [go_sem,simprocAttr]
  refine new_opq hs fun q h hs => ?_
  simp (disch:=omega) only [go_sem,simprocAttr]
  refine call_use (txFirst2 hs) ?_
  rintro r h ⟨hr,hs⟩
  subst hr
  simp (disch:=omega) only [go_sem,simprocAttr]
  refine ⟨?_,hs.drop⟩
  rw [fin]
  simp [a1,a2,a3,a4]
theorem txOp {o:Op9} (hs : sat h F) (ho : o.val.length ≤ 9000000000) : Triple Tryz.prog 186 [.agg o.row] h (fun r h => r = .int .i64 (tOp o)∧sat h F):=by
 have ek : (o.fin == []) = decide (o.fin = []):=by
  rw [Bool.eq_iff_iff]; simp
 have ev : decide ((o.val.length : Int) ≤ 4096) = decide (o.val.length ≤ 4096):=by rw [decide_eq_decide]; omega
 refine t186 (Nat.le_of_ble_eq_true rfl) ?_
 simp (disch:=omega) only [F186,Op9.row,go_sem,simprocAttr]
 refine new_opq hs fun p h hs => ?_
 have hp:=hs.at
 simp (disch:=omega) only [go_sem,simprocAttr,hp]
 refine cnd_join1 (Q:=fun e h => sat h (pto p (.row 6 [[.int .i64 o.kind,.str o.key,.str o.fin,.str o.val,.int .i64 o.lease,.int .i64 o.lim]] 1) :: F)∧(e 1 = .ptr p 6 0 0∧e 3 = .int .i64 (eF (if 0 ≤ o.kind∧o.kind ≤ 2 then 0 else 3) (if tKey o.key = true∧(o.fin = [] ∨ ltK o.key o.fin = true) then 0 else 1)))) ?_ ?_
 ·by_cases a1 : 0 ≤ o.kind <;> by_cases a2 : o.kind ≤ 2
  all_goals
   simp (disch:=omega) only [go_sem,simprocAttr,hp,a1,a2,ge_iff_le]
   refine call_use' (txMust hs) ?_
   rintro r h ⟨hr,hs⟩
   subst hr
   have hp:=hs.at
   simp (disch:=omega) only [go_sem,simprocAttr,hp]
   refine call_use (txKey (k:=o.key) hs) ?_
   rintro r h ⟨hr,hs⟩
   subst hr
   have hp:=hs.at
   cases hk : tKey o.key <;> cases ef : o.fin == [] <;> cases hl : ltK o.key o.fin
   all_goals
    have hf:=ef
    simp only [beq_iff_eq,beq_eq_false_iff_ne,ne_eq] at hf
    simp (disch:=omega) only [go_sem,simprocAttr,hp,gtK,hl,ef]
    refine call_use (txMust hs) ?_
    rintro r h ⟨hr,hs⟩
    subst hr
    simp (disch:=omega) only [go_sem,simprocAttr]
    refine new_opq hs fun q h hs => ?_
    simp (disch:=omega) only [go_sem,simprocAttr]
    refine call_use (txFirst2 hs) ?_
    rintro r h ⟨hr,hs⟩
    subst hr
    simp (disch:=omega) only [go_sem,simprocAttr]
    refine ⟨hs,?_⟩
    simp [a1,a2,hl,hf]
 clear hs hp
 rintro e h ⟨hs,he⟩
 have hp:=hs.at
 obtain ⟨E,hE⟩ : ∃ E,eF (if 0 ≤ o.kind∧o.kind ≤ 2 then 0 else 3) (if tKey o.key = true∧(o.fin = [] ∨ ltK o.key o.fin = true) then 0 else 1) = E:=⟨_,rfl⟩
 rw [hE] at he
 have fin : tOp o = if o.kind = 0 then eF (eF E (if o.fin = []∧0 ≤ o.lease then 0 else 1)) (if o.val.length ≤ 4096 then 0 else 5) else E:=by
  rw [← hE]
  unfold tOp eF
  by_cases b1 : 0 ≤ o.kind∧o.kind ≤ 2 <;> cases b2 : tKey o.key <;> by_cases b3 : o.fin = [] <;> cases b4 : ltK o.key o.fin <;> by_cases b5 : o.kind = 0 <;> by_cases b6 : 0 ≤ o.lease <;> by_cases b7 : o.val.length ≤ 4096 <;> simp [b1,b2,b3,b4,b5,b6,b7] <;> omega
 by_cases h0 : o.kind = 0
 ·have c0 : (o.kind == 0) = true:=by simpa using h0
  rw [if_pos h0] at fin
  cases ef : o.fin == [] <;> by_cases hl : 0 ≤ o.lease
  all_goals
   have hf:=ef
   simp only [beq_iff_eq,beq_eq_false_iff_ne,ne_eq] at hf
   simp (disch:=omega) only [go_sem,simprocAttr,he,hp,c0,hl,ef,ge_iff_le]
   refine call_use' (txMust hs) ?_
   rintro r h ⟨hr,hs⟩
   subst hr
   have hp:=hs.at
   simp (disch:=omega) only [go_sem,simprocAttr,he,hp,ev]
   refine call_use (txMust hs) ?_
   rintro r h ⟨hr,hs⟩
   subst hr
   simp (disch:=omega) only [go_sem,simprocAttr,he]
   refine new_opq hs fun q h hs => ?_
   simp (disch:=omega) only [go_sem,simprocAttr]
   refine call_use (txFirst3 hs) ?_
   rintro r h ⟨hr,hs⟩
   subst hr
   simp (disch:=omega) only [go_sem,simprocAttr]
   refine ⟨?_,hs.drop⟩
   rw [fin]
   simp [hf,hl]
 ·have c0 : (o.kind == 0) = false:=by simpa using h0
  rw [if_neg h0] at fin
  simp (disch:=omega) only [go_sem,simprocAttr,he,hp,c0]
  exact ⟨by rw [fin],hs.drop⟩
end
end Go.Proofs.YtmhbnkjajkcmkaaGreat
/- Transactions: a key that is changed twice; what is wrong with a transaction. -/
set_option maxRecDepth 10000
namespace Go.Proofs.YtmhbnkjajkcmkaaGreat
open Go.Hz
section
variable {h:Hp} {F:List Asr}
theorem op_len (l:List Op9) : ∀ e ∈ l.map Op9.row,e.length = 6:=by
 intro e he
 obtain ⟨k,_,rfl⟩:=List.mem_map.1 he
 rfl
theorem if_len (l:List If9) : ∀ e ∈ l.map If9.row,e.length = 5:=by
 intro e he
 obtain ⟨k,_,rfl⟩:=List.mem_map.1 he
 rfl
theorem op_at {v:AV} {l:List Op9} (hE:Els h 6 v (l.map Op9.row)) {i:Nat} (hi : i < l.length) : ∃ q,iaA 6 v (.int .i64 (i:Int)) = some q∧cellsAt h q = some l[i].row:=by
 obtain ⟨q,h1,h2⟩:=Els.at hE (k:=.i64) (i:=i) (by simpa using hi) (op_len l)
 exact ⟨q,h1,by rw [h2]; simp⟩
theorem if_at {v:AV} {l:List If9} (hE:Els h 5 v (l.map If9.row)) {i:Nat} (hi : i < l.length) : ∃ q,iaA 5 v (.int .i64 (i:Int)) = some q∧cellsAt h q = some l[i].row:=by
 obtain ⟨q,h1,h2⟩:=Els.at hE (k:=.i64) (i:=i) (by simpa using hi) (if_len l)
 exact ⟨q,h1,by rw [h2]; simp⟩
theorem txInside {k:Key} {o:Op9} (hs : sat h F) : Triple Tryz.prog 209 [.str k,.agg o.row] h (fun r h => r = .bool (tIn k o)∧sat h F):=by
 have e1 : (o.fin != []) = !(o.fin == []):=rfl
 have e2 : Op.bytesLess k o.fin = ltK k o.fin:=rfl
 refine t209 (Nat.le_of_ble_eq_true rfl) ?_
 simp (disch:=omega) only [F209,Op9.row,go_sem,simprocAttr]
 refine new_opq hs fun p h hs => ?_
 have hp:=hs.at
 unfold tIn
 cases b1 : k == o.key <;> cases b2 : o.fin == [] <;> cases b3 : ltK o.key k <;> cases b4 : ltK k o.fin
 all_goals
  simp only [b2,Bool.not_true,Bool.not_false] at e1
  have e3:=gtK (a:=k) (b:=o.key)
  rw [b1,b3] at e3
  simp (disch:=omega) only [go_sem,simprocAttr,hp,b1,e1,e3,b4,e2]
  first | exact hs.drop | exact ⟨rfl,hs.drop⟩
theorem txTwice {v:AV} {l:List Op9} (hs : sat h F) (hE:∀ h,sat h F → Els h 6 v (l.map Op9.row)) (hl : l.length ≤ 1000000) : Triple Tryz.prog 188 [v] h (fun r h => r = .bool (tTwice l)∧sat h F):=by
 have lenV:=(hE h hs).len
 rw [List.length_map] at lenV
 refine t188 (Nat.le_of_ble_eq_true rfl) ?_
 simp (disch:=omega) only [F188,lenV,go_sem,simprocAttr]
 refine run_up (N:=l.length) (fun i e h => (∀ a b (ha : a < l.length) (hb : b < l.length),a < i → a ≠ b → tTwo l[a] l[b] = false)∧sat h F∧(e 0 = v∧e 7 = v∧e 8 = .int .i64 l.length∧e 9 = .int .i64 i)) ⟨fun a b _ _ h => by omega,hs,by simp [Env.upd_apply,initE]⟩ ?_
 clear hs
 rintro i e h hi ⟨hno,hs,he⟩
 have m1 : (i:Int) + 1 = ((i + 1 : Nat) : Int):=by omega
 by_cases hil : i < l.length
 ·have c1 : ((i:Int) < l.length) = True:=by simp; omega
  obtain ⟨q,hq1,hq2⟩:=op_at (hE h hs) hil
  have ht:=fun b (hb : b < l.length) (hn : i ≠ b) (h2 : tTwo l[i] l[b] = true) => tTwice_t hil hb hn h2
  have hno2 : (∀ b (hb : b < l.length),i ≠ b → tTwo l[i] l[b] = false) → ∀ a b (ha : a < l.length) (hb : b < l.length),a < i + 1 → a ≠ b → tTwo l[a] l[b] = false:=by
   intro hh a b ha hb hai hab
   by_cases h1 : a = i
   ·subst h1; exact hh b hb hab
   ·exact hno a b ha hb (by omega) hab
  obtain ⟨x,hx⟩ : ∃ x,x = l[i]:=⟨_,rfl⟩
  rw [← hx] at hq2 ht hno2
  simp (disch:=omega) only [go_sem,simprocAttr,he,c1,hq1,hq2,Op9.row]
  refine new_opq hs fun p h hs => ?_
  have hp:=hs.at
  have hs2:=hs.set (o':=.row 6 [x.row] 1)
  have hp2:=hs2.at
  simp only [Op9.row] at hs2 hp2
  simp (disch:=omega) only [go_sem,simprocAttr,he,hp,hp2,lenV]
  generalize Hp.set h p _ = h2 at hs2 hp2 ⊢
  refine blk_join (Q:=fun e h => (∀ b (hb : b < l.length),i ≠ b → tTwo x l[b] = false)∧sat h F∧(e 0 = v∧e 7 = v∧e 8 = .int .i64 l.length∧e 9 = .int .i64 i)) ?_ ?_
  ·refine run_up (N:=l.length) (fun k e h => (∀ b (hb : b < l.length),b < k → i ≠ b → tTwo x l[b] = false)∧sat h (pto p (.row 6 [[.int .i64 x.kind,.str x.key,.str x.fin,.str x.val,.int .i64 x.lease,.int .i64 x.lim]] 1) :: F)∧(e 0 = v∧e 3 = .int .i64 i∧e 4 = .ptr p 6 0 0∧e 7 = v∧e 8 = .int .i64 l.length∧e 9 = .int .i64 i∧e 14 = v∧e 15 = .int .i64 l.length∧e 16 = .int .i64 k)) ⟨fun b _ h => by omega,hs2,by simp [Env.upd_apply,he]⟩ ?_
   clear hs hs2 hp hp2 he
   rintro k e h hk ⟨hnk,hs,he⟩
   have m2 : (k:Int) + 1 = ((k + 1 : Nat) : Int):=by omega
   by_cases hkl : k < l.length
   ·have c2 : ((k:Int) < l.length) = True:=by simp; omega
    obtain ⟨q,hq1,hq2⟩:=op_at (hE h hs.drop) hkl
    have htk:=ht k hkl
    have hnk2 : (i ≠ k → tTwo x l[k] = false) → ∀ b (hb : b < l.length),b < k + 1 → i ≠ b → tTwo x l[b] = false:=by
     intro hh b hb hbk hib
     by_cases h1 : b = k
     ·subst h1; exact hh hib
     ·exact hnk b hb (by omega) hib
    generalize l[k] = y at hq2 htk hnk2
    simp (disch:=omega) only [go_sem,simprocAttr,he,c2,hq1,hq2,Op9.row]
    refine new_opq hs fun p2 h hs => ?_
    have hp2:=hs.at
    have hs2:=hs.set (o':=.row 6 [y.row] 1)
    simp only [Op9.row] at hs2
    have hp3:=hs2.at
    have hp:=hs2.p1.at
    simp (disch:=omega) only [go_sem,simprocAttr,he,hp2,hp3,hp]
    generalize Hp.set h p2 _ = h2 at hs2 hp hp3 ⊢
    have hb1 : ((i:Int) != (k:Int)) = (i != k):=by rw [Bool.eq_iff_iff]; simp; omega
    cases b1 : i != k <;> cases b2 : x.kind == 0 <;> cases b3 : y.kind != 2
    all_goals
     rw [b1] at hb1
     have hb2 : decide (x.kind = 0) = (x.kind == 0):=by rw [Bool.eq_iff_iff]; simp
     have hb3 : (!decide (y.kind = 2)) = (y.kind != 2):=by rw [Bool.eq_iff_iff]; simp
     rw [b2] at hb2
     rw [b3] at hb3
     have htw : tTwo x y = (decide (x.kind = 0) && (!decide (y.kind = 2) && tIn x.key y)):=rfl
     rw [hb2,hb3] at htw
     simp (disch:=omega) only [go_sem,simprocAttr,he,hb1,b2,b3,hp,hp3,m2]
    all_goals first
     | exact ⟨hkl,hnk2 (fun hh => by first | (rw [htw]; rfl) | (simp at b1; exact absurd b1 hh)),hs2.drop⟩
     | skip
    refine call_use (txInside (k:=x.key) (o:=y) hs2) ?_
    rintro r h ⟨hr,hs⟩
    subst hr
    have hik : i ≠ k:=by simpa using b1
    cases b4 : tIn x.key y with
    | true =>
     rw [b4] at htw
     simp (disch:=omega) only [go_sem,simprocAttr,he]
     exact ⟨by rw [htk hik htw],hs.drop.drop⟩
    | false =>
     rw [b4] at htw
     simp (disch:=omega) only [go_sem,simprocAttr,he,m2]
     exact ⟨hkl,hnk2 (fun _ => htw),hs.drop⟩
   ·have c2 : ((k:Int) < l.length) = False:=by simp; omega
    simp (disch:=omega) only [go_sem,simprocAttr,he,c2]
    exact ⟨fun b hb hib => hnk b hb (by omega) hib,hs.drop⟩
  clear hs hs2 hp hp2 he
  rintro e h ⟨hnk,hs,he⟩
  simp (disch:=omega) only [go_sem,simprocAttr,he,m1]
  exact ⟨hil,hno2 hnk,hs⟩
 ·have c1 : ((i:Int) < l.length) = False:=by simp; omega
  simp (disch:=omega) only [go_sem,simprocAttr,he,c1]
  exact ⟨by rw [tTwice_f fun a b ha hb hab => hno a b ha hb (by omega) hab],hs⟩
theorem txCheck {t:Tx9} {v1 v2 v3 : AV} (hs : sat h F) (h1:∀ h,sat h F → Els h 5 v1 (t.ifs.map If9.row)) (h2:∀ h,sat h F → Els h 6 v2 (t.thn.map Op9.row)) (h3:∀ h,sat h F → Els h 6 v3 (t.els.map Op9.row))
  (l1 : t.ifs.length ≤ 1000000000) (l2 : t.thn.length ≤ 1000000000) (l3 : t.els.length ≤ 1000000000) (hv:∀ o ∈ t.thn ++ t.els,o.val.length ≤ 9000000000) : Triple Tryz.prog 145 [.agg [v1,v2,v3]] h (fun r h => r = .int .i64 (tCheck t)∧sat h F):=by
 have len1:=(h1 h hs).len
 have len2:=(h2 h hs).len
 have len3:=(h3 h hs).len
 have a1:=(h1 h hs).atom
 have a2:=(h2 h hs).atom
 have a3:=(h3 h hs).atom
 rw [List.length_map] at len1 len2 len3
 refine t145 (Nat.le_of_ble_eq_true rfl) ?_
 simp (disch:=omega) only [F145,a1,a2,a3,go_sem,simprocAttr]
 refine new_opq hs fun p h hs => ?_
 have hp:=hs.at
 simp (disch:=omega) only [go_sem,simprocAttr,hp,len1]
 by_cases c1 : 32 < t.ifs.length ∨ 32 < t.thn.length ∨ 32 < t.els.length
 ·have hc : tCheck t = 4:=by unfold tCheck; rw [if_pos c1]
  rw [hc]
  by_cases d1 : 32 < t.ifs.length
  ·have e1 : decide ((t.ifs.length : Int) > 32) = true:=by simp; omega
   simp (disch:=omega) only [go_sem,simprocAttr,e1]
   exact hs.drop
  have e1 : decide ((t.ifs.length : Int) > 32) = false:=by simp; omega
  by_cases d2 : 32 < t.thn.length
  ·have e2 : decide ((t.thn.length : Int) > 32) = true:=by simp; omega
   simp (disch:=omega) only [go_sem,simprocAttr,e1,hp,len2,e2]
   exact hs.drop
  have e2 : decide ((t.thn.length : Int) > 32) = false:=by simp; omega
  have e3 : decide ((t.els.length : Int) > 32) = true:=by simp; omega
  simp (disch:=omega) only [go_sem,simprocAttr,e1,hp,len2,e2,len3,e3]
  exact hs.drop
 have e1 : decide ((t.ifs.length : Int) > 32) = false:=by simp; omega
 have e2 : decide ((t.thn.length : Int) > 32) = false:=by simp; omega
 have e3 : decide ((t.els.length : Int) > 32) = false:=by simp; omega
 have hc : tCheck t = eF (tBad t) (if tTwice t.thn = true ∨ tTwice t.els = true then 18 else 0):=by unfold tCheck; rw [if_neg c1]
 simp (disch:=omega) only [go_sem,simprocAttr,e1,hp,len2,e2,len3,e3,len1]
 have dp:=Els.cells (h2 h hs.drop)
 have dq:=Els.cells (h3 h hs.drop)
 refine blk_join (Q:=fun e h => sat h (pto p (.row 3 [[v1,v2,v3]] 1) :: F)∧(e 1 = .ptr p 3 0 0∧e 3 = .int .i64 (eL (t.ifs.map tIf)))) ?_ ?_
 ·refine run_up (N:=t.ifs.length) (fun i e h => sat h (pto p (.row 3 [[v1,v2,v3]] 1) :: F)∧(e 1 = .ptr p 3 0 0∧e 3 = .int .i64 (eL ((t.ifs.take i).map tIf))∧e 27 = v1∧e 28 = .int .i64 t.ifs.length∧e 29 = .int .i64 i)) ⟨hs,by simp [Env.upd_apply,initE,eL]⟩ ?_
  clear hs hp
  rintro i e h hi ⟨hs,he⟩
  have m1 : (i:Int) + 1 = ((i + 1 : Nat) : Int):=by omega
  by_cases hil : i < t.ifs.length
  ·have c2 : ((i:Int) < t.ifs.length) = True:=by simp; omega
   obtain ⟨q,hq1,hq2⟩:=if_at (h1 h hs.drop) hil
   have hst : eL ((t.ifs.take (i + 1)).map tIf) = eF (eL ((t.ifs.take i).map tIf)) (tIf t.ifs[i]):=by
    rw [List.take_succ_eq_append_getElem hil,List.map_append,List.map_cons,List.map_nil,eL_snoc]
   rw [hst]
   generalize t.ifs[i] = x at hq2
   simp (disch:=omega) only [go_sem,simprocAttr,he,c2,hq1,hq2,If9.row]
   refine new_opq hs fun a h hs => ?_
   have ha:=hs.at
   have hs3:=hs.set (o':=.row 5 [x.row] 1)
   have ha3:=hs3.at
   simp only [If9.row] at hs3 ha3
   simp (disch:=omega) only [go_sem,simprocAttr,he,ha,ha3]
   refine call_use (txIf (c:=x) hs3.drop) ?_
   rintro r h ⟨hr,hs⟩
   subst hr
   simp (disch:=omega) only [go_sem,simprocAttr,he]
   refine new_opq hs fun b h hs => ?_
   simp (disch:=omega) only [go_sem,simprocAttr]
   refine call_use (txFirst2 hs) ?_
   rintro r h ⟨hr,hs⟩
   subst hr
   simp (disch:=omega) only [go_sem,simprocAttr,he,m1]
   exact ⟨hil,hs⟩
  ·have c2 : ((i:Int) < t.ifs.length) = False:=by simp; omega
   rw [List.take_of_length_le (by omega)] at he
   simp (disch:=omega) only [go_sem,simprocAttr,he,c2]
   exact hs
 clear hs hp
 rintro e h ⟨hs,he⟩
 have hp:=hs.at
 obtain ⟨E0,hE0⟩ : ∃ E0,eL (t.ifs.map tIf) = E0:=⟨_,rfl⟩
 rw [hE0] at he
 obtain ⟨T1,hT1⟩ : ∃ E0,eL (t.thn.map tOp) = E0:=⟨_,rfl⟩
 obtain ⟨T2,hT2⟩ : ∃ E0,eL (t.els.map tOp) = E0:=⟨_,rfl⟩
 have hbad : tBad t = eF (eF E0 T1) T2:=by rw [tBad_eq,hE0,hT1,hT2,eF_assoc]
 simp (disch:=omega) only [go_sem,simprocAttr,he,hp,dp,dq,a2,a3]
 refine new_opq hs fun r h hs => ?_
 simp (disch:=omega) only [go_sem,simprocAttr]
 obtain ⟨EE,hEE⟩ : ∃ EE : Nat → Int,EE = fun i => if i = 0 then E0 else if i = 1 then eF E0 T1 else eF (eF E0 T1) T2:=⟨_,rfl⟩
 refine blk_join (Q:=fun e h => sat h (pto p (.row 3 [[v1,v2,v3]] 1) :: F)∧(e 1 = .ptr p 3 0 0∧e 3 = .int .i64 (tBad t))) ?_ ?_
 ·refine run_up (N:=2) (fun i e h => sat h (pto r (.row 1 [[v2],[v3]] 2) :: pto p (.row 3 [[v1,v2,v3]] 1) :: F)∧(e 1 = .ptr p 3 0 0∧e 3 = .int .i64 (EE i)∧e 43 = .arr r 1 0 2 2∧e 44 = .int .i64 2∧e 45 = .int .i64 i)) ⟨hs,by simp [Env.upd_apply,he,hEE]⟩ ?_
  clear hs hp he
  rintro i e h hi ⟨hs,he⟩
  have m1 : (i:Int) + 1 = ((i + 1 : Nat) : Int):=by omega
  by_cases hil : i < 2
  ·have c2 : ((i:Int) < 2) = True:=by simp; omega
   obtain ⟨v,l,hr,hE,hll,hst,hlv,lenV,aV⟩ : ∃ (v:AV) (l:List Op9),([[v2],[v3]] : List (List AV))[i]? = some [v]∧(∀ h,sat h F → Els h 6 v (l.map Op9.row))∧l.length ≤ 32∧EE (i + 1) = eF (EE i) (eL (l.map tOp))∧(∀ o ∈ l,o.val.length ≤ 9000000000)∧lenL v = some (.int .i64 l.length)∧v.isAtom = true:=by
    rcases (show i = 0 ∨ i = 1 by omega) with rfl | rfl
    ·exact ⟨v2,t.thn,rfl,h2,by omega,by rw [hEE,hT1]; rfl,fun o ho => hv o (List.mem_append_left _ ho),len2,a2⟩
    ·exact ⟨v3,t.els,rfl,h3,by omega,by rw [hEE,hT2]; rfl,fun o ho => hv o (List.mem_append_right _ ho),len3,a3⟩
   have hr2:=hs.at
   rw [hst]
   simp (disch:=omega) only [go_sem,simprocAttr,he,c2,hr2,hr,Int.toNat_natCast,lenV]
   refine blk_join (Q:=fun e h => sat h (pto r (.row 1 [[v2],[v3]] 2) :: pto p (.row 3 [[v1,v2,v3]] 1) :: F)∧(e 1 = .ptr p 3 0 0∧e 3 = .int .i64 (eF (EE i) (eL (l.map tOp)))∧e 43 = .arr r 1 0 2 2∧e 44 = .int .i64 2∧e 45 = .int .i64 i)) ?_ ?_
   ·refine run_up (N:=l.length) (fun k e h => sat h (pto r (.row 1 [[v2],[v3]] 2) :: pto p (.row 3 [[v1,v2,v3]] 1) :: F)∧(e 1 = .ptr p 3 0 0∧e 3 = .int .i64 (eF (EE i) (eL ((l.take k).map tOp)))∧e 43 = .arr r 1 0 2 2∧e 44 = .int .i64 2∧e 45 = .int .i64 i∧e 49 = v∧e 50 = .int .i64 l.length∧e 51 = .int .i64 k)) ⟨hs,by simp [Env.upd_apply,he,eL,eF_r]⟩ ?_
    clear hs he hr2
    rintro k e h hk ⟨hs,he⟩
    have m2 : (k:Int) + 1 = ((k + 1 : Nat) : Int):=by omega
    by_cases hkl : k < l.length
    ·have c3 : ((k:Int) < l.length) = True:=by simp; omega
     obtain ⟨q,hq1,hq2⟩:=op_at (hE h hs.drop.drop) hkl
     have hst : eF (EE i) (eL ((l.take (k + 1)).map tOp)) = eF (eF (EE i) (eL ((l.take k).map tOp))) (tOp l[k]):=by
      rw [List.take_succ_eq_append_getElem hkl,List.map_append,List.map_cons,List.map_nil,eL_snoc,eF_assoc]
     rw [hst]
     have hvl:=hlv _ (List.getElem_mem hkl)
     generalize l[k] = x at hq2 hvl
     simp (disch:=omega) only [go_sem,simprocAttr,he,c3,hq1,hq2,Op9.row]
     refine new_opq hs fun a h hs => ?_
     have ha:=hs.at
     have hs3:=hs.set (o':=.row 6 [x.row] 1)
     have ha3:=hs3.at
     simp only [Op9.row] at hs3 ha3
     simp (disch:=omega) only [go_sem,simprocAttr,he,ha,ha3]
     refine call_use (txOp (o:=x) hs3.drop hvl) ?_
     rintro r h ⟨hr,hs⟩
     subst hr
     simp (disch:=omega) only [go_sem,simprocAttr,he]
     refine new_opq hs fun b h hs => ?_
     simp (disch:=omega) only [go_sem,simprocAttr]
     refine call_use (txFirst2 hs) ?_
     rintro r h ⟨hr,hs⟩
     subst hr
     simp (disch:=omega) only [go_sem,simprocAttr,he,m2]
     exact ⟨hkl,hs⟩
    ·have c3 : ((k:Int) < l.length) = False:=by simp; omega
     rw [List.take_of_length_le (by omega)] at he
     simp (disch:=omega) only [go_sem,simprocAttr,he,c3]
     exact hs
   clear hs he hr2
   rintro e h ⟨hs,he⟩
   simp (disch:=omega) only [go_sem,simprocAttr,he,m1]
   exact ⟨hil,hs⟩
  ·have c2 : ((i:Int) < 2) = False:=by simp; omega
   have hi2 : i = 2:=by omega
   subst hi2
   have e2 : EE 2 = tBad t:=by rw [hbad,hEE]; rfl
   rw [e2] at he
   simp (disch:=omega) only [go_sem,simprocAttr,he,c2]
   exact hs.drop
 clear hs hp he
 rintro e h ⟨hs,he⟩
 have hp:=hs.at
 simp (disch:=omega) only [go_sem,simprocAttr,he,hp]
 refine call_use (txTwice (l:=t.thn) hs (fun h hs => h2 h hs.drop) (by omega)) ?_
 rintro r h ⟨hr,hs⟩
 subst hr
 have hp:=hs.at
 rw [hc]
 cases b1 : tTwice t.thn with
 | true =>
  simp (disch:=omega) only [go_sem,simprocAttr,he,hp]
  refine call_use (txMust hs) ?_
  rintro r h ⟨hr,hs⟩
  subst hr
  simp (disch:=omega) only [go_sem,simprocAttr,he]
  refine new_opq hs fun b h hs => ?_
  simp (disch:=omega) only [go_sem,simprocAttr]
  refine call_use (txFirst2 hs) ?_
  rintro r h ⟨hr,hs⟩
  subst hr
  simp (disch:=omega) only [go_sem,simprocAttr]
  exact ⟨by simp,hs.drop⟩
 | false =>
  simp (disch:=omega) only [go_sem,simprocAttr,he,hp]
  refine call_use (txTwice (l:=t.els) hs (fun h hs => h3 h hs.drop) (by omega)) ?_
  rintro r h ⟨hr,hs⟩
  subst hr
  cases b2 : tTwice t.els
  all_goals
   simp (disch:=omega) only [go_sem,simprocAttr,he]
   refine call_use (txMust hs) ?_
   rintro r h ⟨hr,hs⟩
   subst hr
   simp (disch:=omega) only [go_sem,simprocAttr,he]
   refine new_opq hs fun b h hs => ?_
   simp (disch:=omega) only [go_sem,simprocAttr]
   refine call_use (txFirst2 hs) ?_
   rintro r h ⟨hr,hs⟩
   subst hr
   simp (disch:=omega) only [go_sem,simprocAttr]
   exact ⟨by simp,hs.drop⟩
end
end Go.Proofs.YtmhbnkjajkcmkaaGreat
/- Transactions: whether all comparisons hold. -/
set_option maxRecDepth 10000
namespace Go.Proofs.YtmhbnkjajkcmkaaGreat
open Go.Hz
section
variable {h:Hp} {F:List Asr} {s:Nat} {A:Sto} {o:AV}
theorem txCmpI {a b : Int} (hs : sat h F) : Triple Tryz.prog 101 [.int .i64 a,.int .i64 b] h (fun r h => r = .int .i64 (cmpI a b)∧sat h F):=by
 have nan : ∀ (h:Hp) (x:Int),sat h F → Triple Tryz.prog 165 [.int .i64 x] h (fun r h => r = .bool false∧sat h F):=by
  intro h x hs
  refine t165 (Nat.le_of_ble_eq_true rfl) ?_
  simp (disch:=omega) only [F165,go_sem,simprocAttr]
  exact hs
 refine t101 (Nat.le_of_ble_eq_true rfl) ?_
 simp (disch:=omega) only [F101,go_sem,simprocAttr]
 refine call_use (nan _ a hs) ?_
 rintro r h ⟨hr,hs⟩
 subst hr
 simp (disch:=omega) only [go_sem,simprocAttr]
 refine call_use (nan _ b hs) ?_
 rintro r h ⟨hr,hs⟩
 subst hr
 simp (disch:=omega) only [go_sem,simprocAttr]
 unfold cmpI
 refine cnd_dec (fun h1 => ?_) (fun h1 => ?_)
 ·rw [if_pos h1]
  simp (disch:=omega) only [go_sem,simprocAttr]
  exact hs
 ·rw [if_neg h1]
  simp (disch:=omega) only [go_sem,simprocAttr]
  refine cnd_dec (fun h2 => ?_) (fun h2 => ?_)
  ·rw [if_pos h2]
   simp (disch:=omega) only [go_sem,simprocAttr]
   exact hs
  ·rw [if_neg h2]
   simp (disch:=omega) only [go_sem,simprocAttr]
   exact hs
theorem txCmpS {a b : Key} (hs : sat h F) : Triple Tryz.prog 210 [.str a,.str b] h (fun r h => r = .int .i64 (cmpK a b)∧sat h F):=by
 have nan : ∀ (h:Hp) (x:Key),sat h F → Triple Tryz.prog 237 [.str x] h (fun r h => r = .bool false∧sat h F):=by
  intro h x hs
  refine t237 (Nat.le_of_ble_eq_true rfl) ?_
  simp (disch:=omega) only [F237,go_sem,simprocAttr]
  exact hs
 have e1 : Op.bytesLess a b = ltK a b:=rfl
 refine t210 (Nat.le_of_ble_eq_true rfl) ?_
 simp (disch:=omega) only [F210,go_sem,simprocAttr]
 refine call_use (nan _ a hs) ?_
 rintro r h ⟨hr,hs⟩
 subst hr
 simp (disch:=omega) only [go_sem,simprocAttr]
 refine call_use (nan _ b hs) ?_
 rintro r h ⟨hr,hs⟩
 subst hr
 simp (disch:=omega) only [go_sem,simprocAttr]
 unfold cmpK
 have e2:=gtK (a:=a) (b:=b)
 rw [e1] at e2
 cases b1 : ltK a b with
 | true =>
  simp (disch:=omega) only [go_sem,simprocAttr,e1,b1]
  exact hs
 | false =>
  rw [b1] at e2
  cases b2 : ltK b a
  all_goals
   rw [b2] at e2
   simp (disch:=omega) only [go_sem,simprocAttr,e1,b1,e2]
   exact hs
theorem txAgainst {x:Kv} {c:If9} (hs : sat h F) (hc : 0 ≤ c.tgt∧c.tgt ≤ 4) : Triple Tryz.prog 189 [.agg (kvC x),.agg c.row] h (fun r h => r = .int .i64 (tAgainst x c)∧sat h F):=by
 have ht : c.tgt = 4 ∨ c.tgt = 0 ∨ c.tgt = 1 ∨ c.tgt = 2 ∨ c.tgt = 3:=by omega
 refine t189 (Nat.le_of_ble_eq_true rfl) ?_
 simp (disch:=omega) only [F189,kvC,If9.row,go_sem,simprocAttr]
 refine new_opq hs fun p h hs => ?_
 simp (disch:=omega) only [go_sem,simprocAttr]
 refine new_opq hs fun q h hs => ?_
 have hq:=hs.at
 have hp:=hs.p1.at
 rcases ht with ht | ht | ht | ht | ht
 ·simp (disch:=omega) only [go_sem,simprocAttr,hq,hp,ht]
  refine call_use (txCmpS (a:=x.val) (b:=c.text) hs.drop.drop) ?_
  rintro r h ⟨hr,hs⟩
  subst hr
  simp (disch:=omega) only [go_sem,simprocAttr]
  exact ⟨by simp [tAgainst,ht],hs⟩
 all_goals
  simp (disch:=omega) only [go_sem,simprocAttr,hq,hp,ht]
  refine call_use (txCmpI hs.drop.drop) ?_
  rintro r h ⟨hr,hs⟩
  subst hr
  simp (disch:=omega) only [go_sem,simprocAttr]
  exact ⟨by simp [tAgainst,tNum,ht],hs⟩
theorem txHolds {v:AV} {l:List If9} (hs : sat h (StP s A o :: F)) (hE:∀ h,sat h F → Els h 5 v (l.map If9.row)) (hl : l.length ≤ 1000000000) (hz:A.old.length + A.chs.length ≤ 100000000) :
  Triple Tryz.prog 146 [.ptr s 7 0 0,v] h (fun r h => r = .bool (tHolds A.now l)∧sat h (StP s A o :: F)):=by
 have lenV:=(hE h hs.drop).len
 rw [List.length_map] at lenV
 have ok:=MvP.ok hs
 refine t146 (Nat.le_of_ble_eq_true rfl) ?_
 simp (disch:=omega) only [F146,lenV,go_sem,simprocAttr]
 refine run_up (N:=l.length) (fun i e h => (∀ j (hj : j < l.length),j < i → tHold A.now l[j] = true)∧sat h (StP s A o :: F)∧(e 0 = .ptr s 7 0 0∧e 13 = v∧e 14 = .int .i64 l.length∧e 15 = .int .i64 i)) ⟨fun j _ h => by omega,hs,by simp [Env.upd_apply,initE]⟩ ?_
 clear hs
 rintro i e h hi ⟨hno,hs,he⟩
 have m1 : (i:Int) + 1 = ((i + 1 : Nat) : Int):=by omega
 by_cases hil : i < l.length
 ·have c1 : ((i:Int) < l.length) = True:=by simp; omega
  obtain ⟨q,hq1,hq2⟩:=if_at (hE h hs.drop) hil
  have hbad : tHold A.now l[i] = false → tHolds A.now l = false:=fun hh => by
   unfold tHolds
   rw [List.all_eq_false]
   exact ⟨l[i],List.getElem_mem hil,by simp [hh]⟩
  have hgood : tHold A.now l[i] = true → ∀ j (hj : j < l.length),j < i + 1 → tHold A.now l[j] = true:=fun hh j hj hji => by
   by_cases h1 : j = i
   ·subst h1; exact hh
   ·exact hno j hj (by omega)
  generalize l[i] = c at hq2 hbad hgood
  simp (disch:=omega) only [go_sem,simprocAttr,he,c1,hq1,hq2,If9.row]
  refine new_opq hs fun p h hs => ?_
  have hp:=hs.at
  have hs3:=hs.set (o':=.row 5 [c.row] 1)
  have hp3:=hs3.at
  simp only [If9.row] at hs3 hp3
  simp (disch:=omega) only [go_sem,simprocAttr,he,hp,hp3]
  generalize Hp.set h p _ = h2 at hs3 hp3 ⊢
  by_cases t0 : c.tgt < 0
  ·have hh : tHold A.now c = false:=by unfold tHold; rw [decide_eq_false (by omega)]; rfl
   have d0 : decide (c.tgt < 0) = true:=by simpa using t0
   simp (disch:=omega) only [go_sem,simprocAttr,he,d0]
   exact ⟨by rw [hbad hh],hs3.drop⟩
  have d0 : decide (c.tgt < 0) = false:=by simpa using t0
  by_cases t4 : c.tgt > 4
  ·have hh : tHold A.now c = false:=by unfold tHold; rw [decide_eq_false (by omega)]; rfl
   have d4 : decide (c.tgt > 4) = true:=by simpa using t4
   simp (disch:=omega) only [go_sem,simprocAttr,he,d0,hp3,d4]
   exact ⟨by rw [hbad hh],hs3.drop⟩
  have d4 : decide (c.tgt > 4) = false:=by simpa using t4
  have hc : 0 ≤ c.tgt∧c.tgt ≤ 4:=by omega
  simp (disch:=omega) only [go_sem,simprocAttr,he,d0,hp3,d4]
  refine new_opq hs3 fun k h hs => ?_
  have hk:=hs.at
  have hs4:=hs.set (o':=.row 6 [kvC kv0] 1)
  simp only [kvC,kv0] at hs4
  have hp4:=hs4.p1.at
  simp (disch:=omega) only [go_sem,simprocAttr,he,hk,hp4]
  generalize Hp.set h k _ = h3 at hs4 hp4 ⊢
  refine call_use (mvRange (lo:=c.key) (hi:=[]) (rev:=0) (lim:=0) (hs4.p1.p1.p2) hz) ?_
  rintro r h ⟨hr,hs⟩
  rw [range_one ok] at hr
  subst hr
  obtain ⟨x,hx⟩ : ∃ x,(kvget A.now c.key).getD kv0 = x:=⟨_,rfl⟩
  have hth : tHold A.now c = tSign c.sign (tAgainst x c):=by
   unfold tHold; rw [decide_eq_true hc,hx]; rfl
  have hk:=hs.p1.at
  simp (disch:=omega) only [go_sem,simprocAttr,he]
  refine cnd_join (Q:=fun e h => sat h (pto k (.row 6 [kvC x] 1) :: pto p (.row 5 [[.str c.key,.int .i64 c.tgt,.int .i64 c.sign,.int .i64 c.n,.str c.text]] 1) :: StP s A o :: F)∧(e 0 = .ptr s 7 0 0∧e 6 = .ptr p 5 0 0∧e 7 = .ptr k 6 0 0∧e 13 = v∧e 14 = .int .i64 l.length∧e 15 = .int .i64 i)) ?_ ?_
  ·cases hg : kvget A.now c.key with
   | none =>
    rw [hg] at hx
    subst hx
    simp (disch:=omega) only [go_sem,simprocAttr,he,Option.toList_none]
    exact (hs.p2.p2)
   | some kv =>
    rw [hg] at hx
    have hx : kv = x:=hx
    subst hx
    have hia : iaA 6 (kvsV [kv]) (.int .i64 0) = some (.ro [.str kv.key,.str kv.val,.int .i64 kv.create,.int .i64 kv.mod,.int .i64 kv.ver,.int .i64 kv.lease]):=by simp [iaA,kvC]
    have hs5:=hs.p1.set (o':=.row 6 [kvC kv] 1)
    simp only [kvC] at hs5
    simp (disch:=omega) only [go_sem,simprocAttr,he,Option.toList_some,kvC,hia,hk]
    exact (hs5.p1.p2.p2)
  clear hs hk hs4 hp4 hs3 hp3 hq1 hq2 he
  rintro e h ⟨hs,he⟩
  have hk:=hs.at
  have hp:=hs.p1.at
  simp only [kvC] at hk
  simp (disch:=omega) only [go_sem,simprocAttr,he,hk,hp]
  refine call_use (txAgainst (x:=x) (c:=c) hs hc) ?_
  rintro r h ⟨hr,hs⟩
  subst hr
  have hp:=hs.p1.at
  have hN:=tAgainst_b (x:=x) (c:=c)
  have hsg : c.sign = 0 ∨ c.sign = 1 ∨ c.sign = 2 ∨ c.sign = 3 ∨ (c.sign ≠ 0∧c.sign ≠ 1∧c.sign ≠ 2∧c.sign ≠ 3):=by omega
  generalize tAgainst x c = N at *
  have hs0 : sat h (StP s A o :: F):=hs.drop.drop
  rcases hsg with hsg | hsg | hsg | hsg | ⟨g0,g1,g2,g3⟩
  rotate_left 4
  ·have d0 : (c.sign == 0) = false:=by simpa using g0
   have d1 : (c.sign == 1) = false:=by simpa using g1
   have d2 : (c.sign == 2) = false:=by simpa using g2
   have d3 : (c.sign == 3) = false:=by simpa using g3
   have hf : tSign c.sign N = false:=by simp [tSign,g0,g1,g2,g3]
   simp (disch:=omega) only [go_sem,simprocAttr,he,hp,d0,d1,d2,d3]
   exact ⟨by rw [hbad (hth.trans hf)],hs0⟩
  all_goals
   rcases hN with rfl | rfl | rfl
  all_goals
   have hth2:=hth
   rw [hsg] at hth2
   simp (disch:=omega) only [go_sem,simprocAttr,he,hp,hsg,m1]
  all_goals first
   | exact ⟨hil,hgood (by rw [hth2]; rfl),hs0⟩
   | exact ⟨by rw [hbad (by rw [hth2]; rfl)],hs0⟩
   | skip
 ·have c1 : ((i:Int) < l.length) = False:=by simp; omega
  simp (disch:=omega) only [go_sem,simprocAttr,he,c1]
  refine ⟨?_,hs⟩
  have : tHolds A.now l = true:=by
   unfold tHolds
   rw [List.all_eq_true]
   intro x hx
   obtain ⟨j,hj,rfl⟩:=List.getElem_of_mem hx
   exact hno j hj (by omega)
  rw [this]
end
end Go.Proofs.YtmhbnkjajkcmkaaGreat
/- Transactions: one operation; all of them. -/
set_option maxRecDepth 10000
namespace Go.Proofs.YtmhbnkjajkcmkaaGreat
open Go.Hz
section
variable {h:Hp} {F:List Asr} {s w : Nat} {A:Sto} {W:Go.Hz.Wr} {o:AV}
theorem res_gv {n x y : AV} {h:Hp} : GV (.tup [.agg [n,.nils],x,y]) h (.tup [.agg [n,.lst []],x,y]) h:=GV.tup [] [x,y] (GV.agg [n] [] GV.nils)
theorem txTold {op:Op9} (hs : sat h (WtP w s A W :: StP s A (.ptr w 4 0 0) :: F)) (hz:A.old.length + A.chs.length + W.l.length ≤ 40000000) (hr:A.rev ≤ 1000000000000000) (hk : 0 ≤ op.kind∧op.kind ≤ 2) :
  Triple Tryz.prog 148 [.ptr w 4 0 0,.agg op.row] h (fun r h => r = .tup [.agg (resC (tStep (A.rev + 1) W op).1.1),.int .i64 (tStep (A.rev + 1) W op).1.2.1,.int .i64 (tStep (A.rev + 1) W op).1.2.2]∧sat h (WtP w s A (tStep (A.rev + 1) W op).2 :: StP s A (.ptr w 4 0 0) :: F)):=by
 have ok:=MvP.ok hs.p1
 have hw:=WrP.ok hs
 have hcl:=cur_le hw
 refine Triple.view ?_
 refine t148 (Nat.le_of_ble_eq_true rfl) ?_
 simp (disch:=omega) only [F148,Op9.row,go_sem,simprocAttr]
 refine new_opq hs fun p h hs => ?_
 have hp:=hs.at
 simp (disch:=omega) only [go_sem,simprocAttr,hp]
 refine new_opq hs fun q h hs => ?_
 have hp:=hs.p1.at
 by_cases k0 : op.kind = 0
 ·have d0 : (op.kind == 0) = true:=by simpa using k0
  have e1 : tStep (A.rev + 1) W op = ((⟨if (kvget W.cur op.key).isSome = true then 1 else 0,[]⟩,0,(wPut (A.rev + 1) W op.key op.val op.lease).1),(wPut (A.rev + 1) W op.key op.val op.lease).2):=by
   unfold tStep; rw [if_pos k0]
  rw [e1]
  simp (disch:=omega) only [go_sem,simprocAttr,hp,d0]
  refine call_use (mvWRng (lo:=op.key) (hi:=[]) (lim:=0) (hs.p1.p1.p3.p3) hz) ?_
  rintro r h ⟨hr2,hs⟩
  rw [rng_one (hw.srt ok)] at hr2
  subst hr2
  have hp:=hs.p3.at
  have hq:=hs.p2.at
  have hN : (((kvget W.cur op.key).toList.length : Nat) : Int) = if (kvget W.cur op.key).isSome = true then 1 else 0:=by
   cases kvget W.cur op.key <;> rfl
  simp (disch:=omega) only [go_sem,simprocAttr,hp,hN]
  refine call_use (mvPut (key:=op.key) (val:=op.val) (lease:=op.lease) hs (by omega) (by omega) (by omega) hr) ?_
  rintro r h ⟨hr2,hs⟩
  subst hr2
  have hq:=hs.p2.at
  have hs5:=hs.p2.set (o':=.row 2 [[.int .i64 (if (kvget W.cur op.key).isSome = true then 1 else 0),.nils]] 1)
  have hq5:=hs5.at
  simp (disch:=omega) only [go_sem,simprocAttr,hq,hq5]
  exact ⟨_,_,res_gv,rfl,hs5.drop.p2.drop.p1.p1⟩
 by_cases k1 : op.kind = 1
 ·have d0 : (op.kind == 0) = false:=by simpa using k0
  have d1 : (op.kind == 1) = true:=by simpa using k1
  have e1 : tStep (A.rev + 1) W op = ((⟨(wDels W ((W.cur.filter fun y => inK op.key op.fin y.key).map Kv.key)).1,[]⟩,0,0),(wDels W ((W.cur.filter fun y => inK op.key op.fin y.key).map Kv.key)).2):=by
   unfold tStep; rw [if_neg k0,if_pos k1]
  rw [e1]
  simp (disch:=omega) only [go_sem,simprocAttr,hp,d0,d1]
  refine call_use (mvDel (lo:=op.key) (hi:=op.fin) (hs.p1.p1.p3.p3) hz) ?_
  rintro r h ⟨ks,hks,hr2,hs⟩
  rw [wkeysSame ok hw hks] at hs hr2
  subst hr2
  have hq:=hs.p2.at
  have hs5:=hs.p2.set (o':=.row 2 [[.int .i64 (wDels W ((W.cur.filter fun y => inK op.key op.fin y.key).map Kv.key)).1,.nils]] 1)
  have hq5:=hs5.at
  simp (disch:=omega) only [go_sem,simprocAttr,hq,hq5]
  exact ⟨_,_,res_gv,rfl,hs5.drop.p2.drop.p1.p1⟩
 have d0 : (op.kind == 0) = false:=by simpa using k0
 have d1 : (op.kind == 1) = false:=by simpa using k1
 have e1 : tStep (A.rev + 1) W op = ((⟨(rngL W.cur op.key op.fin op.lim).2,(rngL W.cur op.key op.fin op.lim).1⟩,kvSize (rngL W.cur op.key op.fin op.lim).1,0),W):=by
  unfold tStep; rw [if_neg k0,if_neg k1]
 rw [e1]
 simp (disch:=omega) only [go_sem,simprocAttr,hp,d0,d1]
 refine call_use (mvWRng (lo:=op.key) (hi:=op.fin) (lim:=op.lim) (hs.p1.p1.p3.p3) hz) ?_
 rintro r h ⟨hr2,hs⟩
 subst hr2
 have hmem:=rngL_mem (l:=W.cur) (lo:=op.key) (hi:=op.fin) (lim:=op.lim)
 have hlen:=rngL_len (l:=W.cur) (lo:=op.key) (hi:=op.fin) (lim:=op.lim)
 generalize rngL W.cur op.key op.fin op.lim = R at hmem hlen ⊢
 have hsm : ∀ x ∈ R.1,x.key.length ≤ 100∧x.val.length ≤ 4096:=fun x hx => ⟨(cur_keys ok hw x (hmem x hx)).2,(cur_num ok hw x (hmem x hx)).2.2.2.2.2.2⟩
 have lenR : lenL (kvsV R.1) = some (.int .i64 R.1.length):=by simp [lenL]
 simp (disch:=omega) only [go_sem,simprocAttr,lenR]
 refine blk_join (Q:=fun e h => sat h (WtP w s A W :: StP s A (.ptr w 4 0 0) :: pto q (.row 2 [[.int .i64 0,.nils]] 1) :: F)∧(e 4 = .ptr q 2 0 0∧e 9 = kvsV R.1∧e 10 = .int .i64 R.2∧e 11 = .int .i64 (kvSize R.1))) ?_ ?_
 ·refine run_up (N:=R.1.length) (fun i e h => sat h (WtP w s A W :: StP s A (.ptr w 4 0 0) :: pto q (.row 2 [[.int .i64 0,.nils]] 1) :: F)∧(e 4 = .ptr q 2 0 0∧e 9 = kvsV R.1∧e 10 = .int .i64 R.2∧e 11 = .int .i64 (kvSize (R.1.take i))∧e 55 = kvsV R.1∧e 56 = .int .i64 R.1.length∧e 57 = .int .i64 i)) ⟨hs.p3.drop.p2.p2.p2,by simp [Env.upd_apply,initE,kvSize]⟩ ?_
  clear hs hp
  rintro i e h hi ⟨hs,he⟩
  have m1 : (i:Int) + 1 = ((i + 1 : Nat) : Int):=by omega
  by_cases hil : i < R.1.length
  ·have c1 : ((i:Int) < R.1.length) = True:=by simp; omega
   have hia:=ia_lst (f:=kvC) (l:=R.1) (i:=i) (s:=6) (k:=.i64) hil (fun _ => rfl)
   have hst : kvSize (R.1.take (i + 1)) = kvSize (R.1.take i) + (R.1[i].key.length + R.1[i].val.length + 40):=by
    unfold kvSize
    rw [List.take_succ_eq_append_getElem hil,List.map_append,List.sum_append]; simp
   have hb:=kvSize_le (l:=R.1.take i) fun x hx => hsm x (List.mem_of_mem_take hx)
   rw [List.length_take] at hb
   have hb2:=hsm _ (List.getElem_mem hil)
   rw [hst]
   generalize R.1[i] = x at hia hb2
   have msz : ((kvSize (R.1.take i) : Nat) : Int) + ((x.key.length : Int) + (x.val.length : Int) + 40) = ((kvSize (R.1.take i) + (x.key.length + x.val.length + 40) : Nat) : Int):=by omega
   simp only [kvC] at hia
   simp (disch:=omega) only [go_sem,simprocAttr,he,c1,hia]
   refine new_opq hs fun a h hs => ?_
   have ha:=hs.at
   have hs3:=hs.set (o':=.row 6 [kvC x] 1)
   simp only [kvC] at hs3
   have ha3:=hs3.at
   simp (disch:=omega) only [go_sem,simprocAttr,he,ha,ha3,msz,m1]
   exact ⟨hil,hs3.drop⟩
  ·have c1 : ((i:Int) < R.1.length) = False:=by simp; omega
   rw [List.take_of_length_le (by omega)] at he
   simp (disch:=omega) only [go_sem,simprocAttr,he,c1]
   exact hs
 clear hs hp
 rintro e h ⟨hs,he⟩
 have hq:=hs.p2.at
 have hs5:=hs.p2.set (o':=.row 2 [[.int .i64 R.2,kvsV R.1]] 1)
 have hq5:=hs5.at
 simp (disch:=omega) only [go_sem,simprocAttr,he,hq,hq5]
 exact ⟨_,_,GV.refl _ _,rfl,hs5.drop.p1.p1⟩
end
end Go.Proofs.YtmhbnkjajkcmkaaGreat
