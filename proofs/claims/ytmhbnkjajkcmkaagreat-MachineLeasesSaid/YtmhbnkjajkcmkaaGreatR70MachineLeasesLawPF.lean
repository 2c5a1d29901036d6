/- Transactions: one is done. -/
import Derived.Test.YtmhbnkjajkcmkaaGreatR70MachineLeasesLawPE
set_option linter.unusedSimpArgs false
set_option linter.unusedVariables false
set_option linter.unusedSectionVars false
set_option maxRecDepth 10000
namespace Go.Proofs.YtmhbnkjajkcmkaaGreat
open Go.Hz
section
variable {h:Hp} {F:List Asr} {s w : Nat} {A:Sto} {W:Go.Hz.Wr} {o lv : AV} {has:Int → Bool}
def HasOK (F:List Asr) (lv:AV) (has:Int → Bool) : Prop := ∀ (id:Int) (h:Hp) (G:List Asr) (K:AV → Hp → Prop),sat h (G ++ F) → (∀ h',sat h' (G ++ F) → K (.bool (has id)) h') → invE Tryz.prog "Has" lv [.int .i64 id] h K
theorem inv_has (hH:HasOK F lv has) {id:Int} {G:List Asr} {st:List Fr} {e:Env} {k:Kt} {d:Option Nat} {r:List (AItem × List AItem)} {obl:List AItem} (hs : sat h (G ++ F))
  (hk:∀ h',sat h' (G ++ F) → obls Tryz.prog obl (e.put d (.bool (has id))) h'∧runS Tryz.prog r st (e.put d (.bool (has id))) h' k) : effR Tryz.prog (invE Tryz.prog "Has" lv [.int .i64 id] h) obl d r st e k:=by
 unfold effR
 exact hH id h G _ hs hk
set_option maxHeartbeats 1000000 in
theorem txDo {t:Tx9} {v1 v2 v3 : AV} (hs : sat h (StP s A o :: F)) (h1:∀ h,sat h F → Els h 5 v1 (t.ifs.map If9.row)) (h2:∀ h,sat h F → Els h 6 v2 (t.thn.map Op9.row)) (h3:∀ h,sat h F → Els h 6 v3 (t.els.map Op9.row))
  (l1 : t.ifs.length ≤ 1000000000) (l2 : t.thn.length ≤ 1000000000) (l3 : t.els.length ≤ 1000000000) (hv:∀ o ∈ t.thn ++ t.els,o.val.length ≤ 9000000000) (hH:HasOK F lv has)
  (hz:A.old.length + A.chs.length + A.now.length ≤ 30000000) (hr:A.rev ≤ 100000000000000) :
  Triple Tryz.prog 88 [.ptr s 7 0 0,lv,.agg [v1,v2,v3]] h (fun r h => ∃ o',r = .tup [.bool (tDo A has t).1.1,ressV (tDo A has t).1.2.1,.int .i64 (tDo A has t).1.2.2]∧sat h (StP s (tDo A has t).2 o' :: F)):=by
 have ok:=MvP.ok hs
 have a1:=(h1 h hs.drop).atom
 have a2:=(h2 h hs.drop).atom
 have a3:=(h3 h hs.drop).atom
 refine Triple.lst2 2 ?_
 refine t88 (Nat.le_of_ble_eq_true rfl) ?_
 simp (disch:=omega) only [F88,a1,a2,a3,go_sem,simprocAttr]
 refine new_opq hs fun p h hs => ?_
 have hp:=hs.at
 simp (disch:=omega) only [go_sem,simprocAttr,hp]
 refine call_use (txCheck (t:=t) (F:=pto p (.row 3 [[v1,v2,v3]] 1) :: StP s A o :: F) hs (fun h g => h1 h g.drop.drop) (fun h g => h2 h g.drop.drop) (fun h g => h3 h g.drop.drop) l1 l2 l3 hv) ?_
 rintro r h ⟨hr2,hs⟩
 subst hr2
 by_cases hc : tCheck t = 0
 rotate_left
 ·have c1 : (tCheck t != 0) = true:=by simpa using hc
  rw [tDo_bad rfl hc]
  simp (disch:=omega) only [go_sem,simprocAttr,c1]
  exact ⟨_,.nils,_,[],_,rfl,hs.drop.add ow_nil,fun h hs => ⟨o,rfl,hs⟩⟩
 have c1 : (tCheck t != 0) = false:=by simpa using hc
 have hp:=hs.at
 have hT:=tCheck_ok hc
 simp (disch:=omega) only [go_sem,simprocAttr,c1,hp]
 refine call_use (txHolds (l:=t.ifs) (F:=pto p (.row 3 [[v1,v2,v3]] 1) :: F) hs.p1 (fun h g => h1 h g.drop) l1 (by omega)) ?_
 rintro r h ⟨hr2,hs⟩
 subst hr2
 have hp:=hs.p1.at
 obtain ⟨ho1,ho2⟩:=tOps_ok (now:=A.now) hT
 obtain ⟨v,hE,hsel⟩ : ∃ v,(∀ h,sat h F → Els h 6 v ((tOps A.now t).map Op9.row))∧v = if tHolds A.now t.ifs = true then v2 else v3:=by
  refine ⟨_,?_,rfl⟩
  unfold tOps
  split
  ·exact h2
  ·exact h3
 have lenV:=(hE h hs.drop.drop).len
 rw [List.length_map] at lenV
 simp (disch:=omega) only [go_sem,simprocAttr,hp]
 refine cnd_join (Q:=fun e h => sat h (StP s A o :: F)∧(e 0 = .ptr s 7 0 0∧e 1 = lv∧e 10 = .bool (tHolds A.now t.ifs)∧e 11 = v)) ?_ ?_
 ·cases b1 : tHolds A.now t.ifs with
  | true =>
   rw [b1,if_pos rfl] at hsel
   subst hsel
   simp (disch:=omega) only [go_sem,simprocAttr,hp,b1]
   exact hs.d1.imp fun _ g => g
  | false =>
   rw [b1,if_neg (by simp)] at hsel
   subst hsel
   simp (disch:=omega) only [go_sem,simprocAttr,hp,b1]
   exact hs.d1
 clear hs hp a1 a2 a3
 rintro e h ⟨hs,he⟩
 obtain ⟨ops,hops⟩ : ∃ ops,tOps A.now t = ops:=⟨_,rfl⟩
 rw [hops] at hE ho1 ho2 lenV
 simp (disch:=omega) only [go_sem,simprocAttr,he,lenV]
 refine blk_join (Q:=fun e h => ops.any (tNoL has) = false∧sat h (StP s A o :: F)∧(e 0 = .ptr s 7 0 0∧e 10 = .bool (tHolds A.now t.ifs)∧e 11 = v)) ?_ ?_
 ·refine run_up (N:=ops.length) (fun i e h => (∀ j (hj : j < ops.length),j < i → tNoL has ops[j] = false)∧sat h (StP s A o :: F)∧(e 0 = .ptr s 7 0 0∧e 1 = lv∧e 10 = .bool (tHolds A.now t.ifs)∧e 11 = v∧e 36 = v∧e 37 = .int .i64 ops.length∧e 38 = .int .i64 i)) ⟨fun j _ h => by omega,hs,by simp [Env.upd_apply,he]⟩ ?_
  clear hs he
  rintro i e h hi ⟨hno,hs,he⟩
  have m1 : (i:Int) + 1 = ((i + 1 : Nat) : Int):=by omega
  by_cases hil : i < ops.length
  ·have c2 : ((i:Int) < ops.length) = True:=by simp; omega
   obtain ⟨q,hq1,hq2⟩:=op_at (hE h hs.drop) hil
   have hbad : tNoL has ops[i] = true → ops.any (tNoL has) = true:=fun hh => List.any_eq_true.2 ⟨_,List.getElem_mem hil,hh⟩
   have hgood : tNoL has ops[i] = false → ∀ j (hj : j < ops.length),j < i + 1 → tNoL has ops[j] = false:=fun hh j hj hji => by
    by_cases h1 : j = i
    ·subst h1; exact hh
    ·exact hno j hj (by omega)
   generalize ops[i] = x at hq2 hbad hgood
   simp (disch:=omega) only [go_sem,simprocAttr,he,c2,hq1,hq2,Op9.row]
   refine new_opq hs fun a h hs => ?_
   have ha:=hs.at
   have hs3:=hs.set (o':=.row 6 [x.row] 1)
   simp only [Op9.row] at hs3
   have ha3:=hs3.at
   have n0 : decide (x.kind = 0) = (x.kind == 0):=by rw [Bool.eq_iff_iff]; simp
   have n1 : (!decide (x.lease = 0)) = (x.lease != 0):=by rw [Bool.eq_iff_iff]; simp
   have hnl : tNoL has x = (decide (x.kind = 0) && (!decide (x.lease = 0) && !has x.lease)):=rfl
   rw [n0,n1] at hnl
   simp (disch:=omega) only [go_sem,simprocAttr,he,ha,ha3]
   generalize Hp.set h a _ = h9 at hs3 ha3 ⊢
   cases b1 : x.kind == 0 with
   | false =>
    rw [b1] at hnl
    simp (disch:=omega) only [go_sem,simprocAttr,he,b1,m1]
    exact ⟨hil,hgood hnl,hs3.drop⟩
   | true =>
    cases b2 : x.lease != 0 with
    | false =>
     rw [b1,b2] at hnl
     simp (disch:=omega) only [go_sem,simprocAttr,he,b1,ha3,b2,m1]
     exact ⟨hil,hgood hnl,hs3.drop⟩
    | true =>
     simp (disch:=omega) only [go_sem,simprocAttr,he,b1,ha3,b2]
     refine inv_has (G:=[pto a (.row 6 [[.int .i64 x.kind,.str x.key,.str x.fin,.str x.val,.int .i64 x.lease,.int .i64 x.lim]] 1),StP s A o]) hH hs3 fun h hs => ?_
     rw [b1,b2] at hnl
     have hs : sat h (pto a (.row 6 [[.int .i64 x.kind,.str x.key,.str x.fin,.str x.val,.int .i64 x.lease,.int .i64 x.lim]] 1) :: StP s A o :: F):=hs
     cases b3 : has x.lease with
     | true =>
      rw [b3] at hnl
      simp (disch:=omega) only [go_sem,simprocAttr,he,m1]
      exact ⟨hil,hgood hnl,hs.drop⟩
     | false =>
      rw [b3] at hnl
      rw [tDo_less hc (by rw [hops]; exact hbad hnl)]
      simp (disch:=omega) only [go_sem,simprocAttr,he]
      exact ⟨_,.nils,_,[],_,rfl,hs.drop.add ow_nil,fun h hs => ⟨o,rfl,hs⟩⟩
  ·have c2 : ((i:Int) < ops.length) = False:=by simp; omega
   have hany : ops.any (tNoL has) = false:=by
    rw [List.any_eq_false]
    intro x hx
    obtain ⟨j,hj,rfl⟩:=List.getElem_of_mem hx
    simp [hno j hj (by omega)]
   simp (disch:=omega) only [go_sem,simprocAttr,he,c2]
   exact ⟨hany,hs⟩
 clear hs he
 rintro e h ⟨hany,hs,he⟩
 simp (disch:=omega) only [go_sem,simprocAttr,he]
 refine call_use (mvWrite hs) ?_
 rintro r h ⟨w,hr2,hs⟩
 subst hr2
 simp (disch:=omega) only [go_sem,simprocAttr,he,lenV]
 obtain ⟨Q0,hQ0⟩ : ∃ Q0,tRun (A.rev + 1) ⟨A.now,[]⟩ ops = Q0:=⟨_,rfl⟩
 have hdo : tDo A has t = if Q0.2.1 ≠ 0 then ((false,[],Q0.2.1),A) else if 65536 < Q0.1.2 then ((false,[],5),A) else ((tHolds A.now t.ifs,Q0.1.1,0),stDone A Q0.2.2):=by
  unfold tDo
  rw [if_neg (by simp [hc]),hops,if_neg (by simp [hany]),hQ0]
 rw [hdo]
 have hnil : tRun (A.rev + 1) ⟨A.now,[]⟩ (ops.drop 0) = Q0:=by rw [List.drop_zero]; exact hQ0
 refine blk_join (Q:=fun e h => ∃ (W:Go.Hz.Wr) (res:List Res) (sz:Nat) (ov:AV),Q0 = ((res,sz),0,W)∧WB A W 32∧sat h (WtP w s A W :: StP s A (.ptr w 4 0 0) :: Ow 2 ov (res.map resC) :: F)∧(e 10 = .bool (tHolds A.now t.ifs)∧e 14 = .ptr w 4 0 0∧e 15 = ov∧e 16 = .int .i64 sz)) ?_ ?_
 ·refine run_up (N:=ops.length) (fun i e h => ∃ (W:Go.Hz.Wr) (res:List Res) (sz:Nat) (ov:AV),Q0 = ((res ++ (tRun (A.rev + 1) W (ops.drop i)).1.1,sz + (tRun (A.rev + 1) W (ops.drop i)).1.2),(tRun (A.rev + 1) W (ops.drop i)).2.1,(tRun (A.rev + 1) W (ops.drop i)).2.2)∧WB A W i∧sz ≤ i * 200000000000∧res.length = i∧sat h (WtP w s A W :: StP s A (.ptr w 4 0 0) :: Ow 2 ov (res.map resC) :: F)∧(e 10 = .bool (tHolds A.now t.ifs)∧e 14 = .ptr w 4 0 0∧e 15 = ov∧e 16 = .int .i64 sz∧e 60 = v∧e 61 = .int .i64 ops.length∧e 62 = .int .i64 i)) ⟨⟨A.now,[]⟩,[],0,.nils,?_,wb_nil,by omega,rfl,((hs.add (ow_nil (s:=2))).p2.p2),by simp [Env.upd_apply,he]⟩ ?_
  ·rw [hnil]; simp
  clear hs he
  rintro i e h hi ⟨W,res,sz,ov,hq,hwb,hsz,hrl,hs,he⟩
  have m1 : (i:Int) + 1 = ((i + 1 : Nat) : Int):=by omega
  by_cases hil : i < ops.length
  ·have c2 : ((i:Int) < ops.length) = True:=by simp; omega
   obtain ⟨q,hq1,hq2⟩:=op_at (hE h hs.drop.drop.drop) hil
   have hw:=WrP.ok hs
   have wl:=hwb.len hw
   have wc:=hwb.cur ok hw
   have hst:=tRun_step (r:=A.rev + 1) (W:=W) hil
   have hok:=ho2 _ (List.getElem_mem hil)
   rw [hst] at hq
   generalize ops[i] = x at hq2 hq hok
   have hss:=tStep_size ok hw (o:=x)
   have hb2:=tStep_wb ok hw hwb (o:=x)
   simp (disch:=omega) only [go_sem,simprocAttr,he,c2,hq1,hq2,Op9.row]
   refine new_opq hs fun a h hs => ?_
   have ha:=hs.at
   have hs3:=hs.set (o':=.row 6 [x.row] 1)
   simp only [Op9.row] at hs3
   have ha3:=hs3.at
   simp (disch:=omega) only [go_sem,simprocAttr,he,ha,ha3]
   refine call_use (txTold (op:=x) hs3.drop (by omega) (by omega) hok.kind) ?_
   rintro r h ⟨hr2,hs⟩
   subst hr2
   generalize tStep (A.rev + 1) W x = T at hs hq hss hb2
   simp (disch:=omega) only [go_sem,simprocAttr,he,resC]
   refine new_opq hs fun b h hs => ?_
   have hb:=hs.at
   have hs4:=hs.set (o':=.row 2 [resC T.1.1] 1)
   simp only [resC] at hs4
   have hb4:=hs4.at
   simp (disch:=omega) only [go_sem,simprocAttr,he,hb]
   by_cases he0 : T.1.2.2 = 0
   ·have c3 : (T.1.2.2 != 0) = false:=by simpa using he0
    rw [if_neg (by simpa using he0)] at hq
    have msz : (sz:Int) + (T.1.2.1 : Int) = ((sz + T.1.2.1 : Nat) : Int):=by omega
    simp (disch:=omega) only [go_sem,simprocAttr,he,c3,hb4]
    refine new_opq hs4 fun n h hs => ?_
    simp (disch:=omega) only [go_sem,simprocAttr,he]
    refine app_sat hs.p4 (src_one hs.at) (atoms_one (by simp [AV.isAtom])) (by simp only [List.length_map,hrl,List.length_singleton]; omega) fun v' h hs ca aa => ?_
    simp (disch:=omega) only [go_sem,simprocAttr,he,ca,aa,msz,m1]
    refine ⟨hil,T.2,res ++ [T.1.1],sz + T.1.2.1,v',?_,hb2,by omega,by simp [hrl],?_,rfl,rfl⟩
    ·rw [hq]
     simp only [List.append_assoc,List.singleton_append,Nat.add_assoc]
    ·have:=hs.p1.drop.p1.drop.p2.p2
     simpa [resC] using this
   ·have c3 : (T.1.2.2 != 0) = true:=by simpa using he0
    rw [if_pos he0] at hq
    have hq3 : Q0.2.1 = T.1.2.2:=by rw [hq]
    rw [if_pos (by rw [hq3]; exact he0),hq3]
    simp (disch:=omega) only [go_sem,simprocAttr,he,c3]
    exact ⟨_,.nils,_,[],_,rfl,(hs4.drop.drop.p1.drop).add ow_nil,fun h hs => ⟨_,rfl,hs⟩⟩
  ·have c2 : ((i:Int) < ops.length) = False:=by simp; omega
   have hil : i = ops.length:=by omega
   subst hil
   rw [List.drop_length] at hq
   simp (disch:=omega) only [go_sem,simprocAttr,he,c2]
   exact ⟨W,res,sz,ov,by rw [hq]; simp [tRun],hwb.mono ho1,hs,rfl,rfl⟩
 clear hs he
 rintro e h ⟨W,res,sz,ov,hq,hwb,hs,he⟩
 have hw:=WrP.ok hs
 have wl:=hwb.len hw
 rw [hq]
 simp only [ne_eq,not_true_eq_false,if_false]
 by_cases hsz : 65536 < sz
 ·have c3 : decide ((sz:Int) > 65536) = true:=by simp; omega
  rw [if_pos hsz]
  simp (disch:=omega) only [go_sem,simprocAttr,he,c3]
  exact ⟨_,.nils,_,[],_,rfl,(hs.drop.p1.drop).add ow_nil,fun h hs => ⟨_,rfl,hs⟩⟩
 ·have c3 : decide ((sz:Int) > 65536) = false:=by simp; omega
  rw [if_neg hsz]
  simp (disch:=omega) only [go_sem,simprocAttr,he,c3]
  refine call_use (mvDone hs (by omega) hr) ?_
  rintro r h ⟨hr2,hs⟩
  subst hr2
  simp (disch:=omega) only [go_sem,simprocAttr,he]
  exact ⟨_,ov,_,_,_,rfl,hs.p1,fun h hs => ⟨_,rfl,hs⟩⟩
end
end Go.Proofs.YtmhbnkjajkcmkaaGreat
/- slices.SortFunc; cmp.Compare. -/
set_option maxRecDepth 10000
namespace Go.Proofs.YtmhbnkjajkcmkaaGreat
open Go.Hz Go.Sort
section
variable {h:Hp} {F:List Asr} {G:List AV → Prop} {lt:List AV → List AV → Bool}
theorem srt_L {fc:Nat} {caps:List AV} (hf : okFn Tryz.prog fc = true) (hc:CmpT Tryz.prog true G lt fc caps) (E:GoodE 3 true G) (hO:SWO lt) {d:Array (List AV)} {b cap : Nat} (hs : sat h (pto b (.row 3 d.toList cap) :: F)) (hg:GA G d) (hsz : d.size ≤ 100000000) :
  Triple Tryz.prog 163 [.arr b 3 0 d.size cap,.fn fc caps] h (fun r h => ∃ R : Array (List AV),PermIn 0 d.size d R∧SortedIn lt 0 d.size R∧GA G R∧R.size = d.size∧sat h (pto b (.row 3 R.toList cap) :: F)):=by
 have w1:=wu64 (n:=d.size) (by omega)
 refine t163 (Nat.le_of_ble_eq_true rfl) ?_
 simp (disch:=omega) only [F163,w1,go_sem,simprocAttr]
 refine call_use (len0 hs (by omega)) ?_
 rintro r h ⟨t,hr,h1,h2,h3,hs⟩
 subst hr
 simp (disch:=omega) only [go_sem,simprocAttr]
 refine call_use (pdq_L hf hc E hO _ F _ d 0 d.size t b cap (Nat.le_refl _) hs hg (Nat.zero_le _) (Nat.le_refl _) hsz (.inl rfl) (by omega)) ?_
 rintro r h ⟨R,p1,p2,p3,p4,hs⟩
 simp (disch:=omega) only [go_sem,simprocAttr]
 exact ⟨R,p1,p2,p3,p4,hs⟩
theorem nan_int {a:Int} (hs : sat h F) : Triple Tryz.prog 165 [.int .i64 a] h (fun r h => r = .bool false∧sat h F):=by
 refine t165 (Nat.le_of_ble_eq_true rfl) ?_
 simp (disch:=omega) only [F165,go_sem,simprocAttr]
 exact hs
theorem cmp_int {a b : Int} (hs : sat h F) : Triple Tryz.prog 101 [.int .i64 a,.int .i64 b] h (fun r h => ∃ c : Int,r = .int .i64 c∧decide (c < 0) = decide (a < b)∧sat h F):=by
 refine t101 (Nat.le_of_ble_eq_true rfl) ?_
 simp (disch:=omega) only [F101,go_sem,simprocAttr]
 refine call_use (nan_int hs) ?_
 rintro r h ⟨hr,hs⟩
 subst hr
 simp (disch:=omega) only [go_sem,simprocAttr]
 refine call_use (nan_int hs) ?_
 rintro r h ⟨hr,hs⟩
 subst hr
 simp (disch:=omega) only [go_sem,simprocAttr]
 refine cnd_dec (fun h1 => ?_) (fun h1 => ?_)
 ·simp (disch:=omega) only [go_sem,simprocAttr]
  exact ⟨-1,rfl,by simp [h1],hs⟩
 ·simp (disch:=omega) only [go_sem,simprocAttr]
  refine cnd_dec (fun h2 => ?_) (fun h2 => ?_)
  ·simp (disch:=omega) only [go_sem,simprocAttr]
   exact ⟨1,rfl,by simp; omega,hs⟩
  ·simp (disch:=omega) only [go_sem,simprocAttr]
   exact ⟨0,rfl,by simp; omega,hs⟩
end
end Go.Proofs.YtmhbnkjajkcmkaaGreat
/- The rounds of the loops over functions, in the form of the logic. -/
set_option maxRecDepth 100000
namespace Go.Proofs.YtmhbnkjajkcmkaaGreat
open Go.Hz Go
def G202a : Code:=(.region 2 (.mk [(.mk (.some 5) (.alloc 147) 0 "iter.go:51" (.mk []) none),(.mk none (.store 147 (.tmp 5) (.tmp 7)) 0 "iter.go:51" (.mk [(.mk 0 .data),(.mk 0 .phase)]) none)]) false)
def F202a : ACode:=(.reg [((.mk (.some 5) (.alloc [(.int .i64 0),(.int .i64 0),(.int .i64 0)]) none),[]),((.mk none (.st 3 (.tm 5) (.tm 7)) none),[])])
theorem c202a : compC Tryz.prog 13 false G202a = some F202a:=by kernel_rfl
def G202b : Code:=(.block 1 (.region 3 (.mk [(.mk (.some 8) (.load 55 (.tmp 2)) 55 "iter.go:52" (.mk []) none),(.mk (.some 9) (.load 147 (.tmp 5)) 147 "iter.go:52" (.mk []) none),(.mk (.some 10) (.buildSlice 55 1 (.mk [(0,(.tmp 9))])) 55 "iter.go:52" (.mk [(.mk 1 .data)]) none),(.mk (.some 11) (.call (.mk (.builtin .append) (.mk [(.tmp 8),(.tmp 10)]) (.mk [55,55]))) 55 "iter.go:52" (.mk [(.mk 0 .data),(.mk 2 .data)]) none),(.mk none (.store 55 (.tmp 2) (.tmp 11)) 0 "iter.go:52" (.mk [(.mk 3 .data),(.mk 3 .chain),(.mk 0 .phase),(.mk 1 .phase),(.mk 2 .phase),(.mk 3 .phase)]) none)]) false))
def F202b : ACode:=(.block 1 (.reg [((.mk (.some 8) (.ld 1 false (.tm 2)) none),[]),((.mk (.some 9) (.ld 3 true (.tm 5)) none),[]),((.mk (.some 10) (.bsl [(.int .i64 0),(.int .i64 0),(.int .i64 0)] 1 [(0,(.tm 9))]) none),[]),((.mk (.some 11) (.app 3 24 (.tm 8) (.tm 10)) none),[]),((.mk none (.st 1 (.tm 2) (.tm 11)) none),[])]))
theorem c202b : compC Tryz.prog 13 false G202b = some F202b:=by kernel_rfl
end Go.Proofs.YtmhbnkjajkcmkaaGreat
/- maps.Values, slices.Collect, slices.SortedFunc: a loop over a function. -/
set_option maxRecDepth 10000
namespace Go.Proofs.YtmhbnkjajkcmkaaGreat
open Go.Hz Go.Sort
section
variable {h:Hp} {F:List Asr}
def BxOw (z s : Nat) (es:List (List AV)) : Asr:=fun h => ∃ v,sat h [pto s (.row 1 [[v]] 1),Ow z v es]
theorem bxow {z s : Nat} {es:List (List AV)} : sat h (BxOw z s es :: F) ↔ ∃ v,sat h (pto s (.row 1 [[v]] 1) :: Ow z v es :: F):=by
 unfold BxOw
 rw [sat_ex]
 exact exists_congr fun v => sat_sl (l1:=[pto s (.row 1 [[v]] 1),Ow z v es]) (l:=F)
theorem val1_L {l n bx mb clk : Nat} {e0:Env} {p:Nat} {asg bd : Code} {kvs:List (AV × AV × Nat)} (J:List AV → Asr) (hp : p < n)
  (hs : sat h (pto l (.lp n e0 [p] asg bd) :: pto bx (.row 1 [[.map mb]] 1) :: pto mb (.mp kvs clk) :: J [] :: F))
  (hy:∀ (pre:List AV) (x:AV) (L:List Asr) (h:Hp),x ∈ kvs.map (·.2.1) → pre.length < kvs.length → sat h (J pre :: L) → CodeT Tryz.prog n asg (putPs e0 [p] [x]) h fun e1 h1 => CodeT Tryz.prog n bd e1 h1 fun _ h2 => sat h2 (J (pre ++ [x]) :: L))
  (hc:∀ x ∈ kvs,x.2.2 < clk) (hn:(kvs.map (·.2.2)).Nodup) (hz:∀ x ∈ kvs,∃ c,x.2.1 = .agg c∧c.length = 3∧c.all AV.isAtom = true) :
  Triple Tryz.prog 164 [.yl l,.ptr bx 1 0 0] h (fun r h => ∃ xs : List AV,xs.Perm (kvs.map (·.2.1))∧sat h (pto l (.lp n e0 [p] asg bd) :: pto bx (.row 1 [[.map mb]] 1) :: pto mb (.mp kvs clk) :: J xs :: F)):=by
 have hb:=hs.p1.at
 refine t164 (Nat.le_of_ble_eq_true rfl) ?_
 simp (disch:=omega) only [F164,hb,go_sem,simprocAttr]
 refine rng_use hs.p2 fun q h hs => ?_
 simp (disch:=omega) only [go_sem,simprocAttr]
 refine run_loopN (fun k e h => ∃ es rest,k = rest.length∧(es ++ rest).Perm kvs∧sat h (pto q (.itr (some mb) clk (es.map (·.2.2)) clk) :: pto mb (.mp kvs clk) :: pto l (.lp n e0 [p] asg bd) :: pto bx (.row 1 [[.map mb]] 1) :: J (es.map (·.2.1)) :: F) ∧
  (e 0 = .yl l∧e 6 = .ptr q 1 0 0)) kvs.length ⟨[],kvs,rfl,.refl _,hs,rfl,rfl⟩ ?_
 rintro k e h ⟨es,rest,rfl,hpm,hs,he⟩
 simp (disch:=omega) only [go_sem,simprocAttr,he]
 refine nxt_use hs (Nat.le_refl _) hc (fun x hx hns h hs => ?_) (fun hall => ?_)
 ·obtain ⟨c,hx1,hx2,hx3⟩:=hz x hx
  have hx4 : c.take 3 = c:=by rw [← hx2]; exact List.take_length
  obtain ⟨rest',r1,r2⟩:=rng_step hpm hx hns
  have hen:=ent_at hs hx hn
  simp (disch:=omega) only [go_sem,simprocAttr,he]
  rw [hen]
  simp (disch:=omega) only [go_sem,simprocAttr,hx1]
  refine new_opq hs fun a h hs => ?_
  have ha:=hs.at
  have hs2:=hs.set (o':=.row 3 [c] 1)
  have ha2:=hs2.at
  simp (disch:=omega) only [go_sem,simprocAttr,hx1,ha,hx2,hx3,ha2,he,hx4]
  generalize Hp.set h a (.row 3 [c] 1) = h2 at hs2 ha2 ⊢
  refine yl_use (F:=pto a (.row 3 [c] 1) :: pto q (.itr (some mb) clk (es.map (·.2.2) ++ [x.2.2]) clk) :: pto mb (.mp kvs clk) :: pto bx (.row 1 [[.map mb]] 1) :: J (es.map (·.2.1)) :: F) hs2.p3 rfl (by simpa using hp) fun h hs => ?_
  refine (hy (es.map (·.2.1)) (.agg c) (pto a (.row 3 [c] 1) :: pto q (.itr (some mb) clk (es.map (·.2.2) ++ [x.2.2]) clk) :: pto mb (.mp kvs clk) :: pto bx (.row 1 [[.map mb]] 1) :: F) h (hx1 ▸ List.mem_map_of_mem hx) (by have:=r1.length_eq; simp at this ⊢; omega) hs.p4).mono fun e1 h1 t => t.mono fun e2 h2 hs => ?_
  refine ⟨_,hs,fun h3 hs => ?_⟩
  simp (disch:=omega) only [go_sem,simprocAttr]
  exact ⟨rest'.length,by omega,es ++ [x],rest',rfl,r1,by simpa [hx1] using hs.p2.drop.p1.p4.p2.p4.p4,he.1,he.2⟩
 ·have r1:=rng_end hpm hn hall
  simp (disch:=omega) only [go_sem,simprocAttr]
  exact ⟨_,r1.map _,hs.drop.p3.p1.p3.p3⟩
theorem rnd_L {s:Nat} {e0:Env} {pre:List AV} {x:AV} {c:List AV} {L:List Asr} (he : e0 2 = .ptr s 1 0 0) (hx : x = .agg c) (h2 : c.length = 3) (h3 : c.all AV.isAtom = true) (hl : pre.length < 1000000)
  (hs : sat h (BxOw 3 s (pre.map AV.cells) :: L)) :
  CodeT Tryz.prog 13 G202a (putPs e0 [7] [x]) h fun e1 h1 => CodeT Tryz.prog 13 G202b e1 h1 fun _ h2 => sat h2 (BxOw 3 s ((pre ++ [x]).map AV.cells) :: L):=by
 obtain ⟨v,hs⟩:=bxow.1 hs
 have h4 : c.take 3 = c:=by rw [← h2]; exact List.take_length
 subst hx
 refine code_T mixed c202a (show run Tryz.prog F202a [] _ _ ⟨_,_,_⟩ from ?_)
 simp only [putPs,F202a]
 simp (disch:=omega) only [go_sem,simprocAttr]
 refine new_opq hs fun a h hs => ?_
 have ha:=hs.at
 have hs2:=hs.set (o':=.row 3 [c] 1)
 simp (disch:=omega) only [go_sem,simprocAttr,ha,h2,h3]
 generalize Hp.set h a (.row 3 [c] 1) = h5 at hs2 ⊢
 refine code_T mixed c202b (show run Tryz.prog F202b [] _ _ ⟨_,_,_⟩ from ?_)
 have ha2:=hs2.at
 have hb2:=hs2.p1.at
 simp only [F202b]
 simp (disch:=omega) only [go_sem,simprocAttr,he,ha2,hb2,h4,h2,h3]
 refine new_opq hs2 fun y h hs => ?_
 simp (disch:=omega) only [go_sem,simprocAttr]
 refine app_sat hs.p3 (src_one hs.at) (atoms_one h3) (by simp; omega) fun v' h hs ca aa => ?_
 have hb3:=hs.p3.at
 simp (disch:=omega) only [go_sem,simprocAttr,he,hb3,ca,aa]
 have hs3:=hs.p3.set (o':=.row 1 [[v']] 1)
 refine bxow.2 ⟨v',?_⟩
 simpa [AV.cells] using hs3.p2.drop.p2.drop.p1.p1
theorem aps_L {mb bx clk : Nat} {kvs:List (AV × AV × Nat)} (hs : sat h (pto bx (.row 1 [[.map mb]] 1) :: pto mb (.mp kvs clk) :: F))
  (hc:∀ x ∈ kvs,x.2.2 < clk) (hn:(kvs.map (·.2.2)).Nodup) (hz:∀ x ∈ kvs,∃ c,x.2.1 = .agg c∧c.length = 3∧c.all AV.isAtom = true) (hk : kvs.length ≤ 1000000) :
  Triple Tryz.prog 202 [.nils,.fn 164 [.ptr bx 1 0 0]] h (fun r h => ∃ xs : List AV,xs.Perm (kvs.map (·.2.1))∧sat h (Ow 3 r (xs.map AV.cells) :: pto mb (.mp kvs clk) :: F)):=by
 refine t202 (Nat.le_of_ble_eq_true rfl) ?_
 simp (disch:=omega) only [F202,go_sem,simprocAttr]
 refine new_opq hs fun s h hs => ?_
 simp (disch:=omega) only [go_sem,simprocAttr]
 refine rngF_use rfl hs fun l h hs => ?_
 have h1:=(hs.p1.tl fun _ h => h.add (A:=Ow 3 .nils []) ow_nil)
 have h2:=(bxow.2 ⟨.nils,h1⟩).p3.p3.p3
 refine (val1_L (F:=F) (fun pre => BxOw 3 s (pre.map AV.cells)) (by decide) h2 ?_ hc hn hz).mono fun r h q => ?_
 ·intro pre x L h hx hl hs
  obtain ⟨y,hy1,rfl⟩:=List.mem_map.1 hx
  obtain ⟨c,hc1,hc2,hc3⟩:=hz _ hy1
  exact rnd_L rfl hc1 hc2 hc3 (by omega) hs
 ·obtain ⟨xs,hp,hs⟩:=q
  refine ⟨_,hs,fun h hs => ?_⟩
  obtain ⟨v,hs⟩:=bxow.1 hs.p2
  have ha:=hs.at
  simp (disch:=omega) only [go_sem,simprocAttr,ha]
  exact ⟨xs,hp,hs.drop.p1.drop.p1.p1⟩
theorem col_L {mb bx clk : Nat} {kvs:List (AV × AV × Nat)} (hs : sat h (pto bx (.row 1 [[.map mb]] 1) :: pto mb (.mp kvs clk) :: F))
  (hc:∀ x ∈ kvs,x.2.2 < clk) (hn:(kvs.map (·.2.2)).Nodup) (hz:∀ x ∈ kvs,∃ c,x.2.1 = .agg c∧c.length = 3∧c.all AV.isAtom = true) (hk : kvs.length ≤ 1000000) :
  Triple Tryz.prog 162 [.fn 164 [.ptr bx 1 0 0]] h (fun r h => ∃ xs : List AV,xs.Perm (kvs.map (·.2.1))∧sat h (Ow 3 r (xs.map AV.cells) :: pto mb (.mp kvs clk) :: F)):=by
 refine t162 (Nat.le_of_ble_eq_true rfl) ?_
 simp (disch:=omega) only [F162,go_sem,simprocAttr]
 refine call_use (aps_L hs hc hn hz hk) ?_
 rintro r h ⟨xs,hp,hs⟩
 simp (disch:=omega) only [go_sem,simprocAttr]
 exact ⟨xs,hp,hs⟩
theorem vals_L {mb clk : Nat} {kvs:List (AV × AV × Nat)} (hs : sat h (pto mb (.mp kvs clk) :: F)) :
  Triple Tryz.prog 99 [.map mb] h (fun r h => ∃ bx,r = .fn 164 [.ptr bx 1 0 0]∧sat h (pto bx (.row 1 [[.map mb]] 1) :: pto mb (.mp kvs clk) :: F)):=by
 refine t99 (Nat.le_of_ble_eq_true rfl) ?_
 simp (disch:=omega) only [F99,go_sem,simprocAttr]
 refine new_opq hs fun s h hs => ?_
 simp (disch:=omega) only [go_sem,simprocAttr]
 exact ⟨s,rfl,hs⟩
end
end Go.Proofs.YtmhbnkjajkcmkaaGreat
/- slices.SortedFunc: the values in order. -/
set_option maxRecDepth 10000
namespace Go.Proofs.YtmhbnkjajkcmkaaGreat
open Go.Hz Go.Sort
theorem sorted_list {lt:List AV → List AV → Bool} {d R : Array (List AV)} (h1:PermIn 0 d.size d R) (h2:SortedIn lt 0 d.size R) (h3:R.size = d.size) : R.toList.Perm d.toList∧R.toList.Pairwise (fun a b => lt b a = false):=by
 constructor
 ·have:=h1.2.2
  rw [Array.extract_size] at this
  rw [← h3,Array.extract_size] at this
  exact this
 ·rw [List.pairwise_iff_getElem]
  intro i j hi hj hij
  have:=h2 i j (Nat.zero_le _) hij (by simpa [h3] using hj)
  simpa [getElem!_pos R i (by simpa using hi),getElem!_pos R j (by simpa using hj)] using this
theorem ga_list {G:List AV → Prop} {l:List (List AV)} : GA G l.toArray ↔ ∀ x ∈ l,G x:=by
 constructor
 ·intro h x hx
  obtain ⟨i,hi,rfl⟩:=List.getElem_of_mem hx
  have:=h i (by simpa using hi)
  simpa [hi] using this
 ·intro h i hi
  have hi : i < l.length:=by simpa using hi
  simpa [hi] using h _ (List.getElem_mem hi)
section
variable {h:Hp} {F:List Asr} {G:List AV → Prop} {lt:List AV → List AV → Bool}
theorem insn_L {f:AV} (hs : sat h F) : Triple Tryz.prog 219 [.nils,.int .i64 0,.int .i64 0,f] h (fun r h => sat h F):=by
 refine t219 (Nat.le_of_ble_eq_true rfl) ?_
 simp (disch:=omega) only [F219,go_sem,simprocAttr]
 refine run_loopN (fun n e h => sat h F∧(e 1 = .int .i64 0∧e 2 = .int .i64 0∧e 8 = .int .i64 1)) 0 ⟨hs,rfl,rfl,rfl⟩ ?_
 rintro n e h ⟨hs,he⟩
 simp (disch:=omega) only [go_sem,simprocAttr,he]
 exact hs
theorem pdqn_L {f lim : AV} (hs : sat h F) : Triple Tryz.prog 203 [.nils,.int .i64 0,.int .i64 0,lim,f] h (fun r h => sat h F):=by
 refine t203 (Nat.le_of_ble_eq_true rfl) ?_
 simp (disch:=omega) only [F203,go_sem,simprocAttr]
 refine run_loopN (fun n e h => sat h F∧(e 0 = .nils∧e 1 = .int .i64 0∧e 2 = .int .i64 0∧e 4 = f)) 0 ⟨hs,rfl,rfl,rfl,rfl⟩ ?_
 rintro n e h ⟨hs,he⟩
 have z0 : decide ((0:Int) - 0 ≤ 12) = true:=rfl
 simp (disch:=omega) only [go_sem,simprocAttr,he,z0]
 refine call_use (insn_L hs) ?_
 intro r h hs
 simp (disch:=omega) only [go_sem,simprocAttr]
 exact hs
theorem srtn_L {f:AV} (hs : sat h F) : Triple Tryz.prog 163 [.nils,f] h (fun r h => sat h F):=by
 refine t163 (Nat.le_of_ble_eq_true rfl) ?_
 simp (disch:=omega) only [F163,go_sem,simprocAttr]
 refine call_use (len0 (n:=0) hs (by omega)) ?_
 rintro r h ⟨t,hr,h1,h2,h3,hs⟩
 subst hr
 simp (disch:=omega) only [go_sem,simprocAttr]
 refine call_use (pdqn_L hs) ?_
 intro r h hs
 simp (disch:=omega) only [go_sem,simprocAttr]
 exact hs
theorem srd_L {mb bx clk fc : Nat} {caps:List AV} {kvs:List (AV × AV × Nat)} (hf : okFn Tryz.prog fc = true) (hm:CmpT Tryz.prog true G lt fc caps) (E:GoodE 3 true G) (hO:SWO lt)
  (hs : sat h (pto bx (.row 1 [[.map mb]] 1) :: pto mb (.mp kvs clk) :: F))
  (hc:∀ x ∈ kvs,x.2.2 < clk) (hn:(kvs.map (·.2.2)).Nodup) (hz:∀ x ∈ kvs,∃ c,x.2.1 = .agg c∧G c) (hk : kvs.length ≤ 1000000) :
  Triple Tryz.prog 98 [.fn 164 [.ptr bx 1 0 0],.fn fc caps] h (fun r h => ∃ R : List (List AV),R.Perm (kvs.map (·.2.1.cells))∧R.Pairwise (fun a b => lt b a = false)∧sat h (Ow 3 r R :: pto mb (.mp kvs clk) :: F)):=by
 refine t98 (Nat.le_of_ble_eq_true rfl) ?_
 simp (disch:=omega) only [F98,go_sem,simprocAttr]
 refine call_use (col_L hs hc hn (fun x hx => (hz x hx).imp fun c h => ⟨h.1,E.len _ h.2,E.atoms _ h.2⟩) hk) ?_
 rintro r h ⟨xs,hp,hs⟩
 have hq : (xs.map AV.cells).Perm (kvs.map (·.2.1.cells)):=by simpa [Function.comp_def] using hp.map AV.cells
 have hg : ∀ x ∈ xs.map AV.cells,G x:=by
  intro x hx
  obtain ⟨y,hy,rfl⟩:=List.mem_map.1 (hq.mem_iff.1 hx)
  obtain ⟨c,h1,h2⟩:=hz _ hy
  rw [h1]; exact h2
 have hl : (xs.map AV.cells).length = kvs.length:=by simpa using hq.length_eq
 generalize xs.map AV.cells = es at hs hq hg hl
 rcases hs.cases with ⟨rfl,rfl,hs⟩ | ⟨b,cap,rfl,hs,hle⟩
 ·simp (disch:=omega) only [go_sem,simprocAttr]
  refine call_use (srtn_L hs) ?_
  intro r h hs
  simp (disch:=omega) only [go_sem,simprocAttr]
  exact ⟨[],hq,.nil,hs⟩
 ·simp (disch:=omega) only [go_sem,simprocAttr]
  refine call_use (srt_L hf hm E hO (d:=es.toArray) hs (ga_list.2 hg) (by simp; omega)) ?_
  rintro r h ⟨R,p1,p2,p3,p4,hs⟩
  obtain ⟨q1,q2⟩:=sorted_list p1 p2 p4
  simp (disch:=omega) only [go_sem,simprocAttr]
  refine ⟨R.toList,q1.trans hq,q2,?_⟩
  have h5 : es.length = R.toList.length:=by simpa using q1.length_eq.symm
  have h6:=hs.ow (by omega)
  rwa [← h5] at h6
end
end Go.Proofs.YtmhbnkjajkcmkaaGreat
/- A reply apart; the table of the clients' last calls. -/
set_option maxRecDepth 10000
namespace Go.Proofs.YtmhbnkjajkcmkaaGreat
open Go.Hz Go.Sort
section
variable {h:Hp} {F:List Asr} {X:List Fk} {p:Nat}
theorem cloneKV (hs : sat h F) {l:List Kv} (hl : l.length * 64 ≤ 140737488355328) : Triple Tryz.prog 144 [kvsV l] h (fun r h => r = kvsV l∧sat h F):=by
 refine Triple.lst 6 ?_
 have key : ∀ v : AV,v ≠ .lst [] → (∀ h,sat h F → Els h 6 v (l.map kvC)) → Triple Tryz.prog 144 [v] h (fun r h' => ∃ es F',sat h' (Ow 6 r es :: F')∧∀ h'',sat h'' F' → ((AV.lst es) = kvsV l∧sat h'' F)):=by
  intro v hn hE
  refine t144 (Nat.le_of_ble_eq_true rfl) ?_
  rcases Els.nil (hE _ hs) hn with ⟨rfl,he⟩ | ⟨_,hq⟩
  ·simp (disch:=omega) only [F144,go_sem,simprocAttr]
   have : l = []:=by simpa using he
   subst this
   exact ⟨[],F,hs.add ow_nil,fun h hs => ⟨rfl,hs⟩⟩
  ·simp (disch:=omega) only [F144,go_sem,simprocAttr,hq]
   refine new_opq hs fun n h hs => ?_
   have hy:=(hE _ hs.drop).1
   simp (disch:=omega) only [go_sem,simprocAttr]
   refine app_new hs hy (atoms_kv _) (by simpa using hl) fun v' h hs hc' ha' => ?_
   simp (disch:=omega) only [go_sem,simprocAttr,hc']
   exact ⟨_,F,hs,fun h hs => ⟨rfl,hs⟩⟩
 by_cases hn : l = []
 ·subst hn
  exact Triple.lst0 (pre:=[]) (suf:=[]) (key .nils (by simp) fun _ _ => ⟨rfl,by simp⟩) (key .emp (by simp) fun _ _ => ⟨rfl,by simp⟩)
 ·exact key _ (by simp [hn]) fun _ _ => Els.lst (kvC_len l)
theorem ftwin {x:Rp} (hs : sat h F) (hx:RpOK x) : Triple Tryz.prog 87 [rpV x] h (fun r h => r = rpV x∧sat h F):=by
 obtain ⟨h1,h2⟩:=hx
 refine Triple.view ?_
 refine t87 (Nat.le_of_ble_eq_true rfl) ?_
 simp (disch:=omega) only [F87,rpC,go_sem,simprocAttr]
 refine new_opq hs fun n1 h hs => ?_
 simp (disch:=omega) only [go_sem,simprocAttr]
 refine new_opq hs fun n2 h hs => ?_
 have hp:=hs.p1.at
 simp (disch:=omega) only [go_sem,simprocAttr,hp,lenL_lst]
 refine msl_use hs (by omega) (by omega) fun b h hs => ?_
 have hp:=hs.p2.at
 simp (disch:=omega) only [go_sem,simprocAttr,hp,lenL_lst]
 generalize hr0 : [AV.int .i64 x.err,.int .i64 x.rev,.bool x.thn,ressV x.res,.int .i64 x.time] = row0 at hs hp
 generalize hz0 : [AV.int .i64 0,.int .i64 0,.bool false,.nils,.int .i64 0] = row1 at hs
 have hn : x.res.length = (x.res.map resC).length:=by simp
 refine run_up (N:=x.res.length) (fun i e h => sat h (pto b (.row 2 ((x.res.map resC).take i ++ List.replicate (x.res.length - i) [AV.int .i64 0,.nils]) x.res.length) :: pto n2 (.row 5 [row1] 1) :: pto n1 (.row 5 [row0] 1) :: F) ∧
  (e 1 = .ptr n1 5 0 0∧e 2 = .ptr n2 5 0 0∧e 3 = .arr b 2 0 x.res.length x.res.length∧e 11 = ressV x.res∧e 12 = .int .i64 x.res.length∧e 13 = .int .i64 i)) ⟨by simpa using hs,rfl,rfl,rfl,rfl,rfl,rfl⟩ ?_
 clear hs hp
 rintro i e h hi ⟨hs,he⟩
 have m1 : (i:Int) + 1 = ((i + 1 : Nat) : Int):=by omega
 simp (disch:=omega) only [go_sem,simprocAttr,he,m1]
 refine cnd_dec (fun hc => ?_) (fun hc => ?_)
 ·have hi : i < x.res.length:=by omega
  have ei:=ia_lst (f:=resC) (l:=x.res) (i:=i) (s:=2) (k:=.i64) hi (fun _ => rfl)
  simp (disch:=omega) only [go_sem,simprocAttr,he,ei,resC]
  refine new_opq hs fun a h hs => ?_
  have ha:=hs.at
  have hs2:=hs.set (o':=.row 2 [resC x.res[i]] 1)
  have ha2:=hs2.at
  simp only [resC] at hs2 ha2
  simp (disch:=omega) only [go_sem,simprocAttr,he,ha,ha2]
  generalize Hp.set h a (.row 2 [[.int .i64 x.res[i].n,kvsV x.res[i].kvs]] 1) = h3 at hs2 ha2 ⊢
  refine call_use' (cloneKV hs2 (h2 _ (List.getElem_mem hi))) ?_
  rintro r h ⟨hr,hs⟩
  subst hr
  have hb:=hs.p1.at
  have hg:=fill_get (z:=[AV.int .i64 0,.nils]) hn hi
  have hf:=fill_set (z:=[AV.int .i64 0,.nils]) (y:=resC x.res[i]) hn hi (by simp [hi])
  simp only [resC] at hf
  simp (disch:=omega) only [go_sem,simprocAttr,he,hs.at,hb,hg,hf,m1]
  exact ⟨by omega,hs.p1.set.d1⟩
 ·have hi : i = x.res.length:=by omega
  subst hi
  have e0 : ((x.res.map resC).take x.res.length ++ List.replicate (x.res.length - x.res.length) [AV.int .i64 0,.nils]) = x.res.map resC:=by rw [List.take_of_length_le (by simp),Nat.sub_self]; simp
  rw [e0] at hs
  subst hr0
  subst hz0
  have hp:=hs.p2.at
  have hs2:=hs.p2.set (o':=.row 5 [[.int .i64 x.err,.int .i64 x.rev,.bool x.thn,.arr b 2 0 x.res.length x.res.length,.int .i64 x.time]] 1)
  have hp2:=hs2.at
  simp (disch:=omega) only [go_sem,simprocAttr,he,hp]
  generalize Hp.set h n1 _ = h3 at hs2 hp2 ⊢
  have hp3:=hs2.p2.at
  have hs4:=hs2.p2.set (o':=.row 5 [[.int .i64 x.err,.int .i64 x.rev,.bool x.thn,.arr b 2 0 x.res.length x.res.length,.int .i64 x.time]] 1)
  have hp4:=hs4.at
  simp (disch:=omega) only [go_sem,simprocAttr,he,hp2,hp3,hp4]
  refine ⟨_,_,GV.agg [.int .i64 x.err,.int .i64 x.rev,.bool x.thn] [.int .i64 x.time] (GV.arr hs4.p2.at (by simp) (Nat.le_refl _)),rfl,?_⟩
  exact hs4.p2.del.drop.drop
theorem fkNew (hs : sat h F) : Triple Tryz.prog 32 [] h (fun r h => ∃ p,r = .ptr p 1 0 0∧sat h (FkP p [] :: F)):=by
 refine t32 (Nat.le_of_ble_eq_true rfl) ?_
 simp (disch:=omega) only [F32,go_sem,simprocAttr]
 refine new_opq hs fun m h hs => ?_
 simp (disch:=omega) only [go_sem,simprocAttr]
 refine new_opq hs fun p h hs => ?_
 simp (disch:=omega) only [go_sem,simprocAttr]
 exact ⟨p,rfl,fkP.2 ⟨m,FkOK.nil,(mpA_new hs.p1).p1⟩⟩
theorem fkAsk_fin {c s : Int} {rp:Rp} {b:Bool} (hh : fkAsk X c s = (rp,b)) (hs : sat h (FkP p X :: F)) : ∃ r' h'',GV (.tup [rpV rp,.bool b]) h r' h''∧r' = .tup [rpV (fkAsk X c s).1,.bool (fkAsk X c s).2]∧sat h'' (FkP p X :: F) :=
 ⟨_,h,GV.refl _ _,by rw [hh],hs⟩
theorem fkAsk_fin0 {c s e : Int} {b:Bool} (hh : fkAsk X c s = (rpE e,b)) (hs : sat h (FkP p X :: F)) : ∃ r' h'',GV (.tup [.agg [.int .i64 e,.int .i64 0,.bool false,.nils,.int .i64 0],.bool b]) h r' h''∧r' = .tup [rpV (fkAsk X c s).1,.bool (fkAsk X c s).2]∧sat h'' (FkP p X :: F) :=
 ⟨_,h,GV.tup [] [.bool b] gv_rp,by rw [hh]; rfl,hs⟩
theorem fkAskT {c s : Int} (hs : sat h (FkP p X :: F)) : Triple Tryz.prog 34 [.ptr p 1 0 0,.int .i64 c,.int .i64 s] h (fun r h => r = .tup [rpV (fkAsk X c s).1,.bool (fkAsk X c s).2]∧sat h (FkP p X :: F)):=by
 obtain ⟨m,hX,hs⟩:=fkP.1 hs
 refine Triple.view ?_
 refine t34 (Nat.le_of_ble_eq_true rfl) ?_
 simp (disch:=omega) only [F34,go_sem,simprocAttr]
 refine new_opq hs fun a h hs => ?_
 have hp:=hs.p1.at
 cases hg : fkGet X c with
 | none =>
  have hl:=lk_miss keyOK_int hs.p2 (fkGet_none hg) (ok:=true) (z:=.agg [.int .i64 0,.int .i64 0,.int .i64 0,.int .i64 0,.bool false,.nils,.int .i64 0])
  simp (disch:=omega) only [go_sem,simprocAttr,hp,hl]
  refine new_opq hs fun b h hs => ?_
  have hb:=hs.at
  simp (disch:=omega) only [go_sem,simprocAttr,hb]
  have hs:=hs.set (o':=.row 7 [[.int .i64 0,.int .i64 0,.int .i64 0,.int .i64 0,.bool false,.nils,.int .i64 0]] 1)
  have hb:=hs.at
  have ha:=hs.p1.at
  have hp:=hs.p2.at
  have hlen:=len_mp hs.p3
  have back : ∀ {h:Hp},sat h (pto b (.row 7 [[.int .i64 0,.int .i64 0,.int .i64 0,.int .i64 0,.bool false,.nils,.int .i64 0]] 1) :: pto p (.row 1 [[.map m]] 1) :: MpA (fun n : Int => AV.int .i64 n) Fk.client (fun x => AV.agg (fkC x)) m X :: F) → sat h (FkP p X :: F):=fun hs => fkP.2 ⟨m,hX,hs.drop⟩
  generalize Hp.set h b _ = h2 at hs hb ha hp hlen ⊢
  by_cases c0 : c = 0
  ·have e0 : (c == 0) = true:=by simpa using c0
   have ef : fkAsk X c s = (rpE 0,true):=by simp [fkAsk,c0]; rfl
   simp (disch:=omega) only [go_sem,simprocAttr,e0,ha]
   exact fkAsk_fin0 ef (back hs.p1.set.drop)
  have e0 : (c == 0) = false:=by simpa using c0
  by_cases c1 : c < 0
  ·have ef : fkAsk X c s = (rpE 1,false):=by simp [fkAsk,c0,c1]
   simp (disch:=omega) only [go_sem,simprocAttr,e0,c1,ha]
   exact fkAsk_fin0 ef (back hs.p1.set.drop)
  by_cases c2 : s < 1
  ·have ef : fkAsk X c s = (rpE 1,false):=by simp [fkAsk,c0,c2]
   simp (disch:=omega) only [go_sem,simprocAttr,e0,c1,c2,ha]
   exact fkAsk_fin0 ef (back hs.p1.set.drop)
  by_cases c3 : 64 ≤ X.length
  ·have ef : fkAsk X c s = (rpE 4,false):=by simp [fkAsk,c0,c1,c2,hg,c3]
   simp (disch:=omega) only [go_sem,simprocAttr,e0,c1,c2,hp,hlen,show ((X.length : Int) ≥ 64) = True by simp; omega,ha]
   exact fkAsk_fin0 ef (back hs.p1.set.drop)
  ·have ef : fkAsk X c s = (rpE 0,true):=by simp [fkAsk,c0,c1,c2,hg,c3]; rfl
   simp (disch:=omega) only [go_sem,simprocAttr,e0,c1,c2,hp,hlen,show ((X.length : Int) ≥ 64) = False by simp; omega,hb,show ((0:Int) < s) = True by simp; omega,ha]
   exact fkAsk_fin0 ef (back hs.p1.set.drop)
 | some x =>
  obtain ⟨hx,rfl⟩:=fkGet_some hg
  have hl:=lk_hit keyOK_int hs.p2 (pw_nodup hX.1) hx (ok:=true) (z:=.agg [.int .i64 0,.int .i64 0,.int .i64 0,.int .i64 0,.bool false,.nils,.int .i64 0])
  simp (disch:=omega) only [go_sem,simprocAttr,hp,hl]
  refine new_opq hs fun b h hs => ?_
  have hb:=hs.at
  simp (disch:=omega) only [go_sem,simprocAttr,hb,fkC]
  have hs:=hs.set (o':=.row 7 [fkC x] 1)
  have hb:=hs.at
  have ha:=hs.p1.at
  have hp:=hs.p2.at
  have hlen:=len_mp hs.p3
  have back : ∀ {h:Hp},sat h (pto b (.row 7 [fkC x] 1) :: pto p (.row 1 [[.map m]] 1) :: MpA (fun n : Int => AV.int .i64 n) Fk.client (fun x => AV.agg (fkC x)) m X :: F) → sat h (FkP p X :: F):=fun hs => fkP.2 ⟨m,hX,hs.drop⟩
  simp only [fkC] at hs hb ha hp hlen
  generalize Hp.set h b _ = h2 at hs hb ha hp hlen ⊢
  by_cases c0 : x.client = 0
  ·have e0 : (x.client == 0) = true:=by simpa using c0
   have ef : fkAsk X x.client s = (rpE 0,true):=by simp [fkAsk,c0]; rfl
   simp (disch:=omega) only [go_sem,simprocAttr,e0,ha]
   exact fkAsk_fin0 ef (back hs.p1.set.drop)
  have e0 : (x.client == 0) = false:=by simpa using c0
  by_cases c1 : x.client < 0
  ·have ef : fkAsk X x.client s = (rpE 1,false):=by simp [fkAsk,c0,c1]
   simp (disch:=omega) only [go_sem,simprocAttr,e0,c1,ha]
   exact fkAsk_fin0 ef (back hs.p1.set.drop)
  by_cases c2 : s < 1
  ·have ef : fkAsk X x.client s = (rpE 1,false):=by simp [fkAsk,c0,c2]
   simp (disch:=omega) only [go_sem,simprocAttr,e0,c1,c2,ha]
   exact fkAsk_fin0 ef (back hs.p1.set.drop)
  by_cases c3 : x.seq < s
  ·have ef : fkAsk X x.client s = (rpE 0,true):=by simp [fkAsk,c0,c1,c2,hg,c3]; rfl
   simp (disch:=omega) only [go_sem,simprocAttr,e0,c1,c2,hb,c3,ha]
   exact fkAsk_fin0 ef (back hs.p1.set.drop)
  by_cases c4 : s < x.seq
  ·have ef : fkAsk X x.client s = (rpE 24,false):=by simp [fkAsk,c0,c1,c2,hg,c3,c4]
   simp (disch:=omega) only [go_sem,simprocAttr,e0,c1,c2,hb,c3,show (x.seq > s) = True by simp; omega,ha]
   exact fkAsk_fin0 ef (back hs.p1.set.drop)
  have ef : fkAsk X x.client s = (x.rep,false):=by simp [fkAsk,c0,c1,c2,hg,c3,c4]
  simp (disch:=omega) only [go_sem,simprocAttr,e0,c1,c2,hb,c3,show (x.seq > s) = False by simp; omega]
  have hx3:=(hX.2.1 x hx).2.2
  refine call_use (ftwin hs (x:=x.rep) hx3) ?_
  rintro r h ⟨hr,hs⟩
  subst hr
  have ha:=hs.p1.at
  simp (disch:=omega) only [go_sem,simprocAttr,ha,rpC]
  exact fkAsk_fin ef (back hs.p1.set.drop)
theorem fkNoteT {c q : Int} {x:Rp} (hs : sat h (FkP p X :: F)) (hx:RpOK x) : Triple Tryz.prog 38 [.ptr p 1 0 0,.int .i64 c,.int .i64 q,rpV x] h (fun r h => sat h (FkP p (fkNote X c q x) :: F)):=by
 have hX : FkOK X:=(fkP.1 hs).choose_spec.1
 refine t38 (Nat.le_of_ble_eq_true rfl) ?_
 simp (disch:=omega) only [F38,rpC,go_sem,simprocAttr]
 refine new_opq hs fun n1 h hs => ?_
 simp (disch:=omega) only [go_sem,simprocAttr]
 refine call_use (fkAskT hs.p1) ?_
 rintro r h ⟨hr,hs⟩
 subst hr
 simp (disch:=omega) only [go_sem,simprocAttr,rpC]
 refine new_opq hs fun n2 h hs => ?_
 have h2:=hs.at
 have hs2:=hs.set (o':=.row 5 [rpC (fkAsk X c q).1] 1)
 simp only [rpC] at hs2
 simp (disch:=omega) only [go_sem,simprocAttr,h2,rpC]
 generalize Hp.set h n2 _ = h3 at hs2 ⊢
 by_cases c0 : c = 0
 ·have e0 : (c != 0) = false:=by simpa using c0
  have ef : fkNote X c q x = X:=by simp [fkNote,c0]
  rw [ef]
  simp (disch:=omega) only [go_sem,simprocAttr,e0]
  exact hs2.drop.p1.drop
 have e0 : (c != 0) = true:=by simpa using c0
 cases hf : (fkAsk X c q).2 with
 | false =>
  have ef : fkNote X c q x = X:=by simp [fkNote,hf]
  rw [ef]
  simp (disch:=omega) only [go_sem,simprocAttr,e0]
  exact hs2.drop.p1.drop
 | true =>
  have ef : fkNote X c q x = fkPut X ⟨c,q,x⟩:=by simp [fkNote,hf,c0]
  have hok:=fkNote_ok (c:=c) (s:=q) hX hx
  rw [ef] at hok ⊢
  obtain ⟨m,_,hs⟩:=fkP.1 hs2.p1
  have hp:=hs.at
  have hn:=hs.p3.at
  simp (disch:=omega) only [go_sem,simprocAttr,e0,hp,hn]
  refine call_use' (ftwin hs hx) ?_
  rintro r h ⟨hr,hs⟩
  subst hr
  have hp:=hs.at
  simp (disch:=omega) only [go_sem,simprocAttr,hp,rpC]
  cases hg : fkGet X c with
  | none =>
   refine mup_new keyOK_int hs.p1 (y:=(⟨c,q,x⟩ : Fk)) (fkGet_none hg) fun h hs => ?_
   simp (disch:=omega) only [go_sem,simprocAttr]
   have e2 : fkPut X ⟨c,q,x⟩ = kIns Fk.client X ⟨c,q,x⟩:=by simp [fkPut,hg]
   rw [e2] at hok ⊢
   exact fkP.2 ⟨m,hok,(mpA_perm hs kIns_perm).p2.drop.p2.drop.p1⟩
  | some y =>
   obtain ⟨hy,rfl⟩:=fkGet_some hg
   refine mup_set keyOK_int hs.p1 (pw_nodup hX.1) hy (y:=(⟨y.client,q,x⟩ : Fk)) rfl fun h hs => ?_
   simp (disch:=omega) only [go_sem,simprocAttr]
   have e2 : fkPut X ⟨y.client,q,x⟩ = kSet Fk.client X ⟨y.client,q,x⟩:=by simp [fkPut,hg]
   rw [e2] at hok ⊢
   exact fkP.2 ⟨m,hok,hs.p2.drop.p2.drop.p1⟩
end
end Go.Proofs.YtmhbnkjajkcmkaaGreat
/- The lease book's functions. -/
set_option maxRecDepth 10000
namespace Go.Proofs.YtmhbnkjajkcmkaaGreat
open Go.Hz Go.Sort
section
variable {h:Hp} {F:List Asr} {X:List Lz} {p:Nat}
theorem cmpL : CmpT Tryz.prog true GLz ltI 100 []:=by
 rintro _ _ L h ⟨x,rfl⟩ ⟨y,rfl⟩ hs
 show Triple Tryz.prog _ [.agg [.int .i64 x.id,.int .i64 x.ttl,.int .i64 x.til],.agg [.int .i64 y.id,.int .i64 y.ttl,.int .i64 y.til]] h _
 refine t100 (Nat.le_of_ble_eq_true rfl) ?_
 simp (disch:=omega) only [F100,go_sem,simprocAttr]
 refine new_opq hs fun a h hs => ?_
 simp (disch:=omega) only [go_sem,simprocAttr]
 refine new_opq hs fun b h hs => ?_
 have ha:=hs.at
 have hb:=hs.p1.at
 simp (disch:=omega) only [go_sem,simprocAttr,ha,hb]
 refine call_use (cmp_int hs) ?_
 rintro r h ⟨c,hr,h1,hs⟩
 subst hr
 simp (disch:=omega) only [go_sem,simprocAttr]
 exact ⟨c,rfl,by rw [h1]; rfl,hs.drop.drop⟩
theorem lsNew (hs : sat h F) : Triple Tryz.prog 31 [] h (fun r h => ∃ p,r = .ptr p 1 0 0∧sat h (LsP p [] :: F)):=by
 refine t31 (Nat.le_of_ble_eq_true rfl) ?_
 simp (disch:=omega) only [F31,go_sem,simprocAttr]
 refine new_opq hs fun m h hs => ?_
 simp (disch:=omega) only [go_sem,simprocAttr]
 refine new_opq hs fun p h hs => ?_
 simp (disch:=omega) only [go_sem,simprocAttr]
 exact ⟨p,rfl,lsP.2 ⟨m,⟨.nil,by simp,by simp⟩,(mpA_new hs.p1).p1⟩⟩
theorem lsNum {n:Int} (hs : sat h F) : Triple Tryz.prog 150 [.int .i64 n] h (fun r h => r = .bool (lzNum n)∧sat h F):=by
 refine t150 (Nat.le_of_ble_eq_true rfl) ?_
 simp (disch:=omega) only [F150,go_sem,simprocAttr]
 refine cnd_dec (fun h1 => ?_) (fun h1 => ?_)
 ·simp (disch:=omega) only [go_sem,simprocAttr]
  exact ⟨by simp [lzNum,h1],hs⟩
 ·simp (disch:=omega) only [go_sem,simprocAttr]
  exact ⟨by simp [lzNum,h1],hs⟩
theorem lsHas {id:Int} (hs : sat h (LsP p X :: F)) : Triple Tryz.prog 91 [.ptr p 1 0 0,.int .i64 id] h (fun r h => r = .bool (lzHas X id)∧sat h (LsP p X :: F)):=by
 obtain ⟨m,hX,hs⟩:=lsP.1 hs
 have hp:=hs.at
 cases hh : lzHas X id with
 | true =>
  obtain ⟨x,hx,rfl⟩:=lzHas_t hh
  have hl:=lk_hit keyOK_int hs.p1 hX.nodup hx (ok:=true) (z:=.agg [.int .i64 0,.int .i64 0,.int .i64 0])
  refine t91 (Nat.le_of_ble_eq_true rfl) ?_
  simp (disch:=omega) only [F91,hp,hl,go_sem,simprocAttr]
  refine new_opq hs fun a h hs => ?_
  have ha:=hs.at
  simp (disch:=omega) only [go_sem,simprocAttr,ha,lzC]
  exact lsP.2 ⟨m,hX,hs.set.drop⟩
 | false =>
  have hl:=lk_miss keyOK_int hs.p1 (lzHas_f hh) (ok:=true) (z:=.agg [.int .i64 0,.int .i64 0,.int .i64 0])
  refine t91 (Nat.le_of_ble_eq_true rfl) ?_
  simp (disch:=omega) only [F91,hp,hl,go_sem,simprocAttr]
  refine new_opq hs fun a h hs => ?_
  have ha:=hs.at
  simp (disch:=omega) only [go_sem,simprocAttr,ha]
  exact lsP.2 ⟨m,hX,hs.set.drop⟩
theorem lsGrant {id ttl now : Int} (hs : sat h (LsP p X :: F)) (hn : 0 ≤ now∧now ≤ 4611686018427387904) : Triple Tryz.prog 89 [.ptr p 1 0 0,.int .i64 id,.int .i64 ttl,.int .i64 now] h (fun r h => r = .int .i64 (lzGrant X id ttl now).1∧sat h (LsP p (lzGrant X id ttl now).2 :: F)):=by
 obtain ⟨m,hX,hs⟩:=lsP.1 hs
 have hp:=hs.at
 obtain ⟨z,hl,hz⟩ : ∃ z : Lz,lkA false true (.agg [.int .i64 0,.int .i64 0,.int .i64 0]) h (.map m) (.int .i64 id) = some (.tup [.agg (lzC z),.bool (lzHas X id)])∧True:=by
  cases hh : lzHas X id with
  | true =>
   obtain ⟨x,hx,rfl⟩:=lzHas_t hh
   exact ⟨x,lk_hit keyOK_int hs.p1 hX.nodup hx,trivial⟩
  | false => exact ⟨⟨0,0,0⟩,lk_miss keyOK_int hs.p1 (lzHas_f hh),trivial⟩
 refine t89 (Nat.le_of_ble_eq_true rfl) ?_
 simp (disch:=omega) only [F89,hp,hl,go_sem,simprocAttr]
 refine new_opq hs fun a h hs => ?_
 have ha:=hs.at
 simp (disch:=omega) only [go_sem,simprocAttr,ha,lzC]
 have hs:=(hs.set (o':=.row 3 [lzC z] 1)).drop
 cases h1 : lzNum id with
 | false =>
  refine call_use (lsNum hs) ?_
  rintro r h ⟨hr,hs⟩
  subst hr
  simp (disch:=omega) only [go_sem,simprocAttr,h1]
  exact ⟨by simp [lzGrant,h1],lsP.2 ⟨m,by simpa [lzGrant,h1] using hX,by simpa [lzGrant,h1] using hs⟩⟩
 | true =>
 refine call_use (lsNum hs) ?_
 rintro r h ⟨hr,hs⟩
 subst hr
 simp (disch:=omega) only [go_sem,simprocAttr,h1]
 cases h2 : lzNum ttl with
 | false =>
  refine call_use (lsNum hs) ?_
  rintro r h ⟨hr,hs⟩
  subst hr
  simp (disch:=omega) only [go_sem,simprocAttr,h2]
  exact ⟨by simp [lzGrant,h1,h2],lsP.2 ⟨m,by simpa [lzGrant,h1,h2] using hX,by simpa [lzGrant,h1,h2] using hs⟩⟩
 | true =>
 refine call_use (lsNum hs) ?_
 rintro r h ⟨hr,hs⟩
 subst hr
 simp (disch:=omega) only [go_sem,simprocAttr,h2]
 cases h3 : lzHas X id with
 | true =>
  simp (disch:=omega) only [go_sem,simprocAttr]
  exact ⟨by simp [lzGrant,h1,h2,h3],lsP.2 ⟨m,by simpa [lzGrant,h1,h2,h3] using hX,by simpa [lzGrant,h1,h2,h3] using hs⟩⟩
 | false =>
 have hp:=hs.at
 have hlen:=len_mp hs.p1
 have e1 : decide ((X.length : Int) ≥ 1024) = decide (1024 ≤ X.length):=by simp only [decide_eq_decide]; omega
 simp (disch:=omega) only [go_sem,simprocAttr,hp,hlen,e1]
 refine cnd_dec (fun h4 => ?_) (fun h4 => ?_)
 ·simp (disch:=omega) only [go_sem,simprocAttr]
  exact ⟨by simp [lzGrant,h1,h2,h3,h4],lsP.2 ⟨m,by simpa [lzGrant,h1,h2,h3,h4] using hX,by simpa [lzGrant,h1,h2,h3,h4] using hs⟩⟩
 have b1 : 1 ≤ id∧id ≤ 2147483647:=by simpa [lzNum] using h1
 have b2 : 1 ≤ ttl∧ttl ≤ 2147483647:=by simpa [lzNum] using h2
 simp (disch:=omega) only [go_sem,simprocAttr,hp]
 refine mup_new keyOK_int hs.p1 (y:=⟨id,ttl,now + ttl⟩) (lzHas_f h3) fun h hs => ?_
 simp (disch:=omega) only [go_sem,simprocAttr]
 have e2 : lzGrant X id ttl now = (0,lzIns X ⟨id,ttl,now + ttl⟩):=by simp [lzGrant,h1,h2,h3,h4]
 have hg:=lzGrant_ok (id:=id) (ttl:=ttl) (now:=now) hX
 rw [e2] at hg ⊢
 exact ⟨rfl,lsP.2 ⟨m,hg,(mpA_perm hs lzIns_perm).p1⟩⟩
theorem lsRevoke {id:Int} (hs : sat h (LsP p X :: F)) : Triple Tryz.prog 151 [.ptr p 1 0 0,.int .i64 id] h (fun r h => r = .int .i64 (lzRevoke X id).1∧sat h (LsP p (lzRevoke X id).2 :: F)):=by
 refine t151 (Nat.le_of_ble_eq_true rfl) ?_
 simp (disch:=omega) only [F151,go_sem,simprocAttr]
 cases hh : lzHas X id with
 | false =>
  refine call_use (lsHas hs) ?_
  rintro r h ⟨hr,hs⟩
  subst hr
  simp (disch:=omega) only [go_sem,simprocAttr,hh]
  exact ⟨by simp [lzRevoke,hh],by simpa [lzRevoke,hh] using hs⟩
 | true =>
  refine call_use (lsHas hs) ?_
  rintro r h ⟨hr,hs⟩
  subst hr
  simp (disch:=omega) only [go_sem,simprocAttr,hh]
  obtain ⟨m,hX,hs⟩:=lsP.1 hs
  obtain ⟨x,hx,rfl⟩:=lzHas_t hh
  have hp:=hs.at
  simp (disch:=omega) only [go_sem,simprocAttr,hp]
  refine del_hit keyOK_int hs.p1 hX.nodup hx fun h hs => ?_
  simp (disch:=omega) only [go_sem,simprocAttr]
  have e2 : lzRevoke X x.id = (0,lzDel X x.id):=by simp [lzRevoke,hh]
  have hg:=lzRevoke_ok (id:=x.id) hX
  rw [e2] at hg ⊢
  exact ⟨rfl,lsP.2 ⟨m,hg,hs.p1⟩⟩
theorem lsAll (hs : sat h (LsP p X :: F)) : Triple Tryz.prog 46 [.ptr p 1 0 0] h (fun r h => sat h (Ow 3 r (X.map lzC) :: LsP p X :: F)):=by
 obtain ⟨m,hX,hs⟩:=lsP.1 hs
 have hp:=hs.at
 refine t46 (Nat.le_of_ble_eq_true rfl) ?_
 simp (disch:=omega) only [F46,hp,go_sem,simprocAttr]
 obtain ⟨pl,c,⟨q1,q2,q3⟩,hs⟩:=mpA.1 hs.p1
 refine call_use (vals_L hs) ?_
 rintro r h ⟨bx,hr,hs⟩
 subst hr
 simp (disch:=omega) only [go_sem,simprocAttr]
 have hl : pl.length = X.length:=by simpa using q1.length_eq
 refine call_use (srd_L rfl cmpL goodE_lz swo_ltI hs ?_ ?_ ?_ (by simp [kvOf]; have:=hX.2.2; omega)) ?_
 ·intro x hx
  obtain ⟨y,hy,rfl⟩:=List.mem_map.1 hx
  exact q3 y hy
 ·simpa [kvOf,Function.comp_def] using q2
 ·intro x hx
  obtain ⟨y,hy,rfl⟩:=List.mem_map.1 hx
  exact ⟨_,rfl,y.1,rfl⟩
 ·rintro r h ⟨R,p1,p2,hs⟩
  simp (disch:=omega) only [go_sem,simprocAttr]
  have p3 : R.Perm (X.map lzC):=by
   refine p1.trans ?_
   have:=q1.map lzC
   simpa [kvOf,Function.comp_def,AV.cells] using this
  rw [lz_sorted hX p3 p2] at hs
  exact (lsP.2 ⟨m,hX,(mpA.2 ⟨pl,c,⟨q1,q2,q3⟩,hs.p1⟩).p2⟩).p1
theorem lsAllR (hs : sat h (LsP p X :: F)) : Triple Tryz.prog 46 [.ptr p 1 0 0] h (fun r h => r = .lst (X.map lzC)∧sat h (LsP p X :: F)) :=
 Triple.lst 3 ((lsAll hs).mono fun r h hs => ⟨_,_,hs,fun h hs => ⟨rfl,hs⟩⟩)
theorem lsOver {now:Int} (hs : sat h (LsP p X :: F)) : Triple Tryz.prog 93 [.ptr p 1 0 0,.int .i64 now] h (fun r h => sat h (Ow 1 r ((lzOver X now).map fun x => [.int .i64 x.id]) :: LsP p X :: F)):=by
 have hX : LzOK X:=(lsP.1 hs).choose_spec.1
 have hlen:=hX.2.2
 refine t93 (Nat.le_of_ble_eq_true rfl) ?_
 simp (disch:=omega) only [F93,go_sem,simprocAttr]
 refine call_use (lsAllR hs) ?_
 rintro r h ⟨hr,hs⟩
 subst hr
 simp (disch:=omega) only [go_sem,simprocAttr]
 refine run_up (N:=X.length) (fun i e h => sat h (Ow 1 (e 5) ((lzOver (X.take i) now).map fun x => [.int .i64 x.id]) :: LsP p X :: F)∧(e 1 = .int .i64 now∧e 9 = .lst (X.map lzC)∧e 10 = .int .i64 X.length∧e 11 = .int .i64 i)) ⟨hs.add ow_nil,rfl,rfl,rfl,rfl⟩ ?_
 rintro i e h hi ⟨hs,he⟩
 have m1 : (i:Int) + 1 = ((i + 1 : Nat) : Int):=by omega
 simp (disch:=omega) only [go_sem,simprocAttr,he,m1]
 refine cnd_dec (fun h1 => ?_) (fun h1 => ?_)
 ·have hi : i < X.length:=by omega
  have e1:=ia_lst (f:=lzC) (l:=X) (i:=i) (s:=3) (k:=.i64) hi (fun _ => rfl)
  simp (disch:=omega) only [go_sem,simprocAttr,he,e1,lzC]
  refine new_opq hs fun a h hs => ?_
  have hs2:=hs.set (o':=.row 3 [lzC X[i]] 1)
  have ha:=hs.at
  have ha2:=hs2.at
  simp only [lzC] at hs2 ha2
  have hl2 : ((lzOver (X.take i) now).map fun x => [AV.int .i64 x.id]).length ≤ 1024:=by
   have:=List.length_filter_le (fun x : Lz => decide (x.til ≤ now)) (X.take i)
   simp only [List.length_map,lzOver]
   rw [List.length_take] at this
   omega
  simp (disch:=omega) only [go_sem,simprocAttr,he,ha,ha2]
  generalize Hp.set h a _ = h2 at hs2 ha2 ⊢
  refine cnd_dec (fun h2 => ?_) (fun h2 => ?_)
  ·have e2 : lzOver (X.take (i + 1)) now = lzOver (X.take i) now ++ [X[i]]:=by
    unfold lzOver
    rw [List.take_succ_eq_append_getElem hi,List.filter_append]
    simp only [List.filter_cons,List.filter_nil,h2,decide_true,if_true]
   simp (disch:=omega) only [go_sem,simprocAttr,he,ha2]
   refine new_opq hs2 fun b h hs => ?_
   simp (disch:=omega) only [go_sem,simprocAttr]
   refine app_sat hs.p2 (src_one hs.at) (atoms_one (by simp [AV.isAtom])) (by simp only [List.length_cons,List.length_nil]; omega) fun v' h hs ca aa => ?_
   simp (disch:=omega) only [go_sem,simprocAttr,he,m1]
   rw [e2]
   exact ⟨by omega,by simpa using hs.d1.d1⟩
  ·have e2 : lzOver (X.take (i + 1)) now = lzOver (X.take i) now:=by
    unfold lzOver
    rw [List.take_succ_eq_append_getElem hi,List.filter_append]
    simp [List.filter_cons,List.filter_nil,h2,decide_false]
   simp (disch:=omega) only [go_sem,simprocAttr,he,m1]
   rw [e2]
   exact ⟨by omega,hs2.drop⟩
 ·have hi : i = X.length:=by omega
  subst hi
  simp (disch:=omega) only [go_sem,simprocAttr,he]
  simpa using hs
theorem lsOverR {now:Int} (hs : sat h (LsP p X :: F)) : Triple Tryz.prog 93 [.ptr p 1 0 0,.int .i64 now] h (fun r h => r = .lst ((lzOver X now).map fun x => [.int .i64 x.id])∧sat h (LsP p X :: F)) :=
 Triple.lst 1 ((lsOver hs).mono fun r h hs => ⟨_,_,hs,fun h hs => ⟨rfl,hs⟩⟩)
end
end Go.Proofs.YtmhbnkjajkcmkaaGreat
/- The machine: its parts; one is made; what a command is. -/
set_option maxRecDepth 10000
namespace Go.Proofs.YtmhbnkjajkcmkaaGreat
open Go.Hz
abbrev tS12 : Nat:=39
abbrev tB12 : Nat:=92
abbrev tT12 : Nat:=94
section
variable {h:Hp} {F:List Asr} {m s b t : Nat} {M:Mac} {o:AV}
theorem sat_dropL {G:List Asr} (hs : sat h (G ++ F)) : sat h F:=by
 induction G with
 | nil => exact hs
 | cons a G ih => exact ih hs.drop
theorem pto_els {b t k n c : Nat} {es:List (List AV)} (hs : sat h (pto b (.row t es n) :: F)) (hk : k = es.length) : Els h t (.arr b t 0 k c) es:=by
 subst hk
 refine ⟨?_,fun l hl => by cases hl⟩
 rw [src_part hs (by omega),List.drop_zero,List.take_length]
theorem els_nils {t:Nat} : Els h t .nils []:=⟨rfl,fun l hl => by cases hl⟩
abbrev McO (m s b t : Nat) (clk:Int) : AObj:=.row 4 [[.iface tS12 (.ptr s 7 0 0),.iface tB12 (.ptr b 1 0 0),.iface tT12 (.ptr t 1 0 0),.int .i64 clk]] 1
abbrev Mc (m s b t : Nat) (o:AV) (M:Mac) (F:List Asr) : List Asr:=pto m (McO m s b t M.clk) :: StP s M.st o :: LsP b M.lz :: FkP t M.fk :: F
theorem mcNew (hs : sat h F) : Triple Tryz.prog 12 [] h (fun r h => ∃ m s b t,r = .ptr m 4 0 0∧sat h (Mc m s b t .nilp mac0 F)):=by
 refine t12 (Nat.le_of_ble_eq_true rfl) ?_
 simp (disch:=omega) only [F12,go_sem,simprocAttr]
 refine new_opq hs fun m h hs => ?_
 simp (disch:=omega) only [go_sem,simprocAttr]
 refine call_use (mvNew hs) ?_
 rintro r h ⟨s,hr,hs⟩
 subst hr
 simp (disch:=omega) only [go_sem,simprocAttr]
 refine call_use (lsNew hs) ?_
 rintro r h ⟨b,hr,hs⟩
 subst hr
 simp (disch:=omega) only [go_sem,simprocAttr]
 refine call_use (fkNew hs) ?_
 rintro r h ⟨t,hr,hs⟩
 subst hr
 have hs:=hs.p1.p2.p3
 have hm:=hs.at
 have hs2:=hs.set (o':=McO m s b t 0)
 simp (disch:=omega) only [go_sem,simprocAttr,hm]
 exact ⟨m,s,b,t,rfl,hs2⟩
theorem mcStoreP {clk:Int} (hs : sat h (pto m (McO m s b t clk) :: F)) : Triple Tryz.prog 37 [.ptr m 4 0 0] h (fun r h => r = .ptr s 7 0 0∧sat h (pto m (McO m s b t clk) :: F)):=by
 have hm:=hs.at
 have ht : taA 39 false .nilp (.iface tS12 (.ptr s 7 0 0)) = some (.ptr s 7 0 0):=rfl
 refine t37 (Nat.le_of_ble_eq_true rfl) ?_
 simp (disch:=omega) only [F37,hm,ht,go_sem,simprocAttr]
 exact hs
theorem mcBookP {clk:Int} (hs : sat h (pto m (McO m s b t clk) :: F)) : Triple Tryz.prog 45 [.ptr m 4 0 0] h (fun r h => r = .ptr b 1 0 0∧sat h (pto m (McO m s b t clk) :: F)):=by
 have hm:=hs.at
 have ht : taA 92 false .nilp (.iface tB12 (.ptr b 1 0 0)) = some (.ptr b 1 0 0):=rfl
 refine t45 (Nat.le_of_ble_eq_true rfl) ?_
 simp (disch:=omega) only [F45,hm,ht,go_sem,simprocAttr]
 exact hs
theorem mcTableP {clk:Int} (hs : sat h (pto m (McO m s b t clk) :: F)) : Triple Tryz.prog 33 [.ptr m 4 0 0] h (fun r h => r = .ptr t 1 0 0∧sat h (pto m (McO m s b t clk) :: F)):=by
 have hm:=hs.at
 have ht : taA 94 false .nilp (.iface tT12 (.ptr t 1 0 0)) = some (.ptr t 1 0 0):=rfl
 refine t33 (Nat.le_of_ble_eq_true rfl) ?_
 simp (disch:=omega) only [F33,hm,ht,go_sem,simprocAttr]
 exact hs
theorem mcStore {clk:Int} (hs : sat h (pto m (McO m s b t clk) :: F)) : Triple Tryz.prog 15 [.ptr m 4 0 0] h (fun r h => r = .ptr s 7 0 0∧sat h (pto m (McO m s b t clk) :: F)):=by
 have hm:=hs.at
 refine t15 (Nat.le_of_ble_eq_true rfl) ?_
 simp (disch:=omega) only [F15,hm,go_sem,simprocAttr]
 refine call_use (mcStoreP hs) ?_
 rintro r h ⟨hr,hs⟩
 subst hr
 simp (disch:=omega) only [go_sem,simprocAttr]
 exact hs
def deedV (c:Cm) (v1 v2 v3 : AV) : AV :=
 if c.kind = 0 then .iface 175 (.agg [v1,v2,v3])
 else if c.kind = 1 then .iface 179 (.agg [.int .i64 c.lease,.int .i64 c.ttl])
 else if c.kind = 2 then .iface 182 (.agg [.int .i64 c.lease])
 else if c.kind = 3 then .iface 184 (.agg [.int .i64 c.lease])
 else if c.kind = 4 then .iface 187 (.agg [.int .i64 c.time])
 else if c.kind = 5 then .iface 189 (.agg [])
 else if c.kind = 6 then .iface 191 (.agg [.int .i64 c.rev])
 else .nili
theorem mcDoes {c:Cm} {v1 v2 v3 : AV} (hs : sat h F) (a1 : v1.isAtom = true) (a2 : v2.isAtom = true) (a3 : v3.isAtom = true) (z1 : v1.cells = [v1]) (z2 : v2.cells = [v2]) (z3 : v3.cells = [v3]) :
  Triple Tryz.prog 36 [.agg (c.rowV v1 v2 v3)] h (fun r h => r = deedV c v1 v2 v3∧sat h F):=by
 unfold deedV
 refine t36 (Nat.le_of_ble_eq_true rfl) ?_
 simp (disch:=omega) only [F36,Cm.rowV,a1,a2,a3,z1,z2,z3,go_sem,simprocAttr]
 refine new_opq hs fun a h hs => ?_
 have ha:=hs.at
 simp (disch:=omega) only [go_sem,simprocAttr,ha,a1,a2,a3,z1,z2,z3]
 by_cases k0 : c.kind = 0
 ·have d0 : (c.kind == 0) = true:=by simpa using k0
  rw [if_pos k0]
  simp (disch:=omega) only [go_sem,simprocAttr,ha,d0,a1,a2,a3,z1,z2,z3]
  exact hs.drop
 have d0 : (c.kind == 0) = false:=by simpa using k0
 rw [if_neg k0]
 by_cases k1 : c.kind = 1
 ·have d1 : (c.kind == 1) = true:=by simpa using k1
  rw [if_pos k1]
  simp (disch:=omega) only [go_sem,simprocAttr,ha,d0,d1]
  exact hs.drop
 have d1 : (c.kind == 1) = false:=by simpa using k1
 rw [if_neg k1]
 by_cases k2 : c.kind = 2
 ·have d2 : (c.kind == 2) = true:=by simpa using k2
  rw [if_pos k2]
  simp (disch:=omega) only [go_sem,simprocAttr,ha,d0,d1,d2]
  exact hs.drop
 have d2 : (c.kind == 2) = false:=by simpa using k2
 rw [if_neg k2]
 by_cases k3 : c.kind = 3
 ·have d3 : (c.kind == 3) = true:=by simpa using k3
  rw [if_pos k3]
  simp (disch:=omega) only [go_sem,simprocAttr,ha,d0,d1,d2,d3]
  exact hs.drop
 have d3 : (c.kind == 3) = false:=by simpa using k3
 rw [if_neg k3]
 by_cases k4 : c.kind = 4
 ·have d4 : (c.kind == 4) = true:=by simpa using k4
  rw [if_pos k4]
  simp (disch:=omega) only [go_sem,simprocAttr,ha,d0,d1,d2,d3,d4]
  exact hs.drop
 have d4 : (c.kind == 4) = false:=by simpa using k4
 rw [if_neg k4]
 by_cases k5 : c.kind = 5
 ·have d5 : (c.kind == 5) = true:=by simpa using k5
  rw [if_pos k5]
  simp (disch:=omega) only [go_sem,simprocAttr,ha,d0,d1,d2,d3,d4,d5]
  exact hs.drop
 have d5 : (c.kind == 5) = false:=by simpa using k5
 rw [if_neg k5]
 by_cases k6 : c.kind = 6
 ·have d6 : (c.kind == 6) = true:=by simpa using k6
  rw [if_pos k6]
  simp (disch:=omega) only [go_sem,simprocAttr,ha,d0,d1,d2,d3,d4,d5,d6]
  exact hs.drop
 have d6 : (c.kind == 6) = false:=by simpa using k6
 rw [if_neg k6]
 simp (disch:=omega) only [go_sem,simprocAttr,ha,d0,d1,d2,d3,d4,d5,d6]
 exact hs.drop
end
end Go.Proofs.YtmhbnkjajkcmkaaGreat
/- The machine: a command, once. -/
set_option maxRecDepth 10000
namespace Go.Proofs.YtmhbnkjajkcmkaaGreat
open Go.Hz
section
variable {h:Hp} {F:List Asr} {m s b t : Nat} {M:Mac} {o:AV}
def DoOK (m s b t : Nat) (o:AV) (M:Mac) (c:Cm) (v1 v2 v3 : AV) (F:List Asr) : Prop := ∀ (G:List Asr) h,sat h (Mc m s b t o M (G ++ F)) →
 Triple Tryz.prog 35 [.ptr m 4 0 0,deedV c v1 v2 v3] h (fun r h => ∃ o',r = rpV (mDo M c).1∧sat h (Mc m s b t o' (mDo M c).2 (G ++ F)))
theorem mcApplyN {c:Cm} {v1 v2 v3 : AV} (hs : sat h (Mc m s b t o M F)) (a1 : v1.isAtom = true) (a2 : v2.isAtom = true) (a3 : v3.isAtom = true) (z1 : v1.cells = [v1]) (z2 : v2.cells = [v2]) (z3 : v3.cells = [v3]) {x:Rp} (hA : fkAsk M.fk c.client c.seq = (x,false)) :
  Triple Tryz.prog 14 [.ptr m 4 0 0,.agg (c.rowV v1 v2 v3)] h (fun r h => r = rpV x∧sat h (Mc m s b t o M F)):=by
 refine t14 (Nat.le_of_ble_eq_true rfl) ?_
 simp (disch:=omega) only [F14,Cm.rowV,a1,a2,a3,z1,z2,z3,go_sem,simprocAttr]
 refine new_opq hs fun q h hs => ?_
 simp (disch:=omega) only [go_sem,simprocAttr]
 refine new_opq hs fun y h hs => ?_
 have hc:=hs.p1.at
 have hm:=hs.p2.at
 simp (disch:=omega) only [go_sem,simprocAttr,hc,hm]
 refine call_use' (mcTableP (hs.p5.p5.p5.p4.p4.p5)) ?_
 rintro r h ⟨hr,hs⟩
 subst hr
 have hc:=hs.p2.at
 simp (disch:=omega) only [go_sem,simprocAttr,hc]
 refine call_use (fkAskT (c:=c.client) (s:=c.seq) (hs.p4.p4.p4.p4.p4.p5)) ?_
 rintro r h ⟨hr,hs⟩
 rw [hA] at hr
 subst hr
 simp (disch:=omega) only [go_sem,simprocAttr]
 refine new_opq hs fun a h hs => ?_
 have ha:=hs.at
 have hs2:=hs.set (o':=.row 5 [rpC x] 1)
 simp only [rpC] at hs2
 have ha2:=hs2.at
 have hy:=hs2.p6.p6.p6.p5.p5.p5.p6.at
 simp (disch:=omega) only [go_sem,simprocAttr,ha,ha2,hy,rpC]
 generalize Hp.set h a _ = h2 at hs2 ha2 hy ⊢
 have hs3:=hs2.drop.p3.drop.p4.p4.p3.p4.set (o':=.row 5 [rpC x] 1)
 exact ⟨rfl,hs3.drop.p3.p3.p3.p3⟩
theorem mcApplyF {c:Cm} {v1 v2 v3 : AV} (hs : sat h (Mc m s b t o M F)) (a1 : v1.isAtom = true) (a2 : v2.isAtom = true) (a3 : v3.isAtom = true) (z1 : v1.cells = [v1]) (z2 : v2.cells = [v2]) (z3 : v3.cells = [v3])
  (hf:(fkAsk M.fk c.client c.seq).2 = true) (hD:DoOK m s b t o M c v1 v2 v3 F) (hrp:RpOK (mRep (mDo M c))) :
  Triple Tryz.prog 14 [.ptr m 4 0 0,.agg (c.rowV v1 v2 v3)] h (fun r h => ∃ o',r = rpV (mApply M c).1∧sat h (Mc m s b t o' (mApply M c).2 F)):=by
 have hm0 : mApply M c = (mRep (mDo M c),{ (mDo M c).2 with fk:=fkNote (mDo M c).2.fk c.client c.seq (mRep (mDo M c)) }):=by
  unfold mApply; rw [if_neg (by rw [hf]; simp)]
 rw [hm0]
 obtain ⟨x,hA⟩ : ∃ x,fkAsk M.fk c.client c.seq = (x,true):=⟨_,Prod.ext rfl hf⟩
 refine t14 (Nat.le_of_ble_eq_true rfl) ?_
 simp (disch:=omega) only [F14,Cm.rowV,a1,a2,a3,z1,z2,z3,go_sem,simprocAttr]
 refine new_opq hs fun q h hs => ?_
 simp (disch:=omega) only [go_sem,simprocAttr]
 refine new_opq hs fun y h hs => ?_
 have hc:=hs.p1.at
 have hm:=hs.p2.at
 simp (disch:=omega) only [go_sem,simprocAttr,hc,hm]
 refine call_use' (mcTableP (hs.p5.p5.p5.p4.p4.p5)) ?_
 rintro r h ⟨hr,hs⟩
 subst hr
 have hc:=hs.p2.at
 simp (disch:=omega) only [go_sem,simprocAttr,hc]
 refine call_use (fkAskT (c:=c.client) (s:=c.seq) (hs.p4.p4.p4.p4.p4.p5)) ?_
 rintro r h ⟨hr,hs⟩
 rw [hA] at hr
 subst hr
 simp (disch:=omega) only [go_sem,simprocAttr]
 refine new_opq hs fun a h hs => ?_
 have ha:=hs.at
 have hc:=hs.p6.p6.p5.p5.p5.p5.p6.at
 have hs2:=hs.set (o':=.row 5 [rpC x] 1)
 simp only [rpC] at hs2
 have hc2:=hs2.p6.p6.p5.p5.p5.p5.p6.at
 simp (disch:=omega) only [go_sem,simprocAttr,ha,hc2,rpC]
 generalize Hp.set h a _ = h2 at hs2 hc2 ⊢
 refine call_use (mcDoes (c:=c) (v1:=v1) (v2:=v2) (v3:=v3) hs2 a1 a2 a3 z1 z2 z3) ?_
 rintro r h ⟨hr,hs⟩
 subst hr
 simp (disch:=omega) only [go_sem,simprocAttr]
 have hdo:=hD [_,_,_] h (hs.p4.p4.p2.p3.p6.p6.p6)
 refine call_use hdo ?_
 rintro r h ⟨o',hr,hs⟩
 subst hr
 generalize mDo M c = D at hs hrp ⊢
 have hs : sat h (pto m (McO m s b t D.2.clk) :: StP s D.2.st o' :: LsP b D.2.lz :: FkP t D.2.fk :: pto a (.row 5 [rpC x] 1) :: pto y (.row 5 [[.int .i64 0,.int .i64 0,.bool false,.nils,.int .i64 0]] 1) :: pto q (.row 10 [c.rowV v1 v2 v3] 1) :: F):=hs
 simp (disch:=omega) only [go_sem,simprocAttr]
 refine new_opq hs fun d h hs => ?_
 have hd:=hs.at
 have hs2:=hs.set (o':=.row 5 [rpC D.1] 1)
 simp only [rpC] at hs2
 have hd2:=hs2.at
 have hm:=hs2.p1.at
 simp (disch:=omega) only [go_sem,simprocAttr,hd,hd2,hm,rpC]
 generalize Hp.set h d _ = h2 at hs2 hd2 hm ⊢
 refine call_use' (mcStoreP (hs2.p7.p7.p7.p7.p7.p7.p6.p7)) ?_
 rintro r h ⟨hr,hs⟩
 subst hr
 have hm:=hs.at
 simp (disch:=omega) only [go_sem,simprocAttr,hm]
 refine call_use' (mvRev (hs.p7.p7.p7.p7.p7.p6.p6.p7)) ?_
 rintro r h ⟨hr,hs⟩
 subst hr
 have hm:=hs.p1.at
 have hd:=hs.p7.p7.p7.p7.p7.p6.p6.p7.at
 have hs3:=hs.p7.p7.p7.p7.p7.p6.p6.p7.set (o':=.row 5 [[.int .i64 D.1.err,.int .i64 D.2.st.rev,.bool D.1.thn,ressV D.1.res,.int .i64 D.1.time]] 1)
 have hs4:=hs.p7.p7.p7.p7.p7.p6.p6.p7.set (o':=.row 5 [rpC (mRep D)] 1)
 simp only [rpC,mRep] at hs4
 have hd3:=hs3.at
 have hm3:=hs3.p7.p7.p7.p7.p7.p6.p6.p7.at
 have hd4:=hs4.at
 have hc4:=hs4.p6.p6.p6.p6.p6.p6.p6.p7.at
 have hm4:=hs4.p7.p7.p7.p7.p7.p6.p6.p7.at
 simp (disch:=omega) only [go_sem,simprocAttr,hm,hd,hd3,hm3,hd4,hc4,hm4,Cm.rowV]
 clear hm hd hd3 hm3 hd4 hc4 hm4 hs3
 generalize Hp.set h d _ = h5 at hs4 ⊢
 refine call_use' (mcTableP (hs4.p7.p7.p7.p7.p7.p6.p6.p7)) ?_
 rintro r h ⟨hr,hs⟩
 subst hr
 have hd:=hs.p1.at
 have hc:=hs.p6.p6.p6.p6.p6.p6.p6.p7.at
 simp (disch:=omega) only [go_sem,simprocAttr,hd,hc,Cm.rowV]
 refine call_use (fkNoteT (c:=c.client) (q:=c.seq) (x:=mRep D) (hs.p7.p7.p7.p6.p6.p6.p6.p7) hrp) ?_
 intro r h hs
 have hd:=hs.p2.at
 have hy:=hs.p7.p6.p6.p6.p6.p6.p6.p7.at
 have hs6:=hs.p2.drop.p4.drop.p5.drop.p3.p3.p3.p4.set (o':=.row 5 [rpC (mRep D)] 1)
 simp only [rpC,mRep] at hs6
 simp (disch:=omega) only [go_sem,simprocAttr,hd,hy]
 exact ⟨o',rfl,hs6.drop.p3.p3.p3.p3⟩
end
end Go.Proofs.YtmhbnkjajkcmkaaGreat
/- The machine: a command is done: a transaction, the clock. -/
set_option maxRecDepth 10000
namespace Go.Proofs.YtmhbnkjajkcmkaaGreat
open Go.Hz
section
variable {h:Hp} {F:List Asr} {m s b t : Nat} {M:Mac} {o:AV}
theorem meth_hasL : methOf Tryz.prog tB12 "Has" = some 91:=by kernel_rfl
theorem hasL {X:List Lz} : HasOK (LsP b X :: F) (.iface tB12 (.ptr b 1 0 0)) (lzHas X):=by
 intro id h G K hs hk
 simp only [invE,meth_hasL]
 refine ⟨okFn_ok rfl,(lsHas (id:=id) (sat.mid hs)).mono fun r h' ⟨h1,h2⟩ => ?_⟩
 subst h1
 exact hk h' (sat.unmid h2)
theorem mcDo0 {c:Cm} {v1 v2 v3 : AV} (k0 : c.kind = 0) (h1:∀ h,sat h F → Els h 5 v1 (c.txn.ifs.map If9.row)) (h2:∀ h,sat h F → Els h 6 v2 (c.txn.thn.map Op9.row)) (h3:∀ h,sat h F → Els h 6 v3 (c.txn.els.map Op9.row))
  (l1 : c.txn.ifs.length ≤ 1000000000) (l2 : c.txn.thn.length ≤ 1000000000) (l3 : c.txn.els.length ≤ 1000000000) (hv:∀ o ∈ c.txn.thn ++ c.txn.els,o.val.length ≤ 9000000000)
  (hz:M.st.old.length + M.st.chs.length + M.st.now.length ≤ 30000000) (hr:M.st.rev ≤ 100000000000000) : DoOK m s b t o M c v1 v2 v3 F:=by
 intro G h hs
 have a1:=(h1 h (sat_dropL hs.drop.drop.drop.drop)).atom
 have a2:=(h2 h (sat_dropL hs.drop.drop.drop.drop)).atom
 have a3:=(h3 h (sat_dropL hs.drop.drop.drop.drop)).atom
 have hd : deedV c v1 v2 v3 = .iface 175 (.agg [v1,v2,v3]):=by unfold deedV; rw [if_pos k0]
 have hm0 : mDo M c = (⟨(tDo M.st (lzHas M.lz) c.txn).1.2.2,0,(tDo M.st (lzHas M.lz) c.txn).1.1,(tDo M.st (lzHas M.lz) c.txn).1.2.1,0⟩,{ M with st:=(tDo M.st (lzHas M.lz) c.txn).2 }):=by unfold mDo; rw [if_pos k0]
 rw [hd,hm0]
 refine t35 (Nat.le_of_ble_eq_true rfl) ?_
 simp (disch:=omega) only [F35,a1,a2,a3,go_sem,simprocAttr]
 refine new_opq hs fun y h hs => ?_
 simp (disch:=omega) only [go_sem,simprocAttr,a1,a2,a3]
 refine new_opq hs fun x h hs => ?_
 have hx:=hs.at
 have ht : taA 175 true (.agg [.nils,.nils,.nils]) (.iface 175 (.agg [v1,v2,v3])) = some (.tup [.agg [v1,v2,v3],.bool true]):=rfl
 simp (disch:=omega) only [go_sem,simprocAttr,hx,ht,a1,a2,a3]
 have hs1 : sat _ (pto x (.row 5 [[.int .i64 0,.int .i64 0,.bool false,.nils,.int .i64 0]] 1) :: pto y (.row 5 [[.int .i64 0,.int .i64 0,.bool false,.nils,.int .i64 0]] 1) :: _):=hs.set (o':=.row 5 [[.int .i64 0,.int .i64 0,.bool false,.nils,.int .i64 0]] 1)
 generalize Hp.set h x _ = h0 at hs1 ⊢
 refine new_opq hs1 fun d h hs => ?_
 have hd0:=hs.at
 have hs2:=hs.set (o':=.row 3 [[v1,v2,v3]] 1)
 have hd2:=hs2.at
 have hm:=hs2.p6.p6.p6.p5.p5.p5.p6.at
 simp (disch:=omega) only [go_sem,simprocAttr,hd0,hd2,hm,a1,a2,a3]
 generalize Hp.set h d _ = h9 at hs2 hd2 hm ⊢
 refine call_use' (mcStoreP (hs2.p6.p6.p6.p5.p5.p5.p6)) ?_
 rintro r h ⟨hr,hs⟩
 subst hr
 have hd:=hs.p1.at
 have hm:=hs.at
 simp (disch:=omega) only [go_sem,simprocAttr,hd,hm,a1,a2,a3]
 refine call_use' (mcBookP hs) ?_
 rintro r h ⟨hr,hs⟩
 subst hr
 have hd:=hs.p1.at
 simp (disch:=omega) only [go_sem,simprocAttr,hd,a1,a2,a3]
 refine call_use (txDo (t:=c.txn) (lv:=.iface tB12 (.ptr b 1 0 0)) (has:=lzHas M.lz) (hs.p6.p4.p4.p4.p4.p6.p6) (fun h g => h1 h (sat_dropL g.drop.drop.drop.drop.drop.drop)) (fun h g => h2 h (sat_dropL g.drop.drop.drop.drop.drop.drop)) (fun h g => h3 h (sat_dropL g.drop.drop.drop.drop.drop.drop)) l1 l2 l3 hv hasL (by omega) hr) ?_
 rintro r h ⟨o',hr2,hs⟩
 subst hr2
 generalize tDo M.st (lzHas M.lz) c.txn = D at hs ⊢
 have hx:=hs.p6.p6.p5.p5.p5.p5.p6.at
 have hs3:=hs.p6.p6.p5.p5.p5.p5.p6.set (o':=.row 5 [[.int .i64 0,.int .i64 0,.bool D.1.1,.nils,.int .i64 0]] 1)
 have hs4:=hs.p6.p6.p5.p5.p5.p5.p6.set (o':=.row 5 [[.int .i64 0,.int .i64 0,.bool D.1.1,ressV D.1.2.1,.int .i64 0]] 1)
 have hs5:=hs.p6.p6.p5.p5.p5.p5.p6.set (o':=.row 5 [[.int .i64 D.1.2.2,.int .i64 0,.bool D.1.1,ressV D.1.2.1,.int .i64 0]] 1)
 have hx3:=hs3.at
 have hx4:=hs4.at
 have hx5:=hs5.at
 have hy5:=hs5.p6.p5.p5.p5.p5.p5.p6.at
 simp (disch:=omega) only [go_sem,simprocAttr,hx,hx3,hx4,hx5,hy5]
 generalize Hp.set h x _ = h6 at hs5 hx5 hy5 ⊢
 have hs6:=hs5.drop.p3.drop.p4.p2.p2.p3.p4.set (o':=.row 5 [[.int .i64 D.1.2.2,.int .i64 0,.bool D.1.1,ressV D.1.2.1,.int .i64 0]] 1)
 exact ⟨o',rfl,hs6.drop.p3.p3.p3.p3⟩
theorem mcDo4 {c:Cm} {v1 v2 v3 : AV} (k4 : c.kind = 4) : DoOK m s b t o M c v1 v2 v3 F:=by
 intro G h hs
 have hd : deedV c v1 v2 v3 = .iface 187 (.agg [.int .i64 c.time]):=by unfold deedV; rw [if_neg (by omega),if_neg (by omega),if_neg (by omega),if_neg (by omega),if_pos k4]
 have hm0 : mDo M c = if c.time < 0 ∨ 1099511627776 < c.time then (rpE 1,M) else (rp0,{ M with clk:=max M.clk c.time }):=by unfold mDo; rw [if_neg (by omega),if_neg (by omega),if_neg (by omega),if_neg (by omega),if_pos k4]
 have t0 : taA 175 true (.agg [.nils,.nils,.nils]) (.iface 187 (.agg [.int .i64 c.time])) = some (.tup [.agg [.nils,.nils,.nils],.bool false]):=rfl
 have t1 : taA 179 true (.agg [.int .i64 0,.int .i64 0]) (.iface 187 (.agg [.int .i64 c.time])) = some (.tup [.agg [.int .i64 0,.int .i64 0],.bool false]):=rfl
 have t2 : taA 182 true (.agg [.int .i64 0]) (.iface 187 (.agg [.int .i64 c.time])) = some (.tup [.agg [.int .i64 0],.bool false]):=rfl
 have t3 : taA 184 true (.agg [.int .i64 0]) (.iface 187 (.agg [.int .i64 c.time])) = some (.tup [.agg [.int .i64 0],.bool false]):=rfl
 have t4 : taA 187 true (.agg [.int .i64 0]) (.iface 187 (.agg [.int .i64 c.time])) = some (.tup [.agg [.int .i64 c.time],.bool true]):=rfl
 rw [hd,hm0]
 refine Triple.view ?_
 refine t35 (Nat.le_of_ble_eq_true rfl) ?_
 simp (disch:=omega) only [F35,go_sem,simprocAttr]
 refine new_opq hs fun y h hs => ?_
 simp (disch:=omega) only [go_sem,simprocAttr]
 refine new_opq hs fun x h hs => ?_
 have hx:=hs.at
 simp (disch:=omega) only [go_sem,simprocAttr,hx,t0,t1,t2,t3,t4]
 have hs1 : sat _ (pto x (.row 5 [[.int .i64 0,.int .i64 0,.bool false,.nils,.int .i64 0]] 1) :: pto y (.row 5 [[.int .i64 0,.int .i64 0,.bool false,.nils,.int .i64 0]] 1) :: _):=hs.set (o':=.row 5 [[.int .i64 0,.int .i64 0,.bool false,.nils,.int .i64 0]] 1)
 generalize Hp.set h x _ = h0 at hs1 ⊢
 refine new_opq hs1 fun d h hs => ?_
 have hd0:=hs.at
 have hs2:=hs.set (o':=.row 1 [[.int .i64 c.time]] 1)
 have hd2:=hs2.at
 have hm:=hs2.p6.p6.p6.p5.p5.p5.p6.at
 have hx2:=hs2.p1.at
 have hy2:=hs2.p2.at
 generalize hh : Hp.set h d _ = h9 at hs2 hd2 hm hx2 hy2
 have bad : (c.time < 0 ∨ 1099511627776 < c.time) → ∃ h',h' = h9.set x (.row 5 [[.int .i64 1,.int .i64 0,.bool false,.nils,.int .i64 0]] 1)∧h' x = some (.row 5 [[.int .i64 1,.int .i64 0,.bool false,.nils,.int .i64 0]] 1)∧h' y = some (.row 5 [[.int .i64 0,.int .i64 0,.bool false,.nils,.int .i64 0]] 1)∧sat h' (pto y (.row 5 [[.int .i64 0,.int .i64 0,.bool false,.nils,.int .i64 0]] 1) :: Mc m s b t o M (G ++ F)):=fun _ => by
  have hs3:=hs2.drop.p5.p5.p5.p5.p5.p5.set (o':=.row 5 [[.int .i64 1,.int .i64 0,.bool false,.nils,.int .i64 0]] 1)
  exact ⟨_,rfl,hs3.at,hs3.p1.at,hs3.drop.p4.p4.p4.p4.p4⟩
 by_cases c1 : c.time < 0
 ·have g1 : decide (c.time < 0) = true:=by simpa using c1
  obtain ⟨h',e1,e2,e3,hs4⟩:=bad (.inl c1)
  rw [if_pos (.inl c1)]
  simp (disch:=omega) only [go_sem,simprocAttr,hd0,hh,hd2,g1,hx2]
  rw [← e1]
  simp (disch:=omega) only [go_sem,simprocAttr,e2,e3]
  have hs5:=hs4.set (o':=.row 5 [[.int .i64 1,.int .i64 0,.bool false,.nils,.int .i64 0]] 1)
  exact ⟨_,_,gv_rp,o,rfl,hs5.drop⟩
 have g1 : decide (c.time < 0) = false:=by simpa using c1
 by_cases c2 : 1099511627776 < c.time
 ·have g2 : decide (c.time > 1099511627776) = true:=by simpa using c2
  obtain ⟨h',e1,e2,e3,hs4⟩:=bad (.inr c2)
  rw [if_pos (.inr c2)]
  simp (disch:=omega) only [go_sem,simprocAttr,hd0,hh,hd2,g1,g2,hx2]
  rw [← e1]
  simp (disch:=omega) only [go_sem,simprocAttr,e2,e3]
  have hs5:=hs4.set (o':=.row 5 [[.int .i64 1,.int .i64 0,.bool false,.nils,.int .i64 0]] 1)
  exact ⟨_,_,gv_rp,o,rfl,hs5.drop⟩
 have g2 : decide (c.time > 1099511627776) = false:=by simp; omega
 rw [if_neg (by omega)]
 have mx : max M.clk c.time = if M.clk < c.time then c.time else M.clk:=by split <;> omega
 rw [mx]
 generalize hcl : (if M.clk < c.time then c.time else M.clk) = cl
 have hs3:=hs2.drop.p5.p5.p5.p4.p4.p5.set (o':=McO m s b t cl)
 have hx3:=hs3.p1.at
 have hy3:=hs3.p2.at
 simp (disch:=omega) only [go_sem,simprocAttr,hd0,hh,hd2,g1,g2,hm,hcl,hx3,hy3]
 have hs5:=hs3.p1.drop.p4.p4.p4.p3.p4.set (o':=.row 5 [[.int .i64 0,.int .i64 0,.bool false,.nils,.int .i64 0]] 1)
 exact ⟨_,_,gv_rp,o,rfl,hs5.drop⟩
end
end Go.Proofs.YtmhbnkjajkcmkaaGreat
/- The law MachineClock, walked. -/
set_option maxRecDepth 10000
namespace Go.Proofs.YtmhbnkjajkcmkaaGreat
open Go.Hz
section
variable {h:Hp} {F:List Asr}
theorem known12 (hs : sat h F) : Triple Tryz.prog 11 [] h (fun r h => r = .bool true∧sat h F):=by
 refine t11 (Nat.le_of_ble_eq_true rfl) ?_
 simp (disch:=omega) only [F11,go_sem,simprocAttr]
 refine call_use (mcNew hs) ?_
 rintro r h ⟨m,s,b,t,hr,hs⟩
 subst hr
 simp (disch:=omega) only [go_sem,simprocAttr]
 refine new_opq hs fun l h hs => ?_
 simp (disch:=omega) only [go_sem,simprocAttr]
 refine new_opq hs fun q h hs => ?_
 have hc:=hs.at
 have hs2:=hs.set (o':=.row 10 [knC.rowV .nils (.arr l 6 0 1 1) .nils] 1)
 simp only [Cm.rowV,knC] at hs2
 have hc2:=hs2.at
 simp (disch:=omega) only [go_sem,simprocAttr,hc,hc2]
 generalize Hp.set h q _ = h2 at hs2 hc2 ⊢
 have hD : DoOK m s b t .nilp mac0 knC .nils (.arr l 6 0 1 1) .nils (pto q (.row 10 [knC.rowV .nils (.arr l 6 0 1 1) .nils] 1) :: pto l (.row 6 [(⟨0,[97],[],[120],0,0⟩ : Op9).row] 1) :: F) :=
  mcDo0 rfl (fun h g => els_nils) (fun h g => pto_els g.drop rfl) (fun h g => els_nils) (by decide) (by decide) (by decide) (by decide) (by decide) (by decide)
 have hA:=mcApplyF (c:=knC) (v1:=.nils) (v2:=.arr l 6 0 1 1) (v3:=.nils) (hs2.p1.p1.p5.p5.p5.p5) rfl rfl rfl rfl rfl rfl rfl hD (by rw [knC_r]; exact ⟨by decide,by decide⟩)
 rw [knC_1] at hA
 refine call_use' hA ?_
 rintro r h ⟨o',hr,hs⟩
 subst hr
 have hc:=hs.p5.p4.p4.p4.p4.p5.at
 simp (disch:=omega) only [go_sem,simprocAttr,hc,Cm.rowV,knC]
 have hN:=mcApplyN (c:=knC) (v1:=.nils) (v2:=.arr l 6 0 1 1) (v3:=.nils) hs rfl rfl rfl rfl rfl rfl knC_a
 rw [knC_1] at hN
 refine call_use hN ?_
 rintro r h ⟨hr,hs⟩
 subst hr
 simp (disch:=omega) only [go_sem,simprocAttr]
 have hR : RpOK ⟨0,1,true,[⟨0,[]⟩],0⟩:=⟨by decide,by decide⟩
 have hrow : rpC ⟨0,1,true,[⟨0,[]⟩],0⟩ = [.int .i64 0,.int .i64 1,.bool true,ressV [⟨0,[]⟩],.int .i64 0]:=rfl
 refine new_opq hs fun a h hs => ?_
 simp (disch:=omega) only [go_sem,simprocAttr]
 refine new_opq hs fun e h hs => ?_
 have ha:=hs.p1.at
 have hs3:=hs.p7.p7.p7.p7.p7.p7.p6.p7.set (o':=.row 5 [rpC ⟨0,1,true,[⟨0,[]⟩],0⟩] 1)
 rw [hrow] at hs3
 have he3:=hs3.p1.at
 have hs4:=hs3.p7.p7.p7.p7.p7.p7.p6.p7.set (o':=.row 5 [rpC ⟨0,1,true,[⟨0,[]⟩],0⟩] 1)
 rw [hrow] at hs4
 have he4:=hs4.at
 have ha4:=hs4.p1.at
 simp (disch:=omega) only [go_sem,simprocAttr,ha,he3,he4,ha4,hrow]
 refine call_use (mSame (x:=⟨0,1,true,[⟨0,[]⟩],0⟩) hs4 hR) ?_
 rintro r h ⟨hr,hs⟩
 subst hr
 simp (disch:=omega) only [go_sem,simprocAttr]
 refine call_use (mcStore (hs.drop.drop.p4.drop.p4.drop.p3.p3.p3.p3)) ?_
 rintro r h ⟨hr,hs⟩
 subst hr
 simp (disch:=omega) only [go_sem,simprocAttr]
 refine call_use (mvRev (hs.p1)) ?_
 rintro r h ⟨hr,hs⟩
 rw [knC_3] at hr
 subst hr
 simp (disch:=omega) only [go_sem,simprocAttr]
 exact hs.drop.drop.drop.drop
end
end Go.Proofs.YtmhbnkjajkcmkaaGreat
/- The law MachineNobody, walked. -/
set_option maxRecDepth 10000
namespace Go.Proofs.YtmhbnkjajkcmkaaGreat
open Go.Hz
section
variable {h:Hp} {F:List Asr}
theorem within12 (hs : sat h F) {a:Int} {n:Nat} (h1 : -9223372036854775808 ≤ a) (h2 : a ≤ 9223372036854775807) (hn : 0 < n) (hn2 : n ≤ 4611686018427387904) :
  Triple Tryz.prog 13 [.int .i64 a,.int .i64 n] h (fun r h => ∃ k : Nat,r = .int .i64 k∧(k:Int) = a % n∧k < n∧sat h F):=by
 have m1:=Int.tmod_lt_of_pos a (b:=n) (by omega)
 have m2 : -(n:Int) < a.tmod n:=by
  have:=Int.tmod_lt_of_pos (-a) (b:=n) (by omega)
  rw [Int.neg_tmod] at this
  omega
 have hn0 : ¬ (n:Int) = 0:=by omega
 have e:=Int.mul_tdiv_add_tmod a n
 have em : a % n = (a.tmod n) % n:=by
  conv => lhs; rw [← e]
  rw [Int.mul_add_emod_self_left]
 refine t13 (Nat.le_of_ble_eq_true rfl) ?_
 simp (disch:=omega) only [F13,hn0,go_sem,simprocAttr]
 refine cnd_dec (fun hc => ?_) (fun hc => ?_)
 ·simp (disch:=omega) only [go_sem,simprocAttr]
  refine ⟨(a.tmod n + n).toNat,by congr 1; omega,?_,by omega,hs⟩
  rw [em,← Int.add_emod_right,Int.emod_eq_of_lt (by omega) (by omega)]
  omega
 ·simp (disch:=omega) only [go_sem,simprocAttr]
  refine ⟨(a.tmod n).toNat,by congr 1; omega,?_,by omega,hs⟩
  rw [em,Int.emod_eq_of_lt (by omega) (by omega)]
  omega
set_option maxHeartbeats 1000000 in
end
end Go.Proofs.YtmhbnkjajkcmkaaGreat
/- The machine: leases end, with their keys. -/
set_option maxRecDepth 10000
namespace Go.Proofs.YtmhbnkjajkcmkaaGreat
open Go.Hz
section
variable {h:Hp} {F:List Asr} {m s b t : Nat} {M:Mac} {o:AV}
theorem idx12 (hs : sat h F) {ids:List Int} {v:AV} {id:Int} (hE:∀ h,sat h F → Els h 1 v (ids.map fun x => [.int .i64 x])) (hl : ids.length ≤ 1000000000) :
  Triple Tryz.prog 195 [v,.int .i64 id] h (fun r h => ∃ k : Int,r = .int .i64 k∧decide (k ≥ 0) = decide (id ∈ ids)∧sat h F):=by
 have lenV:=(hE h hs).len
 rw [List.length_map] at lenV
 refine t195 (Nat.le_of_ble_eq_true rfl) ?_
 simp (disch:=omega) only [F195,lenV,go_sem,simprocAttr]
 refine run_up (N:=ids.length) (fun i e h => (∀ j (hj : j < ids.length),j < i → ids[j] ≠ id)∧sat h F∧(e 0 = v∧e 1 = .int .i64 id∧e 7 = .int .i64 ids.length∧e 8 = .int .i64 i)) ⟨fun j _ h => by omega,hs,by simp [Env.upd_apply,initE]⟩ ?_
 clear hs
 rintro i e h hi ⟨hno,hs,he⟩
 have m1 : (i:Int) + 1 = ((i + 1 : Nat) : Int):=by omega
 by_cases hil : i < ids.length
 ·have c1 : ((i:Int) < ids.length) = True:=by simp; omega
  obtain ⟨q,hq1,hq2⟩:=Els.at (hE h hs) (k:=.i64) (i:=i) (by simpa using hil) (by simp)
  have hq2 : cellsAt h q = some [.int .i64 ids[i]]:=by rw [hq2]; simp
  cases hid : id == ids[i] with
  | true =>
   have hin : id ∈ ids:=by
    rw [beq_iff_eq] at hid
    exact hid ▸ List.getElem_mem hil
   simp (disch:=omega) only [go_sem,simprocAttr,he,c1,hq1,hq2,hid]
   exact ⟨_,rfl,by simp [hin],hs⟩
  | false =>
   simp (disch:=omega) only [go_sem,simprocAttr,he,c1,hq1,hq2,hid,m1]
   refine ⟨hil,fun j hj hji => ?_,hs⟩
   by_cases hjj : j = i
   ·subst hjj
    intro hh; rw [hh] at hid; simp at hid
   ·exact hno j hj (by omega)
 ·have c1 : ((i:Int) < ids.length) = False:=by simp; omega
  have hin : ¬ id ∈ ids:=fun hh => by
   obtain ⟨j,hj,e⟩:=List.getElem_of_mem hh
   exact hno j hj (by omega) e
  simp (disch:=omega) only [go_sem,simprocAttr,he,c1]
  exact ⟨-1,rfl,by simp [hin],hs⟩
theorem cont12 (hs : sat h F) {ids:List Int} {v:AV} {id:Int} (hE:∀ h,sat h F → Els h 1 v (ids.map fun x => [.int .i64 x])) (hl : ids.length ≤ 1000000000) :
  Triple Tryz.prog 154 [v,.int .i64 id] h (fun r h => r = .bool (decide (id ∈ ids))∧sat h F):=by
 refine t154 (Nat.le_of_ble_eq_true rfl) ?_
 simp (disch:=omega) only [F154,go_sem,simprocAttr]
 refine call_use (idx12 (id:=id) hs hE hl) ?_
 rintro r h ⟨k,hr,hk,hs⟩
 subst hr
 simp (disch:=omega) only [go_sem,simprocAttr,hk]
 exact hs
theorem mul64_12 (hs : sat h F) : Triple Tryz.prog 214 [.int .u64 1,.int .u64 101] h (fun r h => r = .tup [.int .u64 0,.int .u64 101]∧sat h F):=by
 refine t214 (Nat.le_of_ble_eq_true rfl) ?_
 simp (disch:=omega) only [F214,go_sem,simprocAttr]
 exact ⟨by rfl,hs⟩
theorem mul_12 (hs : sat h F) : Triple Tryz.prog 194 [.int .u64 1,.int .u64 101] h (fun r h => r = .tup [.int .u64 0,.int .u64 101]∧sat h F):=by
 refine t194 (Nat.le_of_ble_eq_true rfl) ?_
 simp (disch:=omega) only [F194,go_sem,simprocAttr]
 refine call_use (mul64_12 hs) ?_
 rintro r h ⟨hr,hs⟩
 subst hr
 simp (disch:=omega) only [go_sem,simprocAttr]
 exact hs
def rpRow (n:Nat) : List (List AV):=List.replicate n [.int .u8 255] ++ List.replicate (101 - n) [.int .u8 0]
theorem rpRow_len {n:Nat} (h : n ≤ 101) : (rpRow n).length = 101:=by
 unfold rpRow; rw [List.length_append,List.length_replicate,List.length_replicate]; omega
theorem rpRow_step {n k : Nat} (h : n + k ≤ 101) : (rpRow n).take n ++ List.replicate k [AV.int .u8 255] ++ (rpRow n).drop (n + k) = rpRow (n + k):=by
 unfold rpRow
 rw [List.take_left' List.length_replicate,← List.drop_drop,List.drop_left' List.length_replicate,List.drop_replicate,List.replicate_append_replicate,show 101 - n - k = 101 - (n + k) by omega]
theorem rpRow_end : rpRow 101 = hiM.map eb:=by
 unfold rpRow hiM
 rw [List.map_replicate,Nat.sub_self,List.replicate_zero,List.append_nil]; rfl
theorem rep12 {l:Nat} (hs : sat h (pto l (.row 1 [[.int .u8 255]] 1) :: F)) : Triple Tryz.prog 153 [.arr l 1 0 1 1,.int .i64 101] h (fun r h => ∃ b,r = .arr b 1 0 101 101∧sat h (pto b (.row 1 (hiM.map eb) 101) :: pto l (.row 1 [[.int .u8 255]] 1) :: F)):=by
 refine t153 (Nat.le_of_ble_eq_true rfl) ?_
 simp (disch:=omega) only [F153,go_sem,simprocAttr]
 refine call_use (mul_12 hs) ?_
 rintro r h ⟨hr,hs⟩
 subst hr
 simp (disch:=omega) only [go_sem,simprocAttr]
 refine msl_use (n:=101) hs (by decide) (by decide) fun z h hs => ?_
 have hs : sat h (pto z (.row 1 (rpRow 0) 101) :: _):=hs
 simp (disch:=omega) only [go_sem,simprocAttr]
 have hx : srcN 1 h (.arr l 1 0 1 1) (min 1 101) = some (List.replicate 1 [AV.int .u8 255]):=srcN_part hs.p1 (by omega) (by simp)
 refine cp_use (n:=1) hs (by rw [rpRow_len (by omega)]; omega) (by omega) (by omega) rfl hx (by simp [AtomsL]; rfl) fun h hs => ?_
 rw [show (rpRow 0).take 0 ++ List.replicate 1 [AV.int .u8 255] ++ (rpRow 0).drop (0 + min 1 101) = rpRow 1 from rpRow_step (n:=0) (k:=1) (by omega)] at hs
 simp (disch:=omega) only [go_sem,simprocAttr]
 refine blk_join (Q:=fun e h => sat h (pto z (.row 1 (hiM.map eb) 101) :: pto l (.row 1 [[.int .u8 255]] 1) :: F)∧e 7 = .arr z 1 0 101 101) ?_ ?_
 ·refine run_up (N:=101) (fun i e h => ∃ n : Nat,i + 1 ≤ n∧n ≤ 101∧sat h (pto z (.row 1 (rpRow n) 101) :: pto l (.row 1 [[.int .u8 255]] 1) :: F)∧(e 7 = .arr z 1 0 101 101∧e 8 = .int .i64 n)) ⟨1,by omega,by omega,hs,by simp [Env.upd_apply]⟩ ?_
  clear hs hx
  rintro i e h hi ⟨n,hn1,hn2,hs,he⟩
  by_cases hn : n < 101
  ·have c1 : ((n:Int) < 101) = True:=by simp; omega
   simp (disch:=omega) only [go_sem,simprocAttr,he,c1,slcL_lo,slcL_hi]
   have hm : n + min n (101 - n) ≤ 101:=by omega
   have hy : srcN 1 h (.arr z 1 0 n 101) (min n (101 - n)) = some (List.replicate (min n (101 - n)) [AV.int .u8 255]):=by
    rw [srcN_part hs (by omega) (by rw [rpRow_len hn2]; omega)]
    congr 1
    unfold rpRow
    rw [List.drop_zero,List.take_append_of_le_length (by rw [List.length_replicate]; omega),List.take_replicate,Nat.min_eq_left (by omega)]
   refine cp_use (n:=n) hs (by rw [rpRow_len hn2]; omega) (by omega) (by omega) rfl hy (fun e he v hv => by rw [List.eq_of_mem_replicate he] at hv; simp at hv; rw [hv]; rfl) fun h hs => ?_
   rw [rpRow_step hm] at hs
   have ma : (n:Int) + ((min n (101 - n) : Nat) : Int) = ((n + min n (101 - n) : Nat) : Int):=by omega
   simp (disch:=omega) only [go_sem,simprocAttr,he,ma]
   exact ⟨n + min n (101 - n),by omega,hm,hs,rfl⟩
  ·have c1 : ((n:Int) < 101) = False:=by simp; omega
   have hn : n = 101:=by omega
   subst hn
   rw [rpRow_end] at hs
   simp (disch:=omega) only [go_sem,simprocAttr,he,c1]
   exact hs
 clear hs hx
 rintro e h ⟨hs,he⟩
 simp (disch:=omega) only [go_sem,simprocAttr,he]
 exact ⟨z,rfl,hs⟩
theorem hiM_len : hiM.length = 101:=List.length_replicate
theorem mcRevoke {ids:List Int} {v:AV} (hs : sat h (Mc m s b t o M F)) (hE:∀ h,sat h F → Els h 1 v (ids.map fun x => [.int .i64 x])) (hl : ids.length ≤ 1000000000)
  (hz:M.st.old.length + M.st.chs.length + M.st.now.length ≤ 30000000) (hr:M.st.rev ≤ 100000000000000) :
  Triple Tryz.prog 92 [.ptr m 4 0 0,v] h (fun r h => sat h (Mc m s b t .nilp (mRevoke M ids) F)):=by
 have lenV:=(hE h hs.drop.drop.drop.drop).len
 rw [List.length_map] at lenV
 have ok:=MvP.ok hs.p1
 refine t92 (Nat.le_of_ble_eq_true rfl) ?_
 simp (disch:=omega) only [F92,lenV,go_sem,simprocAttr]
 refine blk_join (Q:=fun e h => sat h (Mc m s b t o ⟨M.st,ids.foldl (fun X id => (lzRevoke X id).2) M.lz,M.fk,M.clk⟩ F)∧(e 0 = .ptr m 4 0 0∧e 1 = v)) ?_ ?_
 ·refine run_up (N:=ids.length) (fun i e h => sat h (Mc m s b t o ⟨M.st,(ids.take i).foldl (fun X id => (lzRevoke X id).2) M.lz,M.fk,M.clk⟩ F)∧(e 0 = .ptr m 4 0 0∧e 1 = v∧e 11 = v∧e 12 = .int .i64 ids.length∧e 13 = .int .i64 i)) ⟨hs,by simp [Env.upd_apply,initE]⟩ ?_
  clear hs
  rintro i e h hi ⟨hs,he⟩
  have m1 : (i:Int) + 1 = ((i + 1 : Nat) : Int):=by omega
  by_cases hil : i < ids.length
  rotate_left
  ·have c1 : ((i:Int) < ids.length) = False:=by simp; omega
   rw [List.take_of_length_le (by omega)] at hs
   simp (disch:=omega) only [go_sem,simprocAttr,he,c1]
   exact hs
  have c1 : ((i:Int) < ids.length) = True:=by simp; omega
  obtain ⟨q,hq1,hq2⟩:=Els.at (hE h hs.drop.drop.drop.drop) (k:=.i64) (i:=i) (by simpa using hil) (by simp)
  have hq2 : cellsAt h q = some [.int .i64 ids[i]]:=by rw [hq2]; simp
  have hst : (ids.take (i + 1)).foldl (fun X id => (lzRevoke X id).2) M.lz = (lzRevoke ((ids.take i).foldl (fun X id => (lzRevoke X id).2) M.lz) ids[i]).2:=by
   rw [List.take_succ_eq_append_getElem hil,List.foldl_append]; rfl
  rw [hst]
  generalize (ids.take i).foldl (fun X id => (lzRevoke X id).2) M.lz = X at hs ⊢
  generalize ids[i] = id at hq2 ⊢
  have hm:=hs.at
  simp (disch:=omega) only [go_sem,simprocAttr,he,c1,hq1,hq2,hm]
  refine call_use (mcBookP hs) ?_
  rintro r h ⟨hr2,hs⟩
  subst hr2
  simp (disch:=omega) only [go_sem,simprocAttr,he]
  refine call_use (lsRevoke (id:=id) (hs.p3.p2.p2.p3)) ?_
  rintro r h ⟨hr2,hs⟩
  subst hr2
  simp (disch:=omega) only [go_sem,simprocAttr,he,m1]
  exact ⟨hil,hs.p3.p1.p3.p3⟩
 clear hs
 rintro e h ⟨hs,he⟩
 have hrv : mRevoke M ids = ⟨stDone M.st ((rngL M.st.now [0] hiM 0).1.foldl (mDel ids) ⟨M.st.now,[]⟩),ids.foldl (fun X id => (lzRevoke X id).2) M.lz,M.fk,M.clk⟩:=rfl
 rw [hrv]
 generalize ids.foldl (fun X id => (lzRevoke X id).2) M.lz = X at hs ⊢
 have hm:=hs.at
 simp (disch:=omega) only [go_sem,simprocAttr,he,hm]
 refine call_use (mcStoreP hs) ?_
 rintro r h ⟨hr2,hs⟩
 subst hr2
 simp (disch:=omega) only [go_sem,simprocAttr,he]
 refine call_use (mvWrite (hs.p3.p3.p2.p3)) ?_
 rintro r h ⟨w,hr2,hs⟩
 subst hr2
 simp (disch:=omega) only [go_sem,simprocAttr,he]
 refine new_opq hs fun l h hs => ?_
 simp (disch:=omega) only [go_sem,simprocAttr]
 refine call_use (rep12 hs) ?_
 rintro r h ⟨z,hr2,hs⟩
 subst hr2
 have hz2 : sat h (pto z (.row 1 (hiM.map eb) 101) :: _):=hs
 have hbs:=(hz2.ow (by rw [List.length_map,hiM_len]; exact Nat.le_refl _)).bts.bstr
 rw [List.length_map,hiM_len] at hbs
 simp (disch:=omega) only [go_sem,simprocAttr,hbs]
 refine call_use (mvWRng (lo:=[0]) (hi:=hiM) (lim:=0) (hs.drop.drop.p4.p4.p4.p4.p4) (by simp; omega)) ?_
 rintro r h ⟨hr2,hs⟩
 subst hr2
 generalize hL : (rngL (⟨M.st.now,[]⟩ : Go.Hz.Wr).cur [0] hiM 0).1 = L
 have hlen : L.length ≤ M.st.now.length:=by rw [← hL]; exact rngL_len.1
 have lenL2 : lenL (kvsV L) = some (.int .i64 L.length):=by simp [lenL]
 simp (disch:=omega) only [go_sem,simprocAttr,lenL2]
 refine blk_join (Q:=fun e h => sat h (WtP w s M.st (L.foldl (mDel ids) ⟨M.st.now,[]⟩) :: StP s M.st (.ptr w 4 0 0) :: pto m (McO m s b t M.clk) :: LsP b X :: FkP t M.fk :: F)∧(e 6 = .ptr w 4 0 0)) ?_ ?_
 ·refine run_up (N:=L.length) (fun j e h => sat h (WtP w s M.st ((L.take j).foldl (mDel ids) ⟨M.st.now,[]⟩) :: StP s M.st (.ptr w 4 0 0) :: pto m (McO m s b t M.clk) :: LsP b X :: FkP t M.fk :: F)∧(e 1 = v∧e 6 = .ptr w 4 0 0∧e 37 = kvsV L∧e 38 = .int .i64 L.length∧e 39 = .int .i64 j)) ⟨hs,by simp [Env.upd_apply,he]⟩ ?_
  clear hs hm hz2 hbs he
  rintro j e h hj ⟨hs,he⟩
  have m1 : (j:Int) + 1 = ((j + 1 : Nat) : Int):=by omega
  by_cases hjl : j < L.length
  rotate_left
  ·have c1 : ((j:Int) < L.length) = False:=by simp; omega
   rw [List.take_of_length_le (by omega)] at hs
   simp (disch:=omega) only [go_sem,simprocAttr,he,c1]
   exact hs
  have c1 : ((j:Int) < L.length) = True:=by simp; omega
  have hia:=ia_lst (f:=kvC) (l:=L) (i:=j) (s:=6) (k:=.i64) hjl (fun _ => rfl)
  have hst : (L.take (j + 1)).foldl (mDel ids) ⟨M.st.now,[]⟩ = mDel ids ((L.take j).foldl (mDel ids) ⟨M.st.now,[]⟩) L[j]:=by
   rw [List.take_succ_eq_append_getElem hjl,List.foldl_append]; rfl
  obtain ⟨hw,hwb⟩:=mDel_ok ok (ids:=ids) (l:=L.take j) (wrOK_nil M.st) wb_nil
  rw [hst]
  generalize (L.take j).foldl (mDel ids) ⟨M.st.now,[]⟩ = W at hs hw hwb ⊢
  generalize L[j] = y at hia ⊢
  have wl:=hwb.len hw
  simp only [kvC] at hia
  simp (disch:=omega) only [go_sem,simprocAttr,he,c1,hia]
  refine new_opq hs fun d h hs => ?_
  have hd:=hs.at
  have hs3:=hs.set (o':=.row 6 [kvC y] 1)
  simp only [kvC] at hs3
  have hd3:=hs3.at
  simp (disch:=omega) only [go_sem,simprocAttr,he,hd,hd3]
  generalize Hp.set h d _ = h9 at hs3 hd3 ⊢
  refine call_use (cont12 (id:=y.lease) hs3 (fun h g => hE h g.drop.drop.drop.drop.drop.drop) hl) ?_
  rintro r h ⟨hr2,hs⟩
  subst hr2
  unfold mDel
  by_cases hin : y.lease ∈ ids
  ·have g1 : decide (y.lease ∈ ids) = true:=by simpa using hin
   have hd:=hs.at
   rw [if_pos hin]
   simp (disch:=omega) only [go_sem,simprocAttr,he,g1,hd]
   refine call_use (mvDel (lo:=y.key) (hi:=[]) (hs.drop.p4.p4.p4.p4.p4) (by omega)) ?_
   rintro r h ⟨ks,hks,hr2,hs⟩
   rw [wkeysSame ok hw hks] at hs hr2
   subst hr2
   simp (disch:=omega) only [go_sem,simprocAttr,he,m1]
   exact ⟨hjl,hs⟩
  ·have g1 : decide (y.lease ∈ ids) = false:=by simpa using hin
   rw [if_neg hin]
   simp (disch:=omega) only [go_sem,simprocAttr,he,g1,m1]
   exact ⟨hjl,hs.drop⟩
 clear hs hm hz2 hbs he
 rintro e h ⟨hs,he⟩
 obtain ⟨hw,hwb⟩:=mDel_ok ok (ids:=ids) (l:=L) (wrOK_nil M.st) wb_nil
 have wl:=hwb.len hw
 simp (disch:=omega) only [go_sem,simprocAttr,he]
 refine call_use (mvDone hs (by omega) (by omega)) ?_
 rintro r h ⟨hr2,hs⟩
 subst hr2
 simp (disch:=omega) only [go_sem,simprocAttr]
 exact hs.p3.p3.p2.p3
end
end Go.Proofs.YtmhbnkjajkcmkaaGreat
/- The store: the changes from a revision on. -/
set_option maxRecDepth 10000
namespace Go.Proofs.YtmhbnkjajkcmkaaGreat
open Go.Hz
section
variable {h:Hp} {F:List Asr} {s:Nat} {A:Sto} {o:AV}
end
end Go.Proofs.YtmhbnkjajkcmkaaGreat
/- The store: a front is forgotten. -/
set_option maxRecDepth 10000
namespace Go.Proofs.YtmhbnkjajkcmkaaGreat
open Go.Hz
section
variable {h:Hp} {F:List Asr} {s:Nat} {A:Sto} {o:AV}
end
end Go.Proofs.YtmhbnkjajkcmkaaGreat
/- The machine: the other deeds. -/
set_option maxRecDepth 10000
namespace Go.Proofs.YtmhbnkjajkcmkaaGreat
open Go.Hz
section
variable {h:Hp} {F:List Asr} {m s b t : Nat} {M:Mac} {o:AV}
theorem lst_elsM {α:Type} {f : α → List AV} {t:Nat} {l:List α} (hf:∀ x,(f x).length = t) : Els h t (.lst (l.map f)) (l.map f):=by
 refine ⟨?_,fun l hl => by cases hl⟩
 unfold srcA
 simp [hf]
theorem mcDo1 {c:Cm} {v1 v2 v3 : AV} (kk : c.kind = 1) (hc : 0 ≤ M.clk∧M.clk ≤ 4611686018427387904) : DoOK m s b t o M c v1 v2 v3 F:=by
 intro G h hs
 have hd : deedV c v1 v2 v3 = .iface 179 (.agg [.int .i64 c.lease,.int .i64 c.ttl]):=by unfold deedV; rw [if_neg (by omega),if_pos kk]
 have hm0 : mDo M c = (rpE (lzGrant M.lz c.lease c.ttl M.clk).1,{ M with lz:=(lzGrant M.lz c.lease c.ttl M.clk).2 }):=by unfold mDo; rw [if_neg (by omega),if_pos kk]
 have t0 : taA 175 true (.agg [.nils,.nils,.nils]) (.iface 179 (.agg [.int .i64 c.lease,.int .i64 c.ttl])) = some (.tup [.agg [.nils,.nils,.nils],.bool false]):=rfl
 have t1 : taA 179 true (.agg [.int .i64 0,.int .i64 0]) (.iface 179 (.agg [.int .i64 c.lease,.int .i64 c.ttl])) = some (.tup [.agg [.int .i64 c.lease,.int .i64 c.ttl],.bool true]):=rfl
 rw [hd,hm0]
 refine Triple.view ?_
 refine t35 (Nat.le_of_ble_eq_true rfl) ?_
 simp (disch:=omega) only [F35,go_sem,simprocAttr]
 refine new_opq hs fun y h hs => ?_
 simp (disch:=omega) only [go_sem,simprocAttr]
 refine new_opq hs fun x h hs => ?_
 have hx:=hs.at
 simp (disch:=omega) only [go_sem,simprocAttr,hx,t0,t1]
 have hs1 : sat _ (pto x (.row 5 [[.int .i64 0,.int .i64 0,.bool false,.nils,.int .i64 0]] 1) :: pto y (.row 5 [[.int .i64 0,.int .i64 0,.bool false,.nils,.int .i64 0]] 1) :: _):=hs.set (o':=.row 5 [[.int .i64 0,.int .i64 0,.bool false,.nils,.int .i64 0]] 1)
 generalize Hp.set h x _ = h0 at hs1 ⊢
 refine new_opq hs1 fun d h hs => ?_
 have hd0:=hs.at
 have hs2:=hs.set (o':=.row 2 [[.int .i64 c.lease,.int .i64 c.ttl]] 1)
 have hd2:=hs2.at
 have hm:=hs2.p6.p6.p6.p5.p5.p5.p6.at
 simp (disch:=omega) only [go_sem,simprocAttr,hd0,hd2,hm]
 generalize Hp.set h d _ = h9 at hs2 hd2 hm ⊢
 refine call_use' (mcBookP (hs2.p6.p6.p6.p5.p5.p5.p6)) ?_
 rintro r h ⟨hr2,hs⟩
 subst hr2
 have hd:=hs.p1.at
 have hm:=hs.at
 simp (disch:=omega) only [go_sem,simprocAttr,hd,hm]
 refine call_use (lsGrant (id:=c.lease) (ttl:=c.ttl) (now:=M.clk) (hs.p6.p5.p5.p5.p5.p5.p6) hc) ?_
 rintro r h ⟨hr2,hs⟩
 subst hr2
 generalize lzGrant M.lz c.lease c.ttl M.clk = D at hs ⊢
 have hs:=hs.p2.drop.p5.p1.p5.p3.p5.p5
 have hx:=hs.at
 have hs5:=hs.set (o':=.row 5 [[.int .i64 D.1,.int .i64 0,.bool false,.nils,.int .i64 0]] 1)
 have hx5:=hs5.at
 have hy5:=hs5.p1.at
 simp (disch:=omega) only [go_sem,simprocAttr,hx,hx5,hy5]
 generalize Hp.set h x _ = h6 at hs5 hx5 hy5 ⊢
 have hs6:=hs5.drop.p4.p4.p4.p4.p4.set (o':=.row 5 [[.int .i64 D.1,.int .i64 0,.bool false,.nils,.int .i64 0]] 1)
 exact ⟨_,_,gv_rp,o,rfl,hs6.drop.p3.p3.p3.p3⟩
theorem mcDo3 {c:Cm} {v1 v2 v3 : AV} (kk : c.kind = 3) (hz:M.st.old.length + M.st.chs.length + M.st.now.length ≤ 30000000) (hr:M.st.rev ≤ 100000000000000) : DoOK m s b t o M c v1 v2 v3 F:=by
 intro G h hs
 have hd : deedV c v1 v2 v3 = .iface 184 (.agg [.int .i64 c.lease]):=by unfold deedV; rw [if_neg (by omega),if_neg (by omega),if_neg (by omega),if_pos kk]
 have hm0 : mDo M c = if lzHas M.lz c.lease = true then (rp0,mRevoke M [c.lease]) else (rpE 2,M):=by unfold mDo; rw [if_neg (by omega),if_neg (by omega),if_neg (by omega),if_pos kk]
 have t0 : taA 175 true (.agg [.nils,.nils,.nils]) (.iface 184 (.agg [.int .i64 c.lease])) = some (.tup [.agg [.nils,.nils,.nils],.bool false]):=rfl
 have t1 : taA 179 true (.agg [.int .i64 0,.int .i64 0]) (.iface 184 (.agg [.int .i64 c.lease])) = some (.tup [.agg [.int .i64 0,.int .i64 0],.bool false]):=rfl
 have t2 : taA 182 true (.agg [.int .i64 0]) (.iface 184 (.agg [.int .i64 c.lease])) = some (.tup [.agg [.int .i64 0],.bool false]):=rfl
 have t3 : taA 184 true (.agg [.int .i64 0]) (.iface 184 (.agg [.int .i64 c.lease])) = some (.tup [.agg [.int .i64 c.lease],.bool true]):=rfl
 rw [hd,hm0]
 refine Triple.view ?_
 refine t35 (Nat.le_of_ble_eq_true rfl) ?_
 simp (disch:=omega) only [F35,go_sem,simprocAttr]
 refine new_opq hs fun y h hs => ?_
 simp (disch:=omega) only [go_sem,simprocAttr]
 refine new_opq hs fun x h hs => ?_
 have hx:=hs.at
 simp (disch:=omega) only [go_sem,simprocAttr,hx,t0,t1,t2,t3]
 have hs1 : sat _ (pto x (.row 5 [[.int .i64 0,.int .i64 0,.bool false,.nils,.int .i64 0]] 1) :: pto y (.row 5 [[.int .i64 0,.int .i64 0,.bool false,.nils,.int .i64 0]] 1) :: _):=hs.set (o':=.row 5 [[.int .i64 0,.int .i64 0,.bool false,.nils,.int .i64 0]] 1)
 generalize Hp.set h x _ = h0 at hs1 ⊢
 refine new_opq hs1 fun d h hs => ?_
 have hd0:=hs.at
 have hs2:=hs.set (o':=.row 1 [[.int .i64 c.lease]] 1)
 have hd2:=hs2.at
 have hm:=hs2.p6.p6.p6.p5.p5.p5.p6.at
 simp (disch:=omega) only [go_sem,simprocAttr,hd0,hd2,hm]
 generalize Hp.set h d _ = h9 at hs2 hd2 hm ⊢
 refine call_use' (mcBookP (hs2.p6.p6.p6.p5.p5.p5.p6)) ?_
 rintro r h ⟨hr2,hs⟩
 subst hr2
 have hd:=hs.p1.at
 have hm:=hs.at
 simp (disch:=omega) only [go_sem,simprocAttr,hd,hm]
 refine call_use (lsHas (id:=c.lease) (hs.p6.p5.p5.p5.p5.p5.p6)) ?_
 rintro r h ⟨hr2,hs⟩
 subst hr2
 have hd:=hs.p6.p6.p6.p6.p5.p5.p6.at
 cases hh : lzHas M.lz c.lease with
 | true =>
  rw [if_pos rfl]
  simp (disch:=omega) only [go_sem,simprocAttr,hd]
  refine new_opq hs fun a h hs => ?_
  simp (disch:=omega) only [go_sem,simprocAttr]
  refine call_use (mcRevoke (ids:=[c.lease]) (hs.p5.p5.p5.p3.p7.p5.p7.p7) (fun h g => pto_els g rfl) (by simp) hz hr) ?_
  intro r h hs
  have hs:=hs.p4.drop.p4.drop.p3.p3.p3.p3.p5.p5
  have hx:=hs.at
  have hy:=hs.p1.at
  simp (disch:=omega) only [go_sem,simprocAttr,hx,hy]
  have hs6:=hs.drop.p4.p4.p4.p4.p4.set (o':=.row 5 [[.int .i64 0,.int .i64 0,.bool false,.nils,.int .i64 0]] 1)
  exact ⟨_,_,gv_rp,.nilp,rfl,hs6.drop.p3.p3.p3.p3⟩
 | false =>
  rw [if_neg (by simp)]
  have hs:=hs.p2.drop.p5.p1.p5.p3.p5.p5
  have hx:=hs.at
  have hs5:=hs.set (o':=.row 5 [[.int .i64 2,.int .i64 0,.bool false,.nils,.int .i64 0]] 1)
  have hx5:=hs5.at
  have hy5:=hs5.p1.at
  simp (disch:=omega) only [go_sem,simprocAttr,hx,hx5,hy5]
  generalize Hp.set h x _ = h6 at hs5 hx5 hy5 ⊢
  have hs6:=hs5.drop.p4.p4.p4.p4.p4.set (o':=.row 5 [[.int .i64 2,.int .i64 0,.bool false,.nils,.int .i64 0]] 1)
  exact ⟨_,_,gv_rp,o,rfl,hs6.drop.p3.p3.p3.p3⟩
theorem mcDo5 {c:Cm} {v1 v2 v3 : AV} (kk : c.kind = 5) (hz:M.st.old.length + M.st.chs.length + M.st.now.length ≤ 30000000) (hr:M.st.rev ≤ 100000000000000) : DoOK m s b t o M c v1 v2 v3 F:=by
 intro G h hs
 have hd : deedV c v1 v2 v3 = .iface 189 (.agg []):=by unfold deedV; rw [if_neg (by omega),if_neg (by omega),if_neg (by omega),if_neg (by omega),if_neg (by omega),if_pos kk]
 have hm0 : mDo M c = (rp0,mRevoke M ((lzOver M.lz M.clk).map Lz.id)):=by unfold mDo; rw [if_neg (by omega),if_neg (by omega),if_neg (by omega),if_neg (by omega),if_neg (by omega),if_pos kk]
 have t0 : taA 175 true (.agg [.nils,.nils,.nils]) (.iface 189 (.agg [])) = some (.tup [.agg [.nils,.nils,.nils],.bool false]):=rfl
 have t1 : taA 179 true (.agg [.int .i64 0,.int .i64 0]) (.iface 189 (.agg [])) = some (.tup [.agg [.int .i64 0,.int .i64 0],.bool false]):=rfl
 have t2 : taA 182 true (.agg [.int .i64 0]) (.iface 189 (.agg [])) = some (.tup [.agg [.int .i64 0],.bool false]):=rfl
 have t3 : taA 184 true (.agg [.int .i64 0]) (.iface 189 (.agg [])) = some (.tup [.agg [.int .i64 0],.bool false]):=rfl
 have t4 : taA 187 true (.agg [.int .i64 0]) (.iface 189 (.agg [])) = some (.tup [.agg [.int .i64 0],.bool false]):=rfl
 have t5 : taA 189 true (.agg []) (.iface 189 (.agg [])) = some (.tup [.agg [],.bool true]):=rfl
 rw [hd,hm0]
 refine Triple.view ?_
 refine t35 (Nat.le_of_ble_eq_true rfl) ?_
 simp (disch:=omega) only [F35,go_sem,simprocAttr]
 refine new_opq hs fun y h hs => ?_
 simp (disch:=omega) only [go_sem,simprocAttr]
 refine new_opq hs fun x h hs => ?_
 have hx:=hs.at
 simp (disch:=omega) only [go_sem,simprocAttr,hx,t0,t1,t2,t3,t4,t5]
 have hs1 : sat _ (pto x (.row 5 [[.int .i64 0,.int .i64 0,.bool false,.nils,.int .i64 0]] 1) :: pto y (.row 5 [[.int .i64 0,.int .i64 0,.bool false,.nils,.int .i64 0]] 1) :: _):=hs.set (o':=.row 5 [[.int .i64 0,.int .i64 0,.bool false,.nils,.int .i64 0]] 1)
 generalize Hp.set h x _ = h0 at hs1 ⊢
 refine new_opq hs1 fun d h hs => ?_
 have hd0:=hs.at
 have hs2:=hs.set (o':=.row 0 [[]] 1)
 have hd2:=hs2.at
 have hm:=hs2.p6.p6.p6.p5.p5.p5.p6.at
 simp (disch:=omega) only [go_sem,simprocAttr,hd0,hd2,hm]
 generalize Hp.set h d _ = h9 at hs2 hd2 hm ⊢
 refine call_use' (mcBookP (hs2.p6.p6.p6.p5.p5.p5.p6)) ?_
 rintro r h ⟨hr2,hs⟩
 subst hr2
 have hd:=hs.p1.at
 have hm:=hs.at
 simp (disch:=omega) only [go_sem,simprocAttr,hd,hm]
 obtain ⟨_,hX,_⟩:=lsP.1 (hs.p6.p5.p5.p5.p5.p5.p6)
 have hXl:=hX.2.2
 refine call_use (lsOverR (now:=M.clk) (hs.p6.p5.p5.p5.p5.p5.p6)) ?_
 rintro r h ⟨hr2,hs⟩
 subst hr2
 simp (disch:=omega) only [go_sem,simprocAttr]
 refine call_use (mcRevoke (ids:=(lzOver M.lz M.clk).map Lz.id) (hs.p4.p4.p4.p6.p4.p6.p6) (fun h g => by rw [List.map_map]; exact lst_elsM fun _ => rfl) (by rw [List.length_map]; exact Nat.le_trans (List.length_filter_le _ _) (by omega)) hz hr) ?_
 intro r h hs
 have hs:=hs.p4.drop.p3.p3.p3.p3.p5.p5
 have hx:=hs.at
 have hy:=hs.p1.at
 simp (disch:=omega) only [go_sem,simprocAttr,hx,hy]
 have hs6:=hs.drop.p4.p4.p4.p4.p4.set (o':=.row 5 [[.int .i64 0,.int .i64 0,.bool false,.nils,.int .i64 0]] 1)
 exact ⟨_,_,gv_rp,.nilp,rfl,hs6.drop.p3.p3.p3.p3⟩
end
end Go.Proofs.YtmhbnkjajkcmkaaGreat
/- The law MachineLeases, walked. -/
set_option maxRecDepth 10000
namespace Go.Proofs.YtmhbnkjajkcmkaaGreat
open Go.Hz
section
variable {h:Hp} {F:List Asr}
theorem u8w9 {i:Nat} : IntKind.u8.wrap (i:Int) = ((UInt8.ofNat i).toNat : Int):=by
 rw [UInt8.toNat_ofNat']
 simp only [IntKind.wrap,IntKind.signed,IntKind.bits]
 simp
theorem mcLeases {m s b t : Nat} {clk:Int} {X:List Lz} (hs : sat h (pto m (McO m s b t clk) :: LsP b X :: F)) : Triple Tryz.prog 21 [.ptr m 4 0 0] h (fun r h => r = .lst (X.map lzC)∧sat h (pto m (McO m s b t clk) :: LsP b X :: F)):=by
 have hm:=hs.at
 refine t21 (Nat.le_of_ble_eq_true rfl) ?_
 simp (disch:=omega) only [F21,hm,go_sem,simprocAttr]
 refine call_use (mcBookP hs) ?_
 rintro r h ⟨hr,hs⟩
 subst hr
 simp (disch:=omega) only [go_sem,simprocAttr]
 refine call_use (lsAllR (hs.p1)) ?_
 rintro r h ⟨hr,hs⟩
 subst hr
 simp (disch:=omega) only [go_sem,simprocAttr]
 exact hs.p1
set_option maxHeartbeats 4000000 in
theorem leases12 {t0 l0 : Int} {ks:List Int} {rv:Bool} (ht : -9223372036854775808 ≤ t0∧t0 ≤ 9223372036854775807) (hl0 : -9223372036854775808 ≤ l0∧l0 ≤ 9223372036854775807) (hkl : ks.length ≤ 9223372036854775807) : Triple Tryz.prog 5 [.int .i64 t0,nums ks,.int .i64 l0,.bool rv] Hp.emp (fun r _ => r = .bool true):=by
 have hs : sat Hp.emp []:=trivial
 have lenK:=num_len (l:=ks)
 refine t5 (Nat.le_of_ble_eq_true rfl) ?_
 simp (disch:=omega) only [F5,go_sem,simprocAttr]
 refine call_use (known12 hs) ?_
 rintro r h ⟨hr,hs⟩
 subst hr
 simp (disch:=omega) only [go_sem,simprocAttr]
 refine call_use (mcNew hs) ?_
 rintro r h ⟨m,s,b,t,hr,hs⟩
 subst hr
 simp (disch:=omega) only [go_sem,simprocAttr]
 refine call_use (within12 (n:=100) hs ht.1 ht.2 (by omega) (by omega)) ?_
 rintro r h ⟨n,hr,_,hn,hs⟩
 subst hr
 have mt : (1:Int) + (n:Int) = ((1 + n : Nat) : Int):=by omega
 simp (disch:=omega) only [go_sem,simprocAttr,mt]
 have hs : sat h (Mc m s b t .nilp (macT 0) []):=hs
 have hA:=mcApplyF (c:=clC 50) (v1:=.nils) (v2:=.nils) (v3:=.nils) hs rfl rfl rfl rfl rfl rfl rfl (mcDo4 rfl) (mDo_rp (MvP.ok hs.p1) (by simp [macT,Sto.now,doneL]))
 rw [cl_ap] at hA
 refine call_use hA ?_
 rintro r h ⟨o1,hr,hs⟩
 subst hr
 have hs : sat h (Mc m s b t o1 (macT 50) []):=hs
 simp (disch:=omega) only [go_sem,simprocAttr]
 have hA:=mcApplyF (c:=grC ((1 + n : Nat) : Int)) (v1:=.nils) (v2:=.nils) (v3:=.nils) hs rfl rfl rfl rfl rfl rfl rfl (mcDo1 rfl (by simp [macT])) (mDo_rp (MvP.ok hs.p1) (by simp [macT,Sto.now,doneL]))
 obtain ⟨g1,g2⟩:=lv_gr (ttl:=((1 + n : Nat) : Int)) (by omega) (by omega)
 generalize mApply (macT 50) (grC ((1 + n : Nat) : Int)) = D at hA g1 g2
 refine call_use hA ?_
 rintro r h ⟨o2,hr,hs⟩
 subst hr
 have hrow : rpC D.1 = [.int .i64 0,.int .i64 D.1.rev,.bool D.1.thn,ressV D.1.res,.int .i64 D.1.time]:=by rw [← g1]; rfl
 simp (disch:=omega) only [go_sem,simprocAttr,hrow]
 refine blk_join (Q:=fun e h => ∃ (M:Mac) (o:AV) (had:Nat),LvI M ((1 + n : Nat) : Int) (min ks.length 10) had∧sat h (Mc m s b t o M [])∧(e 0 = .int .i64 ((1 + n : Nat) : Int)∧e 1 = nums ks∧e 2 = .int .i64 l0∧e 3 = .bool rv∧e 9 = .ptr m 4 0 0∧e 10 = .int .i64 had)) ?_ ?_
 ·refine run_up (N:=min ks.length 10) (fun i e h => ∃ (M:Mac) (o:AV) (had:Nat),LvI M ((1 + n : Nat) : Int) i had∧sat h (Mc m s b t o M [])∧(e 0 = .int .i64 ((1 + n : Nat) : Int)∧e 1 = nums ks∧e 2 = .int .i64 l0∧e 3 = .bool rv∧e 9 = .ptr m 4 0 0∧e 10 = .int .i64 had∧e 11 = .int .i64 i)) ⟨D.2,o2,0,g2,hs,by simp [Env.upd_apply,initE]⟩ ?_
  clear hs hA
  rintro i e h hiN ⟨M,o,had,I,hs,he⟩
  have m1 : (i:Int) + 1 = ((i + 1 : Nat) : Int):=by omega
  by_cases hii : i < min ks.length 10
  rotate_left
  ·have hi : i = min ks.length 10:=by omega
   subst hi
   have hcase : (¬ ((min ks.length 10 : Nat) : Int) < ks.length) ∨ (((min ks.length 10 : Nat) : Int) < ks.length∧¬ ((min ks.length 10 : Nat) : Int) < 10):=by omega
   rcases hcase with c1 | ⟨c1,c2⟩
   ·simp (disch:=omega) only [go_sem,simprocAttr,he,lenK,c1]
    exact ⟨M,o,had,I,hs,rfl⟩
   ·simp (disch:=omega) only [go_sem,simprocAttr,he,lenK,c1,c2]
    exact ⟨M,o,had,I,hs,rfl⟩
  have c1 : ((i:Int) < ks.length) = True:=by simp; omega
  have c2 : ((i:Int) < 10) = True:=by simp; omega
  have hik:=num_at (l:=ks) (i:=i) (by omega)
  generalize ks[i] = v at hik
  have m97 : (97:Int) + (i:Int) = ((97 + i : Nat) : Int):=by omega
  simp (disch:=omega) only [go_sem,simprocAttr,he,lenK,c1,c2,m97,u8w9]
  refine new_opq hs fun a h hs => ?_
  have hb : sat h (pto a (.row 1 ([UInt8.ofNat (97 + i)].map eb) 1) :: _):=hs
  have hbs:=(hb.ow (Nat.le_refl _)).bts.bstr
  have hbs : bstrA h (.arr a 1 0 1 1) = some (.str (kq i)):=hbs
  simp (disch:=omega) only [go_sem,simprocAttr,he,hbs]
  refine new_opq hs fun p h hs => ?_
  have hp:=hs.at
  have hs2:=hs.set (o':=.row 6 [(⟨0,kq i,[],[118],0,0⟩ : Op9).row] 1)
  simp only [Op9.row] at hs2
  have hp2:=hs2.at
  simp (disch:=omega) only [go_sem,simprocAttr,he,hp,hik]
  generalize Hp.set h p _ = h2 at hs2 hp2 ⊢
  refine cnd_join (Q:=fun e h => ∃ lv : Int,(lv = 0 ∨ lv = 3)∧sat h (pto p (.row 6 [(⟨0,kq i,[],[118],lv,0⟩ : Op9).row] 1) :: Mc m s b t o M [])∧(e 0 = .int .i64 ((1 + n : Nat) : Int)∧e 1 = nums ks∧e 2 = .int .i64 l0∧e 3 = .bool rv∧e 9 = .ptr m 4 0 0∧e 10 = .int .i64 ((had + if lv = 3 then 1 else 0 : Nat) : Int)∧e 11 = .int .i64 i∧e 12 = .ptr p 6 0 0)) ?_ ?_
  ·have hbd : had ≤ i:=by have:=I.had; have:=I.len; have:=List.length_filter_le p3 M.st.now; omega
   have mh : (had:Int) + 1 = ((had + 1 : Nat) : Int):=by omega
   refine cnd_bool (fun q => ?_) (fun q => ?_)
   ·have hs3:=hs2.p1.drop.p4.p4.p4.p4.p4.set (o':=.row 6 [(⟨0,kq i,[],[118],3,0⟩ : Op9).row] 1)
    simp (disch:=omega) only [go_sem,simprocAttr,he,hp2,mh]
    exact ⟨3,.inr rfl,hs3,rfl⟩
   ·simp (disch:=omega) only [go_sem,simprocAttr,he]
    exact ⟨0,.inl rfl,hs2.p1.drop.p4.p4.p4.p4.p4,rfl⟩
  clear hs hs2 hp hp2 hb hbs he
  rintro e h ⟨lv,hlv,hs,he⟩
  have hp:=hs.at
  simp only [Op9.row] at hp
  simp (disch:=omega) only [go_sem,simprocAttr,he,hp]
  refine new_opq hs fun l h hs => ?_
  have hs : sat h (pto l (.row 6 [(⟨0,kq i,[],[118],lv,0⟩ : Op9).row] 1) :: _ :: Mc m s b t o M []):=hs
  have ok:=MvP.ok (hs.drop.drop.p1)
  have q1:=I.len
  have q2:=I.chs
  have q3:=I.rev
  have q4 : M.st.old.length = 0:=by rw [I.old]; rfl
  have q5:=I.clk
  have hA:=mcApplyF (c:=lvC i lv) (v1:=.nils) (v2:=.arr l 6 0 1 1) (v3:=.nils) (hs.p1.drop.p4.p4.p4.p4) rfl rfl rfl rfl rfl rfl (by simp [fkAsk,lvC])
   (mcDo0 rfl (fun h g => els_nils) (fun h g => pto_els g rfl) (fun h g => els_nils) (by simp [lvC]) (by simp [lvC]) (by simp [lvC]) (by simp [lvC]) (by omega) (by omega)) (mDo_rp ok (by omega))
  have I2:=lv_put (lv:=lv) I (by omega) hlv
  generalize mApply M (lvC i lv) = D at hA I2
  simp (disch:=omega) only [go_sem,simprocAttr,he]
  refine call_use hA ?_
  rintro r h ⟨o',hr,hs⟩
  subst hr
  simp (disch:=omega) only [go_sem,simprocAttr,he,m1]
  exact ⟨hii,D.2,o',_,I2,hs.p4.drop.p3.p3.p3.p3,rfl⟩
 clear hs hA
 rintro e h ⟨M,o,had,I,hs,he⟩
 simp (disch:=omega) only [go_sem,simprocAttr,he]
 refine call_use (within12 (n:=200) hs hl0.1 hl0.2 (by omega) (by omega)) ?_
 rintro r h ⟨late,hr,_,hlt,hs⟩
 subst hr
 simp (disch:=omega) only [go_sem,simprocAttr,he]
 have ok2 : StoOK M.st:=MvP.ok hs.p1
 have q1:=I.len
 have q2:=I.chs
 have q3:=I.rev
 have q4 : M.st.old.length = 0:=by rw [I.old]; rfl
 have q5:=I.clk
 have q6 : had ≤ min ks.length 10:=by have:=I.had; have:=List.length_filter_le p3 M.st.now; omega
 have hA:=mcApplyF (c:=clC (50 + (late:Int))) (v1:=.nils) (v2:=.nils) (v3:=.nils) hs rfl rfl rfl rfl rfl rfl (by simp [fkAsk,clC]) (mcDo4 rfl) (mDo_rp ok2 (by omega))
 rw [lv_clk I hlt] at hA
 refine call_use hA ?_
 rintro r h ⟨o4,hr,hs⟩
 subst hr
 simp (disch:=omega) only [go_sem,simprocAttr,he]
 refine call_use (mcStore hs) ?_
 rintro r h ⟨hr,hs⟩
 subst hr
 simp (disch:=omega) only [go_sem,simprocAttr,he]
 refine call_use (mvRev (hs.p3.p3.p2.p3)) ?_
 rintro r h ⟨hr,hs⟩
 have hr : r = .int .i64 ((min ks.length 10 : Nat) : Int):=by rw [← q3]; exact hr
 subst hr
 simp (disch:=omega) only [go_sem,simprocAttr,he]
 refine new_opq hs fun z h hs => ?_
 have hz:=hs.at
 have hsE:=hs.p4.p4.p3.p4.p4.set (o':=.row 10 [exC.rowV .nils .nils .nils] 1)
 have hsR:=hs.p4.p4.p3.p4.p4.set (o':=.row 10 [rvC.rowV .nils .nils .nils] 1)
 simp only [Cm.rowV,exC,rvC] at hsE hsR
 have hzE:=hsE.at
 have hzR:=hsR.at
 have en : (if (10:Int) < (ks.length : Int) then 10 else (ks.length : Int)) = ((min ks.length 10 : Nat) : Int):=by split <;> omega
 generalize hMn : min ks.length 10 = N at q1 q2 q3 q6 en I
 have hN10 : N ≤ 10:=by omega
 have es : (N:Int) - (had:Int) = ((N - had : Nat) : Int):=by omega
 have nn : ∀ w : Int,(w == w) = true:=fun w => by simp
 have L : MaI { M with clk:=50 + (late:Int) } 10:=by
  have e10 : triK 32 10 = 1760:=by decide
  refine ⟨by show M.st.now.length ≤ _; omega,by show M.st.old.length + M.st.chs.length ≤ _; omega,by show M.st.rev ≤ _; omega,by show 0 ≤ 50 + (late:Int)∧50 + (late:Int) ≤ 1099511627776; omega⟩
 have e11 : triK 32 (10 + 1) = 2112:=by decide
 cases rv with
 | true =>
  simp (disch:=omega) only [go_sem,simprocAttr,he,hz,hzE,hzR]
  have hs9:=hsR
  have hA:=mcApplyF (M := { M with clk:=50 + (late:Int) }) (c:=rvC) (v1:=.nils) (v2:=.nils) (v3:=.nils) (hs9.drop.p3.p3.p3.p3) rfl rfl rfl rfl rfl rfl (by simp [fkAsk,rvC]) (mcDo3 rfl (by show M.st.old.length + M.st.chs.length + M.st.now.length ≤ 30000000; omega) (by show M.st.rev ≤ 100000000000000; omega)) (mDo_rp (M := { M with clk:=50 + (late:Int) }) ok2 (by show M.st.now.length ≤ 100000; omega))
  have hle:=lv_end1 (rv:=true) (late:=late) I hN10 ok2 (.inl rfl)
  simp only [if_true,Bool.false_eq_true,if_false,reduceIte] at hle
  obtain ⟨u1,u2⟩:=hle
  have u5:=(mApply_I L ok2 (c:=rvC)).len
  generalize mApply { M with clk:=50 + (late:Int) } rvC = D at hA u1 u2 u5
  refine call_use hA ?_
  rintro r h ⟨o5,hr,hs⟩
  subst hr
  have hrow : rpC D.1 = [.int .i64 0,.int .i64 D.1.rev,.bool D.1.thn,ressV D.1.res,.int .i64 D.1.time]:=by rw [← u1]; rfl
  simp (disch:=omega) only [go_sem,simprocAttr,he,hrow]
  refine new_opq hs fun y h hs => ?_
  have hy:=hs.at
  have hs7:=hs.set (o':=.row 5 [rpC D.1] 1)
  rw [hrow] at hs7
  simp (disch:=omega) only [go_sem,simprocAttr,he,hy,hrow]
  generalize Hp.set h y _ = h7 at hs7 ⊢
  refine call_use (mcStore (hs7.p4.p4.p4.p4)) ?_
  rintro r h ⟨hr,hs⟩
  subst hr
  simp (disch:=omega) only [go_sem,simprocAttr,he]
  have ok3:=MvP.ok hs.p1
  have u6:=lv_rng ok3 u2.key
  have u7:=u2.now
  have u8:=u2.rev
  have u9:=u2.lz
  refine call_use (mvRange (lo:=[97]) (hi:=[122]) (rev:=0) (lim:=0) (hs.p4.p4.p4.p3.p4) (by omega)) ?_
  rintro r h ⟨hr,hs⟩
  rw [u6,u7] at hr
  subst hr
  have hy:=hs.p3.p3.p3.p3.p4.at
  simp (disch:=omega) only [go_sem,simprocAttr,he,lenK,en,hy,es,nn]
  have hy:=hs.p3.p3.p3.p3.p4.at
  by_cases hh : 0 < had
  ·have gh : decide (0 < (had:Int)) = true:=by simp; omega
   have mN : (N:Int) + 1 = ((N + 1 : Nat) : Int):=by omega
   rw [if_pos hh,mN] at u8
   simp (disch:=omega) only [go_sem,simprocAttr,he,gh,hy,nn,mN]
   refine call_use (mcStore (hs.p4.p4.p4.p3.p4)) ?_
   rintro r h ⟨hr,hs⟩
   subst hr
   simp (disch:=omega) only [go_sem,simprocAttr,he]
   refine call_use (mvRev (hs.p4.p4.p4.p3.p4)) ?_
   rintro r h ⟨hr,hs⟩
   rw [u8] at hr
   subst hr
   simp (disch:=omega) only [go_sem,simprocAttr,he,nn]
   refine call_use (mcLeases (hs.p4.p4.p2.p4.p4)) ?_
   rintro r h ⟨hr,hs⟩
   subst hr
   have lenZ : lenL (.lst (D.2.lz.map lzC)) = some (.int .i64 (D.2.lz.length : Int)):=by simp [lenL]
   rw [u9] at lenZ
   simp (disch:=omega) only [go_sem,simprocAttr,he,lenZ]
  ·have gh : decide (0 < (had:Int)) = false:=by simp; omega
   rw [if_neg hh,Int.add_zero] at u8
   simp (disch:=omega) only [go_sem,simprocAttr,he,gh,hy,nn]
   refine call_use (mcStore (hs.p4.p4.p4.p3.p4)) ?_
   rintro r h ⟨hr,hs⟩
   subst hr
   simp (disch:=omega) only [go_sem,simprocAttr,he]
   refine call_use (mvRev (hs.p4.p4.p4.p3.p4)) ?_
   rintro r h ⟨hr,hs⟩
   rw [u8] at hr
   subst hr
   simp (disch:=omega) only [go_sem,simprocAttr,he,nn]
   refine call_use (mcLeases (hs.p4.p4.p2.p4.p4)) ?_
   rintro r h ⟨hr,hs⟩
   subst hr
   have lenZ : lenL (.lst (D.2.lz.map lzC)) = some (.int .i64 (D.2.lz.length : Int)):=by simp [lenL]
   rw [u9] at lenZ
   simp (disch:=omega) only [go_sem,simprocAttr,he,lenZ]
 | false =>
  by_cases hg : 1 + n ≤ late
  ·have g1 : decide ((late:Int) ≥ ((1 + n : Nat) : Int)) = true:=by simp; omega
   simp (disch:=omega) only [go_sem,simprocAttr,he,hz,hzE,g1]
   have hs9:=hsE
   have hA:=mcApplyF (M := { M with clk:=50 + (late:Int) }) (c:=exC) (v1:=.nils) (v2:=.nils) (v3:=.nils) (hs9.drop.p3.p3.p3.p3) rfl rfl rfl rfl rfl rfl (by simp [fkAsk,exC]) (mcDo5 rfl (by show M.st.old.length + M.st.chs.length + M.st.now.length ≤ 30000000; omega) (by show M.st.rev ≤ 100000000000000; omega)) (mDo_rp (M := { M with clk:=50 + (late:Int) }) ok2 (by show M.st.now.length ≤ 100000; omega))
   have hle:=lv_end1 (rv:=false) (late:=late) I hN10 ok2 (.inr (by omega))
   simp only [if_true,Bool.false_eq_true,if_false,reduceIte] at hle
   obtain ⟨u1,u2⟩:=hle
   have u5:=(mApply_I L ok2 (c:=exC)).len
   generalize mApply { M with clk:=50 + (late:Int) } exC = D at hA u1 u2 u5
   refine call_use hA ?_
   rintro r h ⟨o5,hr,hs⟩
   subst hr
   have hrow : rpC D.1 = [.int .i64 0,.int .i64 D.1.rev,.bool D.1.thn,ressV D.1.res,.int .i64 D.1.time]:=by rw [← u1]; rfl
   simp (disch:=omega) only [go_sem,simprocAttr,he,hrow]
   refine new_opq hs fun y h hs => ?_
   have hy:=hs.at
   have hs7:=hs.set (o':=.row 5 [rpC D.1] 1)
   rw [hrow] at hs7
   simp (disch:=omega) only [go_sem,simprocAttr,he,hy,hrow]
   generalize Hp.set h y _ = h7 at hs7 ⊢
   refine call_use (mcStore (hs7.p4.p4.p4.p4)) ?_
   rintro r h ⟨hr,hs⟩
   subst hr
   simp (disch:=omega) only [go_sem,simprocAttr,he]
   have ok3:=MvP.ok hs.p1
   have u6:=lv_rng ok3 u2.key
   have u7:=u2.now
   have u8:=u2.rev
   have u9:=u2.lz
   refine call_use (mvRange (lo:=[97]) (hi:=[122]) (rev:=0) (lim:=0) (hs.p4.p4.p4.p3.p4) (by omega)) ?_
   rintro r h ⟨hr,hs⟩
   rw [u6,u7] at hr
   subst hr
   have hy:=hs.p3.p3.p3.p3.p4.at
   simp (disch:=omega) only [go_sem,simprocAttr,he,lenK,en,hy,es,nn]
   have hy:=hs.p3.p3.p3.p3.p4.at
   by_cases hh : 0 < had
   ·have gh : decide (0 < (had:Int)) = true:=by simp; omega
    have mN : (N:Int) + 1 = ((N + 1 : Nat) : Int):=by omega
    rw [if_pos hh,mN] at u8
    simp (disch:=omega) only [go_sem,simprocAttr,he,gh,hy,nn,mN]
    refine call_use (mcStore (hs.p4.p4.p4.p3.p4)) ?_
    rintro r h ⟨hr,hs⟩
    subst hr
    simp (disch:=omega) only [go_sem,simprocAttr,he]
    refine call_use (mvRev (hs.p4.p4.p4.p3.p4)) ?_
    rintro r h ⟨hr,hs⟩
    rw [u8] at hr
    subst hr
    simp (disch:=omega) only [go_sem,simprocAttr,he,nn]
    refine call_use (mcLeases (hs.p4.p4.p2.p4.p4)) ?_
    rintro r h ⟨hr,hs⟩
    subst hr
    have lenZ : lenL (.lst (D.2.lz.map lzC)) = some (.int .i64 (D.2.lz.length : Int)):=by simp [lenL]
    rw [u9] at lenZ
    simp (disch:=omega) only [go_sem,simprocAttr,he,lenZ]
   ·have gh : decide (0 < (had:Int)) = false:=by simp; omega
    rw [if_neg hh,Int.add_zero] at u8
    simp (disch:=omega) only [go_sem,simprocAttr,he,gh,hy,nn]
    refine call_use (mcStore (hs.p4.p4.p4.p3.p4)) ?_
    rintro r h ⟨hr,hs⟩
    subst hr
    simp (disch:=omega) only [go_sem,simprocAttr,he]
    refine call_use (mvRev (hs.p4.p4.p4.p3.p4)) ?_
    rintro r h ⟨hr,hs⟩
    rw [u8] at hr
    subst hr
    simp (disch:=omega) only [go_sem,simprocAttr,he,nn]
    refine call_use (mcLeases (hs.p4.p4.p2.p4.p4)) ?_
    rintro r h ⟨hr,hs⟩
    subst hr
    have lenZ : lenL (.lst (D.2.lz.map lzC)) = some (.int .i64 (D.2.lz.length : Int)):=by simp [lenL]
    rw [u9] at lenZ
    simp (disch:=omega) only [go_sem,simprocAttr,he,lenZ]
  ·have g1 : decide ((late:Int) ≥ ((1 + n : Nat) : Int)) = false:=by simp; omega
   simp (disch:=omega) only [go_sem,simprocAttr,he,hz,hzE,g1]
   have hs9:=hsE
   have hA:=mcApplyF (M := { M with clk:=50 + (late:Int) }) (c:=exC) (v1:=.nils) (v2:=.nils) (v3:=.nils) (hs9.drop.p3.p3.p3.p3) rfl rfl rfl rfl rfl rfl (by simp [fkAsk,exC]) (mcDo5 rfl (by show M.st.old.length + M.st.chs.length + M.st.now.length ≤ 30000000; omega) (by show M.st.rev ≤ 100000000000000; omega)) (mDo_rp (M := { M with clk:=50 + (late:Int) }) ok2 (by show M.st.now.length ≤ 100000; omega))
   obtain ⟨u1,u2⟩:=lv_end2 (late:=late) I hN10 ok2 (by omega)
   have u5:=(mApply_I L ok2 (c:=exC)).len
   generalize mApply { M with clk:=50 + (late:Int) } exC = D at hA u1 u2 u5
   refine call_use hA ?_
   rintro r h ⟨o5,hr,hs⟩
   subst hr
   have hrow : rpC D.1 = [.int .i64 0,.int .i64 D.1.rev,.bool D.1.thn,ressV D.1.res,.int .i64 D.1.time]:=by rw [← u1]; rfl
   simp (disch:=omega) only [go_sem,simprocAttr,he,hrow]
   refine new_opq hs fun y h hs => ?_
   have hy:=hs.at
   have hs7:=hs.set (o':=.row 5 [rpC D.1] 1)
   rw [hrow] at hs7
   simp (disch:=omega) only [go_sem,simprocAttr,he,hy,hrow]
   generalize Hp.set h y _ = h7 at hs7 ⊢
   refine call_use (mcStore (hs7.p4.p4.p4.p4)) ?_
   rintro r h ⟨hr,hs⟩
   subst hr
   simp (disch:=omega) only [go_sem,simprocAttr,he]
   have ok3:=MvP.ok hs.p1
   have u6:=lv_rng ok3 u2.key
   have u7:=u2.now
   have u8:=u2.rev
   have u9:=u2.lz
   refine call_use (mvRange (lo:=[97]) (hi:=[122]) (rev:=0) (lim:=0) (hs.p4.p4.p4.p3.p4) (by omega)) ?_
   rintro r h ⟨hr,hs⟩
   rw [u6,u7] at hr
   subst hr
   have hy:=hs.p3.p3.p3.p3.p4.at
   simp (disch:=omega) only [go_sem,simprocAttr,he,lenK,en,hy,es,nn]
   refine call_use (mcStore (hs.p4.p4.p4.p3.p4)) ?_
   rintro r h ⟨hr,hs⟩
   subst hr
   simp (disch:=omega) only [go_sem,simprocAttr,he]
   refine call_use (mvRev (hs.p4.p4.p4.p3.p4)) ?_
   rintro r h ⟨hr,hs⟩
   rw [u8] at hr
   subst hr
   simp (disch:=omega) only [go_sem,simprocAttr,he,nn]
   refine call_use (mcLeases (hs.p4.p4.p2.p4.p4)) ?_
   rintro r h ⟨hr,hs⟩
   subst hr
   have lenZ : lenL (.lst (D.2.lz.map lzC)) = some (.int .i64 (D.2.lz.length : Int)):=by simp [lenL]
   rw [u9] at lenZ
   simp (disch:=omega) only [go_sem,simprocAttr,he,lenZ]
theorem machineLeases_law (vs:List AV) (h:Ty.ones [.int .i64,.sl (.int .i64),.int .i64,.bool] vs) : Triple Tryz.prog 5 vs Hp.emp (fun r _ => r = .bool true):=by
 obtain ⟨a,_,rfl,ha,h⟩:=ones_cons h
 obtain ⟨b,_,rfl,hb,h⟩:=ones_cons h
 obtain ⟨c,_,rfl,hc,h⟩:=ones_cons h
 obtain ⟨d,_,rfl,hd,h⟩:=ones_cons h
 obtain rfl:=ones_nil h
 obtain ⟨k,rfl,hk⟩:=int_of ha
 obtain ⟨L,rfl,h3,h4⟩:=nums_of hb
 obtain ⟨j,rfl,hj⟩:=int_of hc
 obtain ⟨q,rfl⟩:=bool_of hd
 exact leases12 hk hj h3
end
end Go.Proofs.YtmhbnkjajkcmkaaGreat
