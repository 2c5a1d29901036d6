/- A range over a map, in the walk. -/
import Derived.Test.YtmhbnkjajkcmkaaGreatR70MachineLeasesLawPB
set_option linter.unusedSimpArgs false
set_option linter.unusedVariables false
set_option linter.unusedSectionVars false
namespace Go.Hz
section
variable {h:Hp} {F:List Asr} {P:Program} {st:List Fr} {e:Env} {k:Kt} {d:Option Nat} {r:List (AItem × List AItem)}
theorem rng_use {m c : Nat} {kvs:List (AV × AV × Nat)} (hs : sat h (pto m (.mp kvs c) :: F)) (hk:∀ n h',sat h' (pto n (.itr (some m) c [] c) :: pto m (.mp kvs c) :: F) → runS P r st (e.put d (.ptr n 1 0 0)) h' k) :
  effR P (rngE (.map m) h) [] d r st e k:=by
 have h0:=hs.at
 unfold effR rngE
 simp only [h0]
 intro n hn
 exact ⟨fun _ hm => by simp at hm,hk n _ (hs.new hn)⟩
theorem nxt_use {m q since stp c : Nat} {seen:List Nat} {kvs:List (AV × AV × Nat)} (hs : sat h (pto q (.itr (some m) since seen stp) :: pto m (.mp kvs c) :: F)) (h1 : since ≤ stp) (h2:∀ x ∈ kvs,x.2.2 < since)
  (hk1:∀ x ∈ kvs,x.2.2 ∉ seen → ∀ h',sat h' (pto q (.itr (some m) since (seen ++ [x.2.2]) c) :: pto m (.mp kvs c) :: F) → runS P r st (e.put d (.tup [.bool true,x.1,x.2.1])) h' k)
  (hk2:(∀ x ∈ kvs,x.2.2 ∈ seen) → runS P r st (e.put d (.tup [.bool false])) h k) :
  effR P (nxtE (.ptr q 1 0 0) h) [] d r st e k:=by
 have a1:=hs.at
 have a2:=hs.p1.at
 unfold effR nxtE
 simp only [a1,a2]
 exact ⟨h1,h2,fun x hx hns => ⟨fun _ hm => by simp at hm,hk1 x hx hns _ hs.set⟩,fun hall => ⟨fun _ hm => by simp at hm,hk2 hall⟩⟩
theorem ent_at {m q since c : Nat} {seen:List Nat} {kvs:List (AV × AV × Nat)} {x:AV × AV × Nat} (hs : sat h (pto q (.itr (some m) since (seen ++ [x.2.2]) c) :: pto m (.mp kvs c) :: F)) (hx : x ∈ kvs) (hn:(kvs.map (·.2.2)).Nodup) :
  entE (.ptr q 1 0 0) h = some (.tup [x.1,x.2.1]):=by
 have a1:=hs.at
 have a2:=hs.p1.at
 unfold entE
 simp only [a1,a2,List.getLast?_append,List.getLast?_singleton,Option.some_or,if_true]
 have : ∀ l : List (AV × AV × Nat),(l.map (·.2.2)).Nodup → x ∈ l → l.find? (fun e => e.2.2 == x.2.2) = some x:=by
  intro l
  induction l with
  | nil => intro _ h; cases h
  | cons y l ih =>
   intro hn hx
   rw [List.map_cons,List.nodup_cons] at hn
   rw [List.find?_cons]
   rcases List.mem_cons.1 hx with rfl | hx
   ·simp
   ·have : y.2.2 ≠ x.2.2:=fun e => hn.1 (e ▸ List.mem_map_of_mem hx)
    simp only [beq_eq_false_iff_ne.2 this]
    exact ih hn.2 hx
 rw [this kvs hn hx]
 rfl
theorem rng_step {kvs es rest : List (AV × AV × Nat)} {x:AV × AV × Nat} (hp:(es ++ rest).Perm kvs) (hx : x ∈ kvs) (hns : x.2.2 ∉ es.map (·.2.2)) : ∃ rest',(es ++ [x] ++ rest').Perm kvs∧rest.length = rest'.length + 1:=by
 have hxr : x ∈ rest:=by
  rcases List.mem_append.1 (hp.mem_iff.2 hx) with h | h
  ·exact absurd (List.mem_map_of_mem h) hns
  ·exact h
 obtain ⟨a,b,rfl⟩:=List.append_of_mem hxr
 refine ⟨a ++ b,?_,by simp; omega⟩
 refine List.Perm.trans ?_ hp
 rw [List.append_assoc]
 exact List.Perm.append_left es (by simpa using List.perm_middle.symm)
theorem rng_end {kvs es rest : List (AV × AV × Nat)} (hp:(es ++ rest).Perm kvs) (hn:(kvs.map (·.2.2)).Nodup) (hall:∀ x ∈ kvs,x.2.2 ∈ es.map (·.2.2)) : es.Perm kvs:=by
 cases rest with
 | nil => simpa using hp
 | cons y ys =>
  exfalso
  have h1:=hall y (hp.mem_iff.1 (by simp))
  have h2 : ((es ++ y :: ys).map (·.2.2)).Nodup:=(hp.map _).nodup_iff.2 hn
  rw [List.map_append,List.map_cons] at h2
  exact (List.nodup_append.1 h2).2.2 _ h1 _ (by simp) rfl
end
end Go.Hz
/- A map as a list of what it holds, in any order. -/
namespace Go.Hz
structure KeyOK {κ:Type} [DecidableEq κ] (str:Bool) (K : κ → AV) : Prop where
 eq : ∀ a b,keyEq str (K a) (K b) = some (decide (a = b))
 av : ∀ a,keyAV str (K a) = true
theorem keyOK_int : KeyOK false (fun n : Int => AV.int .i64 n):=⟨fun a b => by
 simp only [keyEq,and_self,if_true]
 by_cases h : a = b <;> simp [h],fun _ => rfl⟩
theorem keyOK_str : KeyOK true (fun s : List UInt8 => AV.str s):=⟨fun a b => by
 simp only [keyEq,if_true]
 by_cases h : a = b <;> simp [h],fun _ => rfl⟩
section
variable {α κ : Type} [DecidableEq κ] {str:Bool} {K : κ → AV} {key : α → κ} {v : α → AV} {m:Nat} {X:List α} {h:Hp} {F:List Asr}
def kvOf (K : κ → AV) (key : α → κ) (v : α → AV) (pl:List (α × Nat)) : List KV:=pl.map fun p => (K (key p.1),v p.1,p.2)
def MpA (K : κ → AV) (key : α → κ) (v : α → AV) (m:Nat) (X:List α) : Asr:=fun h => ∃ (pl:List (α × Nat)) (c:Nat),((pl.map (·.1)).Perm X∧(pl.map (·.2)).Nodup∧(∀ p ∈ pl,p.2 < c))∧pto m (.mp (kvOf K key v pl) c) h
theorem mpA : sat h (MpA K key v m X :: F) ↔ ∃ (pl:List (α × Nat)) (c:Nat),((pl.map (·.1)).Perm X∧(pl.map (·.2)).Nodup∧(∀ p ∈ pl,p.2 < c))∧sat h (pto m (.mp (kvOf K key v pl) c) :: F):=by
 unfold MpA
 rw [sat_ex]
 refine exists_congr fun pl => ?_
 rw [sat_ex]
 exact exists_congr fun c => sat_and
theorem modify_mid {β:Type} {f : β → β} {x : β} {b:List β} : ∀ a : List β,(a ++ x :: b).modify a.length f = a ++ f x :: b
 | [] => by simp
 | y :: a => by
  have:=modify_mid (f:=f) (x:=x) (b:=b) a
  simp [List.modify_succ_cons,this]
theorem mpA_new (hs : sat h (pto m (.mp [] 0) :: F)) : sat h (MpA K key v m [] :: F) :=
 mpA.2 ⟨[],0,⟨.refl _,.nil,fun _ h => by cases h⟩,hs⟩
theorem mpA_perm {Y:List α} (hs : sat h (MpA K key v m X :: F)) (hp:X.Perm Y) : sat h (MpA K key v m Y :: F):=by
 obtain ⟨pl,c,⟨h1,h2,h3⟩,hs⟩:=mpA.1 hs
 exact mpA.2 ⟨pl,c,⟨h1.trans hp,h2,h3⟩,hs⟩
theorem findK_miss (hK:KeyOK str K) {q : κ} : ∀ {pl:List (α × Nat)} {i:Nat},(∀ p ∈ pl,key p.1 ≠ q) → findK str (K q) (kvOf K key v pl) i = some none
 | [],_,_ => rfl
 | p :: pl,i,hn => by
  have h1 : decide (q = key p.1) = false:=by simpa using fun e => hn p (by simp) e.symm
  have:=findK_miss hK (q:=q) (pl:=pl) (i:=i + 1) fun p hp => hn p (by simp [hp])
  simp only [kvOf] at this
  simp only [kvOf,List.map_cons,findK,hK.eq,h1,this]
theorem findK_hit (hK:KeyOK str K) {q : κ} {p : α × Nat} {b:List (α × Nat)} (hq : key p.1 = q) : ∀ {a:List (α × Nat)} {i:Nat},(∀ p ∈ a,key p.1 ≠ q) → findK str (K q) (kvOf K key v (a ++ p :: b)) i = some (some (i + a.length,v p.1))
 | [],i,_ => by
  have h1 : decide (q = key p.1) = true:=by simpa using hq.symm
  simp [kvOf,findK,hK.eq,h1]
 | x :: a,i,hn => by
  have h1 : decide (q = key x.1) = false:=by simpa using fun e => hn x (by simp) e.symm
  have:=findK_hit hK (b:=b) hq (a:=a) (i:=i + 1) fun p hp => hn p (by simp [hp])
  simp only [kvOf] at this
  simp only [kvOf,List.cons_append,List.map_cons,findK,hK.eq,h1,this,List.length_cons]
  simp only [Option.some.injEq,Prod.mk.injEq,and_true]; omega
theorem pl_split {pl:List (α × Nat)} (hp:(pl.map (·.1)).Perm X) (hn:(X.map key).Nodup) {x : α} (hx : x ∈ X) : ∃ a b n,pl = a ++ (x,n) :: b∧(∀ p ∈ a,key p.1 ≠ key x)∧∀ p ∈ b,key p.1 ≠ key x:=by
 obtain ⟨p,hp1,rfl⟩:=List.mem_map.1 (hp.mem_iff.2 hx)
 obtain ⟨a,b,rfl⟩:=List.append_of_mem hp1
 have h2 : ((a ++ p :: b).map fun p => key p.1).Nodup:=by
  have:=(hp.map key).nodup_iff.2 hn
  simpa [Function.comp_def] using this
 rw [List.map_append,List.map_cons] at h2
 have h3:=List.nodup_append.1 h2
 refine ⟨a,b,p.2,rfl,fun y hy e => h3.2.2 _ (List.mem_map_of_mem (f:=fun p => key p.1) hy) _ (by simp) e,fun y hy e => ?_⟩
 have:=(List.nodup_cons.1 h3.2.1).1
 exact this (List.mem_map.2 ⟨y,hy,e⟩)
theorem pl_miss {pl:List (α × Nat)} (hp:(pl.map (·.1)).Perm X) {q : κ} (hq:∀ x ∈ X,key x ≠ q) : ∀ p ∈ pl,key p.1 ≠ q :=
 fun p h => hq _ (hp.mem_iff.1 (List.mem_map_of_mem h))
theorem lk_hit (hK:KeyOK str K) (hs : sat h (MpA K key v m X :: F)) (hn:(X.map key).Nodup) {x : α} (hx : x ∈ X) {ok:Bool} {z:AV} : lkA str ok z h (.map m) (K (key x)) = some (if ok then .tup [v x,.bool true] else v x):=by
 obtain ⟨pl,c,⟨h1,h2,h3⟩,hs⟩:=mpA.1 hs
 obtain ⟨a,b,n,rfl,h4,h5⟩:=pl_split h1 hn hx
 have h0:=hs.at
 unfold lkA
 simp only [hK.av,if_true,h0,findK_hit hK (v:=v) (p:=(x,n)) rfl h4]
theorem lk_miss (hK:KeyOK str K) (hs : sat h (MpA K key v m X :: F)) {q : κ} (hq:∀ x ∈ X,key x ≠ q) {ok:Bool} {z:AV} : lkA str ok z h (.map m) (K q) = some (if ok then .tup [z,.bool false] else z):=by
 obtain ⟨pl,c,⟨h1,h2,h3⟩,hs⟩:=mpA.1 hs
 have h0:=hs.at
 unfold lkA
 simp only [hK.av,if_true,h0,findK_miss hK (v:=v) (pl_miss h1 hq)]
theorem len_mp (hs : sat h (MpA K key v m X :: F)) : lenM h (.map m) = some (.int .i64 X.length):=by
 obtain ⟨pl,c,⟨h1,h2,h3⟩,hs⟩:=mpA.1 hs
 have h0:=hs.at
 unfold lenM
 simp only [h0,kvOf,List.length_map]
 rw [← h1.length_eq,List.length_map]
variable {P:Program} {st:List Fr} {e:Env} {k:Kt} {d:Option Nat} {r:List (AItem × List AItem)}
theorem mup_new (hK:KeyOK str K) (hs : sat h (MpA K key v m X :: F)) {y : α} (hq:∀ x ∈ X,key x ≠ key y) (hk:∀ h',sat h' (MpA K key v m (X ++ [y]) :: F) → runS P r st (e.put d (.tup [])) h' k) :
  effR P (mupE str (.map m) (K (key y)) (v y) h) [] d r st e k:=by
 obtain ⟨pl,c,⟨h1,h2,h3⟩,hs⟩:=mpA.1 hs
 have h0:=hs.at
 unfold effR mupE
 simp only [hK.av,h0,findK_miss hK (v:=v) (pl_miss h1 hq),true_and]
 refine ⟨fun _ hm => by simp at hm,hk _ (mpA.2 ⟨pl ++ [(y,c)],c + 1,⟨?_,?_,?_⟩,?_⟩)⟩
 ·simpa using h1.append_right [y]
 ·rw [List.map_append,List.nodup_append]
  refine ⟨h2,by simp,?_⟩
  intro a ha b hb
  simp only [List.map_cons,List.map_nil,List.mem_cons,List.not_mem_nil,or_false] at hb
  subst hb
  obtain ⟨p,hp,rfl⟩:=List.mem_map.1 ha
  have:=h3 p hp
  omega
 ·intro p hp
  rcases List.mem_append.1 hp with hp | hp
  ·have:=h3 p hp; omega
  ·simp at hp; subst hp; simp
 ·simpa [kvOf] using hs.set (o':=.mp (kvOf K key v (pl ++ [(y,c)])) (c + 1))
theorem mup_set (hK:KeyOK str K) (hs : sat h (MpA K key v m X :: F)) (hn:(X.map key).Nodup) {x y : α} (hx : x ∈ X) (hy : key y = key x) (hk:∀ h',sat h' (MpA K key v m (X.map fun z => if key z = key x then y else z) :: F) → runS P r st (e.put d (.tup [])) h' k) :
  effR P (mupE str (.map m) (K (key x)) (v y) h) [] d r st e k:=by
 obtain ⟨pl,c,⟨h1,h2,h3⟩,hs⟩:=mpA.1 hs
 obtain ⟨a,b,n,rfl,h4,h5⟩:=pl_split h1 hn hx
 have h0:=hs.at
 unfold effR mupE
 simp only [hK.av,h0,findK_hit hK (v:=v) (p:=(x,n)) rfl h4,true_and]
 refine ⟨fun _ hm => by simp at hm,hk _ (mpA.2 ⟨a ++ (y,n) :: b,c,⟨?_,?_,?_⟩,?_⟩)⟩
 ·have h6:=h1.map fun z => if key z = key x then y else z
  refine List.Perm.trans ?_ h6
  have : ∀ l : List (α × Nat),(∀ p ∈ l,key p.1 ≠ key x) → (l.map (·.1)).map (fun z => if key z = key x then y else z) = l.map (·.1):=by
   intro l hl
   rw [List.map_map]
   exact List.map_congr_left fun p hp => if_neg (hl p hp)
  rw [List.map_append,List.map_cons,List.map_append,List.map_cons,List.map_append,List.map_cons,this a h4,this b h5,if_pos rfl]
 ·simpa using h2
 ·intro p hp
  rcases List.mem_append.1 hp with hp | hp
  ·exact h3 p (by simp [hp])
  ·rcases List.mem_cons.1 hp with rfl | hp
   ·exact h3 (x,n) (by simp)
   ·exact h3 p (by simp [hp])
 ·have h6:=hs.set (o':=.mp (kvOf K key v (a ++ (y,n) :: b)) c)
  have h7 : ((kvOf K key v (a ++ (x,n) :: b)).modify (0 + a.length) fun e => (K (key x),v y,e.2.2)) = kvOf K key v (a ++ (y,n) :: b):=by
   rw [Nat.zero_add,show a.length = (kvOf K key v a).length by simp [kvOf]]
   simp only [kvOf,List.map_append,List.map_cons]
   rw [modify_mid,hy]
  rwa [h7]
theorem del_hit (hK:KeyOK str K) (hs : sat h (MpA K key v m X :: F)) (hn:(X.map key).Nodup) {x : α} (hx : x ∈ X) (hk:∀ h',sat h' (MpA K key v m (X.filter fun z => decide (key z ≠ key x)) :: F) → runS P r st (e.put d (.tup [])) h' k) :
  effR P (delE str (.map m) (K (key x)) h) [] d r st e k:=by
 obtain ⟨pl,c,⟨h1,h2,h3⟩,hs⟩:=mpA.1 hs
 obtain ⟨a,b,n,rfl,h4,h5⟩:=pl_split h1 hn hx
 have h0:=hs.at
 unfold effR delE
 simp only [hK.av,h0,findK_hit hK (v:=v) (p:=(x,n)) rfl h4,true_and]
 refine ⟨fun _ hm => by simp at hm,hk _ (mpA.2 ⟨a ++ b,c,⟨?_,?_,?_⟩,?_⟩)⟩
 ·have h6:=h1.filter fun z => decide (key z ≠ key x)
  refine List.Perm.trans ?_ h6
  have : ∀ l : List (α × Nat),(∀ p ∈ l,key p.1 ≠ key x) → (l.map (·.1)).filter (fun z => decide (key z ≠ key x)) = l.map (·.1):=by
   intro l hl
   rw [List.filter_eq_self]
   intro z hz
   obtain ⟨p,hp,rfl⟩:=List.mem_map.1 hz
   simpa using hl p hp
  rw [List.map_append,List.map_append,List.map_cons,List.filter_append,List.filter_cons,this a h4,this b h5]
  simp
 ·rw [List.map_append]
  rw [List.map_append,List.map_cons] at h2
  exact h2.sublist (List.Sublist.append_left (List.sublist_cons_self _ _) _)
 ·intro p hp
  exact h3 p (by rcases List.mem_append.1 hp with hp | hp <;> simp [hp])
 ·have h6:=hs.set (o':=.mp (kvOf K key v (a ++ b)) c)
  have h7 : (kvOf K key v (a ++ (x,n) :: b)).eraseIdx (0 + a.length) = kvOf K key v (a ++ b):=by
   rw [Nat.zero_add,show a.length = (kvOf K key v a).length by simp [kvOf]]
   simp [kvOf,List.eraseIdx_append]
  rwa [h7]
end
end Go.Hz
/- Leases: a book as the list of its leases, by their ids. -/
namespace Go.Hz
open Go.Sort
structure Lz where
 id : Int
 ttl : Int
 til : Int
deriving DecidableEq
def lzC (x:Lz) : List AV:=[.int .i64 x.id,.int .i64 x.ttl,.int .i64 x.til]
def hdI : List AV → Int
 | .int _ i :: _ => i
 | _ => 0
theorem hdI_lz (x:Lz) : hdI (lzC x) = x.id:=rfl
def ltI (a b : List AV) : Bool:=decide (hdI a < hdI b)
theorem ltI_f {a b : List AV} : ltI a b = false ↔ ¬ hdI a < hdI b:=by simp [ltI]
theorem swo_ltI : SWO ltI:=⟨fun x => by simp [ltI],fun x y z => by simp only [ltI,decide_eq_true_eq]; omega,fun x y z => by simp only [ltI,decide_eq_false_iff_not]; omega⟩
def GLz (c:List AV) : Prop := ∃ x : Lz,c = lzC x
theorem goodE_lz : GoodE 3 true GLz where
 len:=by rintro _ ⟨x,rfl⟩; rfl
 atoms:=by rintro _ ⟨x,rfl⟩; rfl
 cells:=by rintro _ ⟨x,rfl⟩; rfl
 pos:=by omega
 one:=by intro h; cases h
theorem nodup_map_inj {α β : Type} {f : α → β} : ∀ {X:List α},(X.map f).Nodup → ∀ {x y : α},x ∈ X → y ∈ X → f x = f y → x = y
 | [],_,_,_,hx,_,_ => by cases hx
 | z :: X,hn,x,y,hx,hy,he => by
  rw [List.map_cons,List.nodup_cons] at hn
  rcases List.mem_cons.1 hx with rfl | hx' <;> rcases List.mem_cons.1 hy with rfl | hy'
  ·rfl
  ·exact absurd (he ▸ List.mem_map_of_mem hy') hn.1
  ·exact absurd (he ▸ List.mem_map_of_mem hx') hn.1
  ·exact nodup_map_inj hn.2 hx' hy' he
def LzOK (X:List Lz) : Prop:=X.Pairwise (fun a b => a.id < b.id)∧(∀ x ∈ X,1 ≤ x.id∧x.id ≤ 2147483647∧1 ≤ x.ttl∧x.ttl ≤ 2147483647)∧X.length ≤ 1024
theorem LzOK.nodup {X:List Lz} (h:LzOK X) : (X.map Lz.id).Nodup:=by
 rw [List.nodup_iff_pairwise_ne,List.pairwise_map]
 exact h.1.imp fun h => by omega
def LsP (p:Nat) (X:List Lz) : Asr:=fun h => ∃ m,LzOK X∧sat h [pto p (.row 1 [[.map m]] 1),MpA (fun n : Int => AV.int .i64 n) Lz.id (fun x => AV.agg (lzC x)) m X]
section
variable {h:Hp} {F:List Asr} {X:List Lz} {p:Nat}
theorem lsP : sat h (LsP p X :: F) ↔ ∃ m,LzOK X∧sat h (pto p (.row 1 [[.map m]] 1) :: MpA (fun n : Int => AV.int .i64 n) Lz.id (fun x => AV.agg (lzC x)) m X :: F):=by
 unfold LsP
 rw [sat_ex]
 refine exists_congr fun m => ?_
 rw [sat_and]
 exact and_congr_right fun _ => sat_sl (l1:=[_,_]) (l:=F)
theorem lz_sorted {R:List (List AV)} (hX:LzOK X) (h1:R.Perm (X.map lzC)) (h2:R.Pairwise (fun a b => ltI b a = false)) : R = X.map lzC:=by
 refine List.Perm.eq_of_pairwise ?_ h2 ?_ h1
 ·intro a b ha hb h3 h4
  obtain ⟨x,hx,rfl⟩:=List.mem_map.1 (h1.mem_iff.1 ha)
  obtain ⟨y,hy,rfl⟩:=List.mem_map.1 hb
  have : x.id = y.id:=by
   simp only [ltI_f,hdI_lz] at h3 h4
   omega
  have hn:=hX.nodup
  have : x = y:=by
   exact nodup_map_inj hn hx hy ‹_›
  rw [this]
 ·rw [List.pairwise_map]
  exact hX.1.imp fun h => by simp only [ltI_f,hdI_lz]; omega
end
def lzIns (X:List Lz) (y:Lz) : List Lz:=X.takeWhile (fun x => decide (x.id < y.id)) ++ y :: X.dropWhile (fun x => decide (x.id < y.id))
theorem lzIns_perm {X:List Lz} {y:Lz} : (X ++ [y]).Perm (lzIns X y):=by
 unfold lzIns
 refine List.Perm.trans ?_ List.perm_middle.symm
 rw [List.takeWhile_append_dropWhile]
 exact List.perm_append_singleton _ _
theorem lzIns_ok {X:List Lz} {y:Lz} (hX:LzOK X) (hl:X.length < 1024) (hy : 1 ≤ y.id∧y.id ≤ 2147483647∧1 ≤ y.ttl∧y.ttl ≤ 2147483647) (hn:∀ x ∈ X,x.id ≠ y.id) : LzOK (lzIns X y):=by
 refine ⟨?_,?_,?_⟩
 ·have h1:=hX.1
  clear hX hl
  induction X with
  | nil => exact List.pairwise_singleton _ _
  | cons x X ih =>
   rw [List.pairwise_cons] at h1
   have hne:=hn x (by simp)
   have ih:=ih (fun z hz => hn z (by simp [hz])) h1.2
   unfold lzIns at ih ⊢
   by_cases h2 : x.id < y.id
   ·rw [List.takeWhile_cons_of_pos (by simpa using h2),List.dropWhile_cons_of_pos (by simpa using h2),List.cons_append,List.pairwise_cons]
    refine ⟨fun z hz => ?_,ih⟩
    have : z = y ∨ z ∈ X:=by
     have:=(lzIns_perm (X:=X) (y:=y)).mem_iff.2 hz
     simpa [or_comm] using this
    rcases this with rfl | hz
    ·exact h2
    ·exact h1.1 z hz
   ·rw [List.takeWhile_cons_of_neg (by simpa using h2),List.dropWhile_cons_of_neg (by simpa using h2),List.nil_append,List.pairwise_cons]
    refine ⟨fun z hz => ?_,List.pairwise_cons.2 h1⟩
    rcases List.mem_cons.1 hz with rfl | hz
    ·omega
    ·have:=h1.1 z hz; omega
 ·intro x hx
  have:=(lzIns_perm (X:=X) (y:=y)).mem_iff.2 hx
  rcases List.mem_append.1 this with h | h
  ·exact hX.2.1 x h
  ·simp at h; subst h; exact hy
 ·have:=(lzIns_perm (X:=X) (y:=y)).length_eq
  simp at this; omega
def lzRen (X:List Lz) (id now : Int) : List Lz:=X.map fun x => if x.id = id then ⟨x.id,x.ttl,now + x.ttl⟩ else x
def lzDel (X:List Lz) (id:Int) : List Lz:=X.filter fun x => decide (x.id ≠ id)
theorem lzDel_ok {X:List Lz} {id:Int} (hX:LzOK X) : LzOK (lzDel X id) :=
 ⟨hX.1.filter _,fun x hx => hX.2.1 x (List.mem_filter.1 hx).1,Nat.le_trans (List.length_filter_le _ _) hX.2.2⟩
def lzHas (X:List Lz) (id:Int) : Bool:=X.any fun x => decide (x.id = id)
def lzOver (X:List Lz) (now:Int) : List Lz:=X.filter fun x => decide (x.til ≤ now)
theorem lzHas_t {X:List Lz} {id:Int} (h : lzHas X id = true) : ∃ x ∈ X,x.id = id:=by simpa [lzHas] using h
theorem lzHas_f {X:List Lz} {id:Int} (h : lzHas X id = false) : ∀ x ∈ X,x.id ≠ id:=by simpa [lzHas] using h
def lzNum (n:Int) : Bool:=decide (1 ≤ n∧n ≤ 2147483647)
def lzGrant (X:List Lz) (id ttl now : Int) : Int × List Lz :=
 if lzNum id = false ∨ lzNum ttl = false then (1,X) else if lzHas X id = true then (7,X) else if 1024 ≤ X.length then (4,X) else (0,lzIns X ⟨id,ttl,now + ttl⟩)
def lzRenew (X:List Lz) (id now : Int) : Int × List Lz:=if lzHas X id = true then (0,lzRen X id now) else (2,X)
def lzRevoke (X:List Lz) (id:Int) : Int × List Lz:=if lzHas X id = true then (0,lzDel X id) else (2,X)
theorem lzGrant_ok {X:List Lz} {id ttl now : Int} (hX:LzOK X) : LzOK (lzGrant X id ttl now).2:=by
 unfold lzGrant
 split
 ·exact hX
 rename_i h1
 split
 ·exact hX
 rename_i h2
 split
 ·exact hX
 rename_i h3
 simp only [lzNum,decide_eq_false_iff_not,not_or,Decidable.not_not] at h1
 exact lzIns_ok hX (by omega) ⟨h1.1.1,h1.1.2,h1.2.1,h1.2.2⟩ (lzHas_f (by simpa using h2))
theorem lzRevoke_ok {X:List Lz} {id:Int} (hX:LzOK X) : LzOK (lzRevoke X id).2:=by
 unfold lzRevoke; split
 ·exact lzDel_ok hX
 ·exact hX
end Go.Hz
/- Bytes of numbers and texts, a reader over bytes, the sums of frames: as plain data. -/
namespace Go.Hz
def bz (n:Int) (k:Nat) : UInt8:=UInt8.ofNat (IntKind.u8.wrap ((IntKind.u64.wrap n).fdiv (2 ^ (8 * k)))).toNat
def beB : Nat → Int → List UInt8
 | 0,_ => []
 | k + 1,n => bz n k :: beB k n
def txB (s:List UInt8) : List UInt8:=beB 4 s.length ++ s
theorem beB_length (k:Nat) (n:Int) : (beB k n).length = k:=by induction k with
 | zero => rfl
 | succ k ih => simp [beB,ih]
theorem txB_length (s:List UInt8) : (txB s).length = 4 + s.length:=by simp [txB,beB_length]
def nstep (n:Int) (x:UInt8) : Int:=bitsA .or .u64 (IntKind.u64.wrap (n * 2 ^ 8)) (IntKind.u64.wrap x.toNat)
def rawN (l:List UInt8) : Int:=l.foldl nstep 0
structure RS where
 b : List UInt8
 a : Nat
 err : Int
def RS.ok (s:RS) (n:Nat) : Bool:=decide (s.err = 0) && decide (n ≤ s.b.length - s.a)
def RS.adv (s:RS) (n:Nat) : RS:=⟨s.b,if s.ok n then s.a + n else s.a,if s.ok n then s.err else 8⟩
def RS.val (s:RS) (n:Nat) : Int:=if s.ok n then IntKind.i64.wrap (rawN ((s.b.drop s.a).take n)) else 0
def RS.txk (s:RS) : Nat:=(s.val 4).toNat
def RS.tx (s:RS) : List UInt8:=if (s.adv 4).ok s.txk then ((s.b.drop (s.adv 4).a).take s.txk) else []
def RS.atx (s:RS) : RS:=if (s.adv 4).ok s.txk then (s.adv 4).adv s.txk else ⟨s.b,s.a,8⟩
def RS.good (s:RS) : Prop:=s.a ≤ s.b.length∧s.b.length ≤ 1000000000000∧(s.err = 0 ∨ s.err = 8)
theorem RS.e0 {s:RS} (h : s.err = 0) : (s.err != 0) = false:=by simp [h]
theorem RS.adv_b (s:RS) (n:Nat) : (s.adv n).b = s.b:=rfl
theorem RS.ok_le {s:RS} {n:Nat} (h : s.ok n = true) : s.err = 0∧n ≤ s.b.length - s.a:=by simpa [RS.ok] using h
theorem RS.good.adv {s:RS} (g : s.good) (n:Nat) : (s.adv n).good:=by
 obtain ⟨g1,g2,g3⟩:=g
 unfold RS.adv
 cases hk : s.ok n
 ·exact ⟨g1,g2,.inr rfl⟩
 ·have:=RS.ok_le hk
  exact ⟨by simp; omega,g2,by simpa using g3⟩
theorem RS.good.atx {s:RS} (g : s.good) : s.atx.good:=by
 unfold RS.atx
 split
 ·exact (g.adv 4).adv _
 ·exact ⟨g.1,g.2.1,.inr rfl⟩
theorem RS.dead {s:RS} (h : s.err = 8) : (∀ n,s.val n = 0)∧(∀ n,s.adv n = s)∧s.tx = []∧s.atx = s:=by
 obtain ⟨b,a,err⟩:=s
 simp only at h
 subst h
 have h0 : ∀ n,(RS.mk b a 8).ok n = false:=fun n => by simp [RS.ok]
 have h1 : ∀ n,(RS.mk b a 8).adv n = RS.mk b a 8:=fun n => by unfold RS.adv; rw [h0]; rfl
 refine ⟨fun n => by unfold RS.val; rw [h0]; rfl,h1,?_,?_⟩
 ·unfold RS.tx; rw [h1,h0]; rfl
 ·unfold RS.atx; rw [h1,h0]; rfl
def valN (l:List UInt8) : Nat:=l.foldl (fun n x => n * 256 + x.toNat) 0
theorem valN_snoc (l:List UInt8) (x:UInt8) : valN (l ++ [x]) = valN l * 256 + x.toNat:=by simp [valN]
theorem list_snoc_ind {α:Type} {p:List α → Prop} (h0 : p []) (h1:∀ l x,p l → p (l ++ [x])) (l:List α) : p l:=by
 have : ∀ m : List α,p m.reverse:=by
  intro m
  induction m with
  | nil => exact h0
  | cons x m ih => rw [List.reverse_cons]; exact h1 _ _ ih
 have:=this l.reverse
 rwa [List.reverse_reverse] at this
theorem valN_lt (l:List UInt8) : valN l < 256 ^ l.length:=by
 refine list_snoc_ind (p:=fun l => valN l < 256 ^ l.length) (by decide) (fun l x ih => ?_) l
 rw [valN_snoc,List.length_append,List.length_singleton,Nat.pow_succ]
 have:=x.toNat_lt
 omega
theorem nstep_val (m:Nat) (x:UInt8) (hm : m < 72057594037927936) : nstep m x = ((m * 256 + x.toNat : Nat) : Int):=by
 have hx:=x.toNat_lt
 have e1 : IntKind.u64.wrap ((m:Int) * 2 ^ 8) = ((m * 256 : Nat) : Int):=by
  simp only [IntKind.wrap,IntKind.signed,IntKind.bits]
  simp
  omega
 have e2 : IntKind.u64.wrap (x.toNat : Int) = (x.toNat : Int):=by
  simp only [IntKind.wrap,IntKind.signed,IntKind.bits]
  simp
  omega
 unfold nstep
 rw [e1,e2]
 change IntKind.u64.wrap (((BitVec.ofInt 64 ((m * 256 : Nat) : Int) ||| BitVec.ofInt 64 (x.toNat : Int)).toNat : Nat) : Int) = _
 have e3 : ∀ k : Nat,BitVec.ofInt 64 (k:Int) = BitVec.ofNat 64 k:=fun k => by
  apply BitVec.eq_of_toNat_eq
  simp
 rw [e3,e3,BitVec.toNat_or,BitVec.toNat_ofNat,BitVec.toNat_ofNat,Nat.mod_eq_of_lt (by omega),Nat.mod_eq_of_lt (by omega)]
 have e4 : m * 256 ||| x.toNat = m * 256 + x.toNat:=by
  rw [show m * 256 = m <<< 8 from by rw [Nat.shiftLeft_eq]]
  exact (Nat.shiftLeft_add_eq_or_of_lt (by omega) m).symm
 rw [e4]
 simp only [IntKind.wrap,IntKind.signed,IntKind.bits]
 simp
 omega
theorem rawN_val (l:List UInt8) (hl : l.length ≤ 8) : rawN l = valN l:=by
 have : ∀ l : List UInt8,l.length ≤ 8 → rawN l = valN l:=by
  intro l
  refine list_snoc_ind (p:=fun l => l.length ≤ 8 → rawN l = valN l) (fun _ => rfl) (fun l x ih hl => ?_) l
  rw [List.length_append,List.length_singleton] at hl
  rw [valN_snoc]
  have e : rawN (l ++ [x]) = nstep (rawN l) x:=by simp [rawN]
  rw [e,ih (by omega),nstep_val _ _ ?_]
  have h1:=valN_lt l
  have h2 : 256 ^ l.length ≤ 256 ^ 7:=Nat.pow_le_pow_right (by omega) (by omega)
  exact Nat.lt_of_lt_of_le h1 h2
 exact this l hl
theorem valN_cons (x:UInt8) (l:List UInt8) : valN (x :: l) = x.toNat * 256 ^ l.length + valN l:=by
 have key : ∀ (l:List UInt8) (a:Nat),l.foldl (fun n x => n * 256 + x.toNat) a = a * 256 ^ l.length + valN l:=by
  intro l
  induction l with
  | nil => intro a; simp [valN]
  | cons y l ih =>
   intro a
   have h1:=ih (a * 256 + y.toNat)
   have h2:=ih y.toNat
   simp only [List.foldl_cons,List.length_cons,valN] at h1 h2 ⊢
   rw [h1]
   simp only [Nat.zero_mul,Nat.zero_add]
   rw [h2,Nat.pow_succ,Nat.add_mul]
   rw [show a * 256 * 256 ^ l.length = a * (256 ^ l.length * 256) from by rw [Nat.mul_assoc,Nat.mul_comm 256]]
   omega
 have:=key l x.toNat
 simpa [valN] using this
theorem bz_val (n:Int) (m k : Nat) (hm:IntKind.u64.wrap n = m) : (bz n k).toNat = m / 256 ^ k % 256:=by
 unfold bz
 rw [hm]
 have e : (2:Int) ^ (8 * k) = ((256 ^ k : Nat) : Int):=by
  rw [Int.pow_mul]
  simp
 rw [e,Int.fdiv_eq_ediv_of_nonneg _ (Int.natCast_nonneg _)]
 have e2 : (m:Int) / ((256 ^ k : Nat) : Int) = ((m / 256 ^ k : Nat) : Int):=by simp
 rw [e2]
 generalize m / 256 ^ k = q
 simp only [IntKind.wrap,IntKind.signed,IntKind.bits]
 rw [UInt8.toNat_ofNat']
 simp
 omega
theorem valN_be (n:Int) (m:Nat) (hm:IntKind.u64.wrap n = m) : ∀ k,valN (beB k n) = m % 256 ^ k
 | 0 => by simp [beB,valN,Nat.mod_one]
 | k + 1 => by
  rw [beB,valN_cons,bz_val n m k hm,beB_length,valN_be n m hm k,Nat.mod_pow_succ,Nat.mul_comm,Nat.add_comm]
theorem u64_nat (n:Int) : ∃ m : Nat,IntKind.u64.wrap n = m∧(m:Int) = n % 18446744073709551616:=by
 refine ⟨(n % 18446744073709551616).toNat,?_,?_⟩
 ·simp only [IntKind.wrap,IntKind.signed,IntKind.bits]
  simp
  omega
 ·omega
theorem RS.be {s:RS} {k:Nat} {n:Int} {t:List UInt8} (hk : k ≤ 8) (he : s.err = 0) (hd : s.b.drop s.a = beB k n ++ t) :
  s.val k = IntKind.i64.wrap (n % 18446744073709551616 % 256 ^ k)∧s.adv k = ⟨s.b,s.a + k,0⟩∧s.b.drop (s.a + k) = t:=by
 have hlen : s.b.length - s.a = k + t.length:=by
  have:=congrArg List.length hd
  simpa [beB_length] using this
 have hok : s.ok k = true:=by simp [RS.ok,he]; omega
 refine ⟨?_,?_,?_⟩
 ·unfold RS.val
  rw [if_pos hok,hd,List.take_left' (beB_length k n),rawN_val _ (by rw [beB_length]; exact hk)]
  obtain ⟨m,h1,h2⟩:=u64_nat n
  rw [valN_be n m h1 k,← h2]
  congr 1
 ·unfold RS.adv
  rw [hok]
  simp [he]
 ·rw [← List.drop_drop,hd,List.drop_left' (beB_length k n)]
theorem RS.be8 {s:RS} {n:Int} {t:List UInt8} (h1 : -9223372036854775808 ≤ n) (h2 : n ≤ 9223372036854775807) (he : s.err = 0) (hd : s.b.drop s.a = beB 8 n ++ t) :
  s.val 8 = n∧s.adv 8 = ⟨s.b,s.a + 8,0⟩∧s.b.drop (s.a + 8) = t:=by
 obtain ⟨a,b,c⟩:=RS.be (by omega) he hd
 refine ⟨?_,b,c⟩
 rw [a]
 simp only [IntKind.wrap,IntKind.signed,IntKind.bits]
 simp
 omega
theorem RS.be4 {s:RS} {n:Int} {t:List UInt8} (he : s.err = 0) (hd : s.b.drop s.a = beB 4 n ++ t) :
  s.val 4 = n % 4294967296∧s.adv 4 = ⟨s.b,s.a + 4,0⟩∧s.b.drop (s.a + 4) = t:=by
 obtain ⟨a,b,c⟩:=RS.be (by omega) he hd
 refine ⟨?_,b,c⟩
 rw [a,wrap_i64_go (by omega) (by omega)]
 omega
theorem RS.be1 {s:RS} {n:Int} {t:List UInt8} (he : s.err = 0) (hd : s.b.drop s.a = beB 1 n ++ t) :
  s.val 1 = n % 256∧s.adv 1 = ⟨s.b,s.a + 1,0⟩∧s.b.drop (s.a + 1) = t:=by
 obtain ⟨a,b,c⟩:=RS.be (by omega) he hd
 refine ⟨?_,b,c⟩
 rw [a,wrap_i64_go (by omega) (by omega)]
 omega
theorem RS.beT {s:RS} {x t : List UInt8} (hx : x.length < 4294967296) (he : s.err = 0) (hd : s.b.drop s.a = txB x ++ t) :
  s.tx = x∧s.atx = ⟨s.b,s.a + (4 + x.length),0⟩∧s.b.drop (s.a + (4 + x.length)) = t:=by
 unfold txB at hd
 rw [List.append_assoc] at hd
 obtain ⟨a,b,c⟩:=RS.be4 he hd
 have hk : s.txk = x.length:=by
  unfold RS.txk
  rw [a]
  omega
 have hlen : s.b.length - (s.a + 4) = x.length + t.length:=by
  have:=congrArg List.length c
  simpa using this
 have hok : (s.adv 4).ok s.txk = true:=by
  rw [hk,b]
  simp [RS.ok]
  omega
 refine ⟨?_,?_,?_⟩
 ·unfold RS.tx
  rw [if_pos hok,hk,b,c,List.take_left]
 ·unfold RS.atx
  rw [if_pos hok]
  rw [b] at hok ⊢
  unfold RS.adv
  rw [hok]
  simp [hk]
  omega
 ·rw [show s.a + (4 + x.length) = s.a + 4 + x.length from by omega,← List.drop_drop,c,List.drop_left]
end Go.Hz
/- The sums of frames: four bits at a time, and bit by bit. -/
set_option maxRecDepth 10000
namespace Go.Hz
def bitX (c:UInt32) : UInt32:=if c &&& 1 = 1 then (c >>> 1) ^^^ 3988292384 else c >>> 1
def bitsX : Nat → UInt32 → UInt32
 | 0,c => c
 | k + 1,c => bitX (bitsX k c)
def stepX (c:UInt32) (x:UInt8) : UInt32:=bitsX 8 (c ^^^ x.toUInt32)
def sumX (b:List UInt8) : UInt32 := ~~~ (b.foldl stepX 4294967295)
def frameB (b:List UInt8) : List UInt8:=beB 4 b.length ++ beB 4 (sumX b).toNat ++ b
def B9 : List UInt8:=[49,50,51,52,53,54,55,56,57]
theorem k1 : (txB [97,98] == [0,0,0,2,97,98]) = true:=by decide +kernel
theorem k2 : (((frameB B9).length : Int) == 17) = true:=by decide +kernel
theorem k3 : (((frameB B9).drop 4).take 4 == [203,244,57,38]) = true:=by decide +kernel
end Go.Hz
/- Messages: their bytes, and what bytes are read as. -/
set_option maxRecDepth 10000
namespace Go.Hz
structure En where
 idx : Int
 term : Int
 kind : Int
 data : List UInt8
 deriving DecidableEq
structure Ms where
 kind : Int
 frm : Int
 to : Int
 term : Int
 index : Int
 lterm : Int
 es : List En
 commit : Int
 seq : Int
 ok : Bool
 mtch : Int
 mi : Int
 mt : Int
 vs : List Int
 data : List UInt8
 deriving DecidableEq
def bytesV (b:List UInt8) : AV:=.lst (b.map eb)
def En.row (e:En) : List AV:=[.int .i64 e.idx,.int .i64 e.term,.int .i64 e.kind,bytesV e.data]
def ensV (l:List En) : AV:=.lst (l.map En.row)
def intsV (l:List Int) : AV:=.lst (l.map fun k => [AV.int .i64 k])
def Ms.cells (m:Ms) : List AV :=
 [.int .i64 m.kind,.int .i64 m.frm,.int .i64 m.to,.int .i64 m.term,.int .i64 m.index,.int .i64 m.lterm,ensV m.es,.int .i64 m.commit,.int .i64 m.seq,.bool m.ok,.int .i64 m.mtch,
  .int .i64 m.mi,.int .i64 m.mt,intsV m.vs,bytesV m.data]
def Ms.zero : Ms:=⟨0,0,0,0,0,0,[],0,0,false,0,0,0,[],[]⟩
theorem bytesV_len {b:List UInt8} : lenL (bytesV b) = some (.int .i64 b.length):=by simp [bytesV,lenL]
theorem bytesV_str {h:Hp} {b:List UInt8} : bstrA h (bytesV b) = some (.str b):=bstr_lst
theorem bytesV_cells {b:List UInt8} : (bytesV b).cells = [bytesV b]:=rfl
theorem bytesV_atom {b:List UInt8} : (bytesV b).isAtom = true:=rfl
theorem ensV_len {l:List En} : lenL (ensV l) = some (.int .i64 l.length):=by simp [ensV,lenL]
theorem ensV_cells {l:List En} : (ensV l).cells = [ensV l]:=rfl
theorem ensV_atom {l:List En} : (ensV l).isAtom = true:=rfl
theorem intsV_len {l:List Int} : lenL (intsV l) = some (.int .i64 l.length):=by simp [intsV,lenL]
theorem intsV_cells {l:List Int} : (intsV l).cells = [intsV l]:=rfl
theorem intsV_atom {l:List Int} : (intsV l).isAtom = true:=rfl
attribute [go_sem] bytesV_len bytesV_str bytesV_cells bytesV_atom ensV_len ensV_cells ensV_atom intsV_len intsV_cells intsV_atom
theorem Ms.cells_all {m:Ms} : m.cells.all AV.isAtom = true:=rfl
theorem Ms.cells_len {m:Ms} : m.cells.length = 15:=rfl
theorem Ms.cells_take {m:Ms} : m.cells.take 15 = m.cells:=rfl
attribute [go_sem] Ms.cells_all Ms.cells_len Ms.cells_take
def Ms.room (m:Ms) : Prop:=m.es.length ≤ 1000000000000∧m.vs.length ≤ 1000000000000
def En.B (e:En) : List UInt8:=beB 8 e.idx ++ (beB 8 e.term ++ (beB 1 e.kind ++ txB e.data))
def Ms.five (m:Ms) : List Int:=[m.frm,m.to,m.term,m.index,m.lterm]
def flagN (b:Bool) : Int:=if b then 1 else 0
def Ms.B (m:Ms) : List UInt8 :=
 beB 1 m.kind ++ (m.five.flatMap (beB 8) ++ (beB 1 m.es.length ++ (m.es.flatMap En.B ++ (beB 8 m.commit ++ (beB 8 m.seq ++ (beB 1 (flagN m.ok) ++ (beB 8 m.mtch ++ (beB 8 m.mi ++ (beB 8 m.mt ++
  (beB 1 m.vs.length ++ (m.vs.flatMap (beB 8) ++ txB m.data)))))))))))
def En.bad (e:En) : Bool:=decide (e.kind < 0) || decide (255 < e.kind)
def Ms.e (m:Ms) : Int :=
 if m.kind < 1 ∨ 5 < m.kind then 3 else if 255 < m.es.length ∨ 255 < m.vs.length then 4 else if m.es.any En.bad then 3 else if 16777216 < m.B.length then 5 else 0
def Ms.enc (m:Ms) : List UInt8:=if m.e = 0 then frameB m.B else []
structure RdP where
 s1 : RS
 es : List En
 s2 : RS
 vs : List Int
 s3 : RS
def RS.v (s:RS) (n:Nat) : Nat:=(s.val n).toNat
end Go.Hz
/- A reader stands ahead of bytes: what was written is read, and what was read was written. -/
namespace Go.Hz
def RS.At (s:RS) (r:List UInt8) : Prop:=s.err = 0∧s.b.drop s.a = r∧s.a ≤ s.b.length
theorem RS.At.i8 {s:RS} {n:Int} {t:List UInt8} (h : s.At (beB 8 n ++ t)) (h1 : -9223372036854775808 ≤ n) (h2 : n ≤ 9223372036854775807) : s.val 8 = n∧(s.adv 8).At t:=by
 obtain ⟨a,b,c⟩:=RS.be8 h1 h2 h.1 h.2.1
 have hl:=congrArg List.length h.2.1
 simp [beB_length] at hl
 exact ⟨a,by rw [b]; exact ⟨rfl,c,by simp only; omega⟩⟩
theorem RS.At.i1 {s:RS} {n:Int} {t:List UInt8} (h : s.At (beB 1 n ++ t)) (h1 : 0 ≤ n) (h2 : n < 256) : s.val 1 = n∧(s.adv 1).At t:=by
 obtain ⟨a,b,c⟩:=RS.be1 h.1 h.2.1
 have hl:=congrArg List.length h.2.1
 simp [beB_length] at hl
 exact ⟨by rw [a]; omega,by rw [b]; exact ⟨rfl,c,by simp only; omega⟩⟩
theorem RS.At.t {s:RS} {x t : List UInt8} (h : s.At (txB x ++ t)) (hx : x.length < 4294967296) : s.tx = x∧s.atx.At t:=by
 obtain ⟨a,b,c⟩:=RS.beT hx h.1 h.2.1
 have hl:=congrArg List.length h.2.1
 simp [txB_length] at hl
 exact ⟨a,by rw [b]; exact ⟨rfl,c,by simp only; omega⟩⟩
theorem RS.At.fin {s:RS} (h : s.At []) : s.a = s.b.length:=by
 have:=congrArg List.length h.2.1
 simp at this
 have:=h.2.2
 omega
theorem valN_inj : ∀ {l l' : List UInt8},l.length = l'.length → valN l = valN l' → l = l'
 | [],[],_,_ => rfl
 | [],_ :: _,h,_ => by simp at h
 | _ :: _,[],h,_ => by simp at h
 | x :: l,y :: l',h,hv => by
  have hl : l.length = l'.length:=by simpa using h
  rw [valN_cons,valN_cons,hl] at hv
  have h1:=valN_lt l
  have h2:=valN_lt l'
  rw [hl] at h1
  have hp : 0 < 256 ^ l'.length:=Nat.pow_pos (by omega)
  have hx : x.toNat = y.toNat:=by
   have e1 : (x.toNat * 256 ^ l'.length + valN l) / 256 ^ l'.length = x.toNat:=by
    rw [Nat.mul_comm,Nat.mul_add_div hp,Nat.div_eq_of_lt h1,Nat.add_zero]
   have e2 : (y.toNat * 256 ^ l'.length + valN l') / 256 ^ l'.length = y.toNat:=by
    rw [Nat.mul_comm,Nat.mul_add_div hp,Nat.div_eq_of_lt h2,Nat.add_zero]
   rw [← e1,← e2,hv]
  rw [hx] at hv
  have:=valN_inj hl (by omega)
  rw [this,UInt8.toNat_inj.1 hx]
theorem be_raw (l:List UInt8) (hl : l.length ≤ 8) : beB l.length (IntKind.i64.wrap (rawN l)) = l:=by
 apply valN_inj (by rw [beB_length])
 have h1:=valN_lt l
 have h8 : 256 ^ l.length ≤ 256 ^ 8:=Nat.pow_le_pow_right (by omega) hl
 rw [rawN_val l hl]
 have hm : IntKind.u64.wrap (IntKind.i64.wrap (valN l : Int)) = (valN l : Int):=by
  simp only [IntKind.wrap,IntKind.signed,IntKind.bits]
  simp
  omega
 rw [valN_be _ (valN l) hm,Nat.mod_eq_of_lt h1]
theorem RS.back {s:RS} {n:Nat} (hn : n ≤ 8) (hg : s.a ≤ s.b.length) (h:(s.adv n).err = 0) : s.err = 0∧s.b.drop s.a = beB n (s.val n) ++ (s.adv n).b.drop (s.adv n).a∧(s.adv n).a ≤ (s.adv n).b.length:=by
 have hok : s.ok n = true:=by
  cases hk : s.ok n
  ·have : (s.adv n).err = 8:=by
    show (if s.ok n then s.err else (8:Int)) = 8
    rw [hk]; rfl
   omega
  ·rfl
 obtain ⟨h0,hle⟩:=RS.ok_le hok
 have hlen : ((s.b.drop s.a).take n).length = n:=by simp; omega
 have hv : beB n (s.val n) = (s.b.drop s.a).take n:=by
  have:=be_raw ((s.b.drop s.a).take n) (by omega)
  rw [hlen] at this
  unfold RS.val
  rw [if_pos hok,this]
 have ha : (s.adv n).a = s.a + n:=by
  show (if s.ok n then s.a + n else s.a) = _
  rw [hok]; rfl
 refine ⟨h0,?_,?_⟩
 ·rw [hv,ha,RS.adv_b,← List.drop_drop,List.take_append_drop]
 ·rw [ha,RS.adv_b]; omega
def RS.well (s:RS) : Prop:=s.a ≤ s.b.length
theorem RS.well.adv {s:RS} (h : s.well) (n:Nat) : (s.adv n).well:=by
 unfold RS.well at *
 show (if s.ok n then s.a + n else s.a) ≤ s.b.length
 cases hk : s.ok n
 ·exact h
 ·have:=(RS.ok_le hk).2
  simp only [if_true]
  omega
theorem RS.well.atx {s:RS} (h : s.well) : s.atx.well:=by
 unfold RS.atx
 split
 ·exact (h.adv 4).adv _
 ·exact h
def RS.rest (s:RS) : List UInt8:=s.b.drop s.a
end Go.Hz
/- Messages: what was written is read, what was read was written. -/
set_option maxRecDepth 10000
namespace Go.Hz
def inI (n:Int) : Prop := -9223372036854775808 ≤ n∧n ≤ 9223372036854775807
end Go.Hz
/- Frames of messages: back to bytes; a byte that is turned. -/
set_option maxRecDepth 10000
namespace Go.Hz
end Go.Hz
/- Messages that come in. -/
set_option maxRecDepth 10000
namespace Go.Hz
end Go.Hz
/- The plain types of api: keys with values, results, replies. -/
namespace Go.Hz
open Go.Sort
structure Kv where
 key : List UInt8
 val : List UInt8
 create : Int
 mod : Int
 ver : Int
 lease : Int
deriving DecidableEq
def kvC (x:Kv) : List AV:=[.str x.key,.str x.val,.int .i64 x.create,.int .i64 x.mod,.int .i64 x.ver,.int .i64 x.lease]
abbrev kvsV (l:List Kv) : AV:=.lst (l.map kvC)
structure Res where
 n : Int
 kvs : List Kv
deriving DecidableEq
def resC (x:Res) : List AV:=[.int .i64 x.n,kvsV x.kvs]
abbrev ressV (l:List Res) : AV:=.lst (l.map resC)
structure Rp where
 err : Int
 rev : Int
 thn : Bool
 res : List Res
 time : Int
deriving DecidableEq
def rpC (x:Rp) : List AV:=[.int .i64 x.err,.int .i64 x.rev,.bool x.thn,ressV x.res,.int .i64 x.time]
abbrev rpV (x:Rp) : AV:=.agg (rpC x)
def rp0 : Rp:=⟨0,0,false,[],0⟩
def rpE (e:Int) : Rp:=⟨e,0,false,[],0⟩
def RpOK (x:Rp) : Prop:=x.res.length ≤ 1000000∧∀ q ∈ x.res,q.kvs.length * 64 ≤ 140737488355328
theorem rp0_ok : RpOK rp0:=⟨by simp [rp0],by simp [rp0]⟩
theorem rpE_ok {e:Int} : RpOK (rpE e):=⟨by simp [rpE],by simp [rpE]⟩
theorem kvC_len (l:List Kv) : ∀ e ∈ l.map kvC,e.length = 6:=by
 intro e he
 obtain ⟨k,_,rfl⟩:=List.mem_map.1 he
 rfl
theorem atoms_kv (l:List Kv) : AtomsL (l.map kvC):=by
 intro e he v hv
 obtain ⟨k,_,rfl⟩:=List.mem_map.1 he
 simp only [kvC,List.mem_cons,List.not_mem_nil,or_false] at hv
 rcases hv with rfl | rfl | rfl | rfl | rfl | rfl <;> rfl
theorem gv_rp {h:Hp} {a b c e : AV} : GV (.agg [a,b,c,.nils,e]) h (.agg [a,b,c,.lst [],e]) h:=GV.agg [a,b,c] [e] GV.nils
theorem fill_set {β:Type} {L:List β} {z y : β} {n i : Nat} (hn : n = L.length) (hi : i < n) (hy:L[i]? = some y) : (L.take i ++ List.replicate (n - i) z).set i y = L.take (i + 1) ++ List.replicate (n - (i + 1)) z:=by
 subst hn
 have e1 : L.length - i = (L.length - (i + 1)) + 1:=by omega
 rw [List.getElem?_eq_getElem hi] at hy
 cases hy
 rw [e1,List.replicate_succ,List.set_append_right _ _ (by simp; omega),List.take_succ_eq_append_getElem hi,List.length_take,Nat.min_eq_left (Nat.le_of_lt hi),Nat.sub_self]
 simp only [List.set_cons_zero,List.append_assoc,List.cons_append,List.nil_append]
theorem fill_get {β:Type} {L:List β} {z : β} {n i : Nat} (hn : n = L.length) (hi : i < n) : (L.take i ++ List.replicate (n - i) z)[i]? = some z:=by
 subst hn
 rw [List.getElem?_append_right (by simp; omega),List.getElem?_replicate,if_pos (by simp; omega)]
section
variable {α:Type} {key : α → Int}
def kIns (key : α → Int) (X:List α) (y : α) : List α:=X.takeWhile (fun x => decide (key x < key y)) ++ y :: X.dropWhile (fun x => decide (key x < key y))
theorem kIns_perm {X:List α} {y : α} : (X ++ [y]).Perm (kIns key X y):=by
 unfold kIns
 refine List.Perm.trans ?_ List.perm_middle.symm
 rw [List.takeWhile_append_dropWhile]
 exact List.perm_append_singleton _ _
theorem kIns_pw {X:List α} {y : α} (h1:X.Pairwise fun a b => key a < key b) (hn:∀ x ∈ X,key x ≠ key y) : (kIns key X y).Pairwise fun a b => key a < key b:=by
 induction X with
 | nil => exact List.pairwise_singleton _ _
 | cons x X ih =>
  rw [List.pairwise_cons] at h1
  have hne:=hn x (by simp)
  have ih:=ih h1.2 (fun z hz => hn z (by simp [hz]))
  unfold kIns at ih ⊢
  by_cases h2 : key x < key y
  ·rw [List.takeWhile_cons_of_pos (by simpa using h2),List.dropWhile_cons_of_pos (by simpa using h2),List.cons_append,List.pairwise_cons]
   refine ⟨fun z hz => ?_,ih⟩
   have : z = y ∨ z ∈ X:=by
    have:=(kIns_perm (key:=key) (X:=X) (y:=y)).mem_iff.2 hz
    simpa [or_comm] using this
   rcases this with rfl | hz
   ·exact h2
   ·exact h1.1 z hz
  ·rw [List.takeWhile_cons_of_neg (by simpa using h2),List.dropWhile_cons_of_neg (by simpa using h2),List.nil_append,List.pairwise_cons]
   refine ⟨fun z hz => ?_,List.pairwise_cons.2 h1⟩
   rcases List.mem_cons.1 hz with rfl | hz
   ·omega
   ·have:=h1.1 z hz; omega
theorem kIns_mem {X:List α} {y z : α} : z ∈ kIns key X y ↔ z ∈ X ∨ z = y:=by
 rw [← (kIns_perm (key:=key) (X:=X) (y:=y)).mem_iff]; simp
theorem kIns_len {X:List α} {y : α} : (kIns key X y).length = X.length + 1:=by
 rw [← (kIns_perm (key:=key) (X:=X) (y:=y)).length_eq]; simp
def kSet (key : α → Int) (X:List α) (y : α) : List α:=X.map fun x => if key x = key y then y else x
theorem kSet_pw {X:List α} {y : α} (h1:X.Pairwise fun a b => key a < key b) : (kSet key X y).Pairwise fun a b => key a < key b:=by
 unfold kSet
 rw [List.pairwise_map]
 refine h1.imp fun {a b} h => ?_
 by_cases ha : key a = key y <;> by_cases hb : key b = key y <;> simp only [ha,hb,if_true,if_false] <;> omega
theorem kSet_mem {X:List α} {y z : α} (h : z ∈ kSet key X y) : z ∈ X ∨ z = y:=by
 obtain ⟨x,hx,rfl⟩:=List.mem_map.1 h
 split
 ·exact .inr rfl
 ·exact .inl hx
theorem kSet_len {X:List α} {y : α} : (kSet key X y).length = X.length:=by simp [kSet]
theorem pw_nodup {X:List α} (h1:X.Pairwise fun a b => key a < key b) : (X.map key).Nodup:=by
 rw [List.nodup_iff_pairwise_ne,List.pairwise_map]
 exact h1.imp fun h => by omega
end
structure Fk where
 client : Int
 seq : Int
 rep : Rp
deriving DecidableEq
def fkC (x:Fk) : List AV:=[.int .i64 x.client,.int .i64 x.seq,.int .i64 x.rep.err,.int .i64 x.rep.rev,.bool x.rep.thn,ressV x.rep.res,.int .i64 x.rep.time]
def FkOK (X:List Fk) : Prop:=X.Pairwise (fun a b => a.client < b.client)∧(∀ x ∈ X,1 ≤ x.client∧1 ≤ x.seq∧RpOK x.rep)∧X.length ≤ 64
def FkP (p:Nat) (X:List Fk) : Asr:=fun h => ∃ m,FkOK X∧sat h [pto p (.row 1 [[.map m]] 1),MpA (fun n : Int => AV.int .i64 n) Fk.client (fun x => AV.agg (fkC x)) m X]
theorem fkP {h:Hp} {F:List Asr} {X:List Fk} {p:Nat} : sat h (FkP p X :: F) ↔ ∃ m,FkOK X∧sat h (pto p (.row 1 [[.map m]] 1) :: MpA (fun n : Int => AV.int .i64 n) Fk.client (fun x => AV.agg (fkC x)) m X :: F):=by
 unfold FkP
 rw [sat_ex]
 refine exists_congr fun m => ?_
 rw [sat_and]
 exact and_congr_right fun _ => sat_sl (l1:=[_,_]) (l:=F)
theorem FkOK.nil : FkOK []:=⟨.nil,by simp,by simp⟩
def fkGet (X:List Fk) (c:Int) : Option Fk:=X.find? fun x => decide (x.client = c)
theorem fkGet_some {X:List Fk} {c:Int} {x:Fk} (h : fkGet X c = some x) : x ∈ X∧x.client = c:=⟨List.mem_of_find?_eq_some h,by simpa using List.find?_some h⟩
theorem fkGet_none {X:List Fk} {c:Int} (h : fkGet X c = none) : ∀ x ∈ X,x.client ≠ c:=by
 intro x hx
 have:=List.find?_eq_none.1 h x hx
 simpa using this
def fkAsk (X:List Fk) (c s : Int) : Rp × Bool :=
 if c = 0 then (rp0,true) else if c < 0 ∨ s < 1 then (rpE 1,false) else
 match fkGet X c with
 | none => if 64 ≤ X.length then (rpE 4,false) else (rp0,true)
 | some x => if x.seq < s then (rp0,true) else if s < x.seq then (rpE 24,false) else (x.rep,false)
def fkPut (X:List Fk) (y:Fk) : List Fk:=match fkGet X y.client with
 | none => kIns Fk.client X y
 | some _ => kSet Fk.client X y
def fkNote (X:List Fk) (c s : Int) (r:Rp) : List Fk:=if c ≠ 0∧(fkAsk X c s).2 = true then fkPut X ⟨c,s,r⟩ else X
theorem fkNote_ok {X:List Fk} {c s : Int} {r:Rp} (hX:FkOK X) (hr:RpOK r) : FkOK (fkNote X c s r):=by
 unfold fkNote
 split
 ·rename_i h
  obtain ⟨h0,h1⟩:=h
  unfold fkAsk at h1
  rw [if_neg h0] at h1
  split at h1
  ·cases h1
  rename_i h2
  unfold fkPut
  cases hg : fkGet X c with
  | none =>
   simp only [hg] at h1 ⊢
   refine ⟨kIns_pw hX.1 (fkGet_none hg),fun x hx => ?_,?_⟩
   ·rcases kIns_mem.1 hx with hx | rfl
    ·exact hX.2.1 x hx
    ·exact ⟨by show 1 ≤ c; omega,by show 1 ≤ s; omega,hr⟩
   ·rw [kIns_len]
    split at h1
    ·cases h1
    ·omega
  | some x =>
   simp only [hg]
   refine ⟨kSet_pw hX.1,fun x hx => ?_,?_⟩
   ·rcases kSet_mem hx with hx | rfl
    ·exact hX.2.1 x hx
    ·exact ⟨by show 1 ≤ c; omega,by show 1 ≤ s; omega,hr⟩
   ·rw [kSet_len]; exact hX.2.2
 ·exact hX
end Go.Hz
/- The document's books: a slice in a cell, in the order of the numbers. -/
namespace Go.Hz
section
variable {h:Hp} {F:List Asr}
end
section
variable {α:Type} {key : α → Int}
end
end Go.Hz
/- An index as it lies; what it says, as a list. -/
namespace Go.Hz
abbrev Mk:=Int × Bool
def mkE (m:Mk) : List AV:=[.int .i64 m.1,.bool m.2]
theorem atoms_mkE (l:List Mk) : AtomsL (l.map mkE):=by
 intro e he v hv
 obtain ⟨k,_,rfl⟩:=List.mem_map.1 he
 simp only [mkE,List.mem_cons,List.not_mem_nil,or_false] at hv
 rcases hv with rfl | rfl <;> rfl
structure Ixt where
 a : Nat
 key : Key
 mv : AV
 ms : List Mk
def Ixt.kp (x:Ixt) : Kp:=(x.a,x.key)
def Ixt.k (x:Ixt) : Asr:=pto x.a (.row 2 [[.str x.key,x.mv]] 1)
def Ixt.m (x:Ixt) : Asr:=Ow 2 x.mv (x.ms.map mkE)
def Ixt.p (x:Ixt) : Asr:=fun h => sat h [x.k,x.m]
theorem sat_it {x:Ixt} {h:Hp} {F:List Asr} : sat h (x.p :: F) ↔ sat h (x.k :: x.m :: F):=sat_sl (l1:=[x.k,x.m])
def insIt (x:Ixt) (l:List Ixt) : List Ixt:=l.takeWhile (fun y => ltK y.key x.key) ++ x :: l.dropWhile (fun y => ltK y.key x.key)
theorem insIt_kp (x:Ixt) (l:List Ixt) : (insIt x l).map Ixt.kp = insK x.kp (l.map Ixt.kp):=by
 unfold insIt insK
 rw [List.map_append,List.map_cons]
 congr 1
 ·induction l with
  | nil => rfl
  | cons y l ih => simp only [List.takeWhile_cons,List.map_cons,Ixt.kp]; split <;> simp_all [Ixt.kp]
 ·congr 1
  induction l with
  | nil => rfl
  | cons y l ih => simp only [List.dropWhile_cons,List.map_cons,Ixt.kp]; split <;> simp_all [Ixt.kp]
theorem insIt_perm (x:Ixt) (l:List Ixt) : (insIt x l).Perm (x :: l):=by
 unfold insIt
 refine List.perm_middle.trans ?_
 rw [List.takeWhile_append_dropWhile]
theorem insIt_len (x:Ixt) (l:List Ixt) : (insIt x l).length = l.length + 1:=by rw [(insIt_perm x l).length_eq]; rfl
theorem sat.permMap {α:Type} {f : α → Asr} {l l' : List α} {F:List Asr} {h:Hp} (p : l.Perm l') (hs : sat h (l.map f ++ F)) : sat h (l'.map f ++ F):=hs.perm ((p.map f).append_right F)
def rootV : Option (Nat × Tr) → AV
 | none => .nilp
 | some (_,t) => .ptr t.root 2 0 0
def rootA : Option (Nat × Tr) → Asr
 | none => fun _ => True
 | some (_,t) => t.asr
def rootOK (l:List Kp) : Option (Nat × Tr) → Prop
 | none => l = []
 | some (d,t) => OKd d t∧t.flat = l
def IxQ (b:Nat) (its:List Ixt) : Asr:=fun h => ∃ r,rootOK (its.map Ixt.kp) r∧sat h (pto b (.row 2 [[rootV r,.int .i64 its.length]] 1) :: rootA r :: its.map Ixt.p)
def SrtI (its:List Ixt) : Prop:=Srt (its.map Ixt.kp)
theorem sat_ixq {b:Nat} {its:List Ixt} {h:Hp} {F:List Asr} : sat h (IxQ b its :: F) ↔ ∃ r,rootOK (its.map Ixt.kp) r∧sat h (pto b (.row 2 [[rootV r,.int .i64 its.length]] 1) :: rootA r :: (its.map Ixt.p ++ F)):=by
 unfold IxQ
 rw [sat_ex]
 constructor
 ·rintro ⟨r,hs⟩
  obtain ⟨h1,hs⟩:=sat_and.1 hs
  exact ⟨r,h1,sat_sl.1 hs⟩
 ·rintro ⟨r,h1,hs⟩
  exact ⟨r,sat_and.2 ⟨h1,sat_sl.2 hs⟩⟩
theorem ItP.k {x:Ixt} {h:Hp} {F:List Asr} (hs : sat h (x.p :: F)) : h x.a = some (.row 2 [[.str x.key,x.mv]] 1):=(sat_it.1 hs).at
theorem IR.of {its:List Ixt} {h:Hp} {F:List Asr} (hs : sat h (its.map Ixt.p ++ F)) : IR (its.map Ixt.kp) h:=by
 intro y hy
 obtain ⟨x,hx,rfl⟩:=List.mem_map.1 hy
 obtain ⟨l1,l2,rfl⟩:=List.append_of_mem hx
 rw [List.map_append,List.map_cons,List.append_assoc] at hs
 exact ⟨x.mv,ItP.k hs.mid⟩
abbrev IL:=List (Key × List Mk)
def Ixt.kv (x:Ixt) : Key × List Mk:=(x.key,x.ms)
def getL (L:IL) (k:Key) : List Mk:=match L.find? (fun x => x.1 == k) with
 | some x => x.2
 | none => []
def lastM (l:List Mk) : Mk:=l.getLast?.getD (0,true)
def putE (L:IL) (key:Key) (m:Mk) : Int :=
 if key = [] ∨ 100 < key.length ∨ m.1 < 1 then 1 else if m.1 ≤ (lastM (getL L key)).1 then 15 else if m.2 = true∧(lastM (getL L key)).2 = true then 2 else 0
def layL (L:IL) (key:Key) (l:List Mk) : IL:=L.takeWhile (fun y => ltK y.1 key) ++ (key,l) :: (L.dropWhile (fun y => ltK y.1 key)).dropWhile (fun y => y.1 == key)
def putL (L:IL) (key:Key) (m:Mk) : IL:=if putE L key m = 0 then layL L key (getL L key ++ [m]) else L
def SrtL (L:IL) : Prop:=L.Pairwise fun x y => ltK x.1 y.1 = true
theorem SrtI.kv {its:List Ixt} : SrtI its ↔ SrtL (its.map Ixt.kv):=by
 unfold SrtI SrtL Srt
 rw [List.pairwise_map,List.pairwise_map]
 exact Iff.rfl
theorem getL_mid {l1 l2 : IL} {k:Key} {l:List Mk} (hs:SrtL (l1 ++ (k,l) :: l2)) : getL (l1 ++ (k,l) :: l2) k = l:=by
 have h1 : l1.find? (fun x => x.1 == k) = none:=List.find?_eq_none.2 fun x hx => by
  have:=(List.pairwise_append.1 hs).2.2 x hx (k,l) (by simp)
  simp only [beq_iff_eq]
  intro h; rw [h,ltK_irrefl] at this; cases this
 unfold getL
 rw [List.find?_append,h1]
 simp
theorem getL_none {L:IL} {k:Key} (h:∀ x ∈ L,x.1 ≠ k) : getL L k = []:=by
 unfold getL
 rw [List.find?_eq_none.2 fun x hx => by simpa using h x hx]
theorem layL_mid {l1 l2 : IL} {k:Key} {l l' : List Mk} (hs:SrtL (l1 ++ (k,l) :: l2)) : layL (l1 ++ (k,l) :: l2) k l' = l1 ++ (k,l') :: l2:=by
 have h1:=List.pairwise_append.1 hs
 have h2:=List.pairwise_cons.1 h1.2.1
 unfold layL
 have a1 : ∀ x ∈ l1,ltK x.1 k = true:=fun x hx => h1.2.2 x hx (k,l) (by simp)
 rw [takeWhile_all (p:=fun y : Key × List Mk => ltK y.1 k) a1,dropWhile_all (p:=fun y : Key × List Mk => ltK y.1 k) a1]
 have b1 : ((k,l) :: l2).takeWhile (fun y => ltK y.1 k) = []:=by rw [List.takeWhile_cons,ltK_irrefl]; rfl
 have b2 : ((k,l) :: l2).dropWhile (fun y => ltK y.1 k) = (k,l) :: l2:=by rw [List.dropWhile_cons,ltK_irrefl]; rfl
 have b3 : ((k,l) :: l2).dropWhile (fun y => y.1 == k) = l2:=by
  rw [List.dropWhile_cons]
  simp only [beq_self_eq_true,if_true]
  cases l2 with
  | nil => rfl
  | cons y l2 =>
   have:=h2.1 y (by simp)
   have hne : (y.1 == k) = false:=by
    rw [beq_eq_false_iff_ne]; intro h; dsimp only at this; rw [h,ltK_irrefl] at this; cases this
   rw [List.dropWhile_cons,hne]; rfl
 rw [b1,b2,b3,List.append_nil]
theorem layL_new {its:List Ixt} {x:Ixt} (hs:SrtI its) (hx:∀ y ∈ its,y.key ≠ x.key) : layL (its.map Ixt.kv) x.key x.ms = (insIt x its).map Ixt.kv:=by
 unfold layL insIt
 rw [List.map_append,List.map_cons]
 have e1 : (its.map Ixt.kv).takeWhile (fun y => ltK y.1 x.key) = (its.takeWhile fun y => ltK y.key x.key).map Ixt.kv:=by rw [List.takeWhile_map]; rfl
 have e2 : (its.map Ixt.kv).dropWhile (fun y => ltK y.1 x.key) = (its.dropWhile fun y => ltK y.key x.key).map Ixt.kv:=by rw [List.dropWhile_map]; rfl
 rw [e1,e2]
 congr 2
 have hd : ∀ y ∈ its.dropWhile (fun y => ltK y.key x.key),y.key ≠ x.key:=fun y hy => hx y ((List.dropWhile_sublist _).subset hy)
 generalize its.dropWhile (fun y => ltK y.key x.key) = l at hd
 cases l with
 | nil => rfl
 | cons y l =>
  have hne : ((Ixt.kv y).1 == x.key) = false:=by
   rw [beq_eq_false_iff_ne]; exact hd y (by simp)
  rw [List.map_cons,List.dropWhile_cons,hne]; rfl
theorem ixq_open {b:Nat} {l1 l2 : List Ixt} {x:Ixt} {h:Hp} {F:List Asr} (hs : sat h (IxQ b (l1 ++ x :: l2) :: F)) :
  ∃ R : Asr,sat h (x.p :: R :: F)∧∀ x' h' F',x'.a = x.a → x'.key = x.key → sat h' (x'.p :: R :: F') → sat h' (IxQ b (l1 ++ x' :: l2) :: F'):=by
 obtain ⟨r,hok,g⟩:=sat_ixq.1 hs
 rw [List.map_append,List.map_cons,List.append_assoc] at g
 have g1:=sat.mid (l1:=[pto b (.row 2 [[rootV r,.int .i64 (l1 ++ x :: l2).length]] 1),rootA r] ++ l1.map Ixt.p) g
 refine ⟨fun h => sat h ([pto b (.row 2 [[rootV r,.int .i64 (l1 ++ x :: l2).length]] 1),rootA r] ++ l1.map Ixt.p ++ l2.map Ixt.p),g1.tl fun h g => sat_sl.2 (by rw [List.append_assoc]; exact g),fun x' h' F' ha hk g' => ?_⟩
 have e : x'.kp = x.kp:=by unfold Ixt.kp; rw [ha,hk]
 refine sat_ixq.2 ⟨r,by rw [List.map_append,List.map_cons,e] at *; simpa using hok,?_⟩
 have g2:=g'.tl fun h g => sat_sl.1 g
 rw [List.append_assoc] at g2
 have:=g2.unmid
 rw [List.map_append,List.map_cons,List.append_assoc]
 have el : (l1 ++ x' :: l2).length = (l1 ++ x :: l2).length:=by simp
 rw [el]
 exact this
def IxP (b:Nat) (L:IL) : Asr:=fun h => ∃ its,its.map Ixt.kv = L∧IxQ b its h
theorem sat_ixp {b:Nat} {L:IL} {h:Hp} {F:List Asr} : sat h (IxP b L :: F) ↔ ∃ its,its.map Ixt.kv = L∧sat h (IxQ b its :: F):=by
 unfold IxP
 rw [sat_ex]
 exact ⟨fun ⟨r,hs⟩ => ⟨r,(sat_and.1 hs).1,(sat_and.1 hs).2⟩,fun ⟨r,h1,hs⟩ => ⟨r,sat_and.2 ⟨h1,hs⟩⟩⟩
def RisM (l:List Mk) : Prop:=l.Pairwise fun x y => x.1 < y.1
def WfL (L:IL) : Prop:=SrtL L∧∀ x ∈ L,x.2 ≠ []∧RisM x.2
theorem layL_srt {L:IL} {k:Key} {l:List Mk} (hs:SrtL L) : SrtL (layL L k l)∧∀ x ∈ layL L k l,x = (k,l) ∨ x ∈ L:=by
 unfold layL
 have h0 : L.takeWhile (fun y => ltK y.1 k) ++ L.dropWhile (fun y => ltK y.1 k) = L:=List.takeWhile_append_dropWhile
 have hA : ∀ x ∈ L.takeWhile (fun y => ltK y.1 k),ltK x.1 k = true:=fun x hx => List.all_eq_true.1 (List.all_takeWhile (p:=fun y : Key × List Mk => ltK y.1 k) (l:=L)) x hx
 rw [← h0] at hs
 have h1:=List.pairwise_append.1 hs
 generalize hL1 : L.takeWhile (fun y => ltK y.1 k) = A at *
 have hB : ∀ x ∈ L.dropWhile (fun y => ltK y.1 k),ltK x.1 k = false:=by
  generalize hL2 : L.dropWhile (fun y => ltK y.1 k) = B at *
  cases B with
  | nil => intro x hx; cases hx
  | cons c B =>
   have hc : ltK c.1 k = false:=by
    have:=List.head?_dropWhile_not (fun y : Key × List Mk => ltK y.1 k) L
    rw [hL2] at this
    simpa using this
   intro x hx
   rcases List.mem_cons.1 hx with rfl | hx
   ·exact hc
   ·have:=(List.pairwise_cons.1 h1.2.1).1 x hx
    cases hxk : ltK x.1 k with
    | false => rfl
    | true => rw [ltK_trans this hxk] at hc; cases hc
 generalize hL2 : L.dropWhile (fun y => ltK y.1 k) = B at *
 have hC : ∀ x ∈ B.dropWhile (fun y => y.1 == k),ltK k x.1 = true∧x ∈ B:=by
  intro x hx
  have hxB : x ∈ B:=(List.dropWhile_sublist _).subset hx
  refine ⟨?_,hxB⟩
  cases B with
  | nil => cases hxB
  | cons c B =>
   have hcB:=List.pairwise_cons.1 h1.2.1
   rw [List.dropWhile_cons] at hx
   by_cases hck : c.1 = k
   ·simp only [hck,beq_self_eq_true,if_true] at hx
    have hx2:=(List.dropWhile_sublist _).subset hx
    have:=hcB.1 x hx2
    rw [hck] at this; exact this
   ·have hne : (c.1 == k) = false:=by rw [beq_eq_false_iff_ne]; exact hck
    rw [hne] at hx
    simp only [Bool.false_eq_true,if_false] at hx
    have hkc : ltK k c.1 = true:=by
     cases hh : ltK k c.1 with
     | true => rfl
     | false => exact absurd (ltK_total (hB c (by simp)) hh) hck
    rcases List.mem_cons.1 hx with rfl | hx
    ·exact hkc
    ·exact ltK_trans hkc (hcB.1 x hx)
 refine ⟨List.pairwise_append.2 ⟨h1.1,List.pairwise_cons.2 ⟨fun y hy => (hC y hy).1,h1.2.1.sublist (List.dropWhile_sublist _)⟩,fun x hx y hy => ?_⟩,fun x hx => ?_⟩
 ·rcases List.mem_cons.1 hy with rfl | hy
  ·exact hA x hx
  ·exact h1.2.2 x hx y (hC y hy).2
 ·rw [← h0]
  rcases List.mem_append.1 hx with hx | hx
  ·exact .inr (List.mem_append_left _ hx)
  ·rcases List.mem_cons.1 hx with rfl | hx
   ·exact .inl rfl
   ·exact .inr (List.mem_append_right _ (hC x hx).2)
theorem getL_mem {L:IL} {k:Key} : (k,getL L k) ∈ L ∨ getL L k = []:=by
 unfold getL
 split
 ·rename_i x hx
  have h1:=List.find?_some hx
  have h2:=List.mem_of_find?_eq_some hx
  have : x.1 = k:=by simpa using h1
  left; rw [← this]; exact h2
 ·exact .inr rfl
theorem RisM.snoc {l:List Mk} {m:Mk} (h:RisM l) (h2:(lastM l).1 < m.1) : RisM (l ++ [m]):=by
 refine List.pairwise_append.2 ⟨h,by simp,fun x hx y hy => ?_⟩
 simp at hy; subst hy
 have hne : l ≠ []:=fun e => by subst e; cases hx
 have e : lastM l = l.getLast hne:=by rw [lastM,List.getLast?_eq_some_getLast hne]; rfl
 rw [e] at h2
 have e2:=List.dropLast_concat_getLast hne
 rw [← e2] at hx h
 rcases List.mem_append.1 hx with hx | hx
 ·have:=(List.pairwise_append.1 h).2.2 x hx (l.getLast hne) (by simp)
  omega
 ·simp at hx; subst hx; exact h2
theorem putL_wf {L:IL} {k:Key} {m:Mk} (hw:WfL L) : WfL (putL L k m):=by
 unfold putL
 split
 ·rename_i h0
  have:=layL_srt (k:=k) (l:=getL L k ++ [m]) hw.1
  refine ⟨this.1,fun x hx => (this.2 x hx).elim (fun e => ?_) (hw.2 x)⟩
  subst e
  refine ⟨by simp,RisM.snoc ?_ ?_⟩
  ·rcases getL_mem (L:=L) (k:=k) with h | h
   ·exact (hw.2 _ h).2
   ·rw [h]; exact List.Pairwise.nil
  ·unfold putE at h0
   split at h0
   ·cases h0
   ·split at h0
    ·cases h0
    ·omega
 ·exact hw
theorem kv_cut {its:List Ixt} (key:Key) : (∃ l1 x l2,its = l1 ++ x :: l2∧x.key = key) ∨ ∀ y ∈ its,y.key ≠ key:=by
 by_cases h : ∃ x ∈ its,x.key = key
 ·obtain ⟨x,hx,hk⟩:=h
  obtain ⟨l1,l2,rfl⟩:=List.append_of_mem hx
  exact .inl ⟨l1,x,l2,rfl,hk⟩
 ·exact .inr fun y hy hk => h ⟨y,hy,hk⟩
theorem Els.lenN {h:Hp} {s:Nat} {v:AV} {es:List (List AV)} (e:Els h s v es) : lenN v = some es.length:=by
 rcases e.cases with ⟨rfl,rfl⟩ | ⟨rfl,rfl⟩ | ⟨rfl,_⟩ | ⟨b,off,cap,es0,rc,rfl,_,_,_⟩ <;> rfl
def cntM (l:List Mk) (rev:Int) : Nat:=(l.takeWhile fun m => decide (m.1 ≤ rev)).length
def trimM (l:List Mk) (rev:Int) : List Mk :=
 if cntM l rev = 0 then l else l.drop (if (l.getD (cntM l rev - 1) (0,false)).2 = true then cntM l rev else cntM l rev - 1)
def trimL (L:IL) (rev:Int) : IL:=(L.map fun x => (x.1,trimM x.2 rev)).filter fun x => !x.2.isEmpty
def inR (lo hi k : Key) : Bool := !(ltK k lo) && (hi == [] || ltK k hi)
def keysL (L:IL) (lo hi : Key) : List Key:=(L.map fun x => x.1).filter (inR lo hi)
theorem RisM.mono {l:List Mk} (h:RisM l) {i j : Nat} {a b : Mk} (hij : i < j) (hi : l[i]? = some a) (hj : l[j]? = some b) : a.1 < b.1:=by
 obtain ⟨h1,rfl⟩:=List.getElem?_eq_some_iff.1 hi
 obtain ⟨h2,rfl⟩:=List.getElem?_eq_some_iff.1 hj
 exact List.pairwise_iff_getElem.1 h i j h1 h2 hij
theorem cntM_eq {l:List Mk} {rev:Int} {k:Nat} (hk : k ≤ l.length) (h1:∀ i m,l[i]? = some m → i < k → m.1 ≤ rev) (h2:∀ i m,l[i]? = some m → k ≤ i → rev < m.1) : cntM l rev = k:=by
 induction l generalizing k with
 | nil => simp at hk; subst hk; rfl
 | cons m l ih =>
  unfold cntM at *
  cases k with
  | zero =>
   have:=h2 0 m rfl (Nat.le_refl _)
   rw [List.takeWhile_cons,decide_eq_false (by omega)]; rfl
  | succ k =>
   have:=h1 0 m rfl (Nat.succ_pos _)
   rw [List.takeWhile_cons,decide_eq_true this]
   simp only [if_true,List.length_cons]
   rw [ih (by simpa using hk) (fun i x hi hik => h1 (i + 1) x hi (by omega)) (fun i x hi hik => h2 (i + 1) x hi (by omega))]
theorem trimM_suffix (l:List Mk) (rev:Int) : trimM l rev <:+ l:=by
 unfold trimM
 split
 ·exact List.suffix_refl _
 ·exact List.drop_suffix _ _
theorem SrtI.take {its:List Ixt} (h:SrtI its) (i:Nat) : SrtI (its.take i):=by
 unfold SrtI at *
 rw [List.map_take]
 exact h.sublist (List.take_sublist _ _)
theorem WfL.nil : WfL []:=⟨List.Pairwise.nil,fun x hx => by cases hx⟩
theorem getL_of_mem {L:IL} {k:Key} {l:List Mk} (hs:SrtL L) (h:(k,l) ∈ L) : getL L k = l:=by
 obtain ⟨l1,l2,rfl⟩:=List.append_of_mem h
 exact getL_mid hs
theorem getL_layL {L:IL} {k k' : Key} {l:List Mk} (hs:SrtL L) : getL (layL L k l) k' = if k' = k then l else getL L k':=by
 have h1:=layL_srt (k:=k) (l:=l) hs
 split
 ·rename_i hk
  subst hk
  exact getL_of_mem h1.1 (by unfold layL; simp)
 ·rename_i hk
  rcases getL_mem (L:=layL L k l) (k:=k') with h | h
  ·rcases h1.2 _ h with h2 | h2
   ·exact absurd (congrArg Prod.fst h2) hk
   ·exact (getL_of_mem hs h2).symm
  ·rw [h]
   rcases getL_mem (L:=L) (k:=k') with h3 | h3
   ·have h4 : (k',getL L k') ∈ layL L k l:=by
     have h0 : L.takeWhile (fun y => ltK y.1 k) ++ L.dropWhile (fun y => ltK y.1 k) = L:=List.takeWhile_append_dropWhile
     rw [← h0] at h3
     unfold layL
     rcases List.mem_append.1 h3 with h3 | h3
     ·rw [h0] at h3; exact List.mem_append_left _ h3
     ·refine List.mem_append_right _ (List.mem_cons_of_mem _ ?_)
      rw [h0] at h3
      generalize L.dropWhile (fun y => ltK y.1 k) = B at h3
      have hB : ∀ (B:IL),(k',getL L k') ∈ B → (k',getL L k') ∈ B.dropWhile (fun y => y.1 == k):=by
       intro B hB
       induction B with
       | nil => cases hB
       | cons b B ih =>
        rw [List.dropWhile_cons]
        by_cases hb : b.1 = k
        ·simp only [hb,beq_self_eq_true,if_true]
         rcases List.mem_cons.1 hB with e | e
         ·rw [← e] at hb; exact absurd hb hk
         ·exact ih e
        ·have : (b.1 == k) = false:=by rw [beq_eq_false_iff_ne]; exact hb
         rw [this]; exact hB
      exact hB B h3
    have h5:=getL_of_mem h1.1 h4
    rw [← h5,h]
   ·exact h3.symm
def MaxM (L:IL) (n:Nat) : Prop := ∀ x ∈ L,x.2.length ≤ n
theorem MaxM.put {L:IL} {k:Key} {m:Mk} {n:Nat} (hw:WfL L) (h:MaxM L n) : MaxM (putL L k m) (n + 1):=by
 unfold putL
 split
 ·intro x hx
  rcases (layL_srt (k:=k) (l:=getL L k ++ [m]) hw.1).2 x hx with rfl | h2
  ·rcases getL_mem (L:=L) (k:=k) with h3 | h3
   ·have:=h _ h3; simp; omega
   ·simp [h3]
  ·have:=h x h2; omega
 ·intro x hx; have:=h x hx; omega
theorem MaxM.trim {L:IL} {rev:Int} {n:Nat} (h:MaxM L n) : MaxM (trimL L rev) n:=by
 intro x hx
 obtain ⟨h1,_⟩:=List.mem_filter.1 hx
 obtain ⟨y,hy,rfl⟩:=List.mem_map.1 h1
 exact Nat.le_trans (trimM_suffix _ _).length_le (h y hy)
theorem MaxM.le {L:IL} {n k : Nat} (h:MaxM L n) (hk : n ≤ k) : ∀ x ∈ L,x.2.length ≤ k:=fun x hx => Nat.le_trans (h x hx) hk
end Go.Hz
/- Keys of numbers; an index in which they come and go. -/
namespace Go.Hz
end Go.Hz
/- A store: the keys that there were at the revision that was compacted last, and all changes behind. -/
namespace Go.Hz
inductive Ch where
 | put (kv:Kv)
 | del (k:Key)
deriving DecidableEq
def Ch.key : Ch → Key
 | .put kv => kv.key
 | .del k => k
def Ch.kv : Ch → Option Kv
 | .put kv => some kv
 | .del _ => none
structure Ver where
 rev : Int
 c : Ch
deriving DecidableEq
structure Sto where
 rev : Int
 past : Int
 old : List Kv
 chs : List Ver
def SrtK (l:List Kv) : Prop:=l.Pairwise fun a b => ltK a.key b.key = true
def kvget (l:List Kv) (k:Key) : Option Kv:=l.find? fun x => x.key == k
def done (l:List Kv) (c:Ch) : List Kv:=l.takeWhile (fun x => ltK x.key c.key) ++ (c.kv.toList ++ (l.dropWhile fun x => ltK x.key c.key).dropWhile fun x => x.key == c.key)
def doneL (l:List Kv) (cs:List Ch) : List Kv:=cs.foldl done l
def Sto.now (A:Sto) : List Kv:=doneL A.old (A.chs.map Ver.c)
def Sto.at (A:Sto) (r:Int) : List Kv:=doneL A.old ((A.chs.takeWhile fun v => decide (v.rev ≤ r)).map Ver.c)
theorem kvget_none {l:List Kv} {k:Key} : kvget l k = none ↔ ∀ x ∈ l,x.key ≠ k:=by
 simp [kvget,List.find?_eq_none]
theorem kvget_some {l:List Kv} {k:Key} {x:Kv} (h : kvget l k = some x) : x ∈ l∧x.key = k :=
 ⟨List.mem_of_find?_eq_some h,by simpa using List.find?_some h⟩
theorem SrtK.nodup {l:List Kv} (h:SrtK l) : (l.map Kv.key).Nodup:=by
 rw [List.nodup_iff_pairwise_ne,List.pairwise_map]
 exact h.imp fun h e => by rw [e,ltK_irrefl] at h; cases h
theorem kvget_mem {l:List Kv} (hs:SrtK l) {x:Kv} (hx : x ∈ l) : kvget l x.key = some x:=by
 cases h : kvget l x.key with
 | none => exact absurd rfl (kvget_none.1 h x hx)
 | some y =>
  obtain ⟨h1,h2⟩:=kvget_some h
  rw [nodup_map_inj hs.nodup h1 hx h2]
theorem SrtK.filter {l:List Kv} (h:SrtK l) (p:Kv → Bool) : SrtK (l.filter p):=List.Pairwise.filter p h
theorem cut_key {l:List Kv} (hs:SrtK l) (k:Key) : ∃ a b,l.takeWhile (fun x => ltK x.key k) = a∧(l.dropWhile fun x => ltK x.key k).dropWhile (fun x => x.key == k) = b ∧
  (∀ x ∈ a,ltK x.key k = true)∧(∀ x ∈ b,ltK k x.key = true)∧((l = a ++ b∧kvget l k = none) ∨ ∃ x,x.key = k∧l = a ++ x :: b∧kvget l k = some x):=by
 have h0 : l.takeWhile (fun x => ltK x.key k) ++ l.dropWhile (fun x => ltK x.key k) = l:=List.takeWhile_append_dropWhile
 have hA : ∀ x ∈ l.takeWhile (fun x => ltK x.key k),ltK x.key k = true:=fun x hx => List.all_eq_true.1 (List.all_takeWhile (p:=fun x : Kv => ltK x.key k) (l:=l)) x hx
 refine ⟨_,_,rfl,rfl,hA,?_⟩
 have hs0:=hs
 rw [← h0] at hs
 have h1:=List.pairwise_append.1 hs
 have hge : ∀ x ∈ l.dropWhile (fun x => ltK x.key k),ltK x.key k = false:=by
  cases hB : l.dropWhile (fun x => ltK x.key k) with
  | nil => simp
  | cons y B =>
   have hy : ltK y.key k = false:=by
    have:=List.head?_dropWhile_not (fun x : Kv => ltK x.key k) l
    rw [hB] at this
    simpa using this
   intro x hx
   rcases List.mem_cons.1 hx with rfl | hx
   ·exact hy
   ·have hp:=h1.2.1
    rw [hB] at hp
    have h2:=(List.pairwise_cons.1 hp).1 x hx
    cases h3 : ltK x.key k with
    | false => rfl
    | true => rw [ltK_trans h2 h3] at hy; cases hy
 generalize l.takeWhile (fun x => ltK x.key k) = a at *
 cases hB : l.dropWhile (fun x => ltK x.key k) with
 | nil =>
  rw [hB] at h0
  refine ⟨by simp,.inl ⟨by simpa using h0.symm,kvget_none.2 fun x hx e => ?_⟩⟩
  rw [← h0] at hx
  have:=hA x (by simpa using hx)
  rw [e,ltK_irrefl] at this; cases this
 | cons y B =>
  rw [hB] at h0 h1 hge
  have hp:=List.pairwise_cons.1 h1.2.1
  by_cases hk : y.key = k
  ·have hd : (y :: B).dropWhile (fun x => x.key == k) = B:=by
    rw [List.dropWhile_cons,if_pos (by simpa using hk)]
    cases B with
    | nil => rfl
    | cons z B =>
     have:=hp.1 z (by simp)
     rw [List.dropWhile_cons,if_neg]
     simp only [beq_iff_eq]
     intro e; rw [e,hk,ltK_irrefl] at this; cases this
   rw [hd]
   refine ⟨fun x hx => hk ▸ hp.1 x hx,.inr ⟨y,hk,h0.symm,?_⟩⟩
   rw [← hk]
   exact kvget_mem hs0 (by rw [← h0]; simp)
  ·have hd : (y :: B).dropWhile (fun x => x.key == k) = y :: B:=by
    rw [List.dropWhile_cons,if_neg (by simpa using hk)]
   rw [hd]
   have hlt : ∀ x ∈ y :: B,ltK k x.key = true:=by
    intro x hx
    cases h3 : ltK k x.key with
    | true => rfl
    | false =>
     have h4:=ltK_total (hge x hx) h3
     rcases List.mem_cons.1 hx with rfl | hx
     ·exact absurd h4 hk
     ·have h5:=hp.1 x hx
      rw [h4] at h5
      have:=hge y (by simp)
      rw [h5] at this; cases this
   refine ⟨hlt,.inl ⟨h0.symm,kvget_none.2 fun x hx e => ?_⟩⟩
   rw [← h0] at hx
   rcases List.mem_append.1 hx with hx | hx
   ·have:=hA x hx; rw [e,ltK_irrefl] at this; cases this
   ·have:=hlt x hx; rw [e,ltK_irrefl] at this; cases this
theorem done_srt {l:List Kv} {c:Ch} (hs:SrtK l) : SrtK (done l c):=by
 obtain ⟨a,b,h1,h2,h3,h4,h5⟩:=cut_key hs c.key
 unfold done
 rw [h1,h2]
 have hab : SrtK (a ++ b):=by
  rcases h5 with ⟨h5,_⟩ | ⟨x,_,h5,_⟩
  ·rw [← h5]; exact hs
  ·rw [h5] at hs
   exact List.Pairwise.sublist (List.Sublist.append_left (List.sublist_cons_self _ _) _) hs
 have h6:=List.pairwise_append.1 hab
 cases c with
 | del k => exact hab
 | put kv =>
  refine List.pairwise_append.2 ⟨h6.1,List.pairwise_cons.2 ⟨h4,h6.2.1⟩,fun x hx y hy => ?_⟩
  rcases List.mem_cons.1 hy with rfl | hy
  ·exact h3 x hx
  ·exact h6.2.2 x hx y hy
theorem kvget_app {a b : List Kv} {k:Key} : kvget (a ++ b) k = (kvget a k).or (kvget b k):=by
 unfold kvget; rw [List.find?_append]
theorem kvget_done {l:List Kv} {c:Ch} (hs:SrtK l) (k:Key) : kvget (done l c) k = if k = c.key then c.kv else kvget l k:=by
 obtain ⟨a,b,h1,h2,h3,h4,h5⟩:=cut_key hs c.key
 unfold done
 rw [h1,h2,kvget_app,kvget_app]
 by_cases hk : k = c.key
 ·subst hk
  have e1 : kvget a c.key = none:=kvget_none.2 fun x hx e => by have:=h3 x hx; rw [e,ltK_irrefl] at this; cases this
  have e2 : kvget b c.key = none:=kvget_none.2 fun x hx e => by have:=h4 x hx; rw [e,ltK_irrefl] at this; cases this
  rw [e1,e2,if_pos rfl]
  cases c with
  | put kv => simp [Ch.kv,kvget,Ch.key]
  | del k => simp [Ch.kv,kvget]
 ·rw [if_neg hk]
  have e0 : kvget c.kv.toList k = none:=by
   refine kvget_none.2 fun x hx e => ?_
   cases c with
   | put kv => simp [Ch.kv] at hx; subst hx; exact hk e.symm
   | del k => simp [Ch.kv] at hx
  rw [e0]
  rcases h5 with ⟨h5,_⟩ | ⟨x,hx,h5,_⟩
  ·rw [h5,kvget_app]; simp
  ·rw [h5,kvget_app]
   have : kvget (x :: b) k = kvget b k:=by
    unfold kvget
    rw [List.find?_cons_of_neg]
    simp only [beq_iff_eq]; rw [hx]; exact fun e => hk e.symm
   rw [this]; simp
theorem doneL_srt {cs:List Ch} : ∀ {l:List Kv},SrtK l → SrtK (doneL l cs):=by
 induction cs with
 | nil => exact fun h => h
 | cons c cs ih => exact fun h => ih (done_srt h)
theorem doneL_snoc {l:List Kv} {cs:List Ch} {c:Ch} : doneL l (cs ++ [c]) = done (doneL l cs) c:=by simp [doneL]
theorem doneL_app {l:List Kv} {cs ds : List Ch} : doneL l (cs ++ ds) = doneL (doneL l cs) ds:=by simp [doneL]
theorem kvget_doneL {l:List Kv} {cs:List Ch} (hs:SrtK l) (k:Key) : kvget (doneL l cs) k = match (cs.filter fun c => c.key == k).getLast? with | some c => c.kv | none => kvget l k:=by
 induction cs generalizing l with
 | nil => rfl
 | cons c cs ih =>
  show kvget (doneL (done l c) cs) k = _
  rw [ih (done_srt hs),kvget_done hs]
  by_cases hk : c.key = k
  ·rw [List.filter_cons_of_pos (by simpa using hk),List.getLast?_cons]
   cases (cs.filter fun c => c.key == k).getLast? with
   | none => simp [hk]
   | some d => simp
  ·rw [List.filter_cons_of_neg (by simpa using hk)]
   cases (cs.filter fun c => c.key == k).getLast? with
   | none => rw [if_neg (fun e => hk e.symm)]
   | some d => rfl
def verO (kv:Kv) : Ver:=⟨kv.mod,.put kv⟩
def Sto.vers (A:Sto) (k:Key) : List Ver:=((kvget A.old k).map verO).toList ++ A.chs.filter fun v => v.c.key == k
def mkV (v:Ver) : Mk:=(v.rev,v.c.kv.isNone)
def vAt (l:List Ver) (r:Int) : Option Kv:=match (l.takeWhile fun v => decide (v.rev ≤ r)).getLast? with
 | some v => v.c.kv
 | none => none
def KvIn (r:Int) (x:Kv) : Prop:=1 ≤ x.create∧x.create ≤ x.mod∧x.mod ≤ r∧1 ≤ x.ver∧x.ver ≤ x.mod - x.create + 1∧0 ≤ x.lease∧x.val.length ≤ 4096
theorem KvIn.mono {r q : Int} {x:Kv} (h:KvIn r x) (hr : r ≤ q) : KvIn q x:=by
 unfold KvIn at *; omega
structure StoOK (A:Sto) : Prop where
 past : 0 ≤ A.past
 rev : A.past ≤ A.rev
 old : SrtK A.old
 oldm : ∀ x ∈ A.old,1 ≤ x.mod∧x.mod ≤ A.past
 chs : A.chs.Pairwise fun a b => a.rev ≤ b.rev∧(a.c.key = b.c.key → a.rev < b.rev)
 chr : ∀ v ∈ A.chs,A.past < v.rev∧v.rev ≤ A.rev
 key : (∀ x ∈ A.old,x.key ≠ []∧x.key.length ≤ 100)∧∀ v ∈ A.chs,v.c.key ≠ []∧v.c.key.length ≤ 100
 del : ∀ a v b,A.chs = a ++ v :: b → v.c.kv = none → kvget (doneL A.old (a.map Ver.c)) v.c.key ≠ none
 num : (∀ x ∈ A.old,KvIn A.past x)∧∀ v ∈ A.chs,∀ kv,v.c = .put kv → kv.mod = v.rev∧KvIn A.rev kv
theorem takeWhile_filter {α:Type} {p q : α → Bool} : ∀ {l:List α},l.Pairwise (fun a b => p b = true → p a = true) → (l.filter q).takeWhile p = (l.takeWhile p).filter q
 | [],_ => rfl
 | x :: l,h => by
  have h0:=List.pairwise_cons.1 h
  have ih:=takeWhile_filter (q:=q) h0.2
  cases hp : p x with
  | true =>
   rw [List.takeWhile_cons_of_pos hp]
   cases hq : q x with
   | true => rw [List.filter_cons_of_pos hq,List.filter_cons_of_pos hq,List.takeWhile_cons_of_pos hp,ih]
   | false => rw [List.filter_cons_of_neg (by simp [hq]),List.filter_cons_of_neg (by simp [hq]),ih]
  | false =>
   rw [List.takeWhile_cons_of_neg (by simp [hp])]
   have hn : ∀ y ∈ (x :: l).filter q,p y = false:=by
    intro y hy
    rcases List.mem_cons.1 (List.mem_filter.1 hy).1 with rfl | hm2
    ·exact hp
    ·cases hc : p y with
     | false => rfl
     | true =>
      have:=h0.1 _ hm2 hc
      rw [hp] at this; cases this
   cases hf : (x :: l).filter q with
   | nil => rfl
   | cons y m =>
    rw [List.takeWhile_cons_of_neg (by rw [hn y (by rw [hf]; simp)]; decide)]
    rfl
theorem vAt_at {A:Sto} (ok:StoOK A) {r:Int} (hr:A.past ≤ r) (k:Key) : vAt (A.vers k) r = kvget (A.at r) k:=by
 have hp : A.chs.Pairwise (fun a b => decide (b.rev ≤ r) = true → decide (a.rev ≤ r) = true):=ok.chs.imp fun h => by simp only [decide_eq_true_eq]; omega
 have e1 : (A.vers k).takeWhile (fun v => decide (v.rev ≤ r)) = ((kvget A.old k).map verO).toList ++ (A.chs.takeWhile fun v => decide (v.rev ≤ r)).filter fun v => v.c.key == k:=by
  unfold Sto.vers
  rw [List.takeWhile_append_of_pos,takeWhile_filter hp]
  intro v hv
  cases hg : kvget A.old k with
  | none => rw [hg] at hv; simp at hv
  | some x =>
   rw [hg] at hv
   simp only [Option.map_some,Option.toList_some,List.mem_cons,List.not_mem_nil,or_false] at hv
   subst hv
   have:=(ok.oldm x (kvget_some hg).1).2
   show decide (x.mod ≤ r) = true
   simp only [decide_eq_true_eq]; omega
 rw [Sto.at,kvget_doneL ok.old,vAt,e1,List.getLast?_append]
 rw [List.filter_map,List.getLast?_map]
 show (match ((List.filter (fun v : Ver => v.c.key == k) (A.chs.takeWhile fun v => decide (v.rev ≤ r))).getLast?).or _ with | some v => v.c.kv | none => none) = match Option.map Ver.c (List.filter (fun v : Ver => v.c.key == k) (A.chs.takeWhile fun v => decide (v.rev ≤ r))).getLast? with | some c => c.kv | none => kvget A.old k
 cases (List.filter (fun v : Ver => v.c.key == k) (A.chs.takeWhile fun v => decide (v.rev ≤ r))).getLast? with
 | some v => rfl
 | none =>
  cases hg : kvget A.old k with
  | none => rfl
  | some x => rfl
theorem at_rev {A:Sto} (ok:StoOK A) : A.at A.rev = A.now:=by
 unfold Sto.at Sto.now
 congr 2
 have:=takeWhile_all (p:=fun v : Ver => decide (v.rev ≤ A.rev)) (A:=A.chs) (l:=[]) fun v hv => by simpa using (ok.chr v hv).2
 simpa using this
theorem at_srt {A:Sto} (ok:StoOK A) (r:Int) : SrtK (A.at r):=doneL_srt ok.old
theorem now_srt {A:Sto} (ok:StoOK A) : SrtK A.now:=doneL_srt ok.old
theorem srt_ext {a b : List Kv} (ha:SrtK a) (hb:SrtK b) (h:∀ x,x ∈ a ↔ x ∈ b) : a = b:=by
 have na : a.Nodup:=ha.imp fun h e => by rw [e,ltK_irrefl] at h; cases h
 have nb : b.Nodup:=hb.imp fun h e => by rw [e,ltK_irrefl] at h; cases h
 refine List.Perm.eq_of_pairwise (le:=fun a b : Kv => ltK a.key b.key = true) (fun x y _ _ h1 h2 => ?_) ha hb ((List.perm_ext_iff_of_nodup na nb).2 h)
 have:=ltK_trans h1 h2
 rw [ltK_irrefl] at this; cases this
def inK (lo hi k : Key) : Bool:=if hi = [] then k == lo else inR lo hi k
def SrtS (l:List Key) : Prop:=l.Pairwise fun a b => ltK a b = true
theorem srts_ext {a b : List Key} (ha:SrtS a) (hb:SrtS b) (h:∀ x,x ∈ a ↔ x ∈ b) : a = b:=by
 have na : a.Nodup:=ha.imp fun h e => by rw [e,ltK_irrefl] at h; cases h
 have nb : b.Nodup:=hb.imp fun h e => by rw [e,ltK_irrefl] at h; cases h
 refine List.Perm.eq_of_pairwise (le:=fun a b : Key => ltK a b = true) (fun x y _ _ h1 h2 => ?_) ha hb ((List.perm_ext_iff_of_nodup na nb).2 h)
 have:=ltK_trans h1 h2
 rw [ltK_irrefl] at this; cases this
theorem pick_keys {l:List Kv} {ks:List Key} {lo hi : Key} (hl:SrtK l) (hk:SrtS ks) (h1:∀ k ∈ ks,inK lo hi k = true) (h2:∀ x ∈ l,inK lo hi x.key = true → x.key ∈ ks) :
  ks.filterMap (kvget l) = l.filter fun x => inK lo hi x.key:=by
 refine srt_ext ?_ (hl.filter _) fun x => ?_
 ·refine List.Pairwise.filterMap _ ?_ hk
  intro a b hab x hx y hy
  rw [(kvget_some hx).2,(kvget_some hy).2]; exact hab
 ·rw [List.mem_filterMap,List.mem_filter]
  constructor
  ·rintro ⟨k,hk',hx⟩
   obtain ⟨hx1,rfl⟩:=kvget_some hx
   exact ⟨hx1,h1 _ hk'⟩
  ·rintro ⟨hx,hin⟩
   exact ⟨x.key,h2 x hx hin,kvget_mem hl hx⟩
def IxOK (A:Sto) (L:IL) : Prop:=WfL L∧∀ k,getL L k = (A.vers k).map mkV
theorem getL_in {L:IL} (hs:SrtL L) {x:Key × List Mk} (hx : x ∈ L) : getL L x.1 = x.2:=by
 obtain ⟨a,b,rfl⟩:=List.append_of_mem hx
 exact getL_mid hs
theorem keysL_srt {L:IL} (hs:SrtL L) {lo hi : Key} : SrtS (keysL L lo hi):=by
 unfold keysL SrtS
 refine List.Pairwise.filter _ ?_
 rw [List.pairwise_map]
 exact hs
theorem keysL_mem {A:Sto} {L:IL} (ok:IxOK A L) {lo hi k : Key} : k ∈ keysL L lo hi ↔ A.vers k ≠ []∧inR lo hi k = true:=by
 unfold keysL
 rw [List.mem_filter,List.mem_map]
 constructor
 ·rintro ⟨⟨x,hx,rfl⟩,h2⟩
  refine ⟨fun h => ?_,h2⟩
  have h3:=ok.2 x.1
  rw [getL_in ok.1.1 hx,h] at h3
  exact (ok.1.2 x hx).1 h3
 ·rintro ⟨h1,h2⟩
  refine ⟨?_,h2⟩
  by_cases hx : ∃ x ∈ L,x.1 = k
  ·exact hx
  ·have h3:=ok.2 k
   rw [getL_none fun x hx' e => hx ⟨x,hx',e⟩] at h3
   exact absurd (List.map_eq_nil_iff.1 h3.symm) h1
theorem at_vers {A:Sto} (ok:StoOK A) {r:Int} (hr:A.past ≤ r) {x:Kv} (hx : x ∈ A.at r) : A.vers x.key ≠ []:=by
 intro h
 have h1:=vAt_at ok hr x.key
 rw [kvget_mem (at_srt ok r) hx,h] at h1
 simp [vAt] at h1
theorem rng_at1 {A:Sto} (ok:StoOK A) {r:Int} (hr:A.past ≤ r) {lo:Key} :
  [lo].filterMap (fun k => vAt (A.vers k) r) = (A.at r).filter fun x => inK lo [] x.key:=by
 have e : (fun k => vAt (A.vers k) r) = kvget (A.at r):=funext fun k => vAt_at ok hr k
 rw [e]
 exact pick_keys (at_srt ok r) (List.pairwise_singleton _ _) (fun k hk => by simp at hk; subst hk; simp [inK]) fun x hx hin => by
  simpa [inK] using hin
end Go.Hz
/- A write: what it has done so far. -/
namespace Go.Hz
structure Wr where
 cur : List Kv
 l : List Ch
def wChg (W:Wr) (k:Key) : Bool:=W.l.any fun c => c.key == k
structure WrOK (A:Sto) (W:Wr) : Prop where
 cur : W.cur = doneL A.now W.l
 nd : (W.l.map Ch.key).Nodup
 key : ∀ c ∈ W.l,c.key ≠ []∧c.key.length ≤ 100
 del : ∀ a c b,W.l = a ++ c :: b → c.kv = none → kvget (doneL A.now a) c.key ≠ none
 num : ∀ kv,Ch.put kv ∈ W.l → kv.mod = A.rev + 1∧KvIn (A.rev + 1) kv
theorem wrOK_nil (A:Sto) : WrOK A ⟨A.now,[]⟩:=⟨rfl,.nil,by simp,fun a c b h => by simp at h,by simp⟩
theorem WrOK.srt {A:Sto} {W:Wr} (h:WrOK A W) (ok:StoOK A) : SrtK W.cur:=by rw [h.cur]; exact doneL_srt (now_srt ok)
theorem wChg_f {W:Wr} {k:Key} (h : wChg W k = false) : ∀ c ∈ W.l,c.key ≠ k:=by simpa [wChg] using h
theorem wChg_t {W:Wr} {k:Key} (h : wChg W k = true) : ∃ c ∈ W.l,c.key = k:=by simpa [wChg] using h
theorem nodup_filter {l:List Ch} (hn:(l.map Ch.key).Nodup) {c:Ch} (hc : c ∈ l) : l.filter (fun d => d.key == c.key) = [c]:=by
 obtain ⟨a,b,rfl⟩:=List.append_of_mem hc
 rw [List.map_append,List.map_cons,List.nodup_append,List.nodup_cons] at hn
 rw [List.filter_append,List.filter_cons_of_pos (by simp),List.filter_eq_nil_iff.2,List.filter_eq_nil_iff.2]
 ·rfl
 ·intro x hx e
  simp only [beq_iff_eq] at e
  exact hn.2.1.1 (e ▸ List.mem_map_of_mem hx)
 ·intro x hx e
  simp only [beq_iff_eq] at e
  exact hn.2.2 _ (List.mem_map_of_mem hx) _ (by simp) e
theorem now_chg {A:Sto} {W:Wr} (ok:StoOK A) (h:WrOK A W) {c:Ch} (hc : c ∈ W.l) : kvget W.cur c.key = c.kv:=by
 rw [h.cur,kvget_doneL (now_srt ok),nodup_filter h.nd hc]
 rfl
theorem now_same {A:Sto} {W:Wr} (ok:StoOK A) (h:WrOK A W) {k:Key} (hc : wChg W k = false) : kvget W.cur k = kvget A.now k:=by
 rw [h.cur,kvget_doneL (now_srt ok),List.filter_eq_nil_iff.2]
 ·rfl
 ·intro x hx e
  exact wChg_f hc x hx (by simpa using e)
theorem WrOK.lay {A:Sto} {W:Wr} (h:WrOK A W) {c:Ch} (h1 : wChg W c.key = false) (h2 : c.key ≠ []∧c.key.length ≤ 100) (h3 : c.kv = none → kvget W.cur c.key ≠ none) (h4:∀ kv,c = .put kv → kv.mod = A.rev + 1∧KvIn (A.rev + 1) kv) : WrOK A ⟨done W.cur c,W.l ++ [c]⟩:=by
 refine ⟨by rw [doneL_snoc,h.cur],?_,?_,?_,?_⟩
 ·rw [List.map_append,List.nodup_append]
  refine ⟨h.nd,by simp,?_⟩
  intro a ha b hb e
  obtain ⟨d,hd,rfl⟩:=List.mem_map.1 ha
  simp at hb; subst hb
  exact wChg_f h1 d hd e
 ·intro d hd
  rcases List.mem_append.1 hd with hd | hd
  ·exact h.key d hd
  ·simp at hd; subst hd; exact h2
 ·intro a d b hab hd
  rcases List.eq_nil_or_concat b with rfl | ⟨b',x,rfl⟩
  ·have : W.l = a∧[c] = [d]:=List.append_inj' (t₁:=[c]) hab rfl
   obtain ⟨rfl,h5⟩:=this
   cases h5
   rw [← h.cur]; exact h3 hd
  ·rw [List.concat_eq_append,← List.cons_append,← List.append_assoc] at hab
   have:=(List.append_inj' hab rfl).1
   exact h.del a d b' this hd
 ·intro kv hkv
  rcases List.mem_append.1 hkv with hkv | hkv
  ·exact h.num kv hkv
  ·simp at hkv; exact h4 kv hkv.symm
def wNew (rev:Int) (W:Wr) (key val : Key) (lease:Int) : Kv:=match kvget W.cur key with
 | some x => ⟨key,val,x.create,rev,x.ver + 1,lease⟩
 | none => ⟨key,val,rev,rev,1,lease⟩
def wPut (rev:Int) (W:Wr) (key val : Key) (lease:Int) : Int × Wr :=
 if key = [] ∨ 100 < key.length ∨ lease < 0 then (1,W) else if 4096 < val.length then (5,W) else if wChg W key = true then (18,W) else
 if kvget W.cur key = none∧4096 ≤ W.cur.length then (14,W) else (0,⟨done W.cur (.put (wNew rev W key val lease)),W.l ++ [.put (wNew rev W key val lease)]⟩)
theorem wNew_key {rev:Int} {W:Wr} {key val : Key} {lease:Int} : (wNew rev W key val lease).key = key:=by
 unfold wNew; split <;> rfl
theorem kvL_mem {l:List Kv} {c:Ch} {x:Kv} (h : x ∈ done l c) : x ∈ l ∨ c = .put x:=by
 unfold done at h
 rcases List.mem_append.1 h with h | h
 ·exact .inl ((List.takeWhile_sublist _).subset h)
 ·rcases List.mem_append.1 h with h | h
  ·cases c with
   | put kv => simp [Ch.kv] at h; subst h; exact .inr rfl
   | del k => simp [Ch.kv] at h
  ·exact .inl ((List.dropWhile_sublist _).subset ((List.dropWhile_sublist _).subset h))
theorem kvL_memL {cs:List Ch} : ∀ {l:List Kv} {x:Kv},x ∈ doneL l cs → x ∈ l ∨ Ch.put x ∈ cs:=by
 induction cs with
 | nil => exact fun h => .inl h
 | cons c cs ih =>
  intro l x h
  rcases ih (l:=done l c) h with h | h
  ·rcases kvL_mem h with h | h
   ·exact .inl h
   ·exact .inr (by rw [h]; simp)
  ·exact .inr (List.mem_cons_of_mem _ h)
theorem now_keys {A:Sto} (ok:StoOK A) : ∀ x ∈ A.now,x.key ≠ []∧x.key.length ≤ 100:=by
 intro x hx
 rcases kvL_memL hx with h | h
 ·exact ok.key.1 x h
 ·obtain ⟨v,hv,he⟩:=List.mem_map.1 h
  have:=ok.key.2 v hv
  rw [he] at this; exact this
theorem now_num {A:Sto} (ok:StoOK A) : ∀ x ∈ A.now,KvIn A.rev x:=by
 intro x hx
 rcases kvL_memL hx with h | h
 ·exact (ok.num.1 x h).mono ok.rev
 ·obtain ⟨v,hv,he⟩:=List.mem_map.1 h
  exact (ok.num.2 v hv x he).2
theorem cur_num {A:Sto} {W:Wr} (ok:StoOK A) (h:WrOK A W) : ∀ x ∈ W.cur,KvIn (A.rev + 1) x:=by
 intro x hx
 rw [h.cur] at hx
 rcases kvL_memL hx with hx | hx
 ·exact (now_num ok x hx).mono (by omega)
 ·exact (h.num x hx).2
theorem wNew_chg {rev:Int} {W:Wr} {key val : Key} {lease:Int} (h : wChg W key = false) : wChg W (Ch.put (wNew rev W key val lease)).key = false:=by
 show wChg W (wNew rev W key val lease).key = false
 rw [wNew_key]; exact h
theorem wNew_len {rev:Int} {W:Wr} {key val : Key} {lease:Int} (h1 : key ≠ []) (h2 : key.length ≤ 100) : (Ch.put (wNew rev W key val lease)).key ≠ []∧(Ch.put (wNew rev W key val lease)).key.length ≤ 100:=by
 show (wNew rev W key val lease).key ≠ []∧(wNew rev W key val lease).key.length ≤ 100
 rw [wNew_key]; exact ⟨h1,h2⟩
theorem wNew_num {A:Sto} {W:Wr} {key val : Key} {lease:Int} (ok:StoOK A) (h:WrOK A W) (hc : wChg W key = false) (hl : 0 ≤ lease) (hv : val.length ≤ 4096) : ∀ kv,Ch.put (wNew (A.rev + 1) W key val lease) = .put kv → kv.mod = A.rev + 1∧KvIn (A.rev + 1) kv:=by
 intro kv he
 cases he
 have h0:=ok.past
 have h1:=ok.rev
 unfold wNew
 cases hg : kvget W.cur key with
 | none => exact ⟨rfl,by unfold KvIn; dsimp only; omega⟩
 | some x =>
  rw [now_same ok h hc] at hg
  have:=now_num ok x (kvget_some hg).1
  unfold KvIn at this
  exact ⟨rfl,by unfold KvIn; dsimp only; omega⟩
theorem wPut_ok {A:Sto} {W:Wr} {key val : Key} {lease:Int} (ok:StoOK A) (h:WrOK A W) : WrOK A (wPut (A.rev + 1) W key val lease).2:=by
 unfold wPut
 split
 ·exact h
 rename_i h1
 split
 ·exact h
 split
 ·exact h
 rename_i h3
 split
 ·exact h
 rename_i h2 _
 exact h.lay (c:=.put _) (wNew_chg (by simpa using h3)) (wNew_len (fun e => h1 (.inl e)) (by have:=fun e => h1 (.inr (.inl e)); omega)) (fun h => by cases h) (wNew_num ok h (by simpa using h3) (by have:=fun e => h1 (.inr (.inr e)); omega) (by omega))
def wDel1 (W:Wr) (k:Key) : Nat × Wr:=if wChg W k = true ∨ kvget W.cur k = none then (0,W) else (1,⟨done W.cur (.del k),W.l ++ [.del k]⟩)
def wDels (W:Wr) : List Key → Nat × Wr
 | [] => (0,W)
 | k :: ks => let r:=wDel1 W k; let q:=wDels r.2 ks; (r.1 + q.1,q.2)
theorem wDel1_ok {A:Sto} {W:Wr} {k:Key} (ok:StoOK A) (hk:∀ x ∈ A.now,x.key ≠ []∧x.key.length ≤ 100) (h:WrOK A W) : WrOK A (wDel1 W k).2:=by
 unfold wDel1
 split
 ·exact h
 rename_i h1
 have h2 : wChg W k = false:=by simpa using fun e => h1 (.inl e)
 refine h.lay (c:=.del k) h2 ?_ (fun _ e => h1 (.inr e)) (fun _ e => by cases e)
 have h3 : kvget W.cur k ≠ none:=fun e => h1 (.inr e)
 rw [now_same ok h h2] at h3
 cases hg : kvget A.now k with
 | none => exact absurd hg h3
 | some x =>
  obtain ⟨hx,hxk⟩:=kvget_some hg
  have:=hk x hx
  rw [hxk] at this
  exact this
theorem wDels_ok {A:Sto} (ok:StoOK A) (hk:∀ x ∈ A.now,x.key ≠ []∧x.key.length ≤ 100) : ∀ {ks:List Key} {W:Wr},WrOK A W → WrOK A (wDels W ks).2
 | [],_,h => h
 | k :: ks,W,h => wDels_ok ok hk (ks:=ks) (W:=(wDel1 W k).2) (wDel1_ok (k:=k) ok hk h)
def stDone (A:Sto) (W:Wr) : Sto:=if W.l = [] then A else ⟨A.rev + 1,A.past,A.old,A.chs ++ W.l.map fun c => ⟨A.rev + 1,c⟩⟩
theorem stDone_now {A:Sto} {W:Wr} (h:WrOK A W) : (stDone A W).now = W.cur:=by
 unfold stDone
 split
 ·rename_i h0
  rw [h.cur,h0]; rfl
 ·show doneL A.old ((A.chs ++ W.l.map fun c => (⟨A.rev + 1,c⟩ : Ver)).map Ver.c) = _
  rw [List.map_append,doneL_app,h.cur]
  congr 1
  rw [List.map_map]; simp [Function.comp_def]
theorem stDone_ok {A:Sto} {W:Wr} (ok:StoOK A) (h:WrOK A W) : StoOK (stDone A W):=by
 unfold stDone
 split
 ·exact ok
 refine ⟨ok.past,by have:=ok.rev; show A.past ≤ A.rev + 1; omega,ok.old,ok.oldm,?_,?_,⟨ok.key.1,?_⟩,?_,⟨ok.num.1,?_⟩⟩
 ·refine List.pairwise_append.2 ⟨ok.chs,?_,?_⟩
  ·rw [List.pairwise_map]
   have:=h.nd
   rw [List.nodup_iff_pairwise_ne,List.pairwise_map] at this
   exact this.imp fun h => ⟨Int.le_refl _,fun e => absurd e h⟩
  ·intro a ha b hb
   obtain ⟨c,hc,rfl⟩:=List.mem_map.1 hb
   have:=(ok.chr a ha).2
   exact ⟨by show a.rev ≤ A.rev + 1; omega,fun _ => by show a.rev < A.rev + 1; omega⟩
 ·intro v hv
  rcases List.mem_append.1 hv with hv | hv
  ·have:=ok.chr v hv
   exact ⟨this.1,by show v.rev ≤ A.rev + 1; omega⟩
  ·obtain ⟨c,hc,rfl⟩:=List.mem_map.1 hv
   have:=ok.rev
   exact ⟨by show A.past < A.rev + 1; omega,Int.le_refl _⟩
 ·intro v hv
  rcases List.mem_append.1 hv with hv | hv
  ·exact ok.key.2 v hv
  ·obtain ⟨c,hc,rfl⟩:=List.mem_map.1 hv
   exact h.key c hc
 ·intro a v b hab hv
  have key : ∀ d b',W.l.map (fun c => (⟨A.rev + 1,c⟩ : Ver)) = d ++ v :: b' → kvget (doneL A.now (d.map Ver.c)) v.c.key ≠ none:=by
   intro d b' hM
   obtain ⟨l1,l2,e1,e2,e3⟩:=List.map_eq_append_iff.1 hM
   obtain ⟨c,l3,e4,e5,e6⟩:=List.map_eq_cons_iff.1 e3
   subst e2 e4 e5
   have:=h.del l1 c l3 e1 hv
   rw [List.map_map]
   simpa [Function.comp_def] using this
  rcases List.append_eq_append_iff.1 hab with ⟨d,h1,h2⟩ | ⟨d,h1,h2⟩
  ·subst h1
   have:=key d b h2
   rw [List.map_append,doneL_app]
   exact this
  ·cases d with
   | nil =>
    rw [List.append_nil] at h1
    rw [List.nil_append] at h2
    subst h1
    exact key [] b h2.symm
   | cons y d =>
    rw [List.cons_append] at h2
    cases h2
    exact ok.del a v d h1 hv
 ·intro v hv kv he
  rcases List.mem_append.1 hv with hv | hv
  ·have:=ok.num.2 v hv kv he
   exact ⟨this.1,this.2.mono (by show A.rev ≤ A.rev + 1; omega)⟩
  ·obtain ⟨c,hc,rfl⟩:=List.mem_map.1 hv
   simp only at he
   subst he
   exact h.num kv hc
def Sto.snoc (A:Sto) (v:Ver) : Sto:=⟨A.rev,A.past,A.old,A.chs ++ [v]⟩
theorem vers_snoc {A:Sto} {v:Ver} {k:Key} : (A.snoc v).vers k = A.vers k ++ if v.c.key = k then [v] else []:=by
 unfold Sto.vers Sto.snoc
 rw [List.filter_append,List.append_assoc]
 congr 2
 by_cases h : v.c.key = k
 ·rw [List.filter_cons_of_pos (by simpa using h),if_pos h]; rfl
 ·rw [List.filter_cons_of_neg (by simpa using h),if_neg h]; rfl
theorem now_last {A:Sto} (ho:SrtK A.old) (k:Key) : kvget A.now k = match (A.vers k).getLast? with | some v => v.c.kv | none => none:=by
 unfold Sto.now Sto.vers
 rw [kvget_doneL ho,List.getLast?_append,List.filter_map,List.getLast?_map]
 show (match Option.map Ver.c (List.filter (fun v : Ver => v.c.key == k) A.chs).getLast? with | some c => c.kv | none => kvget A.old k) = match ((List.filter (fun v : Ver => v.c.key == k) A.chs).getLast?).or _ with | some v => v.c.kv | none => none
 cases (List.filter (fun v : Ver => v.c.key == k) A.chs).getLast? with
 | some v => rfl
 | none =>
  cases hg : kvget A.old k with
  | none => rfl
  | some x => rfl
theorem put_ok {A:Sto} {v:Ver} {L:IL} (ok:StoOK (A.snoc v)) (hL:IxOK A L) : putE L v.c.key (mkV v) = 0:=by
 have hv : v ∈ (A.snoc v).chs:=by simp [Sto.snoc]
 have h1:=ok.key.2 v hv
 have h2:=ok.chr v hv
 have h3:=ok.past
 have hlast : ∀ w,(A.vers v.c.key).getLast? = some w → w.rev < v.rev:=by
  intro w hw
  have hm:=List.mem_of_getLast? hw
  unfold Sto.vers at hm
  rcases List.mem_append.1 hm with hm | hm
  ·cases hg : kvget A.old v.c.key with
   | none => rw [hg] at hm; simp at hm
   | some x =>
    rw [hg] at hm
    simp at hm; subst hm
    have h4:=(ok.oldm x (kvget_some hg).1).2
    have h5:=h2.1
    show x.mod < v.rev
    exact Int.lt_of_le_of_lt h4 h5
  ·obtain ⟨hm1,hm2⟩:=List.mem_filter.1 hm
   have:=(List.pairwise_append.1 ok.chs).2.2 w hm1 v (by simp)
   exact this.2 (by simpa using hm2)
 unfold putE
 rw [if_neg (by rintro (h | h | h); exact h1.1 h; omega; have h4:=h2.1; have : (mkV v).1 = v.rev:=rfl; have h5 : (A.snoc v).past = A.past:=rfl; omega),hL.2]
 have hl2 : lastM ((A.vers v.c.key).map mkV) = ((A.vers v.c.key).getLast?.map mkV).getD (0,true):=by
  unfold lastM; rw [List.getLast?_map]
 rw [hl2]
 cases hg : (A.vers v.c.key).getLast? with
 | none =>
  rw [if_neg (by have h5 : (A.snoc v).past = A.past:=rfl; have h4:=h2.1; show ¬ v.rev ≤ 0; omega),if_neg]
  rintro ⟨h6,_⟩
  have h7 : v.c.kv = none:=by simpa [mkV] using h6
  have:=ok.del A.chs v [] (by simp [Sto.snoc]) h7
  have h8:=now_last (A:=A) ok.old v.c.key
  rw [hg] at h8
  exact this h8
 | some w =>
  rw [if_neg (by have:=hlast w hg; show ¬ v.rev ≤ w.rev; omega),if_neg]
  rintro ⟨h6,h9⟩
  have h7 : v.c.kv = none:=by simpa [mkV] using h6
  have h10 : w.c.kv = none:=by simpa [mkV] using h9
  have:=ok.del A.chs v [] (by simp [Sto.snoc]) h7
  have h8:=now_last (A:=A) ok.old v.c.key
  rw [hg] at h8
  exact this (h8.trans h10)
theorem ix_snoc {A:Sto} {v:Ver} {L:IL} (ok:StoOK (A.snoc v)) (hL:IxOK A L) : IxOK (A.snoc v) (putL L v.c.key (mkV v)):=by
 have h0:=put_ok ok hL
 refine ⟨putL_wf hL.1,fun k => ?_⟩
 rw [putL,if_pos h0,getL_layL hL.1.1,hL.2,vers_snoc]
 by_cases h : k = v.c.key
 ·subst h; simp
 ·rw [if_neg h,if_neg (fun e => h e.symm),List.append_nil,hL.2]
theorem ix_len {A:Sto} {L:IL} (hL:IxOK A L) : ∀ x ∈ L,x.2.length ≤ A.chs.length + 1:=by
 intro x hx
 have h1:=hL.2 x.1
 rw [getL_in hL.1.1 hx] at h1
 rw [h1,List.length_map,Sto.vers,List.length_append]
 have:=List.length_filter_le (fun v : Ver => v.c.key == x.1) A.chs
 have h2 : ((kvget A.old x.1).map verO).toList.length ≤ 1:=by cases kvget A.old x.1 <;> simp
 omega
theorem wDels_snoc {k:Key} : ∀ {ks:List Key} {W:Wr},wDels W (ks ++ [k]) = ((wDels W ks).1 + (wDel1 (wDels W ks).2 k).1,(wDel1 (wDels W ks).2 k).2)
 | [],W => by simp [wDels]
 | x :: ks,W => by
  have:=wDels_snoc (k:=k) (ks:=ks) (W:=(wDel1 W x).2)
  simp only [List.cons_append,wDels,this]
  simp only [Prod.mk.injEq,and_true]; omega
theorem wDel1_len {W:Wr} {k:Key} : (wDel1 W k).2.l.length ≤ W.l.length + 1∧(wDel1 W k).1 ≤ 1:=by
 unfold wDel1; split <;> simp
theorem wDels_len : ∀ {ks:List Key} {W:Wr},(wDels W ks).2.l.length ≤ W.l.length + ks.length∧(wDels W ks).1 ≤ ks.length
 | [],W => by simp [wDels]
 | x :: ks,W => by
  have h1:=wDels_len (ks:=ks) (W:=(wDel1 W x).2)
  have h2:=wDel1_len (W:=W) (k:=x)
  simp only [wDels,List.length_cons]
  omega
theorem done_le {l:List Kv} {c:Ch} : (done l c).length ≤ l.length + 1:=by
 have h0 : l.takeWhile (fun x => ltK x.key c.key) ++ l.dropWhile (fun x => ltK x.key c.key) = l:=List.takeWhile_append_dropWhile
 have h1:=congrArg List.length h0
 rw [List.length_append] at h1
 have h2:=(List.dropWhile_sublist (fun x : Kv => x.key == c.key) (l:=l.dropWhile fun x => ltK x.key c.key)).length_le
 have h3 : c.kv.toList.length ≤ 1:=by cases c.kv <;> simp
 unfold done
 rw [List.length_append,List.length_append]
 omega
theorem doneL_le : ∀ {cs:List Ch} {l:List Kv},(doneL l cs).length ≤ l.length + cs.length
 | [],l => Nat.le_refl _
 | c :: cs,l => by
  have h1:=doneL_le (cs:=cs) (l:=done l c)
  have h2:=done_le (l:=l) (c:=c)
  show (doneL (done l c) cs).length ≤ _
  rw [List.length_cons]; omega
theorem cur_le {A:Sto} {W:Wr} (h:WrOK A W) : W.cur.length ≤ A.old.length + A.chs.length + W.l.length:=by
 rw [h.cur]
 have h1:=doneL_le (cs:=W.l) (l:=A.now)
 have h2:=doneL_le (cs:=A.chs.map Ver.c) (l:=A.old)
 rw [List.length_map] at h2
 unfold Sto.now at h1 ⊢
 omega
end Go.Hz
/- A store, and a write, in the heap. -/
namespace Go.Hz
def chV (tp td : Nat) : Ch → AV
 | .put kv => .iface tp (.agg (kvC kv))
 | .del k => .iface td (.agg [.str k])
def verC (tp td : Nat) (v:Ver) : List AV:=[.int .i64 v.rev,chV tp td v.c]
structure Vn where
 key : Key
 v : AV
 vs : List Ver
def VmOK (A:Sto) (X:List Vn) : Prop:=(X.map Vn.key).Nodup∧(∀ x ∈ X,x.vs = A.vers x.key∧x.vs ≠ [])∧∀ k,A.vers k ≠ [] → ∃ x ∈ X,x.key = k
def VnP (tp td : Nat) (x:Vn) : Asr:=Ow 2 x.v (x.vs.map (verC tp td))
def MvL (tp td s ix vm : Nat) (cv o : AV) (A:Sto) (L:IL) (X:List Vn) : List Asr :=
 [pto s (.row 7 [[.int .i64 A.rev,.int .i64 A.past,.int .i64 A.now.length,.ptr ix 2 0 0,.map vm,cv,o]] 1),IxP ix L,Ow 2 cv (A.chs.map (verC tp td)),MpA (fun k : Key => AV.str k) Vn.key Vn.v vm X] ++ X.map (VnP tp td)
def MvP (tp td s : Nat) (A:Sto) (o:AV) : Asr:=fun h => ∃ ix vm cv L X,(StoOK A∧IxOK A L∧VmOK A X)∧sat h (MvL tp td s ix vm cv o A L X)
section
variable {tp td s : Nat} {A:Sto} {o:AV} {h:Hp} {F:List Asr}
theorem mvP : sat h (MvP tp td s A o :: F) ↔ ∃ ix vm cv L X,(StoOK A∧IxOK A L∧VmOK A X)∧sat h (MvL tp td s ix vm cv o A L X ++ F):=by
 unfold MvP
 rw [sat_ex]; refine exists_congr fun ix => ?_
 rw [sat_ex]; refine exists_congr fun vm => ?_
 rw [sat_ex]; refine exists_congr fun cv => ?_
 rw [sat_ex]; refine exists_congr fun L => ?_
 rw [sat_ex]; refine exists_congr fun X => ?_
 rw [sat_and]
 exact and_congr_right fun _ => sat_sl
theorem MvP.ok (hs : sat h (MvP tp td s A o :: F)) : StoOK A:=by
 obtain ⟨_,_,_,_,_,h1,_⟩:=mvP.1 hs
 exact h1.1
theorem chV_atom (c:Ch) : (chV tp td c).isAtom = true:=by cases c <;> rfl
theorem chV_cells (c:Ch) : (chV tp td c).cells = [chV tp td c]:=by cases c <;> rfl
theorem vAt_k {l:List Ver} {r:Int} {k:Nat} (hk : k ≤ l.length) (h1:∀ i (hi : i < l.length),i < k → l[i].rev ≤ r) (h2:∀ i (hi : i < l.length),k ≤ i → r < l[i].rev) : vAt l r = if hk0 : 0 < k then (l[k - 1]'(by omega)).c.kv else none:=by
 have e : l.takeWhile (fun v => decide (v.rev ≤ r)) = l.take k:=by
  induction l generalizing k with
  | nil => simp at hk; subst hk; rfl
  | cons x l ih =>
   cases k with
   | zero =>
    have:=h2 0 (by simp) (by omega)
    rw [List.takeWhile_cons_of_neg (by simpa using this)]; rfl
   | succ k =>
    have h0:=h1 0 (by simp) (by omega)
    rw [List.takeWhile_cons_of_pos (by simpa using h0),List.take_succ_cons]
    congr 1
    exact ih (by simpa using hk) (fun i hi hik => by have:=h1 (i + 1) (by simpa using hi) (by omega); simpa using this) (fun i hi hik => by have:=h2 (i + 1) (by simpa using hi) (by omega); simpa using this)
 unfold vAt
 rw [e]
 split
 ·rename_i v hv
  by_cases hk0 : 0 < k
  ·rw [dif_pos hk0]
   rw [List.getLast?_eq_getElem?,List.length_take,Nat.min_eq_left hk,List.getElem?_take,if_pos (by omega),List.getElem?_eq_getElem (by omega)] at hv
   cases hv; rfl
  ·have : k = 0:=by omega
   subst this
   simp at hv
 ·rename_i hv
  have : k = 0:=by
   have:=List.getLast?_eq_none_iff.1 hv
   have h3:=congrArg List.length this
   rw [List.length_take,List.length_nil] at h3; omega
  subst this
  rw [dif_neg (by omega)]
theorem vers_ris (ok:StoOK A) (k:Key) : (A.vers k).Pairwise fun a b => a.rev < b.rev:=by
 unfold Sto.vers
 refine List.pairwise_append.2 ⟨?_,?_,?_⟩
 ·cases kvget A.old k <;> simp
 ·have:=ok.chs
  refine (List.Pairwise.filter _ this).imp_of_mem ?_
  intro a b ha hb h
  have h1 : a.c.key = k:=by simpa using (List.mem_filter.1 ha).2
  have h2 : b.c.key = k:=by simpa using (List.mem_filter.1 hb).2
  exact h.2 (h1.trans h2.symm)
 ·intro a ha b hb
  cases hg : kvget A.old k with
  | none => rw [hg] at ha; simp at ha
  | some x =>
   rw [hg] at ha
   simp at ha; subst ha
   have h1:=(ok.oldm x (kvget_some hg).1).2
   have h2:=(ok.chr b (List.mem_filter.1 hb).1).1
   show x.mod < b.rev
   omega
def kv0 : Kv:=⟨[],[],0,0,0,0⟩
theorem vers_le (k:Key) : (A.vers k).length ≤ A.chs.length + 1:=by
 rw [Sto.vers,List.length_append]
 have:=List.length_filter_le (fun v : Ver => v.c.key == k) A.chs
 have h2 : ((kvget A.old k).map verO).toList.length ≤ 1:=by cases kvget A.old k <;> simp
 omega
end
theorem nodup_le {α:Type} [BEq α] [LawfulBEq α] : ∀ {l m : List α},l.Nodup → (∀ x ∈ l,x ∈ m) → l.length ≤ m.length
 | [],m,_,_ => Nat.zero_le _
 | x :: l,m,hn,hm => by
  have h1:=List.nodup_cons.1 hn
  have hx:=hm x (by simp)
  have:=nodup_le (l:=l) (m:=m.erase x) h1.2 fun y hy => (List.mem_erase_of_ne (fun e => h1.1 (by rw [← e]; exact hy))).2 (hm y (List.mem_cons_of_mem _ hy))
  rw [List.length_erase_of_mem hx] at this
  have h3:=List.length_pos_of_mem hx
  rw [List.length_cons]; omega
theorem SrtS.nodup {l:List Key} (h:SrtS l) : l.Nodup:=h.imp fun h e => by rw [e,ltK_irrefl] at h; cases h
theorem vers_key {A:Sto} {k:Key} (h:A.vers k ≠ []) : k ∈ A.old.map Kv.key ++ A.chs.map (fun v => v.c.key):=by
 rw [List.mem_append]
 cases hg : kvget A.old k with
 | some x => exact .inl (List.mem_map.2 ⟨x,(kvget_some hg).1,(kvget_some hg).2⟩)
 | none =>
  right
  unfold Sto.vers at h
  rw [hg] at h
  simp only [Option.map_none,Option.toList_none,List.nil_append] at h
  obtain ⟨v,hv⟩:=List.exists_mem_of_ne_nil _ h
  obtain ⟨h1,h2⟩:=List.mem_filter.1 hv
  exact List.mem_map.2 ⟨v,h1,by simpa using h2⟩
theorem ix_num {A:Sto} {L:IL} (hL:IxOK A L) : L.length ≤ A.old.length + A.chs.length:=by
 have h1 : SrtS (L.map fun x => x.1):=by
  unfold SrtS; rw [List.pairwise_map]; exact hL.1.1
 have:=nodup_le (m:=A.old.map Kv.key ++ A.chs.map (fun v => v.c.key)) h1.nodup fun k hk => by
  obtain ⟨x,hx,rfl⟩:=List.mem_map.1 hk
  refine vers_key fun h => ?_
  have h3:=hL.2 x.1
  rw [getL_in hL.1.1 hx,h] at h3
  exact (hL.1.2 x hx).1 h3
 simpa using this
def cutL {α:Type} (lim:Int) (l:List α) : List α:=if lim < 1 then l else l.take lim.toNat
theorem cutL_snoc {α:Type} {lim:Int} {l:List α} {x : α} : cutL lim (l ++ [x]) = if lim < 1 ∨ ((cutL lim l).length : Int) < lim then cutL lim l ++ [x] else cutL lim l:=by
 unfold cutL
 by_cases h : lim < 1
 ·simp [h]
 ·rw [if_neg h,if_neg h,List.length_take]
  by_cases h2 : l.length < lim.toNat
  ·rw [if_pos (by right; omega),List.take_of_length_le (by simp; omega),List.take_of_length_le (by omega)]
  ·rw [if_neg (by intro hh; rcases hh with hh | hh; exact h hh; omega),List.take_append_of_le_length (by omega)]
theorem cutL_len {α:Type} {lim:Int} {l:List α} : (cutL lim l).length ≤ l.length:=by
 unfold cutL; split
 ·exact Nat.le_refl _
 ·rw [List.length_take]; omega
def rngL (l:List Kv) (lo hi : Key) (lim:Int) : List Kv × Nat:=(cutL lim (l.filter fun x => inK lo hi x.key),(l.filter fun x => inK lo hi x.key).length)
def stRange (A:Sto) (lo hi : Key) (rev lim : Int) : List Kv × Nat × Int :=
 if rev < 0 then ([],0,1) else if A.rev < rev then ([],0,17) else if 0 < rev∧rev < A.past then ([],0,16) else
 let q:=rngL (A.at (if rev = 0 then A.rev else rev)) lo hi lim
 (q.1,q.2,0)
def WrP (tp td w s : Nat) (A:Sto) (W:Wr) : Asr:=fun h => ∃ lv bm,WrOK A W∧sat h [pto w (.row 4 [[.ptr s 7 0 0,lv,.map bm,.int .i64 W.cur.length]] 1),Ow 1 lv (W.l.map fun c => [chV tp td c]),MpA (fun k : Key => AV.str k) Ch.key (chV tp td) bm W.l]
theorem wrP {tp td w s : Nat} {A:Sto} {W:Wr} {h:Hp} {F:List Asr} : sat h (WrP tp td w s A W :: F) ↔ ∃ lv bm,WrOK A W∧sat h (pto w (.row 4 [[.ptr s 7 0 0,lv,.map bm,.int .i64 W.cur.length]] 1) :: Ow 1 lv (W.l.map fun c => [chV tp td c]) :: MpA (fun k : Key => AV.str k) Ch.key (chV tp td) bm W.l :: F):=by
 unfold WrP
 rw [sat_ex]; refine exists_congr fun lv => ?_
 rw [sat_ex]; refine exists_congr fun bm => ?_
 rw [sat_and]
 exact and_congr_right fun _ => sat_sl (l1:=[_,_,_]) (l:=F)
theorem WrP.ok {tp td w s : Nat} {A:Sto} {W:Wr} {h:Hp} {F:List Asr} (hs : sat h (WrP tp td w s A W :: F)) : WrOK A W:=by
 obtain ⟨_,_,h1,_⟩:=wrP.1 hs
 exact h1
theorem done_len {l:List Kv} {c:Ch} (hs:SrtK l) : (done l c).length = l.length + c.kv.toList.length - (kvget l c.key).toList.length:=by
 obtain ⟨a,b,h1,h2,h3,h4,h5⟩:=cut_key hs c.key
 unfold done
 rw [h1,h2]
 rcases h5 with ⟨h5,h6⟩ | ⟨x,_,h5,h6⟩
 ·rw [h6,h5]; simp; omega
 ·rw [h6,h5]; simp; omega
def MvLn (tp td s ix vm : Nat) (cv o : AV) (n:Int) (A:Sto) (L:IL) (X:List Vn) : List Asr :=
 [pto s (.row 7 [[.int .i64 A.rev,.int .i64 A.past,.int .i64 n,.ptr ix 2 0 0,.map vm,cv,o]] 1),IxP ix L,Ow 2 cv (A.chs.map (verC tp td)),MpA (fun k : Key => AV.str k) Vn.key Vn.v vm X] ++ X.map (VnP tp td)
def MvN (tp td s : Nat) (n:Int) (A:Sto) (o:AV) : Asr:=fun h => ∃ ix vm cv L X,(StoOK A∧IxOK A L∧VmOK A X)∧sat h (MvLn tp td s ix vm cv o n A L X)
theorem mvN {tp td s : Nat} {n:Int} {A:Sto} {o:AV} {h:Hp} {F:List Asr} : sat h (MvN tp td s n A o :: F) ↔ ∃ ix vm cv L X,(StoOK A∧IxOK A L∧VmOK A X)∧sat h (MvLn tp td s ix vm cv o n A L X ++ F):=by
 unfold MvN
 rw [sat_ex]; refine exists_congr fun ix => ?_
 rw [sat_ex]; refine exists_congr fun vm => ?_
 rw [sat_ex]; refine exists_congr fun cv => ?_
 rw [sat_ex]; refine exists_congr fun L => ?_
 rw [sat_ex]; refine exists_congr fun X => ?_
 rw [sat_and]
 exact and_congr_right fun _ => sat_sl
theorem stOK_front {r p : Int} {old:List Kv} {c1 c2 : List Ver} (ok:StoOK ⟨r,p,old,c1 ++ c2⟩) : StoOK ⟨r,p,old,c1⟩ where
 past:=ok.past
 rev:=ok.rev
 old:=ok.old
 oldm:=ok.oldm
 chs:=(List.pairwise_append.1 ok.chs).1
 chr:=fun v hv => ok.chr v (List.mem_append_left _ hv)
 key:=⟨ok.key.1,fun v hv => ok.key.2 v (List.mem_append_left _ hv)⟩
 del:=fun a v b h hv => ok.del a v (b ++ c2) (by show c1 ++ c2 = _; rw [show c1 = a ++ v :: b from h]; simp) hv
 num:=⟨ok.num.1,fun v hv => ok.num.2 v (List.mem_append_left _ hv)⟩
theorem vmOK_old {A:Sto} {v:Ver} {l1 l2 : List Vn} {x:Vn} {w:AV} (h:VmOK A (l1 ++ x :: l2)) (hk : x.key = v.c.key) : VmOK (A.snoc v) (l1 ++ ⟨x.key,w,x.vs ++ [v]⟩ :: l2):=by
 obtain ⟨h1,h2,h3⟩:=h
 have h1' : ((l1 ++ (⟨x.key,w,x.vs ++ [v]⟩ : Vn) :: l2).map Vn.key).Nodup:=by simpa using h1
 refine ⟨h1',?_,?_⟩
 ·intro y hy
  rw [List.map_append,List.map_cons,List.nodup_append,List.nodup_cons] at h1
  have hne : ∀ y,y ∈ l1 ∨ y ∈ l2 → y.key ≠ x.key:=by
   rintro y (hy | hy) e
   ·exact h1.2.2 _ (List.mem_map_of_mem hy) _ (by simp) e
   ·exact h1.2.1.1 (e ▸ List.mem_map_of_mem hy)
  rw [vers_snoc]
  rcases List.mem_append.1 hy with hy | hy
  ·rw [if_neg (fun e : v.c.key = y.key => hne y (.inl hy) (e.symm.trans hk.symm)),List.append_nil]
   exact h2 y (by simp [hy])
  ·rcases List.mem_cons.1 hy with rfl | hy
   ·rw [if_pos hk.symm]
    exact ⟨by show x.vs ++ [v] = _; rw [(h2 x (by simp)).1],by simp⟩
   ·rw [if_neg (fun e : v.c.key = y.key => hne y (.inr hy) (e.symm.trans hk.symm)),List.append_nil]
    exact h2 y (by simp [hy])
 ·intro k hk'
  rw [vers_snoc] at hk'
  by_cases he : v.c.key = k
  ·exact ⟨⟨x.key,w,x.vs ++ [v]⟩,by simp,hk.trans he⟩
  ·rw [if_neg he,List.append_nil] at hk'
   obtain ⟨y,hy,hyk⟩:=h3 k hk'
   rcases List.mem_append.1 hy with hy | hy
   ·exact ⟨y,by simp [hy],hyk⟩
   ·rcases List.mem_cons.1 hy with rfl | hy
    ·exact absurd (hk.symm.trans hyk) he
    ·exact ⟨y,by simp [hy],hyk⟩
theorem vmOK_new {A:Sto} {v:Ver} {X:List Vn} {w:AV} (h:VmOK A X) (hk:∀ x ∈ X,x.key ≠ v.c.key) : VmOK (A.snoc v) (X ++ [⟨v.c.key,w,[v]⟩]):=by
 obtain ⟨h1,h2,h3⟩:=h
 have h0 : A.vers v.c.key = []:=by
  cases hv : A.vers v.c.key with
  | nil => rfl
  | cons y l =>
   obtain ⟨x,hx,hxk⟩:=h3 v.c.key (by rw [hv]; simp)
   exact absurd hxk (hk x hx)
 refine ⟨?_,?_,?_⟩
 ·rw [List.map_append,List.nodup_append]
  refine ⟨h1,by simp,?_⟩
  intro a ha b hb e
  obtain ⟨x,hx,rfl⟩:=List.mem_map.1 ha
  simp at hb; subst hb
  exact hk x hx e
 ·intro y hy
  rw [vers_snoc]
  rcases List.mem_append.1 hy with hy | hy
  ·rw [if_neg (fun e => hk y hy e.symm),List.append_nil]
   exact h2 y hy
  ·simp at hy; subst hy
   rw [if_pos rfl,h0]
   exact ⟨rfl,by simp⟩
 ·intro k hk'
  rw [vers_snoc] at hk'
  by_cases he : v.c.key = k
  ·exact ⟨⟨v.c.key,w,[v]⟩,by simp,he⟩
  ·rw [if_neg he,List.append_nil] at hk'
   obtain ⟨y,hy,hyk⟩:=h3 k hk'
   exact ⟨y,by simp [hy],hyk⟩
end Go.Hz
/- A store of which a front is forgotten. -/
namespace Go.Hz
def stComp (A:Sto) (r:Int) : Sto:=⟨A.rev,r,A.at r,A.chs.filter fun v => decide (r < v.rev)⟩
theorem takeDrop {l:List Ver} {r:Int} (h : l.Pairwise fun a b => a.rev ≤ b.rev) : l.filter (fun v => decide (r < v.rev)) = l.dropWhile (fun v => decide (v.rev ≤ r)):=by
 induction l with
 | nil => rfl
 | cons x l ih =>
  have h1:=List.pairwise_cons.1 h
  by_cases hx : x.rev ≤ r
  ·rw [List.dropWhile_cons,if_pos (by simpa using hx),List.filter_cons_of_neg (by simp; omega)]
   exact ih h1.2
  ·rw [List.dropWhile_cons,if_neg (by simpa using hx),List.filter_eq_self.2]
   intro y hy
   rcases List.mem_cons.1 hy with rfl | hy
   ·simp; omega
   ·have:=h1.1 y hy
    simp; omega
section
variable {A:Sto} (ok:StoOK A) {r:Int}
include ok
theorem chs_cut : A.chs.takeWhile (fun v => decide (v.rev ≤ r)) ++ (stComp A r).chs = A.chs:=by
 show _ ++ A.chs.filter _ = _
 rw [takeDrop (ok.chs.imp fun h => h.1),List.takeWhile_append_dropWhile]
theorem comp_now : (stComp A r).now = A.now:=by
 show doneL (A.at r) ((stComp A r).chs.map Ver.c) = doneL A.old (A.chs.map Ver.c)
 rw [Sto.at,← doneL_app,← List.map_append,chs_cut ok]
omit ok in
omit ok in
end
section
variable {α κ : Type} [DecidableEq κ] {str:Bool} {K : κ → AV} {key : α → κ} {v : α → AV} {m:Nat} {h:Hp} {F:List Asr} {P:Program} {st:List Fr} {e:Env} {k:Kt} {d:Option Nat} {r:List (AItem × List AItem)}
end
def toCome {α:Type} (seen:List Nat) (pl:List (α × Nat)) : Nat:=(pl.filter fun p => decide (p.2 ∉ seen)).length
theorem toCome_same {α:Type} {seen:List Nat} {n:Nat} : ∀ {a:List (α × Nat)},(∀ p ∈ a,p.2 ≠ n) → toCome (seen ++ [n]) a = toCome seen a
 | [],_ => rfl
 | p :: a,h => by
  have h1:=h p (by simp)
  have ih:=toCome_same (seen:=seen) (a:=a) fun q hq => h q (List.mem_cons_of_mem _ hq)
  unfold toCome at *
  by_cases h2 : p.2 ∈ seen
  ·rw [List.filter_cons_of_neg (by simp [h2]),List.filter_cons_of_neg (by simp [h2])]; exact ih
  ·rw [List.filter_cons_of_pos (by simp [h2,h1]),List.filter_cons_of_pos (by simp [h2]),List.length_cons,List.length_cons,ih]
theorem toCome_app {α:Type} {seen:List Nat} {a b : List (α × Nat)} : toCome seen (a ++ b) = toCome seen a + toCome seen b:=by
 unfold toCome; rw [List.filter_append,List.length_append]
structure CompI (A B : Sto) (pl:List (Vn × Nat)) (seen:List Nat) (c:Nat) : Prop where
 key : (pl.map fun p => p.1.key).Nodup
 born : (pl.map fun p => p.2).Nodup
 lt : ∀ p ∈ pl,p.2 < c
 vs : ∀ p ∈ pl,p.1.vs ≠ []∧p.1.vs = if p.2 ∈ seen then B.vers p.1.key else A.vers p.1.key
 all : ∀ k,B.vers k ≠ [] → ∃ p ∈ pl,p.1.key = k
section
variable {A B : Sto} {pl a b : List (Vn × Nat)} {seen:List Nat} {c n : Nat} {x:Vn}
theorem CompI.cut (hI:CompI A B pl seen c) {p:Vn × Nat} (hp : p ∈ pl) : ∃ a b,pl = a ++ p :: b∧(∀ q ∈ a,q.1.key ≠ p.1.key∧q.2 ≠ p.2)∧∀ q ∈ b,q.1.key ≠ p.1.key∧q.2 ≠ p.2:=by
 obtain ⟨a,b,rfl⟩:=List.append_of_mem hp
 have h1:=hI.key
 have h2:=hI.born
 rw [List.map_append,List.map_cons,List.nodup_append,List.nodup_cons] at h1 h2
 refine ⟨a,b,rfl,fun q hq => ⟨fun e => h1.2.2 _ (List.mem_map_of_mem (f:=fun p : Vn × Nat => p.1.key) hq) _ (by simp) e,fun e => h2.2.2 _ (List.mem_map_of_mem (f:=fun p : Vn × Nat => p.2) hq) _ (by simp) e⟩,
  fun q hq => ⟨fun e => h1.2.1.1 (List.mem_map.2 ⟨q,hq,e⟩),fun e => h2.2.1.1 (List.mem_map.2 ⟨q,hq,e⟩)⟩⟩
theorem CompI.come (hI:CompI A B (a ++ (x,n) :: b) seen c) (hn : n ∉ seen) (h1:∀ q ∈ a,q.1.key ≠ x.key∧q.2 ≠ n) (h2:∀ q ∈ b,q.1.key ≠ x.key∧q.2 ≠ n) :
  toCome seen (a ++ (x,n) :: b) = toCome (seen ++ [n]) (a ++ b) + 1∧∀ y,toCome seen (a ++ (x,n) :: b) = toCome (seen ++ [n]) (a ++ (y,n) :: b) + 1:=by
 have e1:=toCome_same (seen:=seen) (n:=n) (a:=a) fun q hq => (h1 q hq).2
 have e2:=toCome_same (seen:=seen) (n:=n) (a:=b) fun q hq => (h2 q hq).2
 have e3 : ∀ y : Vn,toCome seen ((y,n) :: b) = toCome seen b + 1:=by
  intro y; unfold toCome; rw [List.filter_cons_of_pos (by simp [hn])]; rfl
 have e4 : ∀ y : Vn,toCome (seen ++ [n]) ((y,n) :: b) = toCome (seen ++ [n]) b:=by
  intro y; unfold toCome; rw [List.filter_cons_of_neg (by simp)]
 rw [toCome_app,toCome_app,e3,e1,e2]
 refine ⟨by omega,fun y => ?_⟩
 rw [toCome_app,e4,e1,e2]; omega
theorem CompI.del (hI:CompI A B (a ++ (x,n) :: b) seen c) (hb:B.vers x.key = []) (h1:∀ q ∈ a,q.1.key ≠ x.key∧q.2 ≠ n) (h2:∀ q ∈ b,q.1.key ≠ x.key∧q.2 ≠ n) : CompI A B (a ++ b) (seen ++ [n]) c:=by
 have hsub : (a ++ b).Sublist (a ++ (x,n) :: b):=List.Sublist.append_left (List.sublist_cons_self _ _) _
 refine ⟨hI.key.sublist (hsub.map _),hI.born.sublist (hsub.map _),fun p hp => hI.lt p (hsub.subset hp),fun p hp => ?_,fun k hk => ?_⟩
 ·obtain ⟨h3,h4⟩:=hI.vs p (hsub.subset hp)
  refine ⟨h3,?_⟩
  have hne : p.2 ≠ n:=by
   rcases List.mem_append.1 hp with h | h
   ·exact (h1 p h).2
   ·exact (h2 p h).2
  rw [h4]
  simp [hne]
 ·obtain ⟨p,hp,hpk⟩:=hI.all k hk
  refine ⟨p,?_,hpk⟩
  rcases List.mem_append.1 hp with h | h
  ·exact List.mem_append_left _ h
  ·rcases List.mem_cons.1 h with rfl | h
   ·exact absurd (hpk ▸ hb) hk
   ·exact List.mem_append_right _ h
theorem CompI.set (hI:CompI A B (a ++ (x,n) :: b) seen c) (hb:B.vers x.key ≠ []) (h1:∀ q ∈ a,q.1.key ≠ x.key∧q.2 ≠ n) (h2:∀ q ∈ b,q.1.key ≠ x.key∧q.2 ≠ n) (w:AV) : CompI A B (a ++ (⟨x.key,w,B.vers x.key⟩,n) :: b) (seen ++ [n]) c:=by
 refine ⟨by simpa using hI.key,by simpa using hI.born,fun p hp => ?_,fun p hp => ?_,fun k hk => ?_⟩
 ·rcases List.mem_append.1 hp with h | h
  ·exact hI.lt p (by simp [h])
  ·rcases List.mem_cons.1 h with rfl | h
   ·exact hI.lt (x,n) (by simp)
   ·exact hI.lt p (by simp [h])
 ·have old : p ∈ a ∨ p ∈ b → p.1.vs ≠ []∧p.1.vs = if p.2 ∈ seen ++ [n] then B.vers p.1.key else A.vers p.1.key:=by
   intro h
   obtain ⟨h3,h4⟩:=hI.vs p (by rcases h with h | h <;> simp [h])
   refine ⟨h3,?_⟩
   have hne : p.2 ≠ n:=by
    rcases h with h | h
    ·exact (h1 p h).2
    ·exact (h2 p h).2
   rw [h4]
   simp [hne]
  rcases List.mem_append.1 hp with h | h
  ·exact old (.inl h)
  ·rcases List.mem_cons.1 h with rfl | h
   ·exact ⟨hb,by simp⟩
   ·exact old (.inr h)
 ·obtain ⟨p,hp,hpk⟩:=hI.all k hk
  rcases List.mem_append.1 hp with h | h
  ·exact ⟨p,by simp [h],hpk⟩
  ·rcases List.mem_cons.1 h with rfl | h
   ·exact ⟨(⟨x.key,w,B.vers x.key⟩,n),by simp,hpk⟩
   ·exact ⟨p,by simp [h],hpk⟩
theorem CompI.fin (hI:CompI A B pl seen c) (h:∀ p ∈ pl,p.2 ∈ seen) : VmOK B (pl.map fun p => p.1):=by
 refine ⟨by simpa [Function.comp_def] using hI.key,fun x hx => ?_,fun k hk => ?_⟩
 ·obtain ⟨p,hp,rfl⟩:=List.mem_map.1 hx
  obtain ⟨h1,h2⟩:=hI.vs p hp
  rw [if_pos (h p hp)] at h2
  exact ⟨h2,h1⟩
 ·obtain ⟨p,hp,hpk⟩:=hI.all k hk
  exact ⟨p.1,List.mem_map_of_mem hp,hpk⟩
end
end Go.Hz
/- What one write can change; what a range of all keys tells. -/
namespace Go.Hz
def WB (A:Sto) (W:Wr) (k:Nat) : Prop := ∃ P : List Key,P.length ≤ k∧∀ c ∈ W.l,c.key ∈ A.now.map Kv.key ++ P
section
variable {A:Sto} {W:Wr} {k:Nat}
theorem wb_nil : WB A ⟨A.now,[]⟩ 0:=⟨[],Nat.le_refl _,by simp⟩
theorem WB.mono (h:WB A W k) {q:Nat} (hq : k ≤ q) : WB A W q:=by
 obtain ⟨P,h1,h2⟩:=h
 exact ⟨P,by omega,h2⟩
theorem WB.put (h:WB A W k) {r:Int} {key val : Key} {lease:Int} : WB A (wPut r W key val lease).2 (k + 1):=by
 have h0:=h.mono (Nat.le_succ k)
 obtain ⟨P,h1,h2⟩:=h
 unfold wPut
 split
 ·exact h0
 split
 ·exact h0
 split
 ·exact h0
 split
 ·exact h0
 refine ⟨P ++ [key],by simp; omega,fun c hc => ?_⟩
 rcases List.mem_append.1 hc with hc | hc
 ·have:=h2 c hc
  rw [List.mem_append] at this
  simp only [List.mem_append]
  rcases this with h | h
  ·exact .inl h
  ·exact .inr (.inl h)
 ·rw [List.mem_singleton.1 hc,show (Ch.put _).key = key from wNew_key]
  simp
theorem WB.del1 (h:WB A W k) (ok:StoOK A) (hw:WrOK A W) {key:Key} : WB A (wDel1 W key).2 k:=by
 unfold wDel1
 split
 ·exact h
 rename_i h3
 obtain ⟨P,h1,h2⟩:=h
 refine ⟨P,h1,fun c hc => ?_⟩
 rcases List.mem_append.1 hc with hc | hc
 ·exact h2 c hc
 ·rw [List.mem_singleton.1 hc]
  have h4 : kvget A.now key ≠ none:=by
   rw [← now_same ok hw (by simpa using fun e => h3 (.inl e))]
   exact fun e => h3 (.inr e)
  cases hg : kvget A.now key with
  | none => exact absurd hg h4
  | some x =>
   obtain ⟨hx,hk⟩:=kvget_some hg
   exact List.mem_append_left _ (List.mem_map.2 ⟨x,hx,hk⟩)
theorem WB.dels (ok:StoOK A) : ∀ {ks:List Key} {W:Wr},WrOK A W → WB A W k → WB A (wDels W ks).2 k
 | [],_,_,h => h
 | q :: ks,W,hw,h => WB.dels ok (ks:=ks) (wDel1_ok ok (now_keys ok) hw) (h.del1 ok hw)
theorem WB.len (h:WB A W k) (hw:WrOK A W) : W.l.length ≤ A.now.length + k:=by
 obtain ⟨P,h1,h2⟩:=h
 have:=nodup_le hw.nd (m:=A.now.map Kv.key ++ P) fun x hx => by
  obtain ⟨c,hc,rfl⟩:=List.mem_map.1 hx
  exact h2 c hc
 simp only [List.length_map,List.length_append] at this
 omega
theorem WB.cur (h:WB A W k) (ok:StoOK A) (hw:WrOK A W) : W.cur.length ≤ A.now.length + k:=by
 obtain ⟨P,h1,h2⟩:=h
 have:=nodup_le (hw.srt ok).nodup (m:=A.now.map Kv.key ++ P) fun x hx => by
  obtain ⟨y,hy,rfl⟩:=List.mem_map.1 hx
  rw [hw.cur] at hy
  rcases kvL_memL hy with hy | hy
  ·exact List.mem_append_left _ (List.mem_map_of_mem hy)
  ·exact h2 _ hy
 simp only [List.length_map,List.length_append] at this
 omega
end
theorem stDone_len {A:Sto} {W:Wr} : (stDone A W).chs.length = A.chs.length + W.l.length∧(stDone A W).old = A.old∧(stDone A W).past = A.past∧A.rev ≤ (stDone A W).rev∧(stDone A W).rev ≤ A.rev + 1:=by
 unfold stDone
 split
 ·rename_i h
  refine ⟨by rw [h]; simp,rfl,rfl,Int.le_refl _,by omega⟩
 ·exact ⟨by simp,rfl,rfl,by show A.rev ≤ A.rev + 1; omega,Int.le_refl _⟩
def topK (n:Nat) : Key:=List.replicate n 255
theorem topK_lt : ∀ {k:Key} {n:Nat},k.length < n → ltK k (topK n) = true
 | [],n + 1,_ => rfl
 | a :: k,n + 1,h => by
  have ih:=topK_lt (k:=k) (n:=n) (by simpa using h)
  have e : ltK (a :: k) (topK (n + 1)) = (decide (a < 255) || (a == 255 && ltK k (topK n))):=by
   unfold ltK topK
   simp [List.replicate_succ,Op.bytesLess]
  rw [e,ih]
  by_cases ha : a = 255
  ·simp [ha]
  ·have : a < 255:=by
    rw [UInt8.lt_iff_toNat_lt]
    have h1:=a.toNat_lt
    have h2 : a.toNat ≠ 255:=fun h => ha (UInt8.toNat_inj.1 h)
    show a.toNat < 255
    omega
   simp [this]
theorem inK_all {k:Key} (h1 : k ≠ []) (h2 : k.length ≤ 100) : inK [0] (topK 101) k = true:=by
 have h3:=topK_lt (k:=k) (n:=101) (by omega)
 have h4 : ltK k [0] = false:=by
  cases k with
  | nil => exact absurd rfl h1
  | cons a k =>
   have e : ltK (a :: k) [0] = (decide (a < 0) || (a == 0 && ltK k [])):=by
    unfold ltK
    simp [Op.bytesLess]
   have e2 : ltK k [] = false:=by cases k <;> rfl
   rw [e,e2]
   simp
 unfold inK inR
 rw [if_neg (by simp [topK,List.replicate_succ]),h3,h4]
 simp
theorem cutL_all {α:Type} {l:List α} : cutL 0 l = l:=rfl
theorem wDels_skip : ∀ {ks:List Key} {W:Wr},SrtK W.cur → ks.Nodup → wDels W ks = wDels W (ks.filter fun k => (kvget W.cur k).isSome)
 | [],_,_,_ => rfl
 | k :: ks,W,hS,hn => by
  obtain ⟨h1,h2⟩:=List.nodup_cons.1 hn
  cases hg : kvget W.cur k with
  | none =>
   have e : wDel1 W k = (0,W):=by rw [wDel1,if_pos (.inr hg)]
   rw [List.filter_cons_of_neg (by simp [hg]),← wDels_skip hS h2]
   show ((wDel1 W k).1 + (wDels (wDel1 W k).2 ks).1,(wDels (wDel1 W k).2 ks).2) = _
   rw [e]
   show (0 + (wDels W ks).1,(wDels W ks).2) = _
   rw [Nat.zero_add]
  | some y =>
   have hS1 : SrtK (wDel1 W k).2.cur:=by
    unfold wDel1; split
    ·exact hS
    ·exact done_srt hS
   have hq : ∀ q ∈ ks,(kvget (wDel1 W k).2.cur q).isSome = (kvget W.cur q).isSome:=by
    intro q hq
    unfold wDel1; split
    ·rfl
    ·show (kvget (done W.cur (.del k)) q).isSome = _
     rw [kvget_done hS,if_neg (show ¬ q = (Ch.del k).key from fun e => h1 (by rw [← show q = k from e]; exact hq))]
   rw [List.filter_cons_of_pos (by simp [hg])]
   show ((wDel1 W k).1 + (wDels (wDel1 W k).2 ks).1,(wDels (wDel1 W k).2 ks).2) = ((wDel1 W k).1 + (wDels (wDel1 W k).2 (ks.filter _)).1,(wDels (wDel1 W k).2 (ks.filter _)).2)
   rw [wDels_skip hS1 h2,List.filter_congr hq]
theorem wDels_same {A:Sto} {W:Wr} {lo hi : Key} (ok:StoOK A) (hw:WrOK A W) {ks:List Key} (hs:SrtS ks) (h1:∀ k ∈ ks,inK lo hi k = true) (h2:∀ y ∈ W.cur,inK lo hi y.key = true → y.key ∈ ks) : wDels W ks = wDels W ((W.cur.filter fun y => inK lo hi y.key).map Kv.key):=by
 have hS:=hw.srt ok
 rw [wDels_skip hS hs.nodup]
 congr 1
 refine srts_ext (List.Pairwise.filter _ hs) ?_ fun k => ?_
 ·unfold SrtS
  rw [List.pairwise_map]
  exact hS.filter _
 ·rw [List.mem_filter,List.mem_map]
  constructor
  ·rintro ⟨hk,hg⟩
   cases hq : kvget W.cur k with
   | none => rw [hq] at hg; cases hg
   | some y =>
    obtain ⟨hy,rfl⟩:=kvget_some hq
    exact ⟨y,List.mem_filter.2 ⟨hy,h1 _ hk⟩,rfl⟩
  ·rintro ⟨y,hy,rfl⟩
   obtain ⟨hy,hin⟩:=List.mem_filter.1 hy
   exact ⟨h2 y hy hin,by rw [kvget_mem hS hy]; rfl⟩
end Go.Hz
/- A store's bytes; bytes that are read, though they may be cut short. -/
namespace Go.Hz
def svKv (x:Kv) : List UInt8:=txB x.key ++ (txB x.val ++ (beB 8 x.create ++ (beB 8 x.mod ++ (beB 8 x.ver ++ beB 8 x.lease))))
def RS.Cut (s:RS) (r:List UInt8) : Prop:=s.err = 0∧s.a ≤ s.b.length∧∃ q,q ≠ []∧s.b.drop s.a ++ q = r
def RdG (m:Option (List UInt8)) (s:RS) (r:List UInt8) : Prop:=match m with
 | some t => s.At (r ++ t)
 | none => s.Cut r
def RdD (m:Option (List UInt8)) (s:RS) : Prop:=m = none∧s.err = 8
theorem RdD.val {m:Option (List UInt8)} {s:RS} (h:RdD m s) (n:Nat) : s.val n = 0:=(RS.dead h.2).1 n
theorem RdD.adv {m:Option (List UInt8)} {s:RS} (h:RdD m s) (n:Nat) : s.adv n = s:=(RS.dead h.2).2.1 n
theorem RdD.tx {m:Option (List UInt8)} {s:RS} (h:RdD m s) : s.tx = []:=(RS.dead h.2).2.2.1
theorem RdD.atx {m:Option (List UInt8)} {s:RS} (h:RdD m s) : s.atx = s:=(RS.dead h.2).2.2.2
theorem RdG.err {m:Option (List UInt8)} {s:RS} {r:List UInt8} (h:RdG m s r) : s.err = 0:=by
 cases m <;> exact h.1
theorem RS.Cut.cut {s:RS} {x t : List UInt8} (h : s.Cut (x ++ t)) : (∃ r q,q ≠ []∧r ++ q = t∧s.At (x ++ r)) ∨ (s.err = 0∧s.b.length - s.a < x.length):=by
 obtain ⟨h1,h2,q,h3,h4⟩:=h
 by_cases hl : x.length ≤ s.b.length - s.a
 ·left
  have e1 : (s.b.drop s.a).take x.length = x:=by
   have:=congrArg (List.take x.length) h4
   rw [List.take_append_of_le_length (by rw [List.length_drop]; exact hl),List.take_left] at this
   exact this
  have e2:=List.take_append_drop x.length (s.b.drop s.a)
  rw [e1] at e2
  refine ⟨(s.b.drop s.a).drop x.length,q,h3,?_,h1,e2.symm,h2⟩
  rw [← e2,List.append_assoc] at h4
  exact List.append_cancel_left h4
 ·exact .inr ⟨h1,by omega⟩
theorem RS.short {s:RS} {n:Nat} (h : s.b.length - s.a < n) : s.ok n = false:=by
 simp [RS.ok]; omega
theorem RdG.be {m:Option (List UInt8)} {s:RS} {k:Nat} {n:Int} {t:List UInt8} {P:Prop} (h:RdG m s (beB k n ++ t)) (hk:∀ t,s.At (beB k n ++ t) → P∧(s.adv k).At t) : (P∧RdG m (s.adv k) t) ∨ RdD m (s.adv k):=by
 cases m with
 | some q =>
  have h : s.At ((beB k n ++ t) ++ q):=h
  rw [List.append_assoc] at h
  exact .inl (hk _ h)
 | none =>
  rcases RS.Cut.cut h with ⟨r,q,h1,h2,h3⟩ | ⟨h1,h2⟩
  ·obtain ⟨h4,h5⟩:=hk _ h3
   exact .inl ⟨h4,h5.1,h5.2.2,q,h1,by rw [h5.2.1]; exact h2⟩
  ·rw [beB_length] at h2
   exact .inr ⟨rfl,by unfold RS.adv; rw [RS.short h2]; rfl⟩
theorem RdG.i8 {m:Option (List UInt8)} {s:RS} {n:Int} {t:List UInt8} (h:RdG m s (beB 8 n ++ t)) (h1 : -9223372036854775808 ≤ n) (h2 : n ≤ 9223372036854775807) : (s.val 8 = n∧RdG m (s.adv 8) t) ∨ (s.val 8 = 0∧RdD m (s.adv 8)):=by
 have hz : s.ok 8 = false → s.val 8 = 0:=fun h => by unfold RS.val; rw [h]; rfl
 rcases h.be (fun t h => h.i8 h1 h2) with h | h
 ·exact .inl h
 ·refine .inr ⟨?_,h⟩
  have:=h.2
  unfold RS.adv at this
  cases hok : s.ok 8 with
  | false => exact hz hok
  | true => rw [hok] at this; have h3:=(RS.ok_le hok).1; simp [h3] at this
theorem RdG.i1 {m:Option (List UInt8)} {s:RS} {n:Int} {t:List UInt8} (h:RdG m s (beB 1 n ++ t)) (h1 : 0 ≤ n) (h2 : n < 256) : (s.val 1 = n∧RdG m (s.adv 1) t) ∨ (s.val 1 = 0∧RdD m (s.adv 1)):=by
 have hz : s.ok 1 = false → s.val 1 = 0:=fun h => by unfold RS.val; rw [h]; rfl
 rcases h.be (fun t h => h.i1 h1 h2) with h | h
 ·exact .inl h
 ·refine .inr ⟨?_,h⟩
  have:=h.2
  unfold RS.adv at this
  cases hok : s.ok 1 with
  | false => exact hz hok
  | true => rw [hok] at this; have h3:=(RS.ok_le hok).1; simp [h3] at this
theorem RdG.t {m:Option (List UInt8)} {s:RS} {x t : List UInt8} (h:RdG m s (txB x ++ t)) (hx : x.length < 4294967296) : (s.tx = x∧RdG m s.atx t) ∨ (s.tx = []∧RdD m s.atx):=by
 cases m with
 | some q =>
  have h : s.At ((txB x ++ t) ++ q):=h
  rw [List.append_assoc] at h
  exact .inl (h.t hx)
 | none =>
  rcases RS.Cut.cut h with ⟨r,q,h1,h2,h3⟩ | ⟨h1,h2⟩
  ·obtain ⟨h4,h5⟩:=h3.t hx
   exact .inl ⟨h4,h5.1,h5.2.2,q,h1,by rw [h5.2.1]; exact h2⟩
  ·right
   have hno : (s.adv 4).ok s.txk = false:=by
    unfold txB at h
    have h : RdG none s (beB 4 (x.length : Int) ++ (x ++ t)):=by rw [← List.append_assoc]; exact h
    have h3:=h.be (P:=s.txk = x.length∧(s.adv 4).b.length - (s.adv 4).a < x.length) fun t' h' => by
     obtain ⟨a,b,c⟩:=RS.be4 h'.1 h'.2.1
     have hl:=congrArg List.length h'.2.1
     simp [beB_length] at hl
     rw [txB_length] at h2
     refine ⟨⟨?_,?_⟩,?_⟩
     ·unfold RS.txk
      rw [a]; omega
     ·rw [b]; show s.b.length - (s.a + 4) < _; omega
     ·rw [b]; exact ⟨rfl,c,by show s.a + 4 ≤ s.b.length; omega⟩
    rcases h3 with ⟨⟨h4,h5⟩,_⟩ | h4
    ·rw [h4]; exact RS.short h5
    ·have:=h4.2
     simp [RS.ok,this]
   refine ⟨?_,rfl,?_⟩
   ·unfold RS.tx; rw [hno]; rfl
   ·unfold RS.atx; rw [hno]; rfl
def RS.kv (s:RS) : Kv:=⟨s.tx,s.atx.tx,s.atx.atx.val 8,(s.atx.atx.adv 8).val 8,((s.atx.atx.adv 8).adv 8).val 8,(((s.atx.atx.adv 8).adv 8).adv 8).val 8⟩
def RS.akv (s:RS) : RS:=(((s.atx.atx.adv 8).adv 8).adv 8).adv 8
def i64 (n:Int) : Prop := -9223372036854775808 ≤ n∧n ≤ 9223372036854775807
def KvW (x:Kv) : Prop:=x.key.length < 4294967296∧x.val.length < 4294967296∧i64 x.create∧i64 x.mod∧i64 x.ver∧i64 x.lease
theorem RdD.kv {m:Option (List UInt8)} {s:RS} (h:RdD m s) : s.kv = ⟨[],[],0,0,0,0⟩∧s.akv = s:=by
 unfold RS.kv RS.akv
 simp only [h.tx,h.atx,h.val,h.adv,and_self]
theorem RdG.kv {m:Option (List UInt8)} {s:RS} {x:Kv} {t:List UInt8} (h:RdG m s (svKv x ++ t)) (hx:KvW x) : (s.kv = x∧RdG m s.akv t) ∨ (RdD m s.akv∧(s.kv.key = x.key ∨ s.kv.key = [])∧(s.kv.val = x.val ∨ s.kv.val = [])∧(s.kv.lease = x.lease ∨ s.kv.lease = 0)):=by
 obtain ⟨h1,h2,h3,h4,h5,h6⟩:=hx
 obtain ⟨k,v,c,mo,ve,le⟩:=x
 unfold svKv at h
 simp only [List.append_assoc] at h
 unfold RS.kv RS.akv
 rcases h.t h1 with ⟨a1,h⟩ | ⟨a1,d⟩
 rotate_left
 ·simp only [a1,d.tx,d.atx,d.val,d.adv]
  exact .inr ⟨d,by simp⟩
 rcases h.t h2 with ⟨a2,h⟩ | ⟨a2,d⟩
 rotate_left
 ·simp only [a1,a2,d.val,d.adv]
  exact .inr ⟨d,by simp⟩
 rcases h.i8 h3.1 h3.2 with ⟨a3,h⟩ | ⟨a3,d⟩
 rotate_left
 ·simp only [a1,a2,a3,d.val,d.adv]
  exact .inr ⟨d,by simp⟩
 rcases h.i8 h4.1 h4.2 with ⟨a4,h⟩ | ⟨a4,d⟩
 rotate_left
 ·simp only [a1,a2,a3,a4,d.val,d.adv]
  exact .inr ⟨d,by simp⟩
 rcases h.i8 h5.1 h5.2 with ⟨a5,h⟩ | ⟨a5,d⟩
 rotate_left
 ·simp only [a1,a2,a3,a4,a5,d.val,d.adv]
  exact .inr ⟨d,by simp⟩
 rcases h.i8 h6.1 h6.2 with ⟨a6,h⟩ | ⟨a6,d⟩
 rotate_left
 ·simp only [a1,a2,a3,a4,a5,a6]
  exact .inr ⟨d,by simp⟩
 simp only [a1,a2,a3,a4,a5,a6]
 exact .inl ⟨trivial,h⟩
theorem RdG.fin {s:RS} (h:RdG none s []) : False:=by
 obtain ⟨_,_,q,h1,h2⟩:=h
 exact h1 (List.append_eq_nil_iff.1 h2).2
structure StoFine (A:Sto) : Prop where
 den : ∀ r,A.past < r → r ≤ A.rev → ∃ v ∈ A.chs,v.rev = r
 num : ∀ a b,A.chs = a ++ b → (doneL A.old (a.map Ver.c)).length ≤ 4096
 right : ∀ a v b,A.chs = a ++ v :: b → ∀ x,v.c = .put x → x = wNew v.rev ⟨doneL A.old (a.map Ver.c),[]⟩ x.key x.val x.lease
 lea : (∀ x ∈ A.old,x.lease ≤ 9223372036854775807)∧∀ v ∈ A.chs,∀ x,v.c = .put x → x.lease ≤ 9223372036854775807
structure WrFine (A:Sto) (W:Wr) : Prop where
 num : ∀ a b,W.l = a ++ b → (doneL A.now a).length ≤ 4096
 right : ∀ a c b,W.l = a ++ c :: b → ∀ x,c = .put x → x = wNew (A.rev + 1) ⟨doneL A.now a,[]⟩ x.key x.val x.lease
 lea : ∀ x,Ch.put x ∈ W.l → x.lease ≤ 9223372036854775807
section
variable {A:Sto} {W:Wr}
theorem WrFine.snoc (h:WrFine A W) (hw:WrOK A W) {c:Ch} (h1:(done W.cur c).length ≤ 4096) (h2:∀ x,c = .put x → x = wNew (A.rev + 1) W x.key x.val x.lease) (h3:∀ x,c = .put x → x.lease ≤ 9223372036854775807) : WrFine A ⟨done W.cur c,W.l ++ [c]⟩:=by
 refine ⟨fun a b hab => ?_,fun a d b hab x hx => ?_,fun x hx => ?_⟩
 rotate_right
 ·rcases List.mem_append.1 hx with hx | hx
  ·exact h.lea x hx
  ·exact h3 x (List.mem_singleton.1 hx).symm
 ·rcases List.eq_nil_or_concat b with rfl | ⟨b',y,rfl⟩
  ·have e : W.l ++ [c] = a:=by simpa using hab
   rw [← e,doneL_snoc,← hw.cur]; exact h1
  ·rw [List.concat_eq_append,← List.append_assoc] at hab
   exact h.num a b' (List.append_inj' hab rfl).1
 ·rcases List.eq_nil_or_concat b with rfl | ⟨b',y,rfl⟩
  ·have : W.l = a∧[c] = [d]:=List.append_inj' (t₁:=[c]) hab rfl
   obtain ⟨rfl,h5⟩:=this
   cases h5
   rw [← hw.cur]
   exact h2 x hx
  ·rw [List.concat_eq_append,← List.cons_append,← List.append_assoc] at hab
   exact h.right a d b' (List.append_inj' hab rfl).1 x hx
theorem WrFine.cur (h:WrFine A W) (hw:WrOK A W) : W.cur.length ≤ 4096:=by
 rw [hw.cur]; exact h.num W.l [] (by simp)
theorem WrFine.put (h:WrFine A W) (ok:StoOK A) (hw:WrOK A W) {key val : Key} {lease:Int} (hle : lease ≤ 9223372036854775807) : WrFine A (wPut (A.rev + 1) W key val lease).2:=by
 unfold wPut
 split
 ·exact h
 split
 ·exact h
 split
 ·exact h
 split
 ·exact h
 rename_i h4
 have h5:=h.cur hw
 refine h.snoc hw ?_ ?_ ?_
 rotate_right
 ·intro x hx
  injection hx with hx
  subst hx
  have e3 : (wNew (A.rev + 1) W key val lease).lease = lease:=by unfold wNew; split <;> rfl
  rw [e3]; exact hle
 ·rw [done_len (hw.srt ok),show (Ch.put _).key = key from wNew_key]
  cases hg : kvget W.cur key with
  | none =>
   have : W.cur.length < 4096:=by
    refine Nat.lt_of_not_le fun h6 => h4 ⟨hg,h6⟩
   simp [Ch.kv]; omega
  | some x => simp [Ch.kv]; omega
 ·intro x hx
  injection hx with hx
  subst hx
  have e1 : (wNew (A.rev + 1) W key val lease).key = key:=wNew_key
  have e2 : (wNew (A.rev + 1) W key val lease).val = val:=by unfold wNew; split <;> rfl
  have e3 : (wNew (A.rev + 1) W key val lease).lease = lease:=by unfold wNew; split <;> rfl
  rw [e1,e2,e3]
theorem WrFine.del1 (h:WrFine A W) (ok:StoOK A) (hw:WrOK A W) {key:Key} : WrFine A (wDel1 W key).2:=by
 unfold wDel1
 split
 ·exact h
 have h5:=h.cur hw
 refine h.snoc hw ?_ (fun x hx => by cases hx) (fun x hx => by cases hx)
 rw [done_len (hw.srt ok)]
 simp [Ch.kv]; omega
theorem WrFine.dels (ok:StoOK A) : ∀ {ks:List Key} {W:Wr},WrOK A W → WrFine A W → WrFine A (wDels W ks).2
 | [],_,_,h => h
 | q :: ks,W,hw,h => WrFine.dels ok (ks:=ks) (wDel1_ok ok (now_keys ok) hw) (h.del1 ok hw)
end
end Go.Hz
/- Calls of a store, among a law's arguments. -/
namespace Go.Hz
structure Do8 where
 kind : Int
 lease : Int
 key : Key
 hi : Key
 val : Key
structure Cl8 where
 kind : Int
 rev : Int
 limit : Int
 lo : Key
 hi : Key
 does : List Do8
def Do8.row (d:Do8) : List AV:=[.int .i64 d.kind,.int .i64 d.lease,.str d.key,.str d.hi,.str d.val]
def doesV (l:List Do8) : AV:=.lst (l.map Do8.row)
def Cl8.row (c:Cl8) : List AV:=[.int .i64 c.kind,.int .i64 c.rev,.int .i64 c.limit,.str c.lo,.str c.hi,doesV c.does]
def Do8.ok (d:Do8) : Prop:=inI d.kind∧inI d.lease∧d.key.length ≤ 1048576∧d.hi.length ≤ 1048576∧d.val.length ≤ 1048576
def Cl8.ok (c:Cl8) : Prop:=inI c.kind∧inI c.rev∧inI c.limit∧c.lo.length ≤ 1048576∧c.hi.length ≤ 1048576∧c.does.length ≤ 1048576∧∀ d ∈ c.does,d.ok
end Go.Hz
/- Transactions: comparisons, operations, what may be, what is done. -/
namespace Go.Hz
structure If9 where
 key : Key
 tgt : Int
 sign : Int
 n : Int
 text : Key
deriving DecidableEq
structure Op9 where
 kind : Int
 key : Key
 fin : Key
 val : Key
 lease : Int
 lim : Int
deriving DecidableEq
structure Tx9 where
 ifs : List If9
 thn : List Op9
 els : List Op9
deriving DecidableEq
def If9.row (c:If9) : List AV:=[.str c.key,.int .i64 c.tgt,.int .i64 c.sign,.int .i64 c.n,.str c.text]
def Op9.row (o:Op9) : List AV:=[.int .i64 o.kind,.str o.key,.str o.fin,.str o.val,.int .i64 o.lease,.int .i64 o.lim]
def ifsV (l:List If9) : AV:=.lst (l.map If9.row)
def opsV (l:List Op9) : AV:=.lst (l.map Op9.row)
def Tx9.row (t:Tx9) : List AV:=[ifsV t.ifs,opsV t.thn,opsV t.els]
def tKey (k:Key) : Bool := !(k == []) && decide (k.length ≤ 100)
def eF (a b : Int) : Int:=if a = 0 then b else a
def tIf (c:If9) : Int:=if tKey c.key = false then 1 else if 0 ≤ c.tgt∧c.tgt ≤ 4∧0 ≤ c.sign∧c.sign ≤ 3 then 0 else 3
def tOp (o:Op9) : Int:=if ¬ (0 ≤ o.kind∧o.kind ≤ 2) then 3 else if tKey o.key = false ∨ (o.fin ≠ []∧ltK o.key o.fin = false) then 1 else if o.kind = 0∧(o.fin ≠ [] ∨ o.lease < 0) then 1 else if o.kind = 0∧4096 < o.val.length then 5 else 0
def tIn (k:Key) (o:Op9) : Bool:=k == o.key || (!(o.fin == []) && (ltK o.key k && ltK k o.fin))
def tTwo (a b : Op9) : Bool:=decide (a.kind = 0) && (!decide (b.kind = 2) && tIn a.key b)
def tTwice (l:List Op9) : Bool:=l.zipIdx.any fun a => l.zipIdx.any fun b => (a.2 != b.2) && tTwo a.1 b.1
def eL (l:List Int) : Int:=l.foldl eF 0
def tBad (t:Tx9) : Int:=eL (t.ifs.map tIf ++ (t.thn.map tOp ++ t.els.map tOp))
def tCheck (t:Tx9) : Int:=if 32 < t.ifs.length ∨ 32 < t.thn.length ∨ 32 < t.els.length then 4 else eF (tBad t) (if tTwice t.thn = true ∨ tTwice t.els = true then 18 else 0)
theorem tTwice_t {l:List Op9} {i j : Nat} (hi : i < l.length) (hj : j < l.length) (hn : i ≠ j) (h : tTwo l[i] l[j] = true) : tTwice l = true:=by
 unfold tTwice
 rw [List.any_eq_true]
 refine ⟨(l[i],i),List.mem_iff_getElem.2 ⟨i,by simpa using hi,by simp⟩,?_⟩
 rw [List.any_eq_true]
 refine ⟨(l[j],j),List.mem_iff_getElem.2 ⟨j,by simpa using hj,by simp⟩,?_⟩
 simp [hn,h]
theorem tTwice_f {l:List Op9} (h:∀ i j (hi : i < l.length) (hj : j < l.length),i ≠ j → tTwo l[i] l[j] = false) : tTwice l = false:=by
 unfold tTwice
 rw [List.any_eq_false]
 intro a ha
 obtain ⟨i,hi,rfl⟩:=List.getElem_of_mem ha
 simp only [Bool.not_eq_true,List.any_eq_false]
 intro b hb
 obtain ⟨j,hj,rfl⟩:=List.getElem_of_mem hb
 simp only [List.length_zipIdx] at hi hj
 simp only [List.getElem_zipIdx,Nat.zero_add]
 by_cases hn : i = j
 ·simp [hn]
 ·have:=h i j hi hj hn
  simp [this]
theorem eF_zero {a b : Int} : eF a b = 0 ↔ a = 0∧b = 0:=by
 unfold eF; split <;> simp_all
theorem eF_assoc {a b c : Int} : eF (eF a b) c = eF a (eF b c):=by
 unfold eF; split <;> simp_all
theorem eF_0 {a:Int} : eF 0 a = a:=by simp [eF]
theorem eF_r {a:Int} : eF a 0 = a:=by unfold eF; split <;> simp_all
theorem eL_from {l:List Int} : ∀ {a:Int},l.foldl eF a = eF a (eL l):=by
 induction l with
 | nil => intro a; simp [eL,eF_r]
 | cons x l ih =>
  intro a
  show l.foldl eF (eF a x) = _
  rw [ih,eF_assoc]
  congr 1
  show _ = l.foldl eF (eF 0 x)
  rw [ih,eF_0]
theorem eL_cons {x:Int} {l:List Int} : eL (x :: l) = eF x (eL l):=by
 show l.foldl eF (eF 0 x) = _
 rw [eL_from,eF_0]
theorem eL_app {a b : List Int} : eL (a ++ b) = eF (eL a) (eL b):=by
 unfold eL
 rw [List.foldl_append,eL_from]; rfl
theorem eL_snoc {x:Int} {l:List Int} : eL (l ++ [x]) = eF (eL l) x:=by
 unfold eL
 rw [List.foldl_append]; rfl
theorem eL_zero {l:List Int} : eL l = 0 ↔ ∀ x ∈ l,x = 0:=by
 induction l with
 | nil => simp [eL]
 | cons x l ih => rw [eL_cons,eF_zero,ih]; simp
theorem tBad_eq {t:Tx9} : tBad t = eF (eL (t.ifs.map tIf)) (eF (eL (t.thn.map tOp)) (eL (t.els.map tOp))):=by
 unfold tBad; rw [eL_app,eL_app]
structure Op9K (o:Op9) : Prop where
 kind : 0 ≤ o.kind∧o.kind ≤ 2
 key : o.key ≠ []∧o.key.length ≤ 100
 fin : o.fin = [] ∨ ltK o.key o.fin = true
 put : o.kind = 0 → o.fin = []∧0 ≤ o.lease∧o.val.length ≤ 4096
theorem tKey_t {k:Key} (h : tKey k = true) : k ≠ []∧k.length ≤ 100:=by
 simpa [tKey] using h
theorem tOp_ok {o:Op9} (h : tOp o = 0) : Op9K o:=by
 unfold tOp at h
 split at h
 ·simp at h
 rename_i h1
 split at h
 ·simp at h
 rename_i h2
 split at h
 ·simp at h
 rename_i h3
 split at h
 ·simp at h
 rename_i h4
 have h1 : 0 ≤ o.kind∧o.kind ≤ 2:=Classical.not_not.1 h1
 refine ⟨h1,?_,?_,fun hk => ⟨?_,?_,?_⟩⟩
 ·cases hh : tKey o.key with
  | false => exact absurd (.inl hh) h2
  | true => exact tKey_t hh
 ·by_cases hf : o.fin = []
  ·exact .inl hf
  ·right
   cases hh : ltK o.key o.fin with
   | true => rfl
   | false => exact absurd (.inr ⟨hf,hh⟩) h2
 ·apply Classical.byContradiction; intro hf; exact h3 ⟨hk,.inl hf⟩
 ·apply Classical.byContradiction; intro hf; exact h3 ⟨hk,.inr (by omega)⟩
 ·apply Classical.byContradiction; intro hf; exact h4 ⟨hk,by omega⟩
structure TxOK (t:Tx9) : Prop where
 n1 : t.ifs.length ≤ 32
 n2 : t.thn.length ≤ 32
 n3 : t.els.length ≤ 32
 ifs : ∀ c ∈ t.ifs,tIf c = 0
 thn : ∀ o ∈ t.thn,Op9K o
 els : ∀ o ∈ t.els,Op9K o
theorem tCheck_ok {t:Tx9} (h : tCheck t = 0) : TxOK t:=by
 unfold tCheck at h
 split at h
 ·simp at h
 rename_i h1
 obtain ⟨h2,_⟩:=eF_zero.1 h
 have h3:=eL_zero.1 h2
 refine ⟨by omega,by omega,by omega,fun c hc => h3 _ ?_,fun o ho => tOp_ok (h3 _ ?_),fun o ho => tOp_ok (h3 _ ?_)⟩
 ·exact List.mem_append_left _ (List.mem_map_of_mem hc)
 ·exact List.mem_append_right _ (List.mem_append_left _ (List.mem_map_of_mem ho))
 ·exact List.mem_append_right _ (List.mem_append_right _ (List.mem_map_of_mem ho))
def cmpI (a b : Int) : Int:=if a < b then -1 else if b < a then 1 else 0
def cmpK (a b : Key) : Int:=if ltK a b = true then -1 else if ltK b a = true then 1 else 0
def tNum (x:Kv) (t:Int) : Int:=if t = 0 then x.ver else if t = 1 then x.create else if t = 2 then x.mod else x.lease
def tAgainst (x:Kv) (c:If9) : Int:=if c.tgt = 4 then cmpK x.val c.text else cmpI (tNum x c.tgt) c.n
def tSign (s c : Int) : Bool:=if s = 0 then decide (c = 0) else if s = 1 then decide (c ≠ 0) else if s = 2 then decide (c < 0) else if s = 3 then decide (0 < c) else false
def tHold (now:List Kv) (c:If9) : Bool:=decide (0 ≤ c.tgt∧c.tgt ≤ 4) && tSign c.sign (tAgainst ((kvget now c.key).getD kv0) c)
def tHolds (now:List Kv) (l:List If9) : Bool:=l.all (tHold now)
def kvSize (l:List Kv) : Nat:=(l.map fun x => x.key.length + x.val.length + 40).sum
def tStep (r:Int) (W:Wr) (o:Op9) : (Res × Nat × Int) × Wr :=
 if o.kind = 0 then ((⟨if (kvget W.cur o.key).isSome = true then 1 else 0,[]⟩,0,(wPut r W o.key o.val o.lease).1),(wPut r W o.key o.val o.lease).2)
 else if o.kind = 1 then ((⟨(wDels W ((W.cur.filter fun y => inK o.key o.fin y.key).map Kv.key)).1,[]⟩,0,0),(wDels W ((W.cur.filter fun y => inK o.key o.fin y.key).map Kv.key)).2)
 else ((⟨(rngL W.cur o.key o.fin o.lim).2,(rngL W.cur o.key o.fin o.lim).1⟩,kvSize (rngL W.cur o.key o.fin o.lim).1,0),W)
def tRun (r:Int) : Wr → List Op9 → (List Res × Nat) × Int × Wr
 | W,[] => (([],0),0,W)
 | W,o :: l =>
  if (tStep r W o).1.2.2 ≠ 0 then (([],0),(tStep r W o).1.2.2,W)
  else let q:=tRun r (tStep r W o).2 l
   (((tStep r W o).1.1 :: q.1.1,(tStep r W o).1.2.1 + q.1.2),q.2.1,q.2.2)
def tOps (now:List Kv) (t:Tx9) : List Op9:=if tHolds now t.ifs = true then t.thn else t.els
def tNoL (has:Int → Bool) (o:Op9) : Bool:=decide (o.kind = 0) && (!decide (o.lease = 0) && !has o.lease)
def tDo (A:Sto) (has:Int → Bool) (t:Tx9) : (Bool × List Res × Int) × Sto :=
 if tCheck t ≠ 0 then ((false,[],tCheck t),A) else
 if (tOps A.now t).any (tNoL has) = true then ((false,[],19),A) else
 let q:=tRun (A.rev + 1) ⟨A.now,[]⟩ (tOps A.now t)
 if q.2.1 ≠ 0 then ((false,[],q.2.1),A) else if 65536 < q.1.2 then ((false,[],5),A) else ((tHolds A.now t.ifs,q.1.1,0),stDone A q.2.2)
section
variable {A:Sto} {W:Wr} {k:Nat}
theorem tStep_ok (ok:StoOK A) (hw:WrOK A W) {o:Op9} : WrOK A (tStep (A.rev + 1) W o).2:=by
 unfold tStep
 split
 ·exact wPut_ok ok hw
 split
 ·exact wDels_ok ok (now_keys ok) hw
 ·exact hw
theorem tStep_wb (ok:StoOK A) (hw:WrOK A W) (h:WB A W k) {o:Op9} : WB A (tStep (A.rev + 1) W o).2 (k + 1):=by
 unfold tStep
 split
 ·exact h.put
 split
 ·exact (WB.dels ok hw h).mono (by omega)
 ·exact h.mono (by omega)
theorem tRun_ok (ok:StoOK A) : ∀ {l:List Op9} {W:Wr} {k:Nat},WrOK A W → WB A W k → WrOK A (tRun (A.rev + 1) W l).2.2∧WB A (tRun (A.rev + 1) W l).2.2 (k + l.length)
 | [],W,k,hw,h => ⟨hw,h⟩
 | o :: l,W,k,hw,h => by
  unfold tRun
  split
  ·exact ⟨hw,h.mono (by omega)⟩
  ·obtain ⟨h1,h2⟩:=tRun_ok ok (l:=l) (tStep_ok ok hw (o:=o)) (tStep_wb ok hw h (o:=o))
   exact ⟨h1,h2.mono (by simp; omega)⟩
theorem cur_keys (ok:StoOK A) (hw:WrOK A W) : ∀ x ∈ W.cur,x.key ≠ []∧x.key.length ≤ 100:=by
 intro x hx
 rw [hw.cur] at hx
 rcases kvL_memL hx with h | h
 ·exact now_keys ok x h
 ·exact hw.key _ h
theorem kvSize_le {l:List Kv} (h:∀ x ∈ l,x.key.length ≤ 100∧x.val.length ≤ 4096) : kvSize l ≤ 4236 * l.length:=by
 induction l with
 | nil => simp [kvSize]
 | cons x l ih =>
  have h1:=h x (List.mem_cons_self ..)
  have h2:=ih fun y hy => h y (List.mem_cons_of_mem _ hy)
  unfold kvSize at *
  rw [List.map_cons,List.sum_cons,List.length_cons]
  omega
theorem rngL_mem {l:List Kv} {lo hi : Key} {lim:Int} : ∀ x ∈ (rngL l lo hi lim).1,x ∈ l:=by
 intro x hx
 unfold rngL cutL at hx
 split at hx
 ·exact (List.mem_filter.1 hx).1
 ·exact (List.mem_filter.1 (List.mem_of_mem_take hx)).1
theorem rngL_len {l:List Kv} {lo hi : Key} {lim:Int} : (rngL l lo hi lim).1.length ≤ l.length∧(rngL l lo hi lim).2 ≤ l.length :=
 ⟨Nat.le_trans cutL_len (List.length_filter_le _ _),List.length_filter_le _ _⟩
theorem tStep_size (ok:StoOK A) (hw:WrOK A W) {o:Op9} : (tStep (A.rev + 1) W o).1.2.1 ≤ 4236 * W.cur.length:=by
 unfold tStep
 split
 ·exact Nat.zero_le _
 split
 ·exact Nat.zero_le _
 ·refine Nat.le_trans (kvSize_le fun x hx => ?_) (Nat.mul_le_mul_left _ rngL_len.1)
  have hx:=rngL_mem x hx
  exact ⟨(cur_keys ok hw x hx).2,(cur_num ok hw x hx).2.2.2.2.2.2⟩
theorem tStep_kvs (ok:StoOK A) (hw:WrOK A W) {o:Op9} : (tStep (A.rev + 1) W o).1.1.kvs.length ≤ W.cur.length:=by
 unfold tStep
 split
 ·exact Nat.zero_le _
 split
 ·exact Nat.zero_le _
 ·exact rngL_len.1
theorem tRun_res (ok:StoOK A) {N:Nat} : ∀ {l:List Op9} {W:Wr} {k:Nat},WrOK A W → WB A W k → A.now.length + k + l.length ≤ N → (tRun (A.rev + 1) W l).1.1.length ≤ l.length∧∀ q ∈ (tRun (A.rev + 1) W l).1.1,q.kvs.length ≤ N
 | [],W,k,hw,h,_ => ⟨Nat.le_refl _,by simp [tRun]⟩
 | o :: l,W,k,hw,h,hN => by
  have hc:=h.cur ok hw
  have h0:=tStep_kvs ok hw (o:=o)
  rw [List.length_cons] at hN
  unfold tRun
  split
  ·exact ⟨Nat.zero_le _,by simp⟩
  ·obtain ⟨h1,h2⟩:=tRun_res ok (l:=l) (N:=N) (tStep_ok ok hw (o:=o)) (tStep_wb ok hw h (o:=o)) (by omega)
   refine ⟨by simp only [List.length_cons]; omega,fun q hq => ?_⟩
   rcases List.mem_cons.1 hq with rfl | hq
   ·omega
   ·exact h2 q hq
end
theorem tOps_ok {now:List Kv} {t:Tx9} (h:TxOK t) : (tOps now t).length ≤ 32∧∀ o ∈ tOps now t,Op9K o:=by
 unfold tOps
 split
 ·exact ⟨h.n2,h.thn⟩
 ·exact ⟨h.n3,h.els⟩
theorem tDo_go {A:Sto} {has:Int → Bool} {t:Tx9} {ops:List Op9} {res:List Res} {sz:Nat} {W:Wr} (hc : tCheck t = 0) (ho : tOps A.now t = ops) (hn : ops.any (tNoL has) = false) (hr : tRun (A.rev + 1) ⟨A.now,[]⟩ ops = ((res,sz),0,W)) (hs : sz ≤ 65536) :
  tDo A has t = ((tHolds A.now t.ifs,res,0),stDone A W):=by
 unfold tDo
 rw [if_neg (by simp [hc]),ho,if_neg (by simp [hn]),hr]
 simp only [ne_eq,not_true_eq_false,if_false]
 rw [if_neg (by omega)]
theorem tDo_st {A:Sto} {has:Int → Bool} {t:Tx9} (ok:StoOK A) : ∃ W,WrOK A W∧WB A W 32∧(tDo A has t).2 = stDone A W:=by
 have h0 : A = stDone A ⟨A.now,[]⟩:=by simp [stDone]
 have n0 : ∃ W,WrOK A W∧WB A W 32∧A = stDone A W:=⟨_,wrOK_nil A,wb_nil.mono (by omega),h0⟩
 unfold tDo
 split
 ·exact n0
 rename_i h1
 have hT:=tCheck_ok (Classical.not_not.1 h1)
 split
 ·exact n0
 simp only []
 split
 ·exact n0
 split
 ·exact n0
 obtain ⟨h2,h3⟩:=tRun_ok ok (l:=tOps A.now t) (wrOK_nil A) wb_nil
 exact ⟨_,h2,h3.mono (by have:=(tOps_ok (now:=A.now) hT).1; omega),rfl⟩
theorem gtK {a b : Key} : (!(Op.bytesLess a b || a == b)) = ltK b a:=by
 have e : Op.bytesLess a b = ltK a b:=rfl
 rw [e]
 cases h1 : ltK a b with
 | true =>
  cases h2 : ltK b a with
  | true => have:=ltK_trans h1 h2; rw [ltK_irrefl] at this; cases this
  | false => rfl
 | false =>
  cases h2 : ltK b a with
  | true =>
   have : (a == b) = false:=by
    rw [beq_eq_false_iff_ne]
    rintro rfl
    rw [ltK_irrefl] at h2; cases h2
   rw [this]; rfl
  | false =>
   have:=ltK_total h1 h2
   subst this
   simp
theorem filter_key {l:List Kv} (hs:SrtK l) (k:Key) : l.filter (fun x => inK k [] x.key) = (kvget l k).toList:=by
 have e : (fun x : Kv => inK k [] x.key) = fun x => x.key == k:=by funext x; simp [inK]
 rw [e]
 obtain ⟨a,b,_,_,h3,h4,h5⟩:=cut_key hs k
 have ha : a.filter (fun x => x.key == k) = []:=List.filter_eq_nil_iff.2 fun x hx => by
  have:=h3 x hx
  simp only [beq_iff_eq]; intro e; rw [e,ltK_irrefl] at this; cases this
 have hb : b.filter (fun x => x.key == k) = []:=List.filter_eq_nil_iff.2 fun x hx => by
  have:=h4 x hx
  simp only [beq_iff_eq]; intro e; rw [e,ltK_irrefl] at this; cases this
 rcases h5 with ⟨h5,h6⟩ | ⟨x,hx,h5,h6⟩
 ·rw [h6,h5,List.filter_append,ha,hb]; rfl
 ·rw [h6,h5,List.filter_append,ha,List.filter_cons_of_pos (by simpa using hx),hb]; rfl
theorem rng_one {l:List Kv} (hs:SrtK l) (k:Key) : rngL l k [] 0 = ((kvget l k).toList,(kvget l k).toList.length):=by
 unfold rngL cutL
 rw [filter_key hs]
 simp
theorem range_one {A:Sto} (ok:StoOK A) (k:Key) : stRange A k [] 0 0 = ((kvget A.now k).toList,(kvget A.now k).toList.length,0):=by
 have h1:=ok.past
 have h2:=ok.rev
 rw [stRange,if_neg (by omega),if_neg (by omega),if_neg (by omega),if_pos rfl,at_rev ok,rng_one (now_srt ok)]
theorem cmpI_b {a b : Int} : cmpI a b = -1 ∨ cmpI a b = 0 ∨ cmpI a b = 1:=by
 unfold cmpI; split
 ·exact .inl rfl
 ·split
  ·exact .inr (.inr rfl)
  ·exact .inr (.inl rfl)
theorem cmpK_b {a b : Key} : cmpK a b = -1 ∨ cmpK a b = 0 ∨ cmpK a b = 1:=by
 unfold cmpK; split
 ·exact .inl rfl
 ·split
  ·exact .inr (.inr rfl)
  ·exact .inr (.inl rfl)
theorem tAgainst_b {x:Kv} {c:If9} : tAgainst x c = -1 ∨ tAgainst x c = 0 ∨ tAgainst x c = 1:=by
 unfold tAgainst; split
 ·exact cmpK_b
 ·exact cmpI_b
theorem tDo_bad {A:Sto} {has:Int → Bool} {t:Tx9} {e:Int} (h : tCheck t = e) (he : e ≠ 0) : tDo A has t = ((false,[],e),A):=by
 unfold tDo
 rw [if_pos (by rw [h]; exact he),h]
theorem tDo_less {A:Sto} {has:Int → Bool} {t:Tx9} (h : tCheck t = 0) (h2:(tOps A.now t).any (tNoL has) = true) : tDo A has t = ((false,[],19),A):=by
 unfold tDo
 rw [if_neg (by simp [h]),if_pos h2]
theorem tRun_step {r:Int} {W:Wr} {l:List Op9} {i:Nat} (hi : i < l.length) : tRun r W (l.drop i) = if (tStep r W l[i]).1.2.2 ≠ 0 then (([],0),(tStep r W l[i]).1.2.2,W)
  else (((tStep r W l[i]).1.1 :: (tRun r (tStep r W l[i]).2 (l.drop (i + 1))).1.1,(tStep r W l[i]).1.2.1 + (tRun r (tStep r W l[i]).2 (l.drop (i + 1))).1.2),(tRun r (tStep r W l[i]).2 (l.drop (i + 1))).2.1,(tRun r (tStep r W l[i]).2 (l.drop (i + 1))).2.2):=by
 rw [List.drop_eq_getElem_cons hi,tRun]
end Go.Hz
/- Transactions among a law's arguments. -/
namespace Go.Hz
def If9.ok (c:If9) : Prop:=c.key.length ≤ 1048576∧c.text.length ≤ 1048576∧inI c.tgt∧inI c.sign∧inI c.n
def Op9.ok (o:Op9) : Prop:=o.key.length ≤ 1048576∧o.fin.length ≤ 1048576∧o.val.length ≤ 1048576∧inI o.kind∧inI o.lease∧inI o.lim
structure Tx9.ok (t:Tx9) : Prop where
 l1 : t.ifs.length ≤ 1048576
 l2 : t.thn.length ≤ 1048576
 l3 : t.els.length ≤ 1048576
 k1 : ∀ c ∈ t.ifs,c.ok
 k2 : ∀ c ∈ t.thn,c.ok
 k3 : ∀ c ∈ t.els,c.ok
def triK (k:Nat) : Nat → Nat
 | 0 => 0
 | i + 1 => triK k i + (k * i + k)
theorem triK_mono {k i j : Nat} (h : i ≤ j) : triK k i ≤ triK k j:=by
 induction h with
 | refl => exact Nat.le_refl _
 | step _ ih => exact Nat.le_trans ih (Nat.le_add_right _ _)
end Go.Hz
/- The machine: what a command does, how much there is behind so many of them. -/
namespace Go.Hz
structure Mac where
 st : Sto
 lz : List Lz
 fk : List Fk
 clk : Int
structure Cm where
 client : Int
 seq : Int
 kind : Int
 txn : Tx9
 lease : Int
 ttl : Int
 time : Int
 rev : Int
def Cm.row (c:Cm) : List AV:=[.int .i64 c.client,.int .i64 c.seq,.int .i64 c.kind,ifsV c.txn.ifs,opsV c.txn.thn,opsV c.txn.els,.int .i64 c.lease,.int .i64 c.ttl,.int .i64 c.time,.int .i64 c.rev]
def Cm.rowV (c:Cm) (v1 v2 v3 : AV) : List AV:=[.int .i64 c.client,.int .i64 c.seq,.int .i64 c.kind,v1,v2,v3,.int .i64 c.lease,.int .i64 c.ttl,.int .i64 c.time,.int .i64 c.rev]
def hiM : Key:=List.replicate 101 255
def mDel (ids:List Int) (W:Wr) (x:Kv) : Wr:=if x.lease ∈ ids then (wDels W ((W.cur.filter fun y => inK x.key [] y.key).map Kv.key)).2 else W
def mDels (A:Sto) (ids:List Int) : Wr:=(rngL A.now [0] hiM 0).1.foldl (mDel ids) ⟨A.now,[]⟩
def mRevoke (M:Mac) (ids:List Int) : Mac:=⟨stDone M.st (mDels M.st ids),ids.foldl (fun X id => (lzRevoke X id).2) M.lz,M.fk,M.clk⟩
def compE (A:Sto) (r:Int) : Int:=if r < 1 then 1 else if A.rev < r then 17 else if r ≤ A.past then 16 else 0
def mDo (M:Mac) (c:Cm) : Rp × Mac :=
 if c.kind = 0 then (⟨(tDo M.st (lzHas M.lz) c.txn).1.2.2,0,(tDo M.st (lzHas M.lz) c.txn).1.1,(tDo M.st (lzHas M.lz) c.txn).1.2.1,0⟩,{ M with st:=(tDo M.st (lzHas M.lz) c.txn).2 })
 else if c.kind = 1 then (rpE (lzGrant M.lz c.lease c.ttl M.clk).1,{ M with lz:=(lzGrant M.lz c.lease c.ttl M.clk).2 })
 else if c.kind = 2 then (rpE (lzRenew M.lz c.lease M.clk).1,{ M with lz:=(lzRenew M.lz c.lease M.clk).2 })
 else if c.kind = 3 then (if lzHas M.lz c.lease = true then (rp0,mRevoke M [c.lease]) else (rpE 2,M))
 else if c.kind = 4 then (if c.time < 0 ∨ 1099511627776 < c.time then (rpE 1,M) else (rp0,{ M with clk:=max M.clk c.time }))
 else if c.kind = 5 then (rp0,mRevoke M ((lzOver M.lz M.clk).map Lz.id))
 else if c.kind = 6 then (rpE (compE M.st c.rev),{ M with st:=if compE M.st c.rev = 0 then stComp M.st c.rev else M.st })
 else (rpE 3,M)
def mRep (q:Rp × Mac) : Rp:=⟨q.1.err,q.2.st.rev,q.1.thn,q.1.res,q.2.clk⟩
def mApply (M:Mac) (c:Cm) : Rp × Mac :=
 if (fkAsk M.fk c.client c.seq).2 = false then ((fkAsk M.fk c.client c.seq).1,M)
 else (mRep (mDo M c),{ (mDo M c).2 with fk:=fkNote (mDo M c).2.fk c.client c.seq (mRep (mDo M c)) })
def mac0 : Mac:=⟨⟨0,0,[],[]⟩,[],[],0⟩
structure MaI (M:Mac) (i:Nat) : Prop where
 now : M.st.now.length ≤ 32 * i
 len : M.st.old.length + M.st.chs.length ≤ triK 32 i
 rev : M.st.rev ≤ i
 clk : 0 ≤ M.clk∧M.clk ≤ 1099511627776
theorem MaI.mono {M:Mac} {i j : Nat} (L:MaI M i) (h : i ≤ j) : MaI M j:=⟨by have:=L.now; omega,Nat.le_trans L.len (triK_mono h),by have:=L.rev; omega,L.clk⟩
theorem MaI.zero : MaI mac0 0:=⟨by simp [mac0,Sto.now,doneL],by simp [mac0,triK],by simp [mac0],by simp [mac0]⟩
theorem MaI.done {M:Mac} {i:Nat} {W:Wr} {lz:List Lz} {fk:List Fk} (L:MaI M i) (ok:StoOK M.st) (hw:WrOK M.st W) (hwb:WB M.st W 32) : MaI ⟨stDone M.st W,lz,fk,M.clk⟩ (i + 1):=by
 obtain ⟨d1,d2,d3,d5,d4⟩:=stDone_len (A:=M.st) (W:=W)
 have wl:=hwb.len hw
 have wc:=hwb.cur ok hw
 have:=L.now
 have:=L.len
 have:=L.rev
 have hl : triK 32 (i + 1) = triK 32 i + (32 * i + 32):=rfl
 refine ⟨?_,by show (stDone M.st W).old.length + _ ≤ _; rw [d1,d2]; omega,by show (stDone M.st W).rev ≤ _; omega,L.clk⟩
 show (stDone M.st W).now.length ≤ _
 rw [stDone_now hw]; omega
theorem mDel_ok {A:Sto} {ids:List Int} {k:Nat} (ok:StoOK A) {l:List Kv} : ∀ {W:Wr},WrOK A W → WB A W k → WrOK A (l.foldl (mDel ids) W)∧WB A (l.foldl (mDel ids) W) k:=by
 induction l with
 | nil => exact fun h1 h2 => ⟨h1,h2⟩
 | cons x l ih =>
  intro W h1 h2
  rw [List.foldl_cons]
  refine ih ?_ ?_
  ·unfold mDel
   split
   ·exact wDels_ok ok (now_keys ok) h1
   ·exact h1
  ·unfold mDel
   split
   ·exact WB.dels ok h1 h2
   ·exact h2
theorem mDels_ok {A:Sto} {ids:List Int} (ok:StoOK A) : WrOK A (mDels A ids)∧WB A (mDels A ids) 0:=mDel_ok ok (wrOK_nil A) wb_nil
theorem comp_len3 {A:Sto} (ok:StoOK A) {r:Int} : (stComp A r).old.length + (stComp A r).chs.length ≤ A.old.length + A.chs.length:=by
 have h1:=doneL_le (l:=A.old) (cs:=(A.chs.takeWhile fun v => decide (v.rev ≤ r)).map Ver.c)
 rw [List.length_map] at h1
 have h2:=congrArg List.length (chs_cut ok (r:=r))
 rw [List.length_append] at h2
 have h3 : (stComp A r).old.length = (doneL A.old ((A.chs.takeWhile fun v => decide (v.rev ≤ r)).map Ver.c)).length:=rfl
 omega
theorem MaI.fk {M:Mac} {i:Nat} (L:MaI M i) {fk:List Fk} : MaI { M with fk:=fk } i:=⟨L.now,L.len,L.rev,L.clk⟩
theorem mDo_I {M:Mac} {i:Nat} (L:MaI M i) (ok:StoOK M.st) {c:Cm} : MaI (mDo M c).2 (i + 1):=by
 have h1:=L.mono (Nat.le_succ i)
 have hm : ∀ ids,MaI (mRevoke M ids) (i + 1):=fun ids => L.done ok (mDels_ok ok).1 ((mDels_ok ok).2.mono (by omega))
 unfold mDo
 split
 ·obtain ⟨W,hw,hwb,e⟩:=tDo_st (has:=lzHas M.lz) (t:=c.txn) ok
  simp only [e]
  exact L.done ok hw hwb
 split
 ·exact ⟨h1.now,h1.len,h1.rev,h1.clk⟩
 split
 ·exact ⟨h1.now,h1.len,h1.rev,h1.clk⟩
 split
 ·split
  ·exact hm _
  ·exact h1
 split
 ·split
  ·exact h1
  ·rename_i hc
   refine ⟨h1.now,h1.len,h1.rev,?_⟩
   have:=h1.clk
   show 0 ≤ max M.clk c.time∧max M.clk c.time ≤ _
   omega
 split
 ·exact hm _
 split
 ·by_cases hc : compE M.st c.rev = 0
  ·simp only [if_pos hc]
   have:=comp_len3 ok (r:=c.rev)
   have h2 : M.st.old.length + M.st.chs.length ≤ triK 32 (i + 1):=h1.len
   refine ⟨?_,by show (stComp M.st c.rev).old.length + (stComp M.st c.rev).chs.length ≤ triK 32 (i + 1); omega,h1.rev,h1.clk⟩
   show (stComp M.st c.rev).now.length ≤ _
   rw [comp_now ok]; exact h1.now
  ·simp only [if_neg hc]
   exact ⟨h1.now,h1.len,h1.rev,h1.clk⟩
 ·exact h1
theorem mApply_I {M:Mac} {i:Nat} (L:MaI M i) (ok:StoOK M.st) {c:Cm} : MaI (mApply M c).2 (i + 1):=by
 unfold mApply
 split
 ·exact L.mono (Nat.le_succ i)
 ·exact (mDo_I L ok).fk
theorem tDo_resM {A:Sto} {has:Int → Bool} {t:Tx9} (ok:StoOK A) (h:A.now.length ≤ 100000) : (tDo A has t).1.2.1.length ≤ 1000000∧∀ q ∈ (tDo A has t).1.2.1,q.kvs.length * 64 ≤ 140737488355328:=by
 have z : ([] : List Res).length ≤ 1000000∧∀ q ∈ ([] : List Res),q.kvs.length * 64 ≤ 140737488355328:=⟨by simp,by simp⟩
 unfold tDo
 split
 ·exact z
 rename_i hc
 split
 ·exact z
 dsimp only
 split
 ·exact z
 split
 ·exact z
 have hx:=tCheck_ok (Classical.not_not.1 hc)
 have ho:=(tOps_ok (now:=A.now) hx).1
 obtain ⟨h1,h2⟩:=tRun_res ok (l:=tOps A.now t) (N:=200000) (wrOK_nil A) wb_nil (by omega)
 exact ⟨by show (tRun _ _ _).1.1.length ≤ _; omega,fun q hq => by have:=h2 q hq; omega⟩
theorem mDo_rp {M:Mac} (ok:StoOK M.st) (h:M.st.now.length ≤ 100000) {c:Cm} : RpOK (mRep (mDo M c)):=by
 have z : ∀ e : Int,RpOK (rpE e):=fun e => rpE_ok
 have key : RpOK (mDo M c).1:=by
  unfold mDo
  split
  ·exact tDo_resM ok h
  split
  ·exact rpE_ok
  split
  ·exact rpE_ok
  split
  ·split
   ·exact rp0_ok
   ·exact rpE_ok
  split
  ·split
   ·exact rpE_ok
   ·exact rp0_ok
  split
  ·exact rp0_ok
  split
  ·exact rpE_ok
  ·exact rpE_ok
 exact key
end Go.Hz
/- A slice that is only read, or none; a list of keys cut at a key. -/
namespace Go.Hz
def SlV (v:AV) (es:List (List AV)) : Prop:=v = .lst es ∨ (v = .nils∧es = [])
section
variable {v:AV} {es:List (List AV)}
theorem SlV.len (h:SlV v es) : lenL v = some (.int .i64 es.length):=by
 rcases h with rfl | ⟨rfl,rfl⟩
 ·rfl
 ·rfl
theorem SlV.lenM {α:Type} {f : α → List AV} {l:List α} (h:SlV v (l.map f)) : lenL v = some (.int .i64 l.length):=by
 rw [h.len,List.length_map]
theorem SlV.at {α:Type} {f : α → List AV} {l:List α} {s i : Nat} {k:IntKind} (h:SlV v (l.map f)) (hi : i < l.length) (hs:∀ x,(f x).length = s) : iaA s v (.int k (i:Int)) = some (.ro (f l[i])):=by
 rcases h with rfl | ⟨rfl,h⟩
 ·exact ia_lst hi hs
 ·rw [List.map_eq_nil_iff] at h; subst h; simp at hi
theorem SlV.src (h:SlV v es) {s:Nat} (hs:∀ e ∈ es,e.length = s) {H:Hp} : srcA s H v = some es:=by
 rcases h with rfl | ⟨rfl,rfl⟩
 ·simp only [srcA]
  rw [if_pos hs]
 ·rfl
theorem SlV.cells (h:SlV v es) : v.cells = [v]:=by
 rcases h with rfl | ⟨rfl,rfl⟩ <;> rfl
theorem SlV.atom (h:SlV v es) : v.isAtom = true:=by
 rcases h with rfl | ⟨rfl,rfl⟩ <;> rfl
end
theorem cnd_join1 {P:Program} {st:List Fr} {e:Env} {h:Hp} {k:Kt} {v:AV} {t f a : ACode} {Q:Env → Hp → Prop} (hh : cndR P v t f (.code a :: .lp Q :: st) e h k) (hq:∀ e h,Q e h → fall P st e h k) : cndR P v t f (.code a :: st) e h k:=by
 obtain ⟨c,hb,ht,hf⟩:=hh
 have key : ∀ e h,(kk P k (.code a :: .lp Q :: st)).1 e h → (kk P k (.code a :: st)).1 e h:=fun e h x =>
  wpA_imp a x hq (fun _ _ x => x) (fun _ _ _ x => x)
 exact ⟨c,hb,fun q => wpA_imp t (ht q) key (fun _ _ x => x) (fun _ _ _ x => x),fun q => wpA_imp f (hf q) key (fun _ _ x => x) (fun _ _ _ x => x)⟩
end Go.Hz
/- Branches and blocks that go on jointly, with code between. -/
namespace Go.Hz
section
variable {P:Program} {st st' : List Fr} {e:Env} {h:Hp} {k:Kt} {v:AV} {t f a b : ACode} {id:Nat} {Q:Env → Hp → Prop}
end
theorem Triple.lst2 {P:Program} {f:Nat} {args:List AV} {h:Hp} (s:Nat) {post:AV → Hp → Prop}
  (t:Triple P f args h fun r h' => ∃ a v rest es F,r = .tup (a :: v :: rest)∧sat h' (Ow s v es :: F)∧∀ h'',sat h'' F → post (.tup (a :: .lst es :: rest)) h'') : Triple P f args h post :=
 Triple.view (t.mono fun r h' ⟨a,v,rest,es,F,hr,hs,hp⟩ => by
  obtain ⟨h'',g,hs'⟩:=hs.view
  subst hr
  exact ⟨_,h'',GV.tup [a] rest g,hp _ hs'⟩)
theorem VI.lst {es es' : List (List AV)} (hl : es.length = es'.length) (hv:∀ i (h1 : i < es.length) (h2 : i < es'.length),VIs es[i] es'[i]) : VI (.lst es) (.lst es'):=fun fz H cv h => by
 cases h with
 | lst _ b o s cap c T fr hf hb hle hs hc hel =>
  rw [hl]
  refine .lst es' b o s cap c T fr hf hb (by omega) (fun i hi => ?_) (by rw [← hl]; exact hc) fun i h1 k h2 h3 => ?_
  ·rw [← (hv i (by omega) hi).get.1]; exact hs i (by omega)
  ·have g:=(hv i (by omega) h1).get
   exact g.2 k (by rw [g.1]; exact h2) h2 _ _ _ (hel i (by omega) k (by rw [g.1]; exact h2) h3)
 | lst0 a cap h0 =>
  have : es' = []:=List.eq_nil_of_length_eq_zero hl.symm
  subst this
  exact .lst0 a cap h0
end Go.Hz
/- Transactions of the laws: a key that is put when it is as it was. -/
namespace Go.Hz
theorem tKey_of {k:Key} (h1 : k ≠ []) (h2 : k.length ≤ 100) : tKey k = true:=by
 simp [tKey,h1,h2]
theorem tOp_put {k v : Key} {lease lim : Int} (h1 : k ≠ []) (h2 : k.length ≤ 100) (h3 : v.length ≤ 4096) (h4 : 0 ≤ lease) : tOp ⟨0,k,[],v,lease,lim⟩ = 0:=by
 have h5 : ¬ 4096 < v.length:=by omega
 have h6 : ¬ lease < 0:=by omega
 simp [tOp,tKey_of h1 h2,h5,h6]
theorem tTwice_one {o:Op9} : tTwice [o] = false:=by simp [tTwice]
theorem tTwice_nil : tTwice [] = false:=rfl
structure GuI (key:Key) (A:Sto) (m:Nat) (val:Key) : Prop where
 rev : A.rev = m
 past : A.past = 0
 old : A.old = []
 len : A.chs.length = m
 now : (m = 0∧A.now = []) ∨ (0 < m∧∃ x,A.now = [x]∧x.key = key∧x.mod = m∧x.val = val)
end Go.Hz
/- The machine's laws, plain: the chapter's example; the clock; commands of nobody. -/
namespace Go.Hz
def knC : Cm:=⟨3,1,0,⟨[],[⟨0,[97],[],[120],0,0⟩],[]⟩,0,0,0,0⟩
theorem knC_1 : (mApply mac0 knC).1 = ⟨0,1,true,[⟨0,[]⟩],0⟩:=by rfl
theorem knC_a : fkAsk (mApply mac0 knC).2.fk knC.client knC.seq = ((mApply mac0 knC).1,false):=by rfl
theorem knC_r : mRep (mDo mac0 knC) = ⟨0,1,true,[⟨0,[]⟩],0⟩:=by rfl
theorem knC_3 : (mApply mac0 knC).2.st.rev = 1:=by rfl
def clC (t:Int) : Cm:=⟨0,0,4,⟨[],[],[]⟩,0,0,t,0⟩
def macT (now:Int) : Mac:=⟨⟨0,0,[],[]⟩,[],[],now⟩
def clN (now t : Int) : Int:=if 0 ≤ t∧t ≤ 1099511627776 then max now t else now
theorem cl_ap {now t : Int} : mApply (macT now) (clC t) = (⟨if 0 ≤ t∧t ≤ 1099511627776 then 0 else 1,0,false,[],clN now t⟩,macT (clN now t)):=by
 unfold clN
 by_cases h : 0 ≤ t∧t ≤ 1099511627776
 ·have hn : ¬ (t < 0 ∨ 1099511627776 < t):=by omega
  rw [if_pos h,if_pos h]
  simp [mApply,mDo,mRep,clC,macT,fkAsk,fkNote,hn,rp0]
 ·have hn : t < 0 ∨ 1099511627776 < t:=by omega
  rw [if_neg h,if_neg h]
  simp [mApply,mDo,mRep,clC,macT,fkAsk,fkNote,hn,rp0,rpE]
structure NbI (M:Mac) (i:Nat) : Prop where
 fk : M.fk = []
 gu : GuI [97] M.st i []
end Go.Hz
/- Commands that come anew, plain. -/
namespace Go.Hz
structure OnI (M:Mac) (last:Nat → Cm) (said:Nat → Rp) (seq:Nat → Nat) : Prop where
 fk : ∀ x ∈ M.fk,1 ≤ x.client∧x.client ≤ 4
 no : ∀ k,k < 4 → seq k = 0 → fkGet M.fk ((k:Int) + 1) = none
 so : ∀ k,k < 4 → 0 < seq k → fkGet M.fk ((k:Int) + 1) = some ⟨(k:Int) + 1,seq k,said k⟩∧(last k).client = (k:Int) + 1∧(last k).seq = seq k
 rp : ∀ k,k < 4 → RpOK (said k)
end Go.Hz
/- Commands among a law's arguments. -/
namespace Go.Hz
structure Cm.ok (c:Cm) : Prop where
 client : inI c.client
 seq : inI c.seq
 kind : inI c.kind
 txn : c.txn.ok
 lease : inI c.lease
 ttl : inI c.ttl
 time : inI c.time
 rev : inI c.rev
end Go.Hz
/- Transactions of the laws: keys that rise, each seen by what comes behind; what is refused; signs. -/
namespace Go.Hz
def kl (j:Nat) : Key:=[107,UInt8.ofNat (97 + j)]
theorem done_end {l:List Kv} {c:Ch} (h:∀ x ∈ l,ltK x.key c.key = true) : done l c = l ++ c.kv.toList:=by
 unfold done
 have e1 : l.takeWhile (fun x => ltK x.key c.key) = l:=by
  have:=takeWhile_all (p:=fun x : Kv => ltK x.key c.key) (A:=l) (l:=[]) h
  simpa using this
 have e2 : l.dropWhile (fun x => ltK x.key c.key) = []:=by
  have h0:=List.takeWhile_append_dropWhile (p:=fun x : Kv => ltK x.key c.key) (l:=l)
  rw [e1] at h0
  have:=congrArg List.length h0
  rw [List.length_append] at this
  exact List.eq_nil_of_length_eq_zero (by omega)
 rw [e1,e2]
 simp
end Go.Hz
/- Leases end: what goes with them, plain. -/
namespace Go.Hz
theorem done_del {a b : List Kv} {x:Kv} (hs:SrtK (a ++ x :: b)) : done (a ++ x :: b) (.del x.key) = a ++ b:=by
 obtain ⟨h1,h2,h3⟩:=List.pairwise_append.1 hs
 obtain ⟨h4,h5⟩:=List.pairwise_cons.1 h2
 have hk : (Ch.del x.key).key = x.key:=rfl
 have e1 : (a ++ x :: b).takeWhile (fun y => ltK y.key x.key) = a:=by
  rw [List.takeWhile_append_of_pos (fun y hy => h3 y hy x (List.mem_cons_self ..)),List.takeWhile_cons_of_neg (by simp [ltK_irrefl]),List.append_nil]
 have e2 : (a ++ x :: b).dropWhile (fun y => ltK y.key x.key) = x :: b:=by
  rw [List.dropWhile_append_of_pos (fun y hy => h3 y hy x (List.mem_cons_self ..)),List.dropWhile_cons_of_neg (by simp [ltK_irrefl])]
 have e3 : (x :: b).dropWhile (fun y => y.key == x.key) = b:=by
  rw [List.dropWhile_cons_of_pos (by simp)]
  cases b with
  | nil => rfl
  | cons z b =>
   have:=h4 z (List.mem_cons_self ..)
   rw [List.dropWhile_cons_of_neg]
   simp only [beq_iff_eq]
   intro hh; rw [hh,ltK_irrefl] at this; cases this
 unfold done
 rw [hk,e1,e2,e3]
 rfl
theorem key_one {a b : List Kv} {x:Kv} (hs:SrtK (a ++ x :: b)) : ((a ++ x :: b).filter fun y => inK x.key [] y.key) = [x]∧kvget (a ++ x :: b) x.key = some x:=by
 obtain ⟨h1,h2,h3⟩:=List.pairwise_append.1 hs
 obtain ⟨h4,h5⟩:=List.pairwise_cons.1 h2
 have na : ∀ y ∈ a,(y.key == x.key) = false:=fun y hy => by
  have:=h3 y hy x (List.mem_cons_self ..)
  simp only [beq_eq_false_iff_ne]
  intro hh; rw [hh,ltK_irrefl] at this; cases this
 have nb : ∀ y ∈ b,(y.key == x.key) = false:=fun y hy => by
  have:=h4 y hy
  simp only [beq_eq_false_iff_ne]
  intro hh; rw [hh,ltK_irrefl] at this; cases this
 refine ⟨?_,?_⟩
 ·have e : (fun y : Kv => inK x.key [] y.key) = fun y => y.key == x.key:=by funext y; simp [inK]
  rw [e,List.filter_append,List.filter_cons_of_pos (by simp),List.filter_eq_nil_iff.2 (fun y hy => by simp [na y hy]),List.filter_eq_nil_iff.2 (fun y hy => by simp [nb y hy])]
  rfl
 ·unfold kvget
  rw [List.find?_append,List.find?_eq_none.2 (fun y hy => by simp [na y hy]),List.find?_cons_of_pos (by simp)]
  rfl
def p3 (x:Kv) : Bool:=x.lease == 3
theorem dels3 {l2:List Kv} : ∀ {l1:List Kv} {W:Wr},SrtK (l1 ++ l2) → W.cur = l1.filter (fun x => !p3 x) ++ l2 → W.l = (l1.filter p3).map (fun x => .del x.key) →
  (l2.foldl (mDel [3]) W).cur = (l1 ++ l2).filter (fun x => !p3 x)∧(l2.foldl (mDel [3]) W).l = ((l1 ++ l2).filter p3).map (fun x => .del x.key):=by
 induction l2 with
 | nil =>
  intro l1 W hs hc hl
  rw [List.append_nil] at *
  exact ⟨by simpa using hc,hl⟩
 | cons x l2 ih =>
  intro l1 W hs hc hl
  have hs' : SrtK ((l1 ++ [x]) ++ l2):=by rw [List.append_assoc]; exact hs
  have hsub : SrtK (l1.filter (fun x => !p3 x) ++ x :: l2):=List.Pairwise.sublist ((List.filter_sublist).append (List.Sublist.refl _)) hs
  rw [List.foldl_cons,show l1 ++ x :: l2 = (l1 ++ [x]) ++ l2 by simp]
  cases h3 : p3 x with
  | true =>
   have hin : x.lease ∈ [(3:Int)]:=by
    have : x.lease = 3:=by simpa [p3] using h3
    simp [this]
   obtain ⟨k1,k2⟩:=key_one hsub
   have hch : wChg W x.key = false:=by
    unfold wChg
    rw [hl,List.any_map,List.any_eq_false]
    intro y hy
    have hy:=(List.mem_filter.1 hy).1
    have:=(List.pairwise_append.1 hs).2.2 y hy x (List.mem_cons_self ..)
    simp only [Function.comp,Bool.not_eq_true,beq_eq_false_iff_ne]
    intro hh
    have hh : y.key = x.key:=hh
    rw [hh,ltK_irrefl] at this; cases this
   have e : mDel [3] W x = ⟨l1.filter (fun x => !p3 x) ++ l2,W.l ++ [.del x.key]⟩:=by
    unfold mDel
    rw [if_pos hin,hc,k1]
    simp only [List.map_cons,List.map_nil,wDels]
    unfold wDel1
    rw [if_neg (by rw [hch,hc,k2]; simp),hc,done_del hsub]
   rw [e]
   refine ih hs' ?_ ?_
   ·simp [List.filter_append,h3]
   ·simp [List.filter_append,h3,hl]
  | false =>
   have hin : ¬ x.lease ∈ [(3:Int)]:=by
    have : x.lease ≠ 3:=by simpa [p3] using h3
    simp [this]
   have e : mDel [3] W x = W:=by unfold mDel; rw [if_neg hin]
   rw [e]
   refine ih hs' ?_ ?_
   ·simp [List.filter_append,h3,hc]
   ·simp [List.filter_append,h3,hl]
theorem rng_all {A:Sto} (ok:StoOK A) : (rngL A.now [0] hiM 0).1 = A.now:=by
 have e : A.now.filter (fun x => inK [0] (topK 101) x.key) = A.now:=by
  rw [List.filter_eq_self]
  intro x hx
  obtain ⟨h4,h5⟩:=now_keys ok x hx
  exact inK_all h4 h5
 unfold rngL
 rw [show hiM = topK 101 from rfl,e,cutL_all]
theorem mDels3 {A:Sto} (ok:StoOK A) : (mDels A [3]).cur = A.now.filter (fun x => !p3 x)∧(mDels A [3]).l = (A.now.filter p3).map (fun x => .del x.key):=by
 unfold mDels
 rw [rng_all ok]
 exact dels3 (l1:=[]) (l2:=A.now) (now_srt ok) rfl rfl
theorem mDels0 {A:Sto} : mDels A [] = ⟨A.now,[]⟩:=by
 unfold mDels
 generalize (rngL A.now [0] hiM 0).1 = l
 generalize (⟨A.now,[]⟩ : Wr) = W
 induction l with
 | nil => rfl
 | cons x l ih => rw [List.foldl_cons]; rw [show mDel [] W x = W from by unfold mDel; simp]; exact ih
def kq (j:Nat) : Key:=[UInt8.ofNat (97 + j)]
theorem kq_lt {i j : Nat} (hi : i < 10) (hj : j < i) : ltK (kq j) (kq i) = true:=by
 have key : ∀ i : _root_.Fin 10,∀ j : _root_.Fin 10,j.1 < i.1 → ltK (kq j.1) (kq i.1) = true:=by decide
 exact key ⟨i,hi⟩ ⟨j,by omega⟩ hj
theorem kq_in {j:Nat} (hj : j < 10) : inK [97] [122] (kq j) = true:=by
 have key : ∀ j : _root_.Fin 10,inK [97] [122] (kq j.1) = true:=by decide
 exact key ⟨j,hj⟩
structure LvI (M:Mac) (ttl:Int) (i had : Nat) : Prop where
 clk : M.clk = 50
 fk : M.fk = []
 lz : M.lz = [⟨3,ttl,50 + ttl⟩]
 rev : M.st.rev = i
 old : M.st.old = []
 past : M.st.past = 0
 chs : M.st.chs.length = i
 len : M.st.now.length = i
 had : (M.st.now.filter p3).length = had
 key : ∀ x ∈ M.st.now,∃ j,j < i∧x.key = kq j
def lvC (i:Nat) (lv:Int) : Cm:=⟨0,0,0,⟨[],[⟨0,kq i,[],[118],lv,0⟩],[]⟩,0,0,0,0⟩
theorem lv_put {M:Mac} {ttl lv : Int} {i had : Nat} (I:LvI M ttl i had) (hi : i < 10) (hv : lv = 0 ∨ lv = 3) : LvI (mApply M (lvC i lv)).2 ttl (i + 1) (had + if lv = 3 then 1 else 0):=by
 obtain ⟨A,lz,fk,clk⟩:=M
 obtain ⟨q1,q2,q3,q4,q5,q6,q7,q8,q9,q10⟩:=I
 simp only at q1 q2 q3 q4 q5 q6 q7 q8 q9 q10
 have hget : kvget A.now (kq i) = none:=kvget_none.2 fun x hx e => by
  obtain ⟨j,hj,e2⟩:=q10 x hx
  have:=kq_lt hi hj
  rw [← e2,e,ltK_irrefl] at this; cases this
 have hend : ∀ x ∈ A.now,ltK x.key (kq i) = true:=fun x hx => by
  obtain ⟨j,hj,e2⟩:=q10 x hx
  rw [e2]; exact kq_lt hi hj
 obtain ⟨x,hx⟩ : ∃ x : Kv,(⟨kq i,[118],A.rev + 1,A.rev + 1,1,lv⟩ : Kv) = x:=⟨_,rfl⟩
 have hW : wNew (A.rev + 1) ⟨A.now,[]⟩ (kq i) [118] lv = x:=by unfold wNew; rw [show kvget (⟨A.now,[]⟩ : Wr).cur (kq i) = none from hget]; exact hx
 have hp : wPut (A.rev + 1) ⟨A.now,[]⟩ (kq i) [118] lv = (0,⟨A.now ++ [x],[.put x]⟩):=by
  unfold wPut
  rw [if_neg (by simp [kq]; omega),if_neg (by simp),if_neg (by simp [wChg]),if_neg (by simp only [q8]; omega),hW]
  rw [done_end (by rw [show (Ch.put x).key = kq i by rw [← hx]; rfl]; exact hend)]
  rfl
 have hT : tDo A (lzHas lz) (lvC i lv).txn = ((true,[⟨0,[]⟩],0),stDone A ⟨A.now ++ [x],[.put x]⟩):=by
  have hc : tCheck (lvC i lv).txn = 0:=by
   have e1:=tOp_put (k:=kq i) (v:=[118]) (lease:=lv) (lim:=0) (by simp [kq]) (by simp [kq]) (by simp) (by omega)
   simp [tCheck,tBad_eq,lvC,e1,tTwice_one,tTwice_nil,eL,eF]
  refine tDo_go hc (ops:=[⟨0,kq i,[],[118],lv,0⟩]) rfl ?_ ?_ (sz:=0) (by omega)
  ·rcases hv with rfl | rfl
   ·simp [tNoL]
   ·simp [tNoL,q3,lzHas]
  ·simp [tRun,tStep,hp,hget]
 have hS : stDone A ⟨A.now ++ [x],[.put x]⟩ = ⟨A.rev + 1,A.past,A.old,A.chs ++ [⟨A.rev + 1,.put x⟩]⟩:=by unfold stDone; rw [if_neg (by simp)]; rfl
 have hN : (⟨A.rev + 1,A.past,A.old,A.chs ++ [⟨A.rev + 1,.put x⟩]⟩ : Sto).now = A.now ++ [x]:=by
  show doneL A.old ((A.chs ++ [_]).map Ver.c) = _
  rw [List.map_append,doneL_app]
  show done A.now _ = _
  rw [done_end (by rw [show (Ch.put x).key = kq i by rw [← hx]; rfl]; exact hend)]
  rfl
 have hA : (mApply ⟨A,lz,fk,clk⟩ (lvC i lv)).2 = ⟨⟨A.rev + 1,A.past,A.old,A.chs ++ [⟨A.rev + 1,.put x⟩]⟩,lz,fk,clk⟩:=by
  have hd : mDo ⟨A,lz,fk,clk⟩ (lvC i lv) = (⟨0,0,true,[⟨0,[]⟩],0⟩,⟨⟨A.rev + 1,A.past,A.old,A.chs ++ [⟨A.rev + 1,.put x⟩]⟩,lz,fk,clk⟩):=by
   unfold mDo
   rw [if_pos (show (lvC i lv).kind = 0 from rfl)]
   simp only [hT,hS]
  unfold mApply
  rw [if_neg (by simp [fkAsk,lvC]),hd]
  simp [fkNote,lvC]
 rw [hA]
 refine ⟨q1,q2,q3,by show A.rev + 1 = _; omega,q5,q6,by show (A.chs ++ _).length = _; rw [List.length_append,q7]; rfl,by show (Sto.now _).length = _; rw [hN,List.length_append,q8]; rfl,?_,?_⟩
 ·show ((Sto.now _).filter p3).length = _
  rw [hN,List.filter_append,List.length_append,q9]
  rcases hv with rfl | rfl
  ·have : p3 x = false:=by rw [← hx]; rfl
   simp [this]
  ·have : p3 x = true:=by rw [← hx]; rfl
   simp [this]
 ·show ∀ y ∈ Sto.now _,_
  rw [hN]
  intro y hy
  rcases List.mem_append.1 hy with hy | hy
  ·obtain ⟨j,hj,e⟩:=q10 y hy
   exact ⟨j,by omega,e⟩
  ·rw [List.mem_singleton.1 hy,← hx]
   exact ⟨i,by omega,rfl⟩
def grC (ttl:Int) : Cm:=⟨0,0,1,⟨[],[],[]⟩,3,ttl,0,0⟩
def exC : Cm:=⟨0,0,5,⟨[],[],[]⟩,0,0,0,0⟩
def rvC : Cm:=⟨0,0,3,⟨[],[],[]⟩,3,0,0,0⟩
theorem ap0 {M:Mac} {c:Cm} (h : c.client = 0) : mApply M c = (mRep (mDo M c),{ (mDo M c).2 with fk:=(mDo M c).2.fk }):=by
 unfold mApply
 rw [if_neg (by simp [fkAsk,h])]
 simp [fkNote,h]
theorem lv_gr {ttl:Int} (h1 : 1 ≤ ttl) (h2 : ttl ≤ 100) : (mApply (macT 50) (grC ttl)).1.err = 0∧LvI (mApply (macT 50) (grC ttl)).2 ttl 0 0:=by
 have hg : lzGrant [] 3 ttl 50 = (0,[⟨3,ttl,50 + ttl⟩]):=by
  have e : lzNum ttl = true:=by simp [lzNum]; omega
  unfold lzGrant
  rw [if_neg (by rw [e]; simp [lzNum]),if_neg (by simp [lzHas]),if_neg (by simp)]
  rfl
 have hd : mDo (macT 50) (grC ttl) = (rpE 0,⟨⟨0,0,[],[]⟩,[⟨3,ttl,50 + ttl⟩],[],50⟩):=by
  have hk : (grC ttl).kind = 1:=rfl
  unfold mDo
  rw [if_neg (by omega),if_pos hk,show (macT 50).lz = [] from rfl,show (grC ttl).lease = 3 from rfl,show (grC ttl).ttl = ttl from rfl,show (macT 50).clk = 50 from rfl,hg]
  rfl
 rw [ap0 rfl,hd]
 exact ⟨rfl,rfl,rfl,rfl,rfl,rfl,rfl,rfl,rfl,rfl,fun x hx => by cases hx⟩
theorem lv_clk {M:Mac} {ttl:Int} {i had late : Nat} (I:LvI M ttl i had) (hl : late < 200) : (mApply M (clC (50 + late))).2 = { M with clk:=50 + late }:=by
 rw [ap0 rfl]
 have hd : (mDo M (clC (50 + late))).2 = { M with clk:=50 + late }:=by
  have hk : (clC (50 + (late:Int))).kind = 4:=rfl
  unfold mDo
  rw [if_neg (by omega),if_neg (by omega),if_neg (by omega),if_neg (by omega),if_pos hk,show (clC (50 + (late:Int))).time = 50 + (late:Int) from rfl,if_neg (by omega),I.clk]
  show (⟨_,_,_,max 50 (50 + (late:Int))⟩ : Mac) = ⟨_,_,_,_⟩
  rw [show max 50 (50 + (late:Int)) = 50 + late by omega]
 rw [hd]
theorem len_split {l:List Kv} : (l.filter p3).length + (l.filter fun x => !p3 x).length = l.length:=by
 induction l with
 | nil => rfl
 | cons x l ih => cases h : p3 x <;> simp [List.filter_cons,h] <;> omega
structure LvE (M:Mac) (n:Nat) (rev:Int) (k:Nat) : Prop where
 now : M.st.now.length = n
 rev : M.st.rev = rev
 lz : M.lz.length = k
 key : ∀ x ∈ M.st.now,∃ j,j < 10∧x.key = kq j
theorem lv_rev {M:Mac} {ttl:Int} {i had : Nat} {clk:Int} (I:LvI M ttl i had) (hi : i ≤ 10) (ok:StoOK M.st) : LvE (mRevoke { M with clk:=clk } [3]) (i - had) ((i:Int) + if 0 < had then 1 else 0) 0:=by
 obtain ⟨d1,d2⟩:=mDels3 ok
 have hw:=(mDels_ok (ids:=[3]) ok).1
 have hs:=len_split (l:=M.st.now)
 rw [I.had,I.len] at hs
 refine ⟨?_,?_,?_,?_⟩
 ·show (stDone M.st (mDels M.st [3])).now.length = _
  rw [stDone_now hw,d1]; omega
 ·show (stDone M.st (mDels M.st [3])).rev = _
  have hl : (mDels M.st [3]).l.length = had:=by rw [d2,List.length_map,I.had]
  unfold stDone
  by_cases h0 : (mDels M.st [3]).l = []
  ·rw [if_pos h0,if_neg (by rw [h0] at hl; simp at hl; omega),I.rev]; omega
  ·rw [if_neg h0,if_pos (by have:=List.length_pos_iff.2 h0; omega)]
   show M.st.rev + 1 = _
   rw [I.rev]
 ·show (([(3:Int)].foldl (fun X id => (lzRevoke X id).2) M.lz)).length = 0
  rw [I.lz]; simp [lzRevoke,lzHas,lzDel]
 ·show ∀ x ∈ (stDone M.st (mDels M.st [3])).now,_
  rw [stDone_now hw,d1]
  intro x hx
  obtain ⟨j,hj,e⟩:=I.key x (List.mem_filter.1 hx).1
  exact ⟨j,by omega,e⟩
theorem lv_ex {M:Mac} {late:Nat} : mDo { M with clk:=50 + (late:Int) } exC = (rp0,mRevoke { M with clk:=50 + (late:Int) } ((lzOver M.lz (50 + (late:Int))).map Lz.id)):=by
 have hk : exC.kind = 5:=rfl
 unfold mDo
 rw [if_neg (by omega),if_neg (by omega),if_neg (by omega),if_neg (by omega),if_neg (by omega),if_pos hk]
theorem lv_end1 {M:Mac} {ttl:Int} {i had late : Nat} {rv:Bool} (I:LvI M ttl i had) (hi : i ≤ 10) (ok:StoOK M.st) (h : rv = true ∨ ttl ≤ late) : (mApply { M with clk:=50 + (late:Int) } (if rv = true then rvC else exC)).1.err = 0 ∧
  LvE (mApply { M with clk:=50 + (late:Int) } (if rv = true then rvC else exC)).2 (i - had) ((i:Int) + (if 0 < had then 1 else 0)) 0:=by
 cases rv with
 | true =>
  rw [if_pos rfl,ap0 rfl]
  have hd : mDo { M with clk:=50 + (late:Int) } rvC = (rp0,mRevoke { M with clk:=50 + (late:Int) } [3]):=by
   have hk : rvC.kind = 3:=rfl
   unfold mDo
   rw [if_neg (by omega),if_neg (by omega),if_neg (by omega),if_pos hk]
   rw [if_pos (by show lzHas M.lz 3 = true; rw [I.lz]; simp [lzHas])]; rfl
  rw [hd]
  exact ⟨rfl,lv_rev I hi ok⟩
 | false =>
  have h : ttl ≤ late:=by simpa using h
  rw [if_neg (by simp),ap0 rfl,lv_ex]
  have ho : (lzOver M.lz (50 + (late:Int))).map Lz.id = [3]:=by
   rw [I.lz]; unfold lzOver; rw [List.filter_cons_of_pos (by simp; omega)]; rfl
  rw [ho]
  exact ⟨rfl,lv_rev I hi ok⟩
theorem lv_end2 {M:Mac} {ttl:Int} {i had late : Nat} (I:LvI M ttl i had) (hi : i ≤ 10) (ok:StoOK M.st) (h:¬ ttl ≤ late) : (mApply { M with clk:=50 + (late:Int) } exC).1.err = 0 ∧
  LvE (mApply { M with clk:=50 + (late:Int) } exC).2 i i 1:=by
 rw [ap0 rfl,lv_ex]
 have ho : (lzOver M.lz (50 + (late:Int))).map Lz.id = []:=by
  rw [I.lz]; unfold lzOver; rw [List.filter_cons_of_neg (by simp; omega)]; rfl
 rw [ho]
 have hm : mRevoke { M with clk:=50 + (late:Int) } [] = { M with clk:=50 + (late:Int) }:=by
  show (⟨stDone M.st (mDels M.st []),_,_,_⟩ : Mac) = _
  rw [mDels0]; simp [stDone]
 rw [hm]
 exact ⟨rfl,I.len,I.rev,by show M.lz.length = 1; rw [I.lz]; rfl,fun x hx => by obtain ⟨j,hj,e⟩:=I.key x hx; exact ⟨j,by omega,e⟩⟩
theorem lv_rng {A:Sto} (ok:StoOK A) (hk:∀ x ∈ A.now,∃ j,j < 10∧x.key = kq j) : (stRange A [97] [122] 0 0).2.1 = A.now.length:=by
 have h1:=ok.past
 have h2:=ok.rev
 have e : A.now.filter (fun x => inK [97] [122] x.key) = A.now:=by
  rw [List.filter_eq_self]
  intro x hx
  obtain ⟨j,hj,e⟩:=hk x hx
  rw [e]; exact kq_in hj
 rw [stRange,if_neg (by omega),if_neg (by omega),if_neg (by omega),if_pos rfl,at_rev ok]
 unfold rngL
 simp only [e]
end Go.Hz
