/- The functions of this seat's program in the form of the logic; each is shown to be what the model's code comes to. -/
import Derived.Test.YtmhbnkjajkcmkaaGreatR70MachineLeasesLawPC
import Derived.Test.YtmhbnkjajkcmkaaGreatChecked
import Derived.Eval
import Derived.KernelRfl
set_option linter.unusedSimpArgs false
set_option linter.unusedVariables false
set_option linter.unusedSectionVars false
set_option maxRecDepth 100000
namespace Go.Proofs.YtmhbnkjajkcmkaaGreat
open Go.Hz
theorem mixed : Tryz.prog.follows .mixedOrders = true:=Tryz.checked.mixed
def TT (f:Nat) (F:AFun) : Prop := ∀ {args:List AV} {h:Hp} {post:AV → Hp → Prop},args.length ≤ F.n → run Tryz.prog F.code [] (initE args) h ⟨fun e h' => resK F.res e h' post,fun e h' => resK F.res e h' post,fun _ _ _ => False⟩ → Triple Tryz.prog f args h post
theorem tt {f:Nat} {fn:Func} {F:AFun} (h1:Tryz.prog.funcs[f]? = some fn) (h2 : compF Tryz.prog fn = some F) : TT f F:=fun hn hh => triple_of mixed h1 h2 hn hh
def F3 : AFun:=.mk 56 (.seq (.reg [Z 4 (.mv (.cs (.bool false)))]) (.seq (.seq (.reg [Z 9 (.call 11 []),Z 10 (.un .not (T 9))]) (.cond (T 10) (.seq (.reg [Z 4 (.mv (.cs (.bool false)))]) .ret) .skip)) (.seq (.reg [Z 11 (.call 12 []),Zm 5 11]) (.seq (.reg [Zm 12 0,Z 13 (.call 13 [T 12,I 20]),Zm 14 1,Z 15 (.call 13 [T 14,I 1000]),Z 16 (.bin .add (I 1) (T 15)),Zm 0 13,Zm 1 16]) (.seq (.reg [Z 17 (.bld [.int .i64 0,.str [],.str [],.str [],.int .i64 0,.int .i64 0] [(1,(1,.cs (.str [97])))]),Z 18 (.bsl [.int .i64 0,.str [],.str [],.str [],.int .i64 0,.int .i64 0] 1 [(0,T 17)]),Z 19 (.bld [.nils,.nils,.nils] [(1,(1,T 18))]),Z 20 (.bld [.int .i64 0,.int .i64 0,.int .i64 0,.nils,.nils,.nils,.int .i64 0,.int .i64 0,.int .i64 0,.int .i64 0] [(3,(3,T 19))]),Z 6 (.alloc [.int .i64 0,.int .i64 0,.int .i64 0,.nils,.nils,.nils,.int .i64 0,.int .i64 0,.int .i64 0,.int .i64 0]),(.mk none (.st 10 (T 6) (T 20)) none,[])]) (.seq (.seq (.reg [Z 7 (.mv (I 0))]) (.block 0 (.loop (.seq (.seq (.reg [Zm 21 7,Zm 22 0,Z 23 (.bin .lss (T 21) (T 22))]) (.cond (T 23) .skip (.exit 0))) (.seq (.block 1 (.seq (.reg [Zm 26 5,Z 27 (.ld 10 true (T 6)),Z 28 (.call 14 [T 26,T 27]),Z 29 (.fld 1 1 false (T 28)),Zm 30 7,Z 31 (.bin .add (T 30) (I 1)),Z 32 (.bin .neq (T 29) (T 31))]) (.cond (T 32) (.seq (.reg [Z 4 (.mv (.cs (.bool false)))]) .ret) .skip))) (.reg [Zm 24 7,Z 25 (.bin .add (T 24) (I 1)),Zm 7 25])))))) (.seq (.reg [Zm 33 1,Z 34 (.fa 0 (T 6)),(.mk none (.st 1 (T 34) (I 9)) none,[]),Z 35 (.fa 1 (T 6)),(.mk none (.st 1 (T 35) (T 33)) none,[])]) (.seq (.seq (.reg [Z 8 (.mv (I 0))]) (.block 2 (.loop (.seq (.seq (.reg [Zm 36 8,Zm 37 0,Z 38 (.bin .lss (T 36) (T 37))]) (.cond (T 38) .skip (.exit 2))) (.seq (.block 3 (.seq (.reg [Zm 41 5,Z 42 (.ld 10 true (T 6)),Z 43 (.call 14 [T 41,T 42]),Z 44 (.fld 1 1 false (T 43)),Zm 45 0,Z 46 (.bin .add (T 45) (I 1)),Z 47 (.bin .neq (T 44) (T 46))]) (.cond (T 47) (.seq (.reg [Z 4 (.mv (.cs (.bool false)))]) .ret) .skip))) (.reg [Zm 39 8,Z 40 (.bin .add (T 39) (I 1)),Zm 8 40])))))) (.seq (.reg [Zm 48 5,Z 49 (.call 15 [T 48]),Z 50 (.call 16 [T 49]),Zm 51 0,Zm 52 0,Z 53 (.mm false (T 52) (I 1)),Z 54 (.bin .add (T 51) (T 53)),Z 55 (.bin .eql (T 50) (T 54)),Zm 4 55]) .ret))))))))) [.tmp 4]
theorem c3 : compF Tryz.prog Tryz.f3 = some F3:=by kernel_rfl
theorem t3 : TT 3 F3:=tt Tryz.func3 c3
def F4 : AFun:=.mk 116 (.seq (.reg [Z 4 (.mv (.cs (.bool false)))]) (.seq (.seq (.reg [Z 16 (.call 11 []),Z 17 (.un .not (T 16))]) (.cond (T 17) (.seq (.reg [Z 4 (.mv (.cs (.bool false)))]) .ret) .skip)) (.seq (.reg [Z 18 (.call 12 []),Zm 5 18]) (.seq (.reg [Z 6 (.alloc [.int .i64 0,.int .i64 0,.int .i64 0,.nils,.nils,.nils,.int .i64 0,.int .i64 0,.int .i64 0,.int .i64 0,.int .i64 0,.int .i64 0,.int .i64 0,.nils,.nils,.nils,.int .i64 0,.int .i64 0,.int .i64 0,.int .i64 0,.int .i64 0,.int .i64 0,.int .i64 0,.nils,.nils,.nils,.int .i64 0,.int .i64 0,.int .i64 0,.int .i64 0,.int .i64 0,.int .i64 0,.int .i64 0,.nils,.nils,.nils,.int .i64 0,.int .i64 0,.int .i64 0,.int .i64 0])]) (.seq (.reg [Z 7 (.alloc [.int .i64 0,.int .i64 0,.bool false,.nils,.int .i64 0,.int .i64 0,.int .i64 0,.bool false,.nils,.int .i64 0,.int .i64 0,.int .i64 0,.bool false,.nils,.int .i64 0,.int .i64 0,.int .i64 0,.bool false,.nils,.int .i64 0])]) (.seq (.reg [Z 8 (.alloc [.int .i64 0,.int .i64 0,.int .i64 0,.int .i64 0])]) (.seq (.seq (.reg [Z 9 (.mv (I 0))]) (.block 0 (.loop (.seq (.seq (.seq (.reg [Zm 19 9,Zm 20 0,Z 21 (.lenL (T 20)),Z 22 (.bin .lss (T 19) (T 21)),Zm 23 22]) (.seq (.cond (T 23) (.reg [Zm 24 9,Z 25 (.bin .lss (T 24) (I 40))]) (ZP 24 2)) (.reg [Z 26 (.pick (T 23) (T 25) (.cs (.bool false)))]))) (.cond (T 26) .skip (.exit 0))) (.seq (.block 1 (.seq (.reg [Zm 29 0,Zm 30 9,Z 31 (.ia 10 (T 29) (T 30)),Z 32 (.ld 10 true (T 31)),Z 10 (.alloc [.int .i64 0,.int .i64 0,.int .i64 0,.nils,.nils,.nils,.int .i64 0,.int .i64 0,.int .i64 0,.int .i64 0]),(.mk none (.st 10 (T 10) (T 32)) none,[])]) (.seq (.seq (.reg [Z 33 (.ld 10 true (T 10)),Z 34 (.call 17 [T 33]),Z 35 (.un .not (T 34))]) (.cond (T 35) (.exit 1) .skip)) (.seq (.reg [Z 36 (.fa 0 (T 10)),Z 37 (.ld 1 false (T 36)),Z 38 (.call 13 [T 37,I 4]),Zm 11 38]) (.seq (.reg [Zm 39 11,Z 40 (.iap 4 1 (T 8) (T 39)),Z 41 (.ld 1 false (T 40)),Z 42 (.bin .add (T 41) (I 1)),Z 43 (.iap 4 1 (T 8) (T 39)),(.mk none (.st 1 (T 43) (T 42)) none,[])]) (.seq (.reg [Zm 44 11,Z 45 (.bin .add (T 44) (I 1)),Zm 46 11,Z 47 (.iap 4 1 (T 8) (T 46)),Z 48 (.ld 1 false (T 47)),Z 49 (.fa 0 (T 10)),(.mk none (.st 1 (T 49) (T 45)) none,[.mk (.some 48) (.ld 1 false (T 47)) none]),Z 50 (.fa 1 (T 10)),(.mk none (.st 1 (T 50) (T 48)) none,[])]) (.seq (.reg [Zm 51 11,Zm 52 11,Z 53 (.ld 10 true (T 10)),Zm 54 5,Z 55 (.ld 10 true (T 10)),Z 57 (.iap 4 10 (T 6) (T 51)),(.mk (.some 56) (.call 14 [T 54,T 55]) none,[.mk (.some 53) (.ld 10 true (T 10)) none]),(.mk none (.st 10 (T 57) (T 53)) none,[]),Z 58 (.iap 4 5 (T 7) (T 52)),(.mk none (.st 5 (T 58) (T 56)) none,[])]) (.seq (.reg [Zm 59 9,Zm 60 1,Z 61 (.lenL (T 60)),Z 62 (.bin .lss (T 59) (T 61))]) (.cond (T 62) (.seq (.reg [Zm 63 1,Zm 64 9,Z 65 (.ia 1 (T 63) (T 64)),Z 66 (.ld 1 false (T 65)),Z 67 (.call 13 [T 66,I 4]),Zm 12 67]) (.seq (.reg [Zm 68 5,Z 69 (.call 15 [T 68]),Z 70 (.call 16 [T 69]),Zm 71 5,Z 72 (.call 18 [T 71]),Zm 13 70,Zm 14 72]) (.seq (.seq (.seq (.reg [Zm 73 12,Z 74 (.iap 4 1 (T 8) (T 73)),Z 75 (.ld 1 false (T 74)),Z 76 (.bin .gtr (T 75) (I 0)),Zm 77 76]) (.seq (.cond (T 77) (.reg [Zm 78 5,Zm 79 12,Z 80 (.iap 4 10 (T 6) (T 79)),Z 81 (.ld 10 true (T 80)),Zm 83 12,Z 84 (.iap 4 5 (T 7) (T 83)),Z 85 (.ld 5 true (T 84)),(.mk (.some 82) (.call 14 [T 78,T 81]) none,[.mk (.some 85) (.ld 5 true (T 84)) (.some (77,true))]),Z 86 (.call 19 [T 82,T 85]),Z 87 (.un .not (T 86))]) (.reg [Z 78 (.mv (.cs (.tup []))),Z 79 (.mv (.cs (.tup []))),Z 80 (.mv (.cs (.tup []))),Z 81 (.mv (.cs (.tup []))),Z 83 (.mv (.cs (.tup []))),Z 84 (.mv (.cs (.tup []))),Z 85 (.mv (.cs (.tup []))),(.mk (.some 82) .nop none,[.mk (.some 85) (.ld 5 true (T 84)) (.some (77,true))]),Z 86 (.mv (.cs (.tup []))),Z 87 (.mv (.cs (.tup [])))])) (.reg [Z 88 (.pick (T 77) (T 87) (.cs (.bool false)))]))) (.cond (T 88) (.seq (.reg [Z 4 (.mv (.cs (.bool false)))]) .ret) .skip)) (.seq (.seq (.reg [Zm 89 12,Z 90 (.iap 4 1 (T 8) (T 89)),Z 91 (.ld 1 false (T 90)),Z 92 (.bin .gtr (T 91) (I 1))]) (.cond (T 92) (.seq (.reg [Zm 93 12,Z 94 (.iap 4 10 (T 6) (T 93)),Z 95 (.ld 10 true (T 94)),Z 15 (.alloc [.int .i64 0,.int .i64 0,.int .i64 0,.nils,.nils,.nils,.int .i64 0,.int .i64 0,.int .i64 0,.int .i64 0]),(.mk none (.st 10 (T 15) (T 95)) none,[])]) (.seq (.reg [Z 96 (.fa 1 (T 15)),Z 97 (.ld 1 false (T 96)),Z 98 (.bin .sub (T 97) (I 1)),Z 99 (.fa 1 (T 15)),(.mk none (.st 1 (T 99) (T 98)) none,[])]) (.seq (.reg [Zm 100 5,Z 101 (.ld 10 true (T 15)),Z 102 (.call 14 [T 100,T 101]),Z 103 (.fld 0 1 false (T 102)),Z 104 (.bin .neq (T 103) (I 24))]) (.cond (T 104) (.seq (.reg [Z 4 (.mv (.cs (.bool false)))]) .ret) .skip)))) .skip)) (.seq (.seq (.reg [Zm 105 5,Z 106 (.call 15 [T 105]),Z 107 (.call 16 [T 106]),Zm 108 13,Z 109 (.bin .neq (T 107) (T 108)),Zm 110 109]) (.seq (.cond (T 110) (ZP 111 4) (.reg [Zm 111 5,Z 112 (.call 18 [T 111]),Zm 113 14,Z 114 (.bin .neq (T 112) (T 113))])) (.reg [Z 115 (.pick (T 110) (.cs (.bool true)) (T 114))]))) (.cond (T 115) (.seq (.reg [Z 4 (.mv (.cs (.bool false)))]) .ret) .skip)))))) .skip))))))))) (.reg [Zm 27 9,Z 28 (.bin .add (T 27) (I 1)),Zm 9 28])))))) (.seq (.reg [Z 4 (.mv (.cs (.bool true)))]) .ret)))))))) [.tmp 4]
theorem c4 : compF Tryz.prog Tryz.f4 = some F4:=by kernel_rfl
theorem t4 : TT 4 F4:=tt Tryz.func4 c4
def F5 : AFun:=.mk 130 (.seq (.reg [Z 8 (.mv (.cs (.bool false)))]) (.seq (.seq (.reg [Z 21 (.call 11 []),Z 22 (.un .not (T 21))]) (.cond (T 22) (.seq (.reg [Z 8 (.mv (.cs (.bool false)))]) .ret) .skip)) (.seq (.reg [Z 23 (.call 12 []),Zm 9 23]) (.seq (.reg [Zm 24 0,Z 25 (.call 13 [T 24,I 100]),Z 26 (.bin .add (I 1) (T 25)),Zm 0 26]) (.seq (.reg [Zm 27 9,Z 28 (.bld [.int .i64 0,.int .i64 0,.int .i64 0,.nils,.nils,.nils,.int .i64 0,.int .i64 0,.int .i64 0,.int .i64 0] [(2,(1,I 4)),(8,(1,I 50))]),Z 29 (.call 14 [T 27,T 28])]) (.seq (.seq (.reg [Zm 30 9,Zm 31 0,Z 32 (.bld [.int .i64 0,.int .i64 0,.int .i64 0,.nils,.nils,.nils,.int .i64 0,.int .i64 0,.int .i64 0,.int .i64 0] [(2,(1,I 1)),(6,(1,I 3)),(7,(1,T 31))]),Z 33 (.call 14 [T 30,T 32]),Z 34 (.fld 0 1 false (T 33)),Z 35 (.bin .neq (T 34) (I 0))]) (.cond (T 35) (.seq (.reg [Z 8 (.mv (.cs (.bool false)))]) .ret) .skip)) (.seq (.reg [Z 10 (.mv (I 0))]) (.seq (.seq (.reg [Z 11 (.mv (I 0))]) (.block 0 (.loop (.seq (.seq (.seq (.reg [Zm 36 11,Zm 37 1,Z 38 (.lenL (T 37)),Z 39 (.bin .lss (T 36) (T 38)),Zm 40 39]) (.seq (.cond (T 40) (.reg [Zm 41 11,Z 42 (.bin .lss (T 41) (I 10))]) (ZP 41 2)) (.reg [Z 43 (.pick (T 40) (T 42) (.cs (.bool false)))]))) (.cond (T 43) .skip (.exit 0))) (.seq (.block 1 (.seq (.reg [Zm 46 11,Z 47 (.bin .add (I 97) (T 46)),Z 48 (.cvi .u8 (T 47)),Z 49 (.bsl [.int .u8 0] 1 [(0,T 48)]),Z 50 (.bstr (T 49)),Z 51 (.bld [.int .i64 0,.str [],.str [],.str [],.int .i64 0,.int .i64 0] [(1,(1,T 50)),(3,(1,.cs (.str [118])))]),Z 12 (.alloc [.int .i64 0,.str [],.str [],.str [],.int .i64 0,.int .i64 0]),(.mk none (.st 6 (T 12) (T 51)) none,[])]) (.seq (.seq (.reg [Zm 52 1,Zm 53 11,Z 54 (.ia 1 (T 52) (T 53)),Z 55 (.ld 1 false (T 54)),Z 56 (.bin .rem (T 55) (I 2)),Z 57 (.bin .eql (T 56) (I 0))]) (.cond (T 57) (.seq (.reg [Z 58 (.fa 4 (T 12)),(.mk none (.st 1 (T 58) (I 3)) none,[])]) (.reg [Zm 59 10,Z 60 (.bin .add (T 59) (I 1)),Zm 10 60])) .skip)) (.reg [Zm 61 9,Z 62 (.ld 6 true (T 12)),Z 63 (.bsl [.int .i64 0,.str [],.str [],.str [],.int .i64 0,.int .i64 0] 1 [(0,T 62)]),Z 64 (.bld [.nils,.nils,.nils] [(1,(1,T 63))]),Z 65 (.bld [.int .i64 0,.int .i64 0,.int .i64 0,.nils,.nils,.nils,.int .i64 0,.int .i64 0,.int .i64 0,.int .i64 0] [(3,(3,T 64))]),Z 66 (.call 14 [T 61,T 65])])))) (.reg [Zm 44 11,Z 45 (.bin .add (T 44) (I 1)),Zm 11 45])))))) (.seq (.reg [Zm 67 2,Z 68 (.call 13 [T 67,I 200]),Zm 2 68]) (.seq (.reg [Zm 69 9,Zm 70 2,Z 71 (.bin .add (I 50) (T 70)),Z 72 (.bld [.int .i64 0,.int .i64 0,.int .i64 0,.nils,.nils,.nils,.int .i64 0,.int .i64 0,.int .i64 0,.int .i64 0] [(2,(1,I 4)),(8,(1,T 71))]),Z 73 (.call 14 [T 69,T 72])]) (.seq (.reg [Zm 74 9,Z 75 (.call 15 [T 74]),Z 76 (.call 16 [T 75]),Zm 13 76]) (.seq (.reg [Z 77 (.bld [.int .i64 0,.int .i64 0,.int .i64 0,.nils,.nils,.nils,.int .i64 0,.int .i64 0,.int .i64 0,.int .i64 0] [(2,(1,I 5))]),Z 14 (.alloc [.int .i64 0,.int .i64 0,.int .i64 0,.nils,.nils,.nils,.int .i64 0,.int .i64 0,.int .i64 0,.int .i64 0]),(.mk none (.st 10 (T 14) (T 77)) none,[])]) (.seq (.seq (.reg [Zm 78 3]) (.cond (T 78) (.reg [Z 79 (.bld [.int .i64 0,.int .i64 0,.int .i64 0,.nils,.nils,.nils,.int .i64 0,.int .i64 0,.int .i64 0,.int .i64 0] [(2,(1,I 3)),(6,(1,I 3))]),(.mk none (.st 10 (T 14) (T 79)) none,[])]) .skip)) (.seq (.seq (.reg [Zm 80 3,Zm 81 80]) (.seq (.cond (T 81) (ZP 82 3) (.reg [Zm 82 2,Zm 83 0,Z 84 (.bin .geq (T 82) (T 83))])) (.reg [Z 85 (.pick (T 81) (.cs (.bool true)) (T 84)),Zm 15 85]))) (.seq (.reg [Zm 86 9,Z 87 (.ld 10 true (T 14)),Z 88 (.call 14 [T 86,T 87]),Z 16 (.alloc [.int .i64 0,.int .i64 0,.bool false,.nils,.int .i64 0]),(.mk none (.st 5 (T 16) (T 88)) none,[])]) (.seq (.reg [Zm 90 9,Z 91 (.call 15 [T 90]),Z 92 (.call 20 [T 91,.cs (.str [97]),.cs (.str [122]),I 0,I 0]),Zm 89 92,Z 93 (.ext 0 (T 89)),Z 94 (.ext 1 (T 89)),Z 95 (.ext 2 (T 89)),Zm 17 93,Zm 18 94,Zm 19 95]) (.seq (.reg [Zm 96 1,Z 97 (.lenL (T 96)),Z 98 (.mm false (T 97) (I 10)),Zm 20 98]) (.seq (.seq (.reg [Zm 99 15]) (.cond (T 99) (.seq (.reg [Zm 100 20,Zm 101 10,Z 102 (.bin .sub (T 100) (T 101)),Zm 20 102]) (.seq (.reg [Zm 103 10,Z 104 (.bin .gtr (T 103) (I 0))]) (.cond (T 104) (.reg [Zm 105 13,Z 106 (.bin .add (T 105) (I 1)),Zm 13 106]) .skip))) .skip)) (.seq (.seq (.reg [Z 107 (.fa 0 (T 16)),Z 108 (.ld 1 false (T 107)),Z 109 (.bin .eql (T 108) (I 0)),Zm 110 109]) (.seq (.cond (T 110) (.reg [Zm 111 18,Zm 112 20,Z 113 (.bin .eql (T 111) (T 112))]) (ZP 111 3)) (.seq (.reg [Z 114 (.pick (T 110) (T 113) (.cs (.bool false))),Zm 115 114]) (.seq (.cond (T 115) (.reg [Zm 116 9,Z 117 (.call 15 [T 116]),Z 118 (.call 16 [T 117]),Zm 119 13,Z 120 (.bin .eql (T 118) (T 119))]) (ZP 116 5)) (.seq (.reg [Z 121 (.pick (T 115) (T 120) (.cs (.bool false))),Zm 122 121]) (.seq (.cond (T 122) (.reg [Zm 123 9,Z 124 (.call 21 [T 123]),Z 125 (.lenL (T 124)),Z 126 (.bin .eql (T 125) (I 0)),Zm 127 15,Z 128 (.eqn .bool false (T 126) (T 127))]) (ZP 123 6)) (.reg [Z 129 (.pick (T 122) (T 128) (.cs (.bool false))),Zm 8 129]))))))) .ret))))))))))))))))))) [.tmp 8]
theorem c5 : compF Tryz.prog Tryz.f5 = some F5:=by kernel_rfl
theorem t5 : TT 5 F5:=tt Tryz.func5 c5
def F11 : AFun:=.mk 36 (.seq (.reg [Z 0 (.mv (.cs (.bool false)))]) (.seq (.reg [Z 5 (.call 12 []),Zm 1 5]) (.seq (.seq (.reg [Zm 6 1,Z 7 (.eqn .ptr false (T 6) (.cs .nilp))]) (.cond (T 7) (.seq (.reg [Z 0 (.mv (.cs (.bool false)))]) .ret) .skip)) (.seq (.reg [Z 8 (.bld [.int .i64 0,.str [],.str [],.str [],.int .i64 0,.int .i64 0] [(1,(1,.cs (.str [97]))),(3,(1,.cs (.str [120])))]),Z 9 (.bsl [.int .i64 0,.str [],.str [],.str [],.int .i64 0,.int .i64 0] 1 [(0,T 8)]),Z 10 (.bld [.nils,.nils,.nils] [(1,(1,T 9))]),Z 11 (.bld [.int .i64 0,.int .i64 0,.int .i64 0,.nils,.nils,.nils,.int .i64 0,.int .i64 0,.int .i64 0,.int .i64 0] [(0,(1,I 3)),(1,(1,I 1)),(3,(3,T 10))]),Z 2 (.alloc [.int .i64 0,.int .i64 0,.int .i64 0,.nils,.nils,.nils,.int .i64 0,.int .i64 0,.int .i64 0,.int .i64 0]),(.mk none (.st 10 (T 2) (T 11)) none,[])]) (.seq (.reg [Zm 12 1,Z 13 (.ld 10 true (T 2)),Zm 15 1,Z 16 (.ld 10 true (T 2)),(.mk (.some 14) (.call 14 [T 12,T 13]) none,[.mk (.some 16) (.ld 10 true (T 2)) none]),Z 17 (.call 14 [T 15,T 16]),Z 3 (.alloc [.int .i64 0,.int .i64 0,.bool false,.nils,.int .i64 0]),Z 4 (.alloc [.int .i64 0,.int .i64 0,.bool false,.nils,.int .i64 0]),(.mk none (.st 5 (T 3) (T 14)) none,[]),(.mk none (.st 5 (T 4) (T 17)) none,[])]) (.seq (.seq (.reg [Z 18 (.fa 1 (T 3)),Z 19 (.ld 1 false (T 18)),Z 20 (.bin .eql (T 19) (I 1)),Zm 21 20]) (.seq (.cond (T 21) (.reg [Z 22 (.fa 2 (T 3)),Z 23 (.ld 1 false (T 22))]) (ZP 22 2)) (.seq (.reg [Z 24 (.pick (T 21) (T 23) (.cs (.bool false))),Zm 25 24]) (.seq (.cond (T 25) (.reg [Z 26 (.ld 5 true (T 3)),Z 27 (.ld 5 true (T 4)),Z 28 (.call 19 [T 26,T 27])]) (ZP 26 3)) (.seq (.reg [Z 29 (.pick (T 25) (T 28) (.cs (.bool false))),Zm 30 29]) (.seq (.cond (T 30) (.reg [Zm 31 1,Z 32 (.call 15 [T 31]),Z 33 (.call 16 [T 32]),Z 34 (.bin .eql (T 33) (I 1))]) (ZP 31 4)) (.reg [Z 35 (.pick (T 30) (T 34) (.cs (.bool false))),Zm 0 35]))))))) .ret)))))) [.tmp 0]
theorem c11 : compF Tryz.prog Tryz.f11 = some F11:=by kernel_rfl
theorem t11 : TT 11 F11:=tt Tryz.func11 c11
def F12 : AFun:=.mk 16 (.seq (.reg [Z 0 (.mv (.cs .nilp))]) (.seq (.reg [Z 2 (.bld [.nili,.nili,.nili,.int .i64 0] []),Z 3 (.box (T 2)),Zm 1 3]) (.seq (.reg [Zm 4 1,Z 5 (.call 30 []),Z 6 (.mkif 39 (T 5)),Z 7 (.call 31 []),Z 8 (.mkif 92 (T 7)),Z 9 (.call 32 []),Z 10 (.mkif 94 (T 9)),Z 11 (.bld [.nili,.nili,.nili] [(0,(1,T 6)),(1,(1,T 8)),(2,(1,T 10))]),Z 12 (.nilck (T 4)),Z 13 (.fa 0 (T 12)),Z 14 (.fa 0 (T 13)),(.mk none (.st 3 (T 14) (T 11)) none,[])]) (.seq (.reg [Zm 15 1,Zm 0 15]) .ret)))) [.tmp 0]
theorem c12 : compF Tryz.prog Tryz.f12 = some F12:=by kernel_rfl
theorem t12 : TT 12 F12:=tt Tryz.func12 c12
def F13 : AFun:=.mk 15 (.seq (.reg [Z 4 (.mv (I 0))]) (.seq (.reg [Zm 6 0,Zm 7 1,Z 8 (.bin .rem (T 6) (T 7)),Zm 5 8]) (.seq (.seq (.reg [Zm 9 5,Z 10 (.bin .lss (T 9) (I 0))]) (.cond (T 10) (.reg [Zm 11 5,Zm 12 1,Z 13 (.bin .add (T 11) (T 12)),Zm 5 13]) .skip)) (.seq (.reg [Zm 14 5,Zm 4 14]) .ret)))) [.tmp 4]
theorem c13 : compF Tryz.prog Tryz.f13 = some F13:=by kernel_rfl
theorem t13 : TT 13 F13:=tt Tryz.func13 c13
def F14 : AFun:=.mk 49 (.seq (.reg [Z 3 (.box (T 1)),Z 4 (.alloc [.int .i64 0,.int .i64 0,.bool false,.nils,.int .i64 0])]) (.seq (.seq (.reg [Zm 9 0,Z 10 (.nilck (T 9)),Z 11 (.fa 0 (T 10)),Z 13 (.fa 0 (T 3)),Z 14 (.ld 1 false (T 13)),Z 15 (.fa 1 (T 3)),Z 16 (.ld 1 false (T 15)),(.mk (.some 12) (.call 33 [T 11]) none,[.mk (.some 14) (.ld 1 false (T 13)) none,.mk (.some 16) (.ld 1 false (T 15)) none]),Z 17 (.call 34 [T 12,T 14,T 16]),Zm 8 17,Z 18 (.ext 0 (T 8)),Z 19 (.ext 1 (T 8)),Z 5 (.alloc [.int .i64 0,.int .i64 0,.bool false,.nils,.int .i64 0]),(.mk none (.st 5 (T 5) (T 18)) none,[]),Zm 6 19]) (.seq (.reg [Zm 20 6,Z 21 (.un .not (T 20))]) (.cond (T 21) (.seq (.reg [Z 22 (.ld 5 true (T 5)),(.mk none (.st 5 (T 4) (T 22)) none,[])]) .ret) .skip))) (.seq (.reg [Zm 23 0,Z 24 (.ld 10 true (T 3)),Z 25 (.call 36 [T 24]),Z 26 (.call 35 [T 23,T 25]),Z 7 (.alloc [.int .i64 0,.int .i64 0,.bool false,.nils,.int .i64 0]),(.mk none (.st 5 (T 7) (T 26)) none,[])]) (.seq (.reg [Zm 27 0,Z 28 (.nilck (T 27)),Z 29 (.fa 0 (T 28)),Zm 32 0,Z 33 (.nilck (T 32)),Z 34 (.fa 3 (T 33)),Z 35 (.ld 1 false (T 34)),(.mk (.some 30) (.call 37 [T 29]) none,[.mk (.some 35) (.ld 1 false (T 34)) none]),(.mk (.some 31) (.call 16 [T 30]) none,[.mk (.some 35) (.ld 1 false (T 34)) none]),Z 36 (.fa 1 (T 7)),(.mk none (.st 1 (T 36) (T 31)) none,[.mk (.some 35) (.ld 1 false (T 34)) none]),Z 37 (.fa 4 (T 7)),(.mk none (.st 1 (T 37) (T 35)) none,[])]) (.seq (.reg [Zm 38 0,Z 39 (.nilck (T 38)),Z 40 (.fa 0 (T 39)),Z 42 (.fa 0 (T 3)),Z 43 (.ld 1 false (T 42)),Z 44 (.fa 1 (T 3)),Z 45 (.ld 1 false (T 44)),Z 46 (.ld 5 true (T 7)),(.mk (.some 41) (.call 33 [T 40]) none,[.mk (.some 43) (.ld 1 false (T 42)) none,.mk (.some 45) (.ld 1 false (T 44)) none,.mk (.some 46) (.ld 5 true (T 7)) none]),Z 47 (.call 38 [T 41,T 43,T 45,T 46])]) (.seq (.reg [Z 48 (.ld 5 true (T 7)),(.mk none (.st 5 (T 4) (T 48)) none,[])]) .ret)))))) [.cell 4 5 true]
theorem c14 : compF Tryz.prog Tryz.f14 = some F14:=by kernel_rfl
theorem t14 : TT 14 F14:=tt Tryz.func14 c14
def F15 : AFun:=.mk 7 (.seq (.reg [Z 2 (.mv (.cs .nilp))]) (.seq (.reg [Zm 3 0,Z 4 (.nilck (T 3)),Z 5 (.fa 0 (T 4)),Z 6 (.call 37 [T 5]),Zm 2 6]) .ret)) [.tmp 2]
theorem c15 : compF Tryz.prog Tryz.f15 = some F15:=by kernel_rfl
theorem t15 : TT 15 F15:=tt Tryz.func15 c15
def F16 : AFun:=.mk 7 (.seq (.reg [Z 2 (.mv (I 0))]) (.seq (.reg [Zm 3 0,Z 4 (.nilck (T 3)),Z 5 (.fa 0 (T 4)),Z 6 (.ld 1 false (T 5)),Zm 2 6]) .ret)) [.tmp 2]
theorem c16 : compF Tryz.prog Tryz.f16 = some F16:=by kernel_rfl
theorem t16 : TT 16 F16:=tt Tryz.func16 c16
def F19 : AFun:=.mk 38 (.seq (.reg [Z 2 (.box (T 0)),Z 3 (.box (T 1)),Z 4 (.mv (.cs (.bool false)))]) (.seq (.seq (.reg [Z 5 (.fa 0 (T 2)),Z 6 (.ld 1 false (T 5)),Z 7 (.fa 0 (T 3)),Z 8 (.ld 1 false (T 7)),Z 9 (.bin .eql (T 6) (T 8)),Zm 10 9]) (.seq (.cond (T 10) (.reg [Z 11 (.fa 1 (T 2)),Z 12 (.ld 1 false (T 11)),Z 13 (.fa 1 (T 3)),Z 14 (.ld 1 false (T 13)),Z 15 (.bin .eql (T 12) (T 14))]) (ZP 11 5)) (.seq (.reg [Z 16 (.pick (T 10) (T 15) (.cs (.bool false))),Zm 17 16]) (.seq (.cond (T 17) (.reg [Z 18 (.fa 2 (T 2)),Z 19 (.ld 1 false (T 18)),Z 20 (.fa 2 (T 3)),Z 21 (.ld 1 false (T 20)),Z 22 (.eqn .bool false (T 19) (T 21))]) (ZP 18 5)) (.seq (.reg [Z 23 (.pick (T 17) (T 22) (.cs (.bool false))),Zm 24 23]) (.seq (.cond (T 24) (.reg [Z 25 (.fa 4 (T 2)),Z 26 (.ld 1 false (T 25)),Z 27 (.fa 4 (T 3)),Z 28 (.ld 1 false (T 27)),Z 29 (.bin .eql (T 26) (T 28))]) (ZP 25 5)) (.seq (.reg [Z 30 (.pick (T 24) (T 29) (.cs (.bool false))),Zm 31 30]) (.seq (.cond (T 31) (.reg [Z 32 (.fa 3 (T 2)),Z 33 (.ld 1 false (T 32)),Z 34 (.fa 3 (T 3)),Z 35 (.ld 1 false (T 34)),Z 36 (.call 40 [T 33,T 35,.cs (.fn 41 [])])]) (ZP 32 5)) (.reg [Z 37 (.pick (T 31) (T 36) (.cs (.bool false))),Zm 4 37]))))))))) .ret)) [.tmp 4]
theorem c19 : compF Tryz.prog Tryz.f19 = some F19:=by kernel_rfl
theorem t19 : TT 19 F19:=tt Tryz.func19 c19
def F20 : AFun:=.mk 82 (.seq (.reg [Z 10 (.mv (.cs .nils)),Z 11 (.mv (I 0)),Z 12 (.mv (I 0))]) (.seq (.block 0 (.seq (.reg [Zm 20 3,Z 21 (.bin .lss (T 20) (I 0)),Zm 19 21]) (.cond (T 19) (.seq (.reg [Z 10 (.mv (.cs .nils)),Z 11 (.mv (I 0)),Z 12 (.mv (I 1))]) .ret) (.seq (.reg [Zm 23 3,Zm 24 0,Z 25 (.nilck (T 24)),Z 26 (.fa 0 (T 25)),Z 27 (.ld 1 false (T 26)),Z 28 (.bin .gtr (T 23) (T 27)),Zm 22 28]) (.cond (T 22) (.seq (.reg [Z 10 (.mv (.cs .nils)),Z 11 (.mv (I 0)),Z 12 (.mv (I 17))]) .ret) (.seq (.seq (.reg [Zm 30 3,Z 31 (.bin .gtr (T 30) (I 0)),Zm 32 31]) (.seq (.cond (T 32) (.reg [Zm 33 3,Zm 34 0,Z 35 (.nilck (T 34)),Z 36 (.fa 1 (T 35)),Z 37 (.ld 1 false (T 36)),Z 38 (.bin .lss (T 33) (T 37))]) (ZP 33 6)) (.reg [Z 39 (.pick (T 32) (T 38) (.cs (.bool false))),Zm 29 39]))) (.cond (T 29) (.seq (.reg [Z 10 (.mv (.cs .nils)),Z 11 (.mv (I 0)),Z 12 (.mv (I 16))]) .ret) (.seq (.reg [Zm 41 3,Z 42 (.bin .eql (T 41) (I 0)),Zm 40 42]) (.cond (T 40) (.reg [Zm 43 0,Z 44 (.nilck (T 43)),Z 45 (.fa 0 (T 44)),Z 46 (.ld 1 false (T 45)),Zm 3 46]) .skip))))))))) (.seq (.reg [Z 13 (.mv (.cs .nils))]) (.seq (.reg [Z 14 (.mv (I 0))]) (.seq (.seq (.reg [Zm 47 0,Zm 48 1,Zm 49 2,Z 50 (.call 43 [T 47,T 48,T 49]),Z 51 (.lenL (T 50)),Z 52 (.mv (I 0))]) (.block 1 (.loop (.seq (.reg [Z 53 (.bin .lss (T 52) (T 51))]) (.seq (.cond (T 53) .skip (.exit 1)) (.seq (.block 2 (.seq (.reg [Z 54 (.ia 1 (T 50) (T 52)),Z 55 (.ld 1 false (T 54)),Zm 16 55]) (.seq (.reg [Zm 57 0,Zm 58 16,Zm 59 3,Z 60 (.call 44 [T 57,T 58,T 59]),Zm 56 60,Z 61 (.ext 0 (T 56)),Z 62 (.ext 1 (T 56)),Z 17 (.alloc [.str [],.str [],.int .i64 0,.int .i64 0,.int .i64 0,.int .i64 0]),(.mk none (.st 6 (T 17) (T 61)) none,[]),Zm 18 62]) (.seq (.seq (.reg [Zm 63 18,Z 64 (.un .not (T 63))]) (.cond (T 64) (.exit 2) .skip)) (.seq (.reg [Zm 65 14,Z 66 (.bin .add (T 65) (I 1)),Zm 14 66]) (.seq (.seq (.reg [Zm 67 4,Z 68 (.bin .lss (T 67) (I 1)),Zm 69 68]) (.seq (.cond (T 69) (ZP 70 4) (.reg [Zm 70 13,Z 71 (.lenL (T 70)),Zm 72 4,Z 73 (.bin .lss (T 71) (T 72))])) (.reg [Z 74 (.pick (T 69) (.cs (.bool true)) (T 73))]))) (.cond (T 74) (.reg [Zm 75 13,Z 76 (.ld 6 true (T 17)),Z 77 (.bsl [.str [],.str [],.int .i64 0,.int .i64 0,.int .i64 0,.int .i64 0] 1 [(0,T 76)]),Z 78 (.app 6 64 (T 75) (T 77)),Zm 13 78]) .skip))))))) (.reg [Z 79 (.bin .add (T 52) (I 1)),Zm 52 79]))))))) (.seq (.reg [Zm 80 13,Zm 81 14,Zm 10 80,Zm 11 81,Z 12 (.mv (I 0))]) .ret)))))) [.tmp 10,.tmp 11,.tmp 12]
theorem c20 : compF Tryz.prog Tryz.f20 = some F20:=by kernel_rfl
theorem t20 : TT 20 F20:=tt Tryz.func20 c20
def F21 : AFun:=.mk 8 (.seq (.reg [Z 2 (.mv (.cs .nils))]) (.seq (.reg [Zm 3 0,Z 4 (.nilck (T 3)),Z 5 (.fa 0 (T 4)),Z 6 (.call 45 [T 5]),Z 7 (.call 46 [T 6]),Zm 2 7]) .ret)) [.tmp 2]
theorem c21 : compF Tryz.prog Tryz.f21 = some F21:=by kernel_rfl
theorem t21 : TT 21 F21:=tt Tryz.func21 c21
def F30 : AFun:=.mk 5 (.seq (.reg [Z 0 (.mv (.cs .nilp))]) (.seq (.reg [Z 1 (.call 86 []),Z 2 .mkm,Z 3 (.bld [.int .i64 0,.int .i64 0,.int .i64 0,.nilp,.nilm,.nils,.nilp] [(3,(1,T 1)),(4,(1,T 2))]),Z 4 (.box (T 3)),Zm 0 4]) .ret)) [.tmp 0]
theorem c30 : compF Tryz.prog Tryz.f30 = some F30:=by kernel_rfl
theorem t30 : TT 30 F30:=tt Tryz.func30 c30
def F31 : AFun:=.mk 4 (.seq (.reg [Z 0 (.mv (.cs .nilp))]) (.seq (.reg [Z 1 .mkm,Z 2 (.bld [.nilm] [(0,(1,T 1))]),Z 3 (.box (T 2)),Zm 0 3]) .ret)) [.tmp 0]
theorem c31 : compF Tryz.prog Tryz.f31 = some F31:=by kernel_rfl
theorem t31 : TT 31 F31:=tt Tryz.func31 c31
def F32 : AFun:=.mk 4 (.seq (.reg [Z 0 (.mv (.cs .nilp))]) (.seq (.reg [Z 1 .mkm,Z 2 (.bld [.nilm] [(0,(1,T 1))]),Z 3 (.box (T 2)),Zm 0 3]) .ret)) [.tmp 0]
theorem c32 : compF Tryz.prog Tryz.f32 = some F32:=by kernel_rfl
theorem t32 : TT 32 F32:=tt Tryz.func32 c32
def F33 : AFun:=.mk 9 (.seq (.reg [Z 2 (.mv (.cs .nilp))]) (.seq (.reg [Zm 3 0,Z 4 (.nilck (T 3)),Z 5 (.fa 0 (T 4)),Z 6 (.iap 3 1 (T 5) (I 2)),Z 7 (.ld 1 false (T 6)),Z 8 (.ta 94 false .nilp (T 7)),Zm 2 8]) .ret)) [.tmp 2]
theorem c33 : compF Tryz.prog Tryz.f33 = some F33:=by kernel_rfl
theorem t33 : TT 33 F33:=tt Tryz.func33 c33
def F34 : AFun:=.mk 58 (.seq (.reg [Z 6 (.alloc [.int .i64 0,.int .i64 0,.bool false,.nils,.int .i64 0]),Z 7 (.mv (.cs (.bool false)))]) (.seq (.reg [Zm 11 0,Z 12 (.nilck (T 11)),Z 13 (.fa 0 (T 12)),Z 14 (.ld 1 false (T 13)),Zm 15 1,Z 16 (.lkp false true (.agg [.int .i64 0,.int .i64 0,.int .i64 0,.int .i64 0,.bool false,.nils,.int .i64 0]) (T 14) (T 15)),Zm 10 16,Z 17 (.ext 0 (T 10)),Z 18 (.ext 1 (T 10)),Z 8 (.alloc [.int .i64 0,.int .i64 0,.int .i64 0,.int .i64 0,.bool false,.nils,.int .i64 0]),(.mk none (.st 7 (T 8) (T 17)) none,[]),Zm 9 18]) (.seq (.block 0 (.seq (.reg [Zm 20 1,Z 21 (.bin .eql (T 20) (I 0)),Zm 19 21]) (.cond (T 19) (.seq (.reg [Z 22 (.bld [.int .i64 0,.int .i64 0,.bool false,.nils,.int .i64 0] []),(.mk none (.st 5 (T 6) (T 22)) none,[]),Z 7 (.mv (.cs (.bool true)))]) .ret) (.seq (.seq (.reg [Zm 24 1,Z 25 (.bin .lss (T 24) (I 0)),Zm 26 25]) (.seq (.cond (T 26) (ZP 27 2) (.reg [Zm 27 2,Z 28 (.bin .lss (T 27) (I 1))])) (.reg [Z 29 (.pick (T 26) (.cs (.bool true)) (T 28)),Zm 23 29]))) (.cond (T 23) (.seq (.reg [Z 30 (.bld [.int .i64 0,.int .i64 0,.bool false,.nils,.int .i64 0] [(0,(1,I 1))]),(.mk none (.st 5 (T 6) (T 30)) none,[]),Z 7 (.mv (.cs (.bool false)))]) .ret) (.seq (.seq (.reg [Zm 32 9,Z 33 (.un .not (T 32)),Zm 34 33]) (.seq (.cond (T 34) (.reg [Zm 35 0,Z 36 (.nilck (T 35)),Z 37 (.fa 0 (T 36)),Z 38 (.ld 1 false (T 37)),Z 39 (.lenM (T 38)),Z 40 (.bin .geq (T 39) (I 64))]) (ZP 35 6)) (.reg [Z 41 (.pick (T 34) (T 40) (.cs (.bool false))),Zm 31 41]))) (.cond (T 31) (.seq (.reg [Z 42 (.bld [.int .i64 0,.int .i64 0,.bool false,.nils,.int .i64 0] [(0,(1,I 4))]),(.mk none (.st 5 (T 6) (T 42)) none,[]),Z 7 (.mv (.cs (.bool false)))]) .ret) (.seq (.reg [Z 44 (.fa 1 (T 8)),Z 45 (.ld 1 false (T 44)),Zm 46 2,Z 47 (.bin .lss (T 45) (T 46)),Zm 43 47]) (.cond (T 43) (.seq (.reg [Z 48 (.bld [.int .i64 0,.int .i64 0,.bool false,.nils,.int .i64 0] []),(.mk none (.st 5 (T 6) (T 48)) none,[]),Z 7 (.mv (.cs (.bool true)))]) .ret) (.seq (.reg [Z 50 (.fa 1 (T 8)),Z 51 (.ld 1 false (T 50)),Zm 52 2,Z 53 (.bin .gtr (T 51) (T 52)),Zm 49 53]) (.cond (T 49) (.seq (.reg [Z 54 (.bld [.int .i64 0,.int .i64 0,.bool false,.nils,.int .i64 0] [(0,(1,I 24))]),(.mk none (.st 5 (T 6) (T 54)) none,[]),Z 7 (.mv (.cs (.bool false)))]) .ret) .skip))))))))))) (.seq (.reg [Z 55 (.fa 2 (T 8)),Z 56 (.ld 5 true (T 55)),Z 57 (.call 87 [T 56]),(.mk none (.st 5 (T 6) (T 57)) none,[]),Z 7 (.mv (.cs (.bool false)))]) .ret)))) [.cell 6 5 true,.tmp 7]
theorem c34 : compF Tryz.prog Tryz.f34 = some F34:=by kernel_rfl
theorem t34 : TT 34 F34:=tt Tryz.func34 c34
def F35 : AFun:=.mk 135 (.seq (.reg [Z 4 (.alloc [.int .i64 0,.int .i64 0,.bool false,.nils,.int .i64 0])]) (.seq (.reg [Z 14 (.bld [.int .i64 0,.int .i64 0,.bool false,.nils,.int .i64 0] []),Z 5 (.alloc [.int .i64 0,.int .i64 0,.bool false,.nils,.int .i64 0]),(.mk none (.st 5 (T 5) (T 14)) none,[])]) (.seq (.seq (.reg [Zm 15 1]) (.block 0 (.seq (.reg [Z 17 (.ta 175 true (.agg [.nils,.nils,.nils]) (T 15)),Z 18 (.ext 1 (T 17)),Z 19 (.ext 0 (T 17))]) (.cond (T 18) (.seq (.reg [Z 6 (.alloc [.nils,.nils,.nils]),(.mk none (.st 3 (T 6) (T 19)) none,[])]) (.reg [Zm 21 0,Z 22 (.nilck (T 21)),Z 23 (.fa 0 (T 22)),Zm 25 0,Z 26 (.nilck (T 25)),Z 27 (.fa 0 (T 26)),Z 30 (.fa 0 (T 6)),Z 31 (.ld 3 true (T 30)),(.mk (.some 24) (.call 37 [T 23]) none,[.mk (.some 31) (.ld 3 true (T 30)) none]),(.mk (.some 28) (.call 45 [T 27]) none,[.mk (.some 31) (.ld 3 true (T 30)) none]),Z 29 (.mkif 92 (T 28)),Z 32 (.call 88 [T 24,T 29,T 31]),Zm 20 32,Z 33 (.ext 0 (T 20)),Z 34 (.ext 1 (T 20)),Z 35 (.ext 2 (T 20)),Z 36 (.fa 2 (T 5)),(.mk none (.st 1 (T 36) (T 33)) none,[]),Z 37 (.fa 3 (T 5)),(.mk none (.st 1 (T 37) (T 34)) none,[]),Z 38 (.fa 0 (T 5)),(.mk none (.st 1 (T 38) (T 35)) none,[])])) (.seq (.reg [Z 39 (.ta 179 true (.agg [.int .i64 0,.int .i64 0]) (T 15)),Z 40 (.ext 1 (T 39)),Z 41 (.ext 0 (T 39))]) (.cond (T 40) (.seq (.reg [Z 7 (.alloc [.int .i64 0,.int .i64 0]),(.mk none (.st 2 (T 7) (T 41)) none,[])]) (.reg [Zm 42 0,Z 43 (.nilck (T 42)),Z 44 (.fa 0 (T 43)),Z 46 (.fa 0 (T 7)),Z 47 (.ld 1 false (T 46)),Z 48 (.fa 1 (T 7)),Z 49 (.ld 1 false (T 48)),Zm 50 0,Z 51 (.nilck (T 50)),Z 52 (.fa 3 (T 51)),Z 53 (.ld 1 false (T 52)),(.mk (.some 45) (.call 45 [T 44]) none,[.mk (.some 47) (.ld 1 false (T 46)) none,.mk (.some 49) (.ld 1 false (T 48)) none,.mk (.some 53) (.ld 1 false (T 52)) none]),Z 54 (.call 89 [T 45,T 47,T 49,T 53]),Z 55 (.fa 0 (T 5)),(.mk none (.st 1 (T 55) (T 54)) none,[])])) (.seq (.reg [Z 56 (.ta 182 true (.agg [.int .i64 0]) (T 15)),Z 57 (.ext 1 (T 56)),Z 58 (.ext 0 (T 56))]) (.cond (T 57) (.seq (.reg [Z 8 (.alloc [.int .i64 0]),(.mk none (.st 1 (T 8) (T 58)) none,[])]) (.reg [Zm 59 0,Z 60 (.nilck (T 59)),Z 61 (.fa 0 (T 60)),Z 63 (.fa 0 (T 8)),Z 64 (.ld 1 false (T 63)),Zm 65 0,Z 66 (.nilck (T 65)),Z 67 (.fa 3 (T 66)),Z 68 (.ld 1 false (T 67)),(.mk (.some 62) (.call 45 [T 61]) none,[.mk (.some 64) (.ld 1 false (T 63)) none,.mk (.some 68) (.ld 1 false (T 67)) none]),Z 69 (.call 90 [T 62,T 64,T 68]),Z 70 (.fa 0 (T 5)),(.mk none (.st 1 (T 70) (T 69)) none,[])])) (.seq (.reg [Z 71 (.ta 184 true (.agg [.int .i64 0]) (T 15)),Z 72 (.ext 1 (T 71)),Z 73 (.ext 0 (T 71))]) (.cond (T 72) (.seq (.reg [Z 9 (.alloc [.int .i64 0]),(.mk none (.st 1 (T 9) (T 73)) none,[])]) (.seq (.reg [Zm 74 0,Z 75 (.nilck (T 74)),Z 76 (.fa 0 (T 75)),Z 78 (.fa 0 (T 9)),Z 79 (.ld 1 false (T 78)),(.mk (.some 77) (.call 45 [T 76]) none,[.mk (.some 79) (.ld 1 false (T 78)) none]),Z 80 (.call 91 [T 77,T 79])]) (.cond (T 80) (.reg [Zm 81 0,Z 82 (.fa 0 (T 9)),Z 83 (.ld 1 false (T 82)),Z 84 (.bsl [.int .i64 0] 1 [(0,T 83)]),Z 85 (.call 92 [T 81,T 84])]) (.reg [Z 86 (.fa 0 (T 5)),(.mk none (.st 1 (T 86) (I 2)) none,[])])))) (.seq (.reg [Z 87 (.ta 187 true (.agg [.int .i64 0]) (T 15)),Z 88 (.ext 1 (T 87)),Z 89 (.ext 0 (T 87))]) (.cond (T 88) (.seq (.reg [Z 10 (.alloc [.int .i64 0]),(.mk none (.st 1 (T 10) (T 89)) none,[])]) (.seq (.seq (.seq (.reg [Z 90 (.fa 0 (T 10)),Z 91 (.ld 1 false (T 90)),Z 92 (.bin .lss (T 91) (I 0)),Zm 93 92]) (.seq (.cond (T 93) (ZP 94 3) (.reg [Z 94 (.fa 0 (T 10)),Z 95 (.ld 1 false (T 94)),Z 96 (.bin .gtr (T 95) (I 1099511627776))])) (.reg [Z 97 (.pick (T 93) (.cs (.bool true)) (T 96))]))) (.cond (T 97) (.seq (.reg [Z 98 (.fa 0 (T 5)),(.mk none (.st 1 (T 98) (I 1)) none,[])]) (.exit 0)) .skip)) (.reg [Zm 99 0,Zm 100 0,Z 101 (.nilck (T 100)),Z 102 (.fa 3 (T 101)),Z 103 (.ld 1 false (T 102)),Z 104 (.fa 0 (T 10)),Z 105 (.ld 1 false (T 104)),Z 106 (.mm true (T 103) (T 105)),Z 107 (.nilck (T 99)),Z 108 (.fa 3 (T 107)),(.mk none (.st 1 (T 108) (T 106)) none,[])]))) (.seq (.reg [Z 109 (.ta 189 true (.agg []) (T 15)),Z 110 (.ext 1 (T 109)),Z 111 (.ext 0 (T 109))]) (.cond (T 110) (.seq (.reg [Z 11 (.alloc []),(.mk none (.st 0 (T 11) (T 111)) none,[])]) (.reg [Zm 112 0,Zm 113 0,Z 114 (.nilck (T 113)),Z 115 (.fa 0 (T 114)),Zm 117 0,Z 118 (.nilck (T 117)),Z 119 (.fa 3 (T 118)),Z 120 (.ld 1 false (T 119)),(.mk (.some 116) (.call 45 [T 115]) none,[.mk (.some 120) (.ld 1 false (T 119)) none]),Z 121 (.call 93 [T 116,T 120]),Z 122 (.call 92 [T 112,T 121])])) (.seq (.reg [Z 123 (.ta 191 true (.agg [.int .i64 0]) (T 15)),Z 124 (.ext 1 (T 123)),Z 125 (.ext 0 (T 123))]) (.cond (T 124) (.seq (.reg [Z 12 (.alloc [.int .i64 0]),(.mk none (.st 1 (T 12) (T 125)) none,[])]) (.reg [Zm 126 0,Z 127 (.nilck (T 126)),Z 128 (.fa 0 (T 127)),Z 130 (.fa 0 (T 12)),Z 131 (.ld 1 false (T 130)),(.mk (.some 129) (.call 37 [T 128]) none,[.mk (.some 131) (.ld 1 false (T 130)) none]),Z 132 (.call 94 [T 129,T 131]),Z 133 (.fa 0 (T 5)),(.mk none (.st 1 (T 133) (T 132)) none,[])])) (.seq (.reg [Zm 13 15]) (.reg [Z 16 (.fa 0 (T 5)),(.mk none (.st 1 (T 16) (I 3)) none,[])])))))))))))))))))) (.seq (.reg [Z 134 (.ld 5 true (T 5)),(.mk none (.st 5 (T 4) (T 134)) none,[])]) .ret)))) [.cell 4 5 true]
theorem c35 : compF Tryz.prog Tryz.f35 = some F35:=by kernel_rfl
theorem t35 : TT 35 F35:=tt Tryz.func35 c35
def F36 : AFun:=.mk 47 (.seq (.reg [Z 1 (.box (T 0)),Z 2 (.mv (.cs .nili))]) (.seq (.seq (.reg [Z 3 (.fa 2 (T 1)),Z 4 (.ld 1 false (T 3))]) (.block 0 (.seq (.reg [Z 6 (.bin .eql (T 4) (I 0)),Zm 5 6]) (.cond (T 5) (.seq (.reg [Z 7 (.fa 3 (T 1)),Z 8 (.ld 3 true (T 7)),Z 9 (.bld [.nils,.nils,.nils] [(0,(3,T 8))]),Z 10 (.mkif 175 (T 9)),Zm 2 10]) .ret) (.seq (.reg [Z 12 (.bin .eql (T 4) (I 1)),Zm 11 12]) (.cond (T 11) (.seq (.reg [Z 13 (.fa 6 (T 1)),Z 14 (.ld 1 false (T 13)),Z 15 (.fa 7 (T 1)),Z 16 (.ld 1 false (T 15)),Z 17 (.bld [.int .i64 0,.int .i64 0] [(0,(1,T 14)),(1,(1,T 16))]),Z 18 (.mkif 179 (T 17)),Zm 2 18]) .ret) (.seq (.reg [Z 20 (.bin .eql (T 4) (I 2)),Zm 19 20]) (.cond (T 19) (.seq (.reg [Z 21 (.fa 6 (T 1)),Z 22 (.ld 1 false (T 21)),Z 23 (.bld [.int .i64 0] [(0,(1,T 22))]),Z 24 (.mkif 182 (T 23)),Zm 2 24]) .ret) (.seq (.reg [Z 26 (.bin .eql (T 4) (I 3)),Zm 25 26]) (.cond (T 25) (.seq (.reg [Z 27 (.fa 6 (T 1)),Z 28 (.ld 1 false (T 27)),Z 29 (.bld [.int .i64 0] [(0,(1,T 28))]),Z 30 (.mkif 184 (T 29)),Zm 2 30]) .ret) (.seq (.reg [Z 32 (.bin .eql (T 4) (I 4)),Zm 31 32]) (.cond (T 31) (.seq (.reg [Z 33 (.fa 8 (T 1)),Z 34 (.ld 1 false (T 33)),Z 35 (.bld [.int .i64 0] [(0,(1,T 34))]),Z 36 (.mkif 187 (T 35)),Zm 2 36]) .ret) (.seq (.reg [Z 38 (.bin .eql (T 4) (I 5)),Zm 37 38]) (.cond (T 37) (.seq (.reg [Z 39 (.bld [] []),Z 40 (.mkif 189 (T 39)),Zm 2 40]) .ret) (.seq (.reg [Z 42 (.bin .eql (T 4) (I 6)),Zm 41 42]) (.cond (T 41) (.seq (.reg [Z 43 (.fa 9 (T 1)),Z 44 (.ld 1 false (T 43)),Z 45 (.bld [.int .i64 0] [(0,(1,T 44))]),Z 46 (.mkif 191 (T 45)),Zm 2 46]) .ret) .skip)))))))))))))))) (.seq (.reg [Z 2 (.mv (.cs .nili))]) .ret))) [.tmp 2]
theorem c36 : compF Tryz.prog Tryz.f36 = some F36:=by kernel_rfl
theorem t36 : TT 36 F36:=tt Tryz.func36 c36
def F37 : AFun:=.mk 9 (.seq (.reg [Z 2 (.mv (.cs .nilp))]) (.seq (.reg [Zm 3 0,Z 4 (.nilck (T 3)),Z 5 (.fa 0 (T 4)),Z 6 (.iap 3 1 (T 5) (I 0)),Z 7 (.ld 1 false (T 6)),Z 8 (.ta 39 false .nilp (T 7)),Zm 2 8]) .ret)) [.tmp 2]
theorem c37 : compF Tryz.prog Tryz.f37 = some F37:=by kernel_rfl
theorem t37 : TT 37 F37:=tt Tryz.func37 c37
def F38 : AFun:=.mk 32 (.seq (.reg [Z 7 (.box (T 3))]) (.seq (.reg [Zm 11 0,Zm 12 1,Zm 13 2,Z 14 (.call 34 [T 11,T 12,T 13]),Zm 10 14,Z 15 (.ext 0 (T 10)),Z 16 (.ext 1 (T 10)),Z 8 (.alloc [.int .i64 0,.int .i64 0,.bool false,.nils,.int .i64 0]),(.mk none (.st 5 (T 8) (T 15)) none,[]),Zm 9 16]) (.seq (.seq (.reg [Zm 17 1,Z 18 (.bin .neq (T 17) (I 0)),Zm 19 18]) (.seq (.cond (T 19) (.reg [Zm 20 9]) (.reg [Z 20 (.mv (.cs (.tup [])))])) (.reg [Z 21 (.pick (T 19) (T 20) (.cs (.bool false)))]))) (.cond (T 21) (.reg [Zm 22 0,Z 23 (.nilck (T 22)),Z 24 (.fa 0 (T 23)),Z 25 (.ld 1 false (T 24)),Zm 26 1,Zm 27 1,Zm 28 2,Z 29 (.ld 5 true (T 7)),(.mk (.some 30) (.call 87 [T 29]) none,[.mk (.some 25) (.ld 1 false (T 24)) none]),Z 31 (.bld [.int .i64 0,.int .i64 0,.int .i64 0,.int .i64 0,.bool false,.nils,.int .i64 0] [(0,(1,T 27)),(1,(1,T 28)),(2,(5,T 30))]),(.mk none (.mup false (T 25) (T 26) (T 31)) none,[])]) .skip)))) []
theorem c38 : compF Tryz.prog Tryz.f38 = some F38:=by kernel_rfl
theorem t38 : TT 38 F38:=tt Tryz.func38 c38
def F40 : AFun:=.mk 32 (.seq (.reg [Z 6 (.mv (.cs (.bool false)))]) (.seq (.seq (.reg [Zm 10 0,Z 11 (.lenL (T 10)),Zm 12 1,Z 13 (.lenL (T 12)),Z 14 (.bin .neq (T 11) (T 13))]) (.cond (T 14) (.seq (.reg [Z 6 (.mv (.cs (.bool false)))]) .ret) .skip)) (.seq (.seq (.reg [Zm 15 0,Z 16 (.lenL (T 15)),Z 17 (.mv (I 0))]) (.block 0 (.loop (.seq (.reg [Z 18 (.bin .lss (T 17) (T 16))]) (.seq (.cond (T 18) .skip (.exit 0)) (.seq (.block 1 (.seq (.reg [Zm 19 17,Z 20 (.ia 2 (T 15) (T 17)),Z 21 (.ld 2 true (T 20)),Z 8 (.alloc [.int .i64 0,.nils]),Zm 7 19,(.mk none (.st 2 (T 8) (T 21)) none,[])]) (.seq (.reg [Zm 22 1,Zm 23 7,Z 24 (.ia 2 (T 22) (T 23)),Z 25 (.ld 2 true (T 24)),Z 9 (.alloc [.int .i64 0,.nils]),(.mk none (.st 2 (T 9) (T 25)) none,[])]) (.seq (.reg [Zm 26 2,Z 27 (.ld 2 true (T 8)),Z 28 (.ld 2 true (T 9)),Z 29 (.callv (T 26) [T 27,T 28]),Z 30 (.un .not (T 29))]) (.cond (T 30) (.seq (.reg [Z 6 (.mv (.cs (.bool false)))]) .ret) .skip))))) (.reg [Z 31 (.bin .add (T 17) (I 1)),Zm 17 31]))))))) (.seq (.reg [Z 6 (.mv (.cs (.bool true)))]) .ret)))) [.tmp 6]
theorem c40 : compF Tryz.prog Tryz.f40 = some F40:=by kernel_rfl
theorem t40 : TT 40 F40:=tt Tryz.func40 c40
def F41 : AFun:=.mk 17 (.seq (.reg [Z 2 (.box (T 0)),Z 3 (.box (T 1)),Z 4 (.mv (.cs (.bool false)))]) (.seq (.seq (.reg [Z 5 (.fa 0 (T 2)),Z 6 (.ld 1 false (T 5)),Z 7 (.fa 0 (T 3)),Z 8 (.ld 1 false (T 7)),Z 9 (.bin .eql (T 6) (T 8)),Zm 10 9]) (.seq (.cond (T 10) (.reg [Z 11 (.fa 1 (T 2)),Z 12 (.ld 1 false (T 11)),Z 13 (.fa 1 (T 3)),Z 14 (.ld 1 false (T 13)),Z 15 (.call 42 [T 12,T 14])]) (ZP 11 5)) (.reg [Z 16 (.pick (T 10) (T 15) (.cs (.bool false))),Zm 4 16]))) .ret)) [.tmp 4]
theorem c41 : compF Tryz.prog Tryz.f41 = some F41:=by kernel_rfl
theorem t41 : TT 41 F41:=tt Tryz.func41 c41
def F42 : AFun:=.mk 26 (.seq (.reg [Z 4 (.mv (.cs (.bool false)))]) (.seq (.seq (.reg [Zm 6 0,Z 7 (.lenL (T 6)),Zm 8 1,Z 9 (.lenL (T 8)),Z 10 (.bin .neq (T 7) (T 9))]) (.cond (T 10) (.seq (.reg [Z 4 (.mv (.cs (.bool false)))]) .ret) .skip)) (.seq (.seq (.reg [Zm 11 0,Z 12 (.lenL (T 11)),Z 13 (.mv (I 0))]) (.block 0 (.loop (.seq (.reg [Z 14 (.bin .lss (T 13) (T 12))]) (.seq (.cond (T 14) .skip (.exit 0)) (.seq (.block 1 (.seq (.reg [Zm 15 13,Zm 5 15]) (.seq (.reg [Zm 16 0,Zm 17 5,Z 18 (.ia 6 (T 16) (T 17)),Z 19 (.ld 6 true (T 18)),Zm 20 1,Zm 21 5,Z 22 (.ia 6 (T 20) (T 21)),Z 23 (.ld 6 true (T 22)),Z 24 (.eqs [.s,.s,.i,.i,.i,.i] true (T 19) (T 23))]) (.cond (T 24) (.seq (.reg [Z 4 (.mv (.cs (.bool false)))]) .ret) .skip)))) (.reg [Z 25 (.bin .add (T 13) (I 1)),Zm 13 25]))))))) (.seq (.reg [Z 4 (.mv (.cs (.bool true)))]) .ret)))) [.tmp 4]
theorem c42 : compF Tryz.prog Tryz.f42 = some F42:=by kernel_rfl
theorem t42 : TT 42 F42:=tt Tryz.func42 c42
def F43 : AFun:=.mk 18 (.seq (.reg [Z 6 (.mv (.cs .nils))]) (.seq (.seq (.reg [Zm 7 2,Z 8 (.bin .eql (T 7) (.cs (.str [])))]) (.cond (T 8) (.seq (.reg [Zm 9 1,Z 10 (.bsl [.str []] 1 [(0,T 9)]),Zm 6 10]) .ret) .skip)) (.seq (.reg [Zm 11 0,Z 12 (.nilck (T 11)),Z 13 (.fa 3 (T 12)),Z 14 (.ld 1 false (T 13)),Zm 15 1,Zm 16 2,Z 17 (.call 95 [T 14,T 15,T 16]),Zm 6 17]) .ret))) [.tmp 6]
theorem c43 : compF Tryz.prog Tryz.f43 = some F43:=by kernel_rfl
theorem t43 : TT 43 F43:=tt Tryz.func43 c43
def F44 : AFun:=.mk 38 (.seq (.reg [Z 5 (.box (T 2)),Z 6 (.alloc [.str [],.str [],.int .i64 0,.int .i64 0,.int .i64 0,.int .i64 0]),Z 7 (.mv (.cs (.bool false)))]) (.seq (.reg [Zm 12 0,Z 13 (.nilck (T 12)),Z 14 (.fa 4 (T 13)),Z 15 (.ld 1 false (T 14)),Zm 16 1,Z 17 (.lkp true false .nils (T 15) (T 16)),Z 8 (.alloc [.nils]),(.mk none (.st 1 (T 8) (T 17)) none,[])]) (.seq (.reg [Z 18 (.ld 1 false (T 8)),Z 19 (.lenL (T 18)),Z 20 (.mkfn 97 [T 8,T 5]),Z 21 (.call 96 [T 19,T 20]),Zm 9 21]) (.seq (.seq (.reg [Zm 22 9,Z 23 (.bin .eql (T 22) (I 0))]) (.cond (T 23) (.seq (.reg [Z 24 (.bld [.str [],.str [],.int .i64 0,.int .i64 0,.int .i64 0,.int .i64 0] []),(.mk none (.st 6 (T 6) (T 24)) none,[]),Z 7 (.mv (.cs (.bool false)))]) .ret) .skip)) (.seq (.reg [Z 26 (.ld 1 false (T 8)),Zm 27 9,Z 28 (.bin .sub (T 27) (I 1)),Z 29 (.ia 2 (T 26) (T 28)),Z 30 (.fa 1 (T 29)),Z 31 (.ld 1 false (T 30)),Z 32 (.ta 199 true (.agg [.str [],.str [],.int .i64 0,.int .i64 0,.int .i64 0,.int .i64 0]) (T 31)),Zm 25 32,Z 33 (.ext 0 (T 25)),Z 34 (.ext 1 (T 25)),Z 10 (.alloc [.str [],.str [],.int .i64 0,.int .i64 0,.int .i64 0,.int .i64 0]),(.mk none (.st 6 (T 10) (T 33)) none,[]),Zm 11 34]) (.seq (.reg [Z 35 (.fa 0 (T 10)),Z 36 (.ld 6 true (T 35)),Zm 37 11,(.mk none (.st 6 (T 6) (T 36)) none,[]),Zm 7 37]) .ret)))))) [.cell 6 6 true,.tmp 7]
theorem c44 : compF Tryz.prog Tryz.f44 = some F44:=by kernel_rfl
theorem t44 : TT 44 F44:=tt Tryz.func44 c44
def F45 : AFun:=.mk 9 (.seq (.reg [Z 2 (.mv (.cs .nilp))]) (.seq (.reg [Zm 3 0,Z 4 (.nilck (T 3)),Z 5 (.fa 0 (T 4)),Z 6 (.iap 3 1 (T 5) (I 1)),Z 7 (.ld 1 false (T 6)),Z 8 (.ta 92 false .nilp (T 7)),Zm 2 8]) .ret)) [.tmp 2]
theorem c45 : compF Tryz.prog Tryz.f45 = some F45:=by kernel_rfl
theorem t45 : TT 45 F45:=tt Tryz.func45 c45
def F46 : AFun:=.mk 9 (.seq (.reg [Z 2 (.mv (.cs .nils))]) (.seq (.reg [Zm 3 0,Z 4 (.nilck (T 3)),Z 5 (.fa 0 (T 4)),Z 6 (.ld 1 false (T 5)),Z 7 (.call 99 [T 6]),Z 8 (.call 98 [T 7,.cs (.fn 100 [])]),Zm 2 8]) .ret)) [.tmp 2]
theorem c46 : compF Tryz.prog Tryz.f46 = some F46:=by kernel_rfl
theorem t46 : TT 46 F46:=tt Tryz.func46 c46
def F86 : AFun:=.mk 3 (.seq (.reg [Z 0 (.mv (.cs .nilp))]) (.seq (.reg [Z 1 (.bld [.nilp,.int .i64 0] []),Z 2 (.box (T 1)),Zm 0 2]) .ret)) [.tmp 0]
theorem c86 : compF Tryz.prog Tryz.f86 = some F86:=by kernel_rfl
theorem t86 : TT 86 F86:=tt Tryz.func86 c86
def F87 : AFun:=.mk 31 (.seq (.reg [Z 1 (.box (T 0)),Z 2 (.alloc [.int .i64 0,.int .i64 0,.bool false,.nils,.int .i64 0])]) (.seq (.reg [Z 6 (.fa 3 (T 1)),Z 7 (.ld 1 false (T 6)),Z 8 (.lenL (T 7)),Z 9 (.msl 32 [.int .i64 0,.nils] (T 8) (T 8)),Zm 3 9]) (.seq (.seq (.reg [Z 10 (.fa 3 (T 1)),Z 11 (.ld 1 false (T 10)),Z 12 (.lenL (T 11)),Z 13 (.mv (I 0))]) (.block 0 (.loop (.seq (.reg [Z 14 (.bin .lss (T 13) (T 12))]) (.seq (.cond (T 14) .skip (.exit 0)) (.seq (.block 1 (.seq (.reg [Zm 15 13,Z 16 (.ia 2 (T 11) (T 13)),Z 17 (.ld 2 true (T 16)),Z 5 (.alloc [.int .i64 0,.nils]),Zm 4 15,(.mk none (.st 2 (T 5) (T 17)) none,[])]) (.reg [Zm 18 3,Zm 19 4,Z 20 (.fa 0 (T 5)),Z 21 (.ld 1 false (T 20)),Z 22 (.fa 1 (T 5)),Z 23 (.ld 1 false (T 22)),(.mk (.some 24) (.call 144 [T 23]) none,[.mk (.some 21) (.ld 1 false (T 20)) none]),Z 25 (.bld [.int .i64 0,.nils] [(0,(1,T 21)),(1,(1,T 24))]),Z 26 (.ia 2 (T 18) (T 19)),(.mk none (.st 2 (T 26) (T 25)) none,[])]))) (.reg [Z 27 (.bin .add (T 13) (I 1)),Zm 13 27]))))))) (.seq (.reg [Zm 28 3,Z 29 (.fa 3 (T 1)),(.mk none (.st 1 (T 29) (T 28)) none,[])]) (.seq (.reg [Z 30 (.ld 5 true (T 1)),(.mk none (.st 5 (T 2) (T 30)) none,[])]) .ret))))) [.cell 2 5 true]
theorem c87 : compF Tryz.prog Tryz.f87 = some F87:=by kernel_rfl
theorem t87 : TT 87 F87:=tt Tryz.func87 c87
def F88 : AFun:=.mk 90 (.seq (.reg [Z 5 (.box (T 2)),Z 6 (.mv (.cs (.bool false))),Z 7 (.mv (.cs .nils)),Z 8 (.mv (I 0))]) (.seq (.seq (.reg [Z 22 (.ld 3 true (T 5)),Z 23 (.call 145 [T 22]),Zm 9 23]) (.seq (.reg [Zm 24 9,Z 25 (.bin .neq (T 24) (I 0))]) (.cond (T 25) (.seq (.reg [Zm 26 9,Z 6 (.mv (.cs (.bool false))),Z 7 (.mv (.cs .nils)),Zm 8 26]) .ret) .skip))) (.seq (.reg [Zm 27 0,Z 28 (.fa 0 (T 5)),Z 29 (.ld 1 false (T 28)),Z 30 (.call 146 [T 27,T 29]),Zm 10 30]) (.seq (.reg [Z 31 (.fa 2 (T 5)),Z 32 (.ld 1 false (T 31)),Zm 11 32]) (.seq (.seq (.reg [Zm 33 10]) (.cond (T 33) (.reg [Z 34 (.fa 1 (T 5)),Z 35 (.ld 1 false (T 34)),Zm 11 35]) .skip)) (.seq (.seq (.reg [Zm 36 11,Z 37 (.lenL (T 36)),Z 38 (.mv (I 0))]) (.block 0 (.loop (.seq (.reg [Z 39 (.bin .lss (T 38) (T 37))]) (.seq (.cond (T 39) .skip (.exit 0)) (.seq (.block 1 (.seq (.reg [Z 40 (.ia 6 (T 36) (T 38)),Z 41 (.ld 6 true (T 40)),Z 13 (.alloc [.int .i64 0,.str [],.str [],.str [],.int .i64 0,.int .i64 0]),(.mk none (.st 6 (T 13) (T 41)) none,[])]) (.seq (.seq (.reg [Z 42 (.fa 0 (T 13)),Z 43 (.ld 1 false (T 42)),Z 44 (.bin .eql (T 43) (I 0)),Zm 45 44]) (.seq (.cond (T 45) (.reg [Z 46 (.fa 4 (T 13)),Z 47 (.ld 1 false (T 46)),Z 48 (.bin .neq (T 47) (I 0))]) (ZP 46 3)) (.seq (.reg [Z 49 (.pick (T 45) (T 48) (.cs (.bool false))),Zm 50 49]) (.seq (.cond (T 50) (.reg [Zm 51 1,Z 52 (.fa 4 (T 13)),Z 53 (.ld 1 false (T 52)),Z 54 (.inv "Has" (T 51) [T 53]),Z 55 (.un .not (T 54))]) (ZP 51 5)) (.reg [Z 56 (.pick (T 50) (T 55) (.cs (.bool false)))]))))) (.cond (T 56) (.seq (.reg [Z 6 (.mv (.cs (.bool false))),Z 7 (.mv (.cs .nils)),Z 8 (.mv (I 19))]) .ret) .skip)))) (.reg [Z 57 (.bin .add (T 38) (I 1)),Zm 38 57]))))))) (.seq (.reg [Zm 58 0,Z 59 (.call 147 [T 58]),Zm 14 59]) (.seq (.reg [Z 15 (.mv (.cs .nils))]) (.seq (.reg [Z 16 (.mv (I 0))]) (.seq (.seq (.reg [Zm 60 11,Z 61 (.lenL (T 60)),Z 62 (.mv (I 0))]) (.block 2 (.loop (.seq (.reg [Z 63 (.bin .lss (T 62) (T 61))]) (.seq (.cond (T 63) .skip (.exit 2)) (.seq (.block 3 (.seq (.reg [Z 64 (.ia 6 (T 60) (T 62)),Z 65 (.ld 6 true (T 64)),Z 18 (.alloc [.int .i64 0,.str [],.str [],.str [],.int .i64 0,.int .i64 0]),(.mk none (.st 6 (T 18) (T 65)) none,[])]) (.seq (.reg [Zm 67 14,Z 68 (.ld 6 true (T 18)),Z 69 (.call 148 [T 67,T 68]),Zm 66 69,Z 70 (.ext 0 (T 66)),Z 71 (.ext 1 (T 66)),Z 72 (.ext 2 (T 66)),Z 19 (.alloc [.int .i64 0,.nils]),(.mk none (.st 2 (T 19) (T 70)) none,[]),Zm 20 71,Zm 21 72]) (.seq (.seq (.reg [Zm 73 21,Z 74 (.bin .neq (T 73) (I 0))]) (.cond (T 74) (.seq (.reg [Zm 75 21,Z 6 (.mv (.cs (.bool false))),Z 7 (.mv (.cs .nils)),Zm 8 75]) .ret) .skip)) (.seq (.reg [Zm 76 15,Z 77 (.ld 2 true (T 19)),Z 78 (.bsl [.int .i64 0,.nils] 1 [(0,T 77)]),Z 79 (.app 2 32 (T 76) (T 78)),Zm 15 79]) (.reg [Zm 80 16,Zm 81 20,Z 82 (.bin .add (T 80) (T 81)),Zm 16 82])))))) (.reg [Z 83 (.bin .add (T 62) (I 1)),Zm 62 83]))))))) (.seq (.seq (.reg [Zm 84 16,Z 85 (.bin .gtr (T 84) (I 65536))]) (.cond (T 85) (.seq (.reg [Z 6 (.mv (.cs (.bool false))),Z 7 (.mv (.cs .nils)),Z 8 (.mv (I 5))]) .ret) .skip)) (.seq (.reg [Zm 86 14,Z 87 (.call 149 [T 86])]) (.seq (.reg [Zm 88 10,Zm 89 15,Zm 6 88,Zm 7 89,Z 8 (.mv (I 0))]) .ret))))))))))))) [.tmp 6,.tmp 7,.tmp 8]
theorem c88 : compF Tryz.prog Tryz.f88 = some F88:=by kernel_rfl
theorem t88 : TT 88 F88:=tt Tryz.func88 c88
def F89 : AFun:=.mk 49 (.seq (.reg [Z 8 (.mv (I 0))]) (.seq (.reg [Zm 12 0,Z 13 (.nilck (T 12)),Z 14 (.fa 0 (T 13)),Z 15 (.ld 1 false (T 14)),Zm 16 1,Z 17 (.lkp false true (.agg [.int .i64 0,.int .i64 0,.int .i64 0]) (T 15) (T 16)),Zm 11 17,Z 18 (.ext 0 (T 11)),Z 19 (.ext 1 (T 11)),Z 9 (.alloc [.int .i64 0,.int .i64 0,.int .i64 0]),(.mk none (.st 3 (T 9) (T 18)) none,[]),Zm 10 19]) (.seq (.block 0 (.seq (.seq (.reg [Zm 21 1,Z 22 (.call 150 [T 21]),Z 23 (.un .not (T 22)),Zm 24 23]) (.seq (.cond (T 24) (ZP 25 3) (.reg [Zm 25 2,Z 26 (.call 150 [T 25]),Z 27 (.un .not (T 26))])) (.reg [Z 28 (.pick (T 24) (.cs (.bool true)) (T 27)),Zm 20 28]))) (.cond (T 20) (.seq (.reg [Z 8 (.mv (I 1))]) .ret) (.seq (.reg [Zm 30 10,Zm 29 30]) (.cond (T 29) (.seq (.reg [Z 8 (.mv (I 7))]) .ret) (.seq (.reg [Zm 32 0,Z 33 (.nilck (T 32)),Z 34 (.fa 0 (T 33)),Z 35 (.ld 1 false (T 34)),Z 36 (.lenM (T 35)),Z 37 (.bin .geq (T 36) (I 1024)),Zm 31 37]) (.cond (T 31) (.seq (.reg [Z 8 (.mv (I 4))]) .ret) .skip))))))) (.seq (.reg [Zm 38 0,Z 39 (.nilck (T 38)),Z 40 (.fa 0 (T 39)),Z 41 (.ld 1 false (T 40)),Zm 42 1,Zm 43 1,Zm 44 2,Zm 45 3,Zm 46 2,Z 47 (.bin .add (T 45) (T 46)),Z 48 (.bld [.int .i64 0,.int .i64 0,.int .i64 0] [(0,(1,T 43)),(1,(1,T 44)),(2,(1,T 47))]),(.mk none (.mup false (T 41) (T 42) (T 48)) none,[])]) (.seq (.reg [Z 8 (.mv (I 0))]) .ret))))) [.tmp 8]
theorem c89 : compF Tryz.prog Tryz.f89 = some F89:=by kernel_rfl
theorem t89 : TT 89 F89:=tt Tryz.func89 c89
def F91 : AFun:=.mk 17 (.seq (.reg [Z 4 (.mv (.cs (.bool false)))]) (.seq (.reg [Zm 8 0,Z 9 (.nilck (T 8)),Z 10 (.fa 0 (T 9)),Z 11 (.ld 1 false (T 10)),Zm 12 1,Z 13 (.lkp false true (.agg [.int .i64 0,.int .i64 0,.int .i64 0]) (T 11) (T 12)),Zm 7 13,Z 14 (.ext 0 (T 7)),Z 15 (.ext 1 (T 7)),Z 5 (.alloc [.int .i64 0,.int .i64 0,.int .i64 0]),(.mk none (.st 3 (T 5) (T 14)) none,[]),Zm 6 15]) (.seq (.reg [Zm 16 6,Zm 4 16]) .ret))) [.tmp 4]
theorem c91 : compF Tryz.prog Tryz.f91 = some F91:=by kernel_rfl
theorem t91 : TT 91 F91:=tt Tryz.func91 c91
def F92 : AFun:=.mk 54 (.seq (.seq (.reg [Zm 11 1,Z 12 (.lenL (T 11)),Z 13 (.mv (I 0))]) (.block 0 (.loop (.seq (.reg [Z 14 (.bin .lss (T 13) (T 12))]) (.seq (.cond (T 14) .skip (.exit 0)) (.seq (.block 1 (.seq (.reg [Z 15 (.ia 1 (T 11) (T 13)),Z 16 (.ld 1 false (T 15)),Zm 5 16]) (.reg [Zm 17 0,Z 18 (.nilck (T 17)),Z 19 (.fa 0 (T 18)),Z 20 (.call 45 [T 19]),Zm 21 5,Z 22 (.call 151 [T 20,T 21])]))) (.reg [Z 23 (.bin .add (T 13) (I 1)),Zm 13 23]))))))) (.seq (.reg [Zm 24 0,Z 25 (.nilck (T 24)),Z 26 (.fa 0 (T 25)),Z 27 (.call 37 [T 26]),Z 28 (.call 147 [T 27]),Zm 6 28]) (.seq (.reg [Zm 30 6,Z 31 (.bsl [.int .u8 0] 1 [(0,.cs (.int .u8 255))]),Z 32 (.call 153 [T 31,I 101]),Z 33 (.bstr (T 32)),Z 34 (.call 152 [T 30,.cs (.str [0]),T 33,I 0]),Zm 29 34,Z 35 (.ext 0 (T 29)),Z 36 (.ext 1 (T 29)),Zm 7 35,Zm 8 36]) (.seq (.seq (.reg [Zm 37 7,Z 38 (.lenL (T 37)),Z 39 (.mv (I 0))]) (.block 2 (.loop (.seq (.reg [Z 40 (.bin .lss (T 39) (T 38))]) (.seq (.cond (T 40) .skip (.exit 2)) (.seq (.block 3 (.seq (.reg [Z 41 (.ia 6 (T 37) (T 39)),Z 42 (.ld 6 true (T 41)),Z 10 (.alloc [.str [],.str [],.int .i64 0,.int .i64 0,.int .i64 0,.int .i64 0]),(.mk none (.st 6 (T 10) (T 42)) none,[])]) (.seq (.reg [Zm 43 1,Z 44 (.fa 5 (T 10)),Z 45 (.ld 1 false (T 44)),Z 46 (.call 154 [T 43,T 45])]) (.cond (T 46) (.reg [Zm 47 6,Z 48 (.fa 0 (T 10)),Z 49 (.ld 1 false (T 48)),Z 50 (.call 155 [T 47,T 49,.cs (.str [])])]) .skip)))) (.reg [Z 51 (.bin .add (T 39) (I 1)),Zm 39 51]))))))) (.reg [Zm 52 6,Z 53 (.call 149 [T 52])]))))) []
theorem c92 : compF Tryz.prog Tryz.f92 = some F92:=by kernel_rfl
theorem t92 : TT 92 F92:=tt Tryz.func92 c92
def F93 : AFun:=.mk 26 (.seq (.reg [Z 4 (.mv (.cs .nils))]) (.seq (.reg [Z 5 (.mv (.cs .nils))]) (.seq (.seq (.reg [Zm 8 0,Z 9 (.call 46 [T 8]),Z 10 (.lenL (T 9)),Z 11 (.mv (I 0))]) (.block 0 (.loop (.seq (.reg [Z 12 (.bin .lss (T 11) (T 10))]) (.seq (.cond (T 12) .skip (.exit 0)) (.seq (.block 1 (.seq (.reg [Z 13 (.ia 3 (T 9) (T 11)),Z 14 (.ld 3 true (T 13)),Z 7 (.alloc [.int .i64 0,.int .i64 0,.int .i64 0]),(.mk none (.st 3 (T 7) (T 14)) none,[])]) (.seq (.reg [Z 15 (.fa 2 (T 7)),Z 16 (.ld 1 false (T 15)),Zm 17 1,Z 18 (.bin .leq (T 16) (T 17))]) (.cond (T 18) (.reg [Zm 19 5,Z 20 (.fa 0 (T 7)),Z 21 (.ld 1 false (T 20)),Z 22 (.bsl [.int .i64 0] 1 [(0,T 21)]),Z 23 (.app 1 8 (T 19) (T 22)),Zm 5 23]) .skip)))) (.reg [Z 24 (.bin .add (T 11) (I 1)),Zm 11 24]))))))) (.seq (.reg [Zm 25 5,Zm 4 25]) .ret)))) [.tmp 4]
theorem c93 : compF Tryz.prog Tryz.f93 = some F93:=by kernel_rfl
theorem t93 : TT 93 F93:=tt Tryz.func93 c93
def F95 : AFun:=.mk 17 (.seq (.reg [Z 6 (.mv (.cs .nils))]) (.seq (.reg [Z 7 (.alloc [.nils])]) (.seq (.reg [Zm 8 0,Z 9 (.nilck (T 8)),Z 10 (.fa 0 (T 9)),Z 11 (.ld 1 false (T 10)),Zm 12 1,Zm 13 2,Z 14 (.mkfn 161 [T 7]),Z 15 (.call 160 [T 11,T 12,T 13,T 14])]) (.seq (.reg [Z 16 (.ld 1 false (T 7)),Zm 6 16]) .ret)))) [.tmp 6]
theorem c95 : compF Tryz.prog Tryz.f95 = some F95:=by kernel_rfl
theorem t95 : TT 95 F95:=tt Tryz.func95 c95
def F96 : AFun:=.mk 26 (.seq (.reg [Z 4 (.mv (I 0))]) (.seq (.reg [Zm 8 0,Z 5 (.mv (I 0)),Zm 6 8]) (.seq (.block 0 (.loop (.seq (.seq (.reg [Zm 9 5,Zm 10 6,Z 11 (.bin .lss (T 9) (T 10))]) (.cond (T 11) .skip (.exit 0))) (.block 1 (.seq (.reg [Zm 12 5,Zm 13 6,Z 14 (.bin .add (T 12) (T 13)),Z 15 (.cvi .u64 (T 14)),Z 16 (.bin .shr (T 15) (.cs (.int .u64 1))),Z 17 (.cvi .i64 (T 16)),Zm 7 17]) (.seq (.reg [Zm 18 1,Zm 19 7,Z 20 (.callv (T 18) [T 19]),Z 21 (.un .not (T 20))]) (.cond (T 21) (.reg [Zm 22 7,Z 23 (.bin .add (T 22) (I 1)),Zm 5 23]) (.reg [Zm 24 7,Zm 6 24])))))))) (.seq (.reg [Zm 25 5,Zm 4 25]) .ret)))) [.tmp 4]
theorem c96 : compF Tryz.prog Tryz.f96 = some F96:=by kernel_rfl
theorem t96 : TT 96 F96:=tt Tryz.func96 c96
def F97 : AFun:=.mk 12 (.seq (.reg [Z 4 (.mv (.cs (.bool false)))]) (.seq (.reg [Z 5 (.ld 1 false (T 1)),Zm 6 0,Z 7 (.ia 2 (T 5) (T 6)),Z 8 (.fa 0 (T 7)),Z 9 (.ld 1 false (T 8)),Z 10 (.ld 1 false (T 2)),Z 11 (.bin .gtr (T 9) (T 10)),Zm 4 11]) .ret)) [.tmp 4]
theorem c97 : compF Tryz.prog Tryz.f97 = some F97:=by kernel_rfl
theorem t97 : TT 97 F97:=tt Tryz.func97 c97
def F98 : AFun:=.mk 12 (.seq (.reg [Z 4 (.mv (.cs .nils))]) (.seq (.reg [Zm 6 0,Z 7 (.call 162 [T 6]),Zm 5 7]) (.seq (.reg [Zm 8 5,Zm 9 1,Z 10 (.call 163 [T 8,T 9])]) (.seq (.reg [Zm 11 5,Zm 4 11]) .ret)))) [.tmp 4]
theorem c98 : compF Tryz.prog Tryz.f98 = some F98:=by kernel_rfl
theorem t98 : TT 98 F98:=tt Tryz.func98 c98
def F99 : AFun:=.mk 4 (.seq (.reg [Z 1 (.box (T 0)),Z 2 (.mv (.cs .nilf))]) (.seq (.reg [Z 3 (.mkfn 164 [T 1]),Zm 2 3]) .ret)) [.tmp 2]
theorem c99 : compF Tryz.prog Tryz.f99 = some F99:=by kernel_rfl
theorem t99 : TT 99 F99:=tt Tryz.func99 c99
def F100 : AFun:=.mk 10 (.seq (.reg [Z 2 (.box (T 0)),Z 3 (.box (T 1)),Z 4 (.mv (I 0))]) (.seq (.reg [Z 5 (.fa 0 (T 2)),Z 6 (.ld 1 false (T 5)),Z 7 (.fa 0 (T 3)),Z 8 (.ld 1 false (T 7)),Z 9 (.call 101 [T 6,T 8]),Zm 4 9]) .ret)) [.tmp 4]
theorem c100 : compF Tryz.prog Tryz.f100 = some F100:=by kernel_rfl
theorem t100 : TT 100 F100:=tt Tryz.func100 c100
def F101 : AFun:=.mk 20 (.seq (.reg [Z 4 (.mv (I 0))]) (.seq (.reg [Zm 7 0,Z 8 (.call 165 [T 7]),Zm 5 8]) (.seq (.reg [Zm 9 1,Z 10 (.call 165 [T 9]),Zm 6 10]) (.seq (.seq (.reg [Zm 11 5]) (.cond (T 11) (.seq (.seq (.reg [Zm 12 6]) (.cond (T 12) (.seq (.reg [Z 4 (.mv (I 0))]) .ret) .skip)) (.seq (.reg [Z 4 (.mv (I (-1)))]) .ret)) .skip)) (.seq (.seq (.reg [Zm 13 6]) (.cond (T 13) (.seq (.reg [Z 4 (.mv (I 1))]) .ret) .skip)) (.seq (.seq (.reg [Zm 14 0,Zm 15 1,Z 16 (.bin .lss (T 14) (T 15))]) (.cond (T 16) (.seq (.reg [Z 4 (.mv (I (-1)))]) .ret) .skip)) (.seq (.seq (.reg [Zm 17 0,Zm 18 1,Z 19 (.bin .gtr (T 17) (T 18))]) (.cond (T 19) (.seq (.reg [Z 4 (.mv (I 1))]) .ret) .skip)) (.seq (.reg [Z 4 (.mv (I 0))]) .ret)))))))) [.tmp 4]
theorem c101 : compF Tryz.prog Tryz.f101 = some F101:=by kernel_rfl
theorem t101 : TT 101 F101:=tt Tryz.func101 c101
def F144 : AFun:=.mk 8 (.seq (.reg [Z 2 (.mv (.cs .nils))]) (.seq (.seq (.reg [Zm 3 0,Z 4 (.eqn .sl false (T 3) (.cs .nils))]) (.cond (T 4) (.seq (.reg [Z 2 (.mv (.cs .nils))]) .ret) .skip)) (.seq (.reg [Z 5 (.bsl [.str [],.str [],.int .i64 0,.int .i64 0,.int .i64 0,.int .i64 0] 0 []),Zm 6 0,Z 7 (.app 6 64 (T 5) (T 6)),Zm 2 7]) .ret))) [.tmp 2]
theorem c144 : compF Tryz.prog Tryz.f144 = some F144:=by kernel_rfl
theorem t144 : TT 144 F144:=tt Tryz.func144 c144
def F145 : AFun:=.mk 76 (.seq (.reg [Z 1 (.box (T 0)),Z 2 (.mv (I 0))]) (.seq (.seq (.seq (.reg [Z 10 (.fa 0 (T 1)),Z 11 (.ld 1 false (T 10)),Z 12 (.lenL (T 11)),Z 13 (.bin .gtr (T 12) (I 32)),Zm 14 13]) (.seq (.cond (T 14) (ZP 15 4) (.reg [Z 15 (.fa 1 (T 1)),Z 16 (.ld 1 false (T 15)),Z 17 (.lenL (T 16)),Z 18 (.bin .gtr (T 17) (I 32))])) (.seq (.reg [Z 19 (.pick (T 14) (.cs (.bool true)) (T 18)),Zm 20 19]) (.seq (.cond (T 20) (ZP 21 4) (.reg [Z 21 (.fa 2 (T 1)),Z 22 (.ld 1 false (T 21)),Z 23 (.lenL (T 22)),Z 24 (.bin .gtr (T 23) (I 32))])) (.reg [Z 25 (.pick (T 20) (.cs (.bool true)) (T 24))]))))) (.cond (T 25) (.seq (.reg [Z 2 (.mv (I 4))]) .ret) .skip)) (.seq (.reg [Z 3 (.mv (I 0))]) (.seq (.seq (.reg [Z 26 (.fa 0 (T 1)),Z 27 (.ld 1 false (T 26)),Z 28 (.lenL (T 27)),Z 29 (.mv (I 0))]) (.block 0 (.loop (.seq (.reg [Z 30 (.bin .lss (T 29) (T 28))]) (.seq (.cond (T 30) .skip (.exit 0)) (.seq (.block 1 (.seq (.reg [Z 31 (.ia 5 (T 27) (T 29)),Z 32 (.ld 5 true (T 31)),Z 5 (.alloc [.str [],.int .i64 0,.int .i64 0,.int .i64 0,.str []]),(.mk none (.st 5 (T 5) (T 32)) none,[])]) (.reg [Zm 33 3,Z 34 (.ld 5 true (T 5)),Z 35 (.call 185 [T 34]),Z 36 (.bsl [.int .i64 0] 2 [(0,T 33),(1,T 35)]),Z 37 (.call 184 [T 36]),Zm 3 37]))) (.reg [Z 38 (.bin .add (T 29) (I 1)),Zm 29 38]))))))) (.seq (.seq (.reg [Z 39 (.fa 1 (T 1)),Z 40 (.ld 1 false (T 39)),Z 41 (.fa 2 (T 1)),Z 42 (.ld 1 false (T 41)),Z 43 (.bsl [.nils] 2 [(0,T 40),(1,T 42)]),Z 44 (.lenL (T 43)),Z 45 (.mv (I 0))]) (.block 2 (.loop (.seq (.reg [Z 46 (.bin .lss (T 45) (T 44))]) (.seq (.cond (T 46) .skip (.exit 2)) (.seq (.block 3 (.seq (.reg [Z 47 (.ia 1 (T 43) (T 45)),Z 48 (.ld 1 false (T 47)),Zm 7 48]) (.seq (.reg [Zm 49 7,Z 50 (.lenL (T 49)),Z 51 (.mv (I 0))]) (.block 4 (.loop (.seq (.reg [Z 52 (.bin .lss (T 51) (T 50))]) (.seq (.cond (T 52) .skip (.exit 4)) (.seq (.block 5 (.seq (.reg [Z 53 (.ia 6 (T 49) (T 51)),Z 54 (.ld 6 true (T 53)),Z 9 (.alloc [.int .i64 0,.str [],.str [],.str [],.int .i64 0,.int .i64 0]),(.mk none (.st 6 (T 9) (T 54)) none,[])]) (.reg [Zm 55 3,Z 56 (.ld 6 true (T 9)),Z 57 (.call 186 [T 56]),Z 58 (.bsl [.int .i64 0] 2 [(0,T 55),(1,T 57)]),Z 59 (.call 184 [T 58]),Zm 3 59]))) (.reg [Z 60 (.bin .add (T 51) (I 1)),Zm 51 60]))))))))) (.reg [Z 61 (.bin .add (T 45) (I 1)),Zm 45 61]))))))) (.seq (.seq (.reg [Zm 62 3,Z 63 (.fa 1 (T 1)),Z 64 (.ld 1 false (T 63)),Z 65 (.call 188 [T 64]),Z 66 (.un .not (T 65)),Zm 67 66]) (.seq (.cond (T 67) (.reg [Z 68 (.fa 2 (T 1)),Z 69 (.ld 1 false (T 68)),Z 70 (.call 188 [T 69]),Z 71 (.un .not (T 70))]) (ZP 68 4)) (.reg [Z 72 (.pick (T 67) (T 71) (.cs (.bool false))),Z 73 (.call 187 [T 72,I 18]),Z 74 (.bsl [.int .i64 0] 2 [(0,T 62),(1,T 73)]),Z 75 (.call 184 [T 74]),Zm 2 75]))) .ret)))))) [.tmp 2]
theorem c145 : compF Tryz.prog Tryz.f145 = some F145:=by kernel_rfl
theorem t145 : TT 145 F145:=tt Tryz.func145 c145
def F146 : AFun:=.mk 80 (.seq (.reg [Z 4 (.mv (.cs (.bool false)))]) (.seq (.seq (.reg [Zm 13 1,Z 14 (.lenL (T 13)),Z 15 (.mv (I 0))]) (.block 0 (.loop (.seq (.reg [Z 16 (.bin .lss (T 15) (T 14))]) (.seq (.cond (T 16) .skip (.exit 0)) (.seq (.block 1 (.seq (.reg [Z 17 (.ia 5 (T 13) (T 15)),Z 18 (.ld 5 true (T 17)),Z 6 (.alloc [.str [],.int .i64 0,.int .i64 0,.int .i64 0,.str []]),(.mk none (.st 5 (T 6) (T 18)) none,[])]) (.seq (.seq (.seq (.reg [Z 19 (.fa 1 (T 6)),Z 20 (.ld 1 false (T 19)),Z 21 (.bin .lss (T 20) (I 0)),Zm 22 21]) (.seq (.cond (T 22) (ZP 23 3) (.reg [Z 23 (.fa 1 (T 6)),Z 24 (.ld 1 false (T 23)),Z 25 (.bin .gtr (T 24) (I 4))])) (.reg [Z 26 (.pick (T 22) (.cs (.bool true)) (T 25))]))) (.cond (T 26) (.seq (.reg [Z 4 (.mv (.cs (.bool false)))]) .ret) .skip)) (.seq (.reg [Z 27 (.bld [.str [],.str [],.int .i64 0,.int .i64 0,.int .i64 0,.int .i64 0] []),Z 7 (.alloc [.str [],.str [],.int .i64 0,.int .i64 0,.int .i64 0,.int .i64 0]),(.mk none (.st 6 (T 7) (T 27)) none,[])]) (.seq (.seq (.reg [Zm 29 0,Z 30 (.fa 0 (T 6)),Z 31 (.ld 1 false (T 30)),Z 32 (.call 20 [T 29,T 31,.cs (.str []),I 0,I 0]),Zm 28 32,Z 33 (.ext 0 (T 28)),Z 34 (.ext 1 (T 28)),Z 35 (.ext 2 (T 28)),Zm 8 33,Zm 9 34,Zm 10 35]) (.seq (.reg [Zm 36 8,Z 37 (.lenL (T 36)),Z 38 (.bin .gtr (T 37) (I 0))]) (.cond (T 38) (.reg [Zm 39 8,Z 40 (.ia 6 (T 39) (I 0)),Z 41 (.ld 6 true (T 40)),(.mk none (.st 6 (T 7) (T 41)) none,[])]) .skip))) (.seq (.reg [Z 42 (.ld 6 true (T 7)),Z 43 (.ld 5 true (T 6)),Z 44 (.call 189 [T 42,T 43]),Zm 11 44]) (.seq (.reg [Z 12 (.mv (.cs (.bool false)))]) (.seq (.seq (.reg [Z 45 (.fa 2 (T 6)),Z 46 (.ld 1 false (T 45))]) (.block 2 (.seq (.block 6 (.seq (.block 5 (.seq (.block 4 (.seq (.block 3 (.seq (.seq (.seq (.reg [Z 48 (.bin .eql (T 46) (I 1)),Zm 47 48]) (.cond (T 47) (.exit 3) .skip)) (.seq (.seq (.reg [Z 50 (.bin .eql (T 46) (I 2)),Zm 49 50]) (.cond (T 49) (.exit 4) .skip)) (.seq (.seq (.reg [Z 52 (.bin .eql (T 46) (I 3)),Zm 51 52]) (.cond (T 51) (.exit 5) .skip)) (.seq (.reg [Z 54 (.bin .eql (T 46) (I 0)),Zm 53 54]) (.cond (T 53) (.exit 6) .skip))))) (.exit 2))) (.seq (.reg [Zm 55 11,Z 56 (.bin .neq (T 55) (I 0)),Zm 12 56]) (.exit 2)))) (.seq (.reg [Zm 57 11,Z 58 (.bin .lss (T 57) (I 0)),Zm 12 58]) (.exit 2)))) (.reg [Zm 59 11,Z 60 (.un .neg (T 59)),Zm 11 60]))) (.seq (.seq (.reg [Zm 61 11,Z 62 (.bin .eql (T 61) (I 0)),Zm 63 62]) (.seq (.cond (T 63) (.reg [Z 64 (.fa 2 (T 6)),Z 65 (.ld 1 false (T 64)),Z 66 (.bin .eql (T 65) (I 0))]) (ZP 64 3)) (.seq (.reg [Z 67 (.pick (T 63) (T 66) (.cs (.bool false))),Zm 68 67]) (.seq (.cond (T 68) (ZP 69 7) (.seq (.reg [Zm 69 11,Z 70 (.bin .lss (T 69) (I 0)),Zm 71 70]) (.seq (.cond (T 71) (.reg [Z 72 (.fa 2 (T 6)),Z 73 (.ld 1 false (T 72)),Z 74 (.bin .eql (T 73) (I 3))]) (ZP 72 3)) (.reg [Z 75 (.pick (T 71) (T 74) (.cs (.bool false)))])))) (.reg [Z 76 (.pick (T 68) (.cs (.bool true)) (T 75)),Zm 12 76]))))) (.exit 2))))) (.seq (.reg [Zm 77 12,Z 78 (.un .not (T 77))]) (.cond (T 78) (.seq (.reg [Z 4 (.mv (.cs (.bool false)))]) .ret) .skip)))))))))) (.reg [Z 79 (.bin .add (T 15) (I 1)),Zm 15 79]))))))) (.seq (.reg [Z 4 (.mv (.cs (.bool true)))]) .ret))) [.tmp 4]
theorem c146 : compF Tryz.prog Tryz.f146 = some F146:=by kernel_rfl
theorem t146 : TT 146 F146:=tt Tryz.func146 c146
def F147 : AFun:=.mk 18 (.seq (.reg [Z 2 (.mv (.cs .nilp))]) (.seq (.reg [Zm 3 0,Zm 4 0,Z 5 .mkm,Zm 6 0,Z 7 (.nilck (T 6)),Z 8 (.fa 2 (T 7)),Z 9 (.ld 1 false (T 8)),Z 10 (.bld [.nilp,.nils,.nilm,.int .i64 0] [(0,(1,T 4)),(2,(1,T 5)),(3,(1,T 9))]),Z 11 (.box (T 10)),Z 12 (.nilck (T 3)),Z 13 (.fa 6 (T 12)),(.mk none (.st 1 (T 13) (T 11)) none,[])]) (.seq (.reg [Zm 14 0,Z 15 (.nilck (T 14)),Z 16 (.fa 6 (T 15)),Z 17 (.ld 1 false (T 16)),Zm 2 17]) .ret))) [.tmp 2]
theorem c147 : compF Tryz.prog Tryz.f147 = some F147:=by kernel_rfl
theorem t147 : TT 147 F147:=tt Tryz.func147 c147
def F148 : AFun:=.mk 76 (.seq (.reg [Z 3 (.box (T 1)),Z 4 (.alloc [.int .i64 0,.nils]),Z 5 (.mv (I 0)),Z 6 (.mv (I 0))]) (.seq (.seq (.reg [Z 14 (.fa 0 (T 3)),Z 15 (.ld 1 false (T 14))]) (.block 0 (.seq (.reg [Z 17 (.bin .eql (T 15) (I 0)),Zm 16 17]) (.cond (T 16) (.seq (.reg [Zm 19 0,Z 20 (.fa 1 (T 3)),Z 21 (.ld 1 false (T 20)),Z 22 (.call 152 [T 19,T 21,.cs (.str []),I 0]),Zm 18 22,Z 23 (.ext 0 (T 18)),Z 24 (.ext 1 (T 18)),Zm 7 23,Zm 8 24]) (.seq (.reg [Zm 25 8,Z 26 (.bld [.int .i64 0,.nils] [(0,(1,T 25))]),Zm 27 0,Z 28 (.fa 1 (T 3)),Z 29 (.ld 1 false (T 28)),Z 30 (.fa 3 (T 3)),Z 31 (.ld 1 false (T 30)),Z 32 (.fa 4 (T 3)),Z 33 (.ld 1 false (T 32)),Z 34 (.call 190 [T 27,T 29,T 31,T 33]),(.mk none (.st 2 (T 4) (T 26)) none,[]),Z 5 (.mv (I 0)),Zm 6 34]) .ret)) (.seq (.reg [Z 36 (.bin .eql (T 15) (I 1)),Zm 35 36]) (.cond (T 35) (.seq (.reg [Zm 37 0,Z 38 (.fa 1 (T 3)),Z 39 (.ld 1 false (T 38)),Z 40 (.fa 2 (T 3)),Z 41 (.ld 1 false (T 40)),Z 42 (.call 155 [T 37,T 39,T 41]),Z 43 (.bld [.int .i64 0,.nils] [(0,(1,T 42))]),(.mk none (.st 2 (T 4) (T 43)) none,[]),Z 5 (.mv (I 0)),Z 6 (.mv (I 0))]) .ret) .skip)))))) (.seq (.reg [Zm 45 0,Z 46 (.fa 1 (T 3)),Z 47 (.ld 1 false (T 46)),Z 48 (.fa 2 (T 3)),Z 49 (.ld 1 false (T 48)),Z 50 (.fa 5 (T 3)),Z 51 (.ld 1 false (T 50)),Z 52 (.call 152 [T 45,T 47,T 49,T 51]),Zm 44 52,Z 53 (.ext 0 (T 44)),Z 54 (.ext 1 (T 44)),Zm 9 53,Zm 10 54]) (.seq (.reg [Z 11 (.mv (I 0))]) (.seq (.seq (.reg [Zm 55 9,Z 56 (.lenL (T 55)),Z 57 (.mv (I 0))]) (.block 1 (.loop (.seq (.reg [Z 58 (.bin .lss (T 57) (T 56))]) (.seq (.cond (T 58) .skip (.exit 1)) (.seq (.block 2 (.seq (.reg [Z 59 (.ia 6 (T 55) (T 57)),Z 60 (.ld 6 true (T 59)),Z 13 (.alloc [.str [],.str [],.int .i64 0,.int .i64 0,.int .i64 0,.int .i64 0]),(.mk none (.st 6 (T 13) (T 60)) none,[])]) (.reg [Zm 61 11,Z 62 (.fa 0 (T 13)),Z 63 (.ld 1 false (T 62)),Z 64 (.lenS (T 63)),Z 65 (.fa 1 (T 13)),Z 66 (.ld 1 false (T 65)),Z 67 (.lenS (T 66)),Z 68 (.bin .add (T 64) (T 67)),Z 69 (.bin .add (T 68) (I 40)),Z 70 (.bin .add (T 61) (T 69)),Zm 11 70]))) (.reg [Z 71 (.bin .add (T 57) (I 1)),Zm 57 71]))))))) (.seq (.reg [Zm 72 10,Zm 73 9,Z 74 (.bld [.int .i64 0,.nils] [(0,(1,T 72)),(1,(1,T 73))]),Zm 75 11,(.mk none (.st 2 (T 4) (T 74)) none,[]),Zm 5 75,Z 6 (.mv (I 0))]) .ret)))))) [.cell 4 2 true,.tmp 5,.tmp 6]
theorem c148 : compF Tryz.prog Tryz.f148 = some F148:=by kernel_rfl
theorem t148 : TT 148 F148:=tt Tryz.func148 c148
def F149 : AFun:=.mk 65 (.seq (.reg [Z 2 (.mv (I 0))]) (.seq (.reg [Zm 6 0,Z 7 (.nilck (T 6)),Z 8 (.fa 0 (T 7)),Z 9 (.ld 1 false (T 8)),Zm 3 9]) (.seq (.seq (.reg [Zm 10 0,Z 11 (.call 191 [T 10])]) (.cond (T 11) (.seq (.reg [Zm 12 3,Z 13 (.nilck (T 12)),Z 14 (.fa 0 (T 13)),Z 15 (.ld 1 false (T 14)),Zm 2 15]) .ret) .skip)) (.seq (.reg [Zm 16 3,Z 17 (.nilck (T 16)),Z 18 (.fa 6 (T 17)),(.mk none (.st 1 (T 18) (.cs .nilp)) none,[])]) (.seq (.seq (.reg [Zm 19 0,Z 20 (.nilck (T 19)),Z 21 (.fa 1 (T 20)),Z 22 (.ld 1 false (T 21)),Z 23 (.lenL (T 22)),Z 24 (.bin .eql (T 23) (I 0))]) (.cond (T 24) (.seq (.reg [Zm 25 3,Z 26 (.nilck (T 25)),Z 27 (.fa 0 (T 26)),Z 28 (.ld 1 false (T 27)),Zm 2 28]) .ret) .skip)) (.seq (.reg [Zm 29 3,Z 30 (.nilck (T 29)),Z 31 (.fa 0 (T 30)),Z 32 (.ld 1 false (T 31)),Z 33 (.bin .add (T 32) (I 1)),Z 34 (.nilck (T 29)),Z 35 (.fa 0 (T 34)),(.mk none (.st 1 (T 35) (T 33)) none,[])]) (.seq (.reg [Zm 36 3,Zm 37 0,Z 38 (.nilck (T 37)),Z 39 (.fa 3 (T 38)),Z 40 (.ld 1 false (T 39)),Z 41 (.nilck (T 36)),Z 42 (.fa 2 (T 41)),(.mk none (.st 1 (T 42) (T 40)) none,[])]) (.seq (.seq (.reg [Zm 43 0,Z 44 (.nilck (T 43)),Z 45 (.fa 1 (T 44)),Z 46 (.ld 1 false (T 45)),Z 47 (.lenL (T 46)),Z 48 (.mv (I 0))]) (.block 0 (.loop (.seq (.reg [Z 49 (.bin .lss (T 48) (T 47))]) (.seq (.cond (T 49) .skip (.exit 0)) (.seq (.block 1 (.seq (.reg [Z 50 (.ia 1 (T 46) (T 48)),Z 51 (.ld 1 false (T 50)),Zm 5 51]) (.reg [Zm 52 3,Zm 53 3,Z 54 (.nilck (T 53)),Z 55 (.fa 0 (T 54)),Z 56 (.ld 1 false (T 55)),Zm 57 5,Z 58 (.bld [.int .i64 0,.nili] [(0,(1,T 56)),(1,(1,T 57))]),Z 59 (.call 169 [T 52,T 58])]))) (.reg [Z 60 (.bin .add (T 48) (I 1)),Zm 48 60]))))))) (.seq (.reg [Zm 61 3,Z 62 (.nilck (T 61)),Z 63 (.fa 0 (T 62)),Z 64 (.ld 1 false (T 63)),Zm 2 64]) .ret))))))))) [.tmp 2]
theorem c149 : compF Tryz.prog Tryz.f149 = some F149:=by kernel_rfl
theorem t149 : TT 149 F149:=tt Tryz.func149 c149
def F150 : AFun:=.mk 9 (.seq (.reg [Z 2 (.mv (.cs (.bool false)))]) (.seq (.seq (.reg [Zm 3 0,Z 4 (.bin .geq (T 3) (I 1)),Zm 5 4]) (.seq (.cond (T 5) (.reg [Zm 6 0,Z 7 (.bin .leq (T 6) (I 2147483647))]) (ZP 6 2)) (.reg [Z 8 (.pick (T 5) (T 7) (.cs (.bool false))),Zm 2 8]))) .ret)) [.tmp 2]
theorem c150 : compF Tryz.prog Tryz.f150 = some F150:=by kernel_rfl
theorem t150 : TT 150 F150:=tt Tryz.func150 c150
def F151 : AFun:=.mk 14 (.seq (.reg [Z 4 (.mv (I 0))]) (.seq (.seq (.reg [Zm 5 0,Zm 6 1,Z 7 (.call 91 [T 5,T 6]),Z 8 (.un .not (T 7))]) (.cond (T 8) (.seq (.reg [Z 4 (.mv (I 2))]) .ret) .skip)) (.seq (.reg [Zm 9 0,Z 10 (.nilck (T 9)),Z 11 (.fa 0 (T 10)),Z 12 (.ld 1 false (T 11)),Zm 13 1,(.mk none (.del false (T 12) (T 13)) none,[])]) (.seq (.reg [Z 4 (.mv (I 0))]) .ret)))) [.tmp 4]
theorem c151 : compF Tryz.prog Tryz.f151 = some F151:=by kernel_rfl
theorem t151 : TT 151 F151:=tt Tryz.func151 c151
def F152 : AFun:=.mk 50 (.seq (.reg [Z 8 (.mv (.cs .nils)),Z 9 (.mv (I 0))]) (.seq (.reg [Z 10 (.mv (.cs .nils))]) (.seq (.reg [Z 11 (.mv (I 0))]) (.seq (.seq (.reg [Zm 16 0,Zm 17 1,Zm 18 2,Z 19 (.call 192 [T 16,T 17,T 18]),Z 20 (.lenL (T 19)),Z 21 (.mv (I 0))]) (.block 0 (.loop (.seq (.reg [Z 22 (.bin .lss (T 21) (T 20))]) (.seq (.cond (T 22) .skip (.exit 0)) (.seq (.block 1 (.seq (.reg [Z 23 (.ia 1 (T 19) (T 21)),Z 24 (.ld 1 false (T 23)),Zm 13 24]) (.seq (.reg [Zm 26 0,Zm 27 13,Z 28 (.call 193 [T 26,T 27]),Zm 25 28,Z 29 (.ext 0 (T 25)),Z 30 (.ext 1 (T 25)),Z 14 (.alloc [.str [],.str [],.int .i64 0,.int .i64 0,.int .i64 0,.int .i64 0]),(.mk none (.st 6 (T 14) (T 29)) none,[]),Zm 15 30]) (.seq (.seq (.reg [Zm 31 15,Z 32 (.un .not (T 31))]) (.cond (T 32) (.exit 1) .skip)) (.seq (.reg [Zm 33 11,Z 34 (.bin .add (T 33) (I 1)),Zm 11 34]) (.seq (.seq (.reg [Zm 35 3,Z 36 (.bin .lss (T 35) (I 1)),Zm 37 36]) (.seq (.cond (T 37) (ZP 38 4) (.reg [Zm 38 10,Z 39 (.lenL (T 38)),Zm 40 3,Z 41 (.bin .lss (T 39) (T 40))])) (.reg [Z 42 (.pick (T 37) (.cs (.bool true)) (T 41))]))) (.cond (T 42) (.reg [Zm 43 10,Z 44 (.ld 6 true (T 14)),Z 45 (.bsl [.str [],.str [],.int .i64 0,.int .i64 0,.int .i64 0,.int .i64 0] 1 [(0,T 44)]),Z 46 (.app 6 64 (T 43) (T 45)),Zm 10 46]) .skip))))))) (.reg [Z 47 (.bin .add (T 21) (I 1)),Zm 21 47]))))))) (.seq (.reg [Zm 48 10,Zm 49 11,Zm 8 48,Zm 9 49]) .ret))))) [.tmp 8,.tmp 9]
theorem c152 : compF Tryz.prog Tryz.f152 = some F152:=by kernel_rfl
theorem t152 : TT 152 F152:=tt Tryz.func152 c152
def F154 : AFun:=.mk 9 (.seq (.reg [Z 4 (.mv (.cs (.bool false)))]) (.seq (.reg [Zm 5 0,Zm 6 1,Z 7 (.call 195 [T 5,T 6]),Z 8 (.bin .geq (T 7) (I 0)),Zm 4 8]) .ret)) [.tmp 4]
theorem c154 : compF Tryz.prog Tryz.f154 = some F154:=by kernel_rfl
theorem t154 : TT 154 F154:=tt Tryz.func154 c154
def F155 : AFun:=.mk 61 (.seq (.reg [Z 6 (.mv (I 0))]) (.seq (.seq (.reg [Zm 14 0,Z 15 (.call 191 [T 14])]) (.cond (T 15) (.seq (.reg [Z 6 (.mv (I 0))]) .ret) .skip)) (.seq (.reg [Z 7 (.mv (I 0))]) (.seq (.seq (.reg [Zm 16 0,Zm 17 1,Zm 18 2,Z 19 (.call 192 [T 16,T 17,T 18]),Z 20 (.lenL (T 19)),Z 21 (.mv (I 0))]) (.block 0 (.loop (.seq (.reg [Z 22 (.bin .lss (T 21) (T 20))]) (.seq (.cond (T 22) .skip (.exit 0)) (.seq (.block 1 (.seq (.reg [Z 23 (.ia 1 (T 19) (T 21)),Z 24 (.ld 1 false (T 23)),Zm 9 24]) (.seq (.reg [Zm 26 0,Z 27 (.nilck (T 26)),Z 28 (.fa 2 (T 27)),Z 29 (.ld 1 false (T 28)),Zm 30 9,Z 31 (.lkp true true .nili (T 29) (T 30)),Zm 25 31,Z 32 (.ext 0 (T 25)),Z 33 (.ext 1 (T 25)),Zm 10 32,Zm 11 33]) (.seq (.seq (.reg [Zm 35 0,Zm 36 9,Z 37 (.call 193 [T 35,T 36]),Zm 34 37,Z 38 (.ext 0 (T 34)),Z 39 (.ext 1 (T 34)),Z 12 (.alloc [.str [],.str [],.int .i64 0,.int .i64 0,.int .i64 0,.int .i64 0]),(.mk none (.st 6 (T 12) (T 38)) none,[]),Zm 13 39]) (.seq (.seq (.reg [Zm 40 13,Z 41 (.un .not (T 40)),Zm 42 41]) (.seq (.cond (T 42) (.reg [Z 43 (.mv (.cs (.tup [])))]) (.reg [Zm 43 11])) (.reg [Z 44 (.pick (T 42) (.cs (.bool true)) (T 43))]))) (.cond (T 44) (.exit 1) .skip))) (.seq (.reg [Zm 45 0,Zm 46 9,Z 47 (.bld [.str []] [(0,(1,T 46))]),Z 48 (.mkif 280 (T 47)),Z 49 (.call 196 [T 45,T 48])]) (.seq (.reg [Zm 50 0,Z 51 (.nilck (T 50)),Z 52 (.fa 3 (T 51)),Z 53 (.ld 1 false (T 52)),Z 54 (.bin .sub (T 53) (I 1)),Z 55 (.nilck (T 50)),Z 56 (.fa 3 (T 55)),(.mk none (.st 1 (T 56) (T 54)) none,[])]) (.reg [Zm 57 7,Z 58 (.bin .add (T 57) (I 1)),Zm 7 58]))))))) (.reg [Z 59 (.bin .add (T 21) (I 1)),Zm 21 59]))))))) (.seq (.reg [Zm 60 7,Zm 6 60]) .ret))))) [.tmp 6]
theorem c155 : compF Tryz.prog Tryz.f155 = some F155:=by kernel_rfl
theorem t155 : TT 155 F155:=tt Tryz.func155 c155
def F160 : AFun:=.mk 71 (.seq (.seq (.reg [Zm 10 0,Z 11 (.eqn .ptr false (T 10) (.cs .nilp))]) (.cond (T 11) .ret .skip)) (.seq (.reg [Zm 13 0,Zm 14 1,Z 15 (.call 201 [T 13,T 14]),Zm 12 15,Z 16 (.ext 0 (T 12)),Z 17 (.ext 1 (T 12)),Zm 8 16,Zm 9 17]) (.block 0 (.loop (.seq (.block 1 (.seq (.seq (.reg [Zm 20 0,Z 21 (.nilck (T 20)),Z 22 (.fa 1 (T 21)),Z 23 (.ld 1 false (T 22)),Z 24 (.lenL (T 23)),Z 25 (.bin .gtr (T 24) (I 0))]) (.cond (T 25) (.reg [Zm 26 0,Z 27 (.nilck (T 26)),Z 28 (.fa 1 (T 27)),Z 29 (.ld 1 false (T 28)),Zm 30 8,Z 31 (.ia 1 (T 29) (T 30)),Z 32 (.ld 1 false (T 31)),Zm 33 1,Zm 34 2,Zm 35 3,Z 36 (.call 160 [T 32,T 33,T 34,T 35])]) .skip)) (.seq (.seq (.seq (.reg [Zm 37 8,Zm 38 0,Z 39 (.nilck (T 38)),Z 40 (.fa 0 (T 39)),Z 41 (.ld 1 false (T 40)),Z 42 (.lenL (T 41)),Z 43 (.bin .eql (T 37) (T 42)),Zm 44 43]) (.seq (.cond (T 44) (ZP 45 16) (.seq (.reg [Zm 45 2,Z 46 (.bin .neq (T 45) (.cs (.str []))),Zm 47 46]) (.seq (.cond (T 47) (.reg [Zm 48 0,Z 49 (.nilck (T 48)),Z 50 (.fa 0 (T 49)),Z 51 (.ld 1 false (T 50)),Zm 52 8,Z 53 (.ia 1 (T 51) (T 52)),Z 54 (.ld 1 false (T 53)),Z 55 (.nilck (T 54)),Z 56 (.fa 0 (T 55)),Z 57 (.ld 1 false (T 56)),Zm 58 2,Z 59 (.bin .geq (T 57) (T 58))]) (ZP 48 12)) (.reg [Z 60 (.pick (T 47) (T 59) (.cs (.bool false)))])))) (.reg [Z 61 (.pick (T 44) (.cs (.bool true)) (T 60))]))) (.cond (T 61) .ret .skip)) (.reg [Zm 62 3,Zm 63 0,Z 64 (.nilck (T 63)),Z 65 (.fa 0 (T 64)),Z 66 (.ld 1 false (T 65)),Zm 67 8,Z 68 (.ia 1 (T 66) (T 67)),Z 69 (.ld 1 false (T 68)),Z 70 (.callv (T 62) [T 69])])))) (.reg [Zm 18 8,Z 19 (.bin .add (T 18) (I 1)),Zm 8 19])))))) []
theorem c160 : compF Tryz.prog Tryz.f160 = some F160:=by kernel_rfl
theorem t160 : TT 160 F160:=tt Tryz.func160 c160
def F161 : AFun:=.mk 10 (.reg [Z 3 (.ld 1 false (T 1)),Zm 4 0,Z 5 (.nilck (T 4)),Z 6 (.fa 0 (T 5)),Z 7 (.ld 1 false (T 6)),Z 8 (.bsl [.str []] 1 [(0,T 7)]),Z 9 (.app 1 16 (T 3) (T 8)),(.mk none (.st 1 (T 1) (T 9)) none,[])]) []
theorem c161 : compF Tryz.prog Tryz.f161 = some F161:=by kernel_rfl
theorem t161 : TT 161 F161:=tt Tryz.func161 c161
def F162 : AFun:=.mk 5 (.seq (.reg [Z 2 (.mv (.cs .nils))]) (.seq (.reg [Zm 3 0,Z 4 (.call 202 [.cs .nils,T 3]),Zm 2 4]) .ret)) [.tmp 2]
theorem c162 : compF Tryz.prog Tryz.f162 = some F162:=by kernel_rfl
theorem t162 : TT 162 F162:=tt Tryz.func162 c162
def F163 : AFun:=.mk 14 (.seq (.reg [Zm 5 0,Z 6 (.lenL (T 5)),Zm 4 6]) (.reg [Zm 7 0,Zm 8 4,Zm 9 4,Z 10 (.cvi .u64 (T 9)),Z 11 (.call 204 [T 10]),Zm 12 1,Z 13 (.call 203 [T 7,I 0,T 8,T 11,T 12])])) []
theorem c163 : compF Tryz.prog Tryz.f163 = some F163:=by kernel_rfl
theorem t163 : TT 163 F163:=tt Tryz.func163 c163
end Go.Proofs.YtmhbnkjajkcmkaaGreat
/- The functions of this seat's program in the form of the logic; each is shown to be what the model's code comes to. -/
set_option maxRecDepth 100000
namespace Go.Proofs.YtmhbnkjajkcmkaaGreat
open Go.Hz
def F164 : AFun:=.mk 15 (.seq (.reg [Z 5 (.ld 1 false (T 1)),Z 6 (.rng (T 5))]) (.block 0 (.loop (.seq (.reg [Z 7 (.nxt (T 6)),Z 8 (.ext 0 (T 7))]) (.seq (.cond (T 8) .skip (.exit 0)) (.block 1 (.seq (.reg [Z 9 (.ent (T 6)),Z 10 (.ext 1 (T 9)),Z 4 (.alloc [.int .i64 0,.int .i64 0,.int .i64 0]),(.mk none (.st 3 (T 4) (T 10)) none,[])]) (.seq (.reg [Zm 11 0,Z 12 (.ld 3 true (T 4)),Z 13 (.callv (T 11) [T 12]),Z 14 (.un .not (T 13))]) (.cond (T 14) .ret .skip))))))))) []
theorem c164 : compF Tryz.prog Tryz.f164 = some F164:=by kernel_rfl
theorem t164 : TT 164 F164:=tt Tryz.func164 c164
def F165 : AFun:=.mk 6 (.seq (.reg [Z 2 (.mv (.cs (.bool false)))]) (.seq (.reg [Zm 3 0,Zm 4 0,Z 5 (.bin .neq (T 3) (T 4)),Zm 2 5]) .ret)) [.tmp 2]
theorem c165 : compF Tryz.prog Tryz.f165 = some F165:=by kernel_rfl
theorem t165 : TT 165 F165:=tt Tryz.func165 c165
def F168 : AFun:=.mk 72 (.seq (.reg [Z 5 (.box (T 2)),Z 6 (.mv (I 0))]) (.seq (.seq (.seq (.reg [Zm 9 1,Z 10 (.bin .eql (T 9) (.cs (.str []))),Zm 11 10]) (.seq (.cond (T 11) (ZP 12 3) (.reg [Zm 12 1,Z 13 (.lenS (T 12)),Z 14 (.bin .gtr (T 13) (I 100))])) (.seq (.reg [Z 15 (.pick (T 11) (.cs (.bool true)) (T 14)),Zm 16 15]) (.seq (.cond (T 16) (ZP 17 3) (.reg [Z 17 (.fa 0 (T 5)),Z 18 (.ld 1 false (T 17)),Z 19 (.bin .lss (T 18) (I 1))])) (.reg [Z 20 (.pick (T 16) (.cs (.bool true)) (T 19))]))))) (.cond (T 20) (.seq (.reg [Z 6 (.mv (I 1))]) .ret) .skip)) (.seq (.reg [Zm 21 0,Zm 22 1,Z 23 (.call 200 [T 21,T 22]),Zm 7 23]) (.seq (.reg [Z 24 (.bld [.int .i64 0,.bool false] [(1,(1,.cs (.bool true)))]),Z 8 (.alloc [.int .i64 0,.bool false]),(.mk none (.st 2 (T 8) (T 24)) none,[])]) (.seq (.seq (.reg [Zm 25 7,Z 26 (.eqn .ptr true (T 25) (.cs .nilp))]) (.cond (T 26) (.reg [Zm 27 7,Z 28 (.nilck (T 27)),Z 29 (.fa 1 (T 28)),Z 30 (.ld 1 false (T 29)),Zm 31 7,Z 32 (.nilck (T 31)),Z 33 (.fa 1 (T 32)),Z 34 (.ld 1 false (T 33)),Z 35 (.lenL (T 34)),Z 36 (.bin .sub (T 35) (I 1)),Z 37 (.ia 2 (T 30) (T 36)),Z 38 (.ld 2 true (T 37)),(.mk none (.st 2 (T 8) (T 38)) none,[])]) .skip)) (.seq (.block 0 (.seq (.reg [Z 50 (.fa 0 (T 8)),Z 51 (.ld 1 false (T 50)),Z 52 (.fa 0 (T 5)),Z 53 (.ld 1 false (T 52)),Z 54 (.bin .geq (T 51) (T 53)),Zm 49 54]) (.cond (T 49) (.seq (.reg [Z 6 (.mv (I 15))]) .ret) (.seq (.seq (.reg [Z 56 (.fa 1 (T 5)),Z 57 (.ld 1 false (T 56)),Zm 58 57]) (.seq (.cond (T 58) (.reg [Z 59 (.fa 1 (T 8)),Z 60 (.ld 1 false (T 59))]) (ZP 59 2)) (.reg [Z 61 (.pick (T 58) (T 60) (.cs (.bool false))),Zm 55 61]))) (.cond (T 55) (.seq (.reg [Z 6 (.mv (I 2))]) .ret) (.seq (.reg [Zm 63 7,Z 64 (.eqn .ptr false (T 63) (.cs .nilp)),Zm 62 64]) (.cond (T 62) (.reg [Zm 65 0,Zm 66 1,Z 67 (.ld 2 true (T 5)),Z 68 (.bsl [.int .i64 0,.bool false] 1 [(0,T 67)]),Z 69 (.bld [.str [],.nils] [(0,(1,T 66)),(1,(1,T 68))]),Z 70 (.box (T 69)),Z 71 (.call 199 [T 65,T 70])]) (.reg [Zm 39 7,Zm 40 7,Z 41 (.nilck (T 40)),Z 42 (.fa 1 (T 41)),Z 43 (.ld 1 false (T 42)),Z 44 (.ld 2 true (T 5)),Z 45 (.bsl [.int .i64 0,.bool false] 1 [(0,T 44)]),Z 46 (.app 2 16 (T 43) (T 45)),Z 47 (.nilck (T 39)),Z 48 (.fa 1 (T 47)),(.mk none (.st 1 (T 48) (T 46)) none,[])])))))))) (.seq (.reg [Z 6 (.mv (I 0))]) .ret))))))) [.tmp 6]
theorem c168 : compF Tryz.prog Tryz.f168 = some F168:=by kernel_rfl
theorem t168 : TT 168 F168:=tt Tryz.func168 c168
def F169 : AFun:=.mk 53 (.seq (.reg [Z 3 (.box (T 1))]) (.seq (.reg [Z 7 (.fa 1 (T 3)),Z 8 (.ld 1 false (T 7)),Z 9 (.ta 199 true (.agg [.str [],.str [],.int .i64 0,.int .i64 0,.int .i64 0,.int .i64 0]) (T 8)),Zm 6 9,Z 10 (.ext 0 (T 6)),Z 11 (.ext 1 (T 6)),Z 4 (.alloc [.str [],.str [],.int .i64 0,.int .i64 0,.int .i64 0,.int .i64 0]),(.mk none (.st 6 (T 4) (T 10)) none,[]),Zm 5 11]) (.seq (.reg [Zm 12 0,Z 13 (.nilck (T 12)),Z 14 (.fa 3 (T 13)),Z 15 (.ld 1 false (T 14)),Z 16 (.fa 1 (T 3)),Z 17 (.ld 1 false (T 16)),Z 19 (.fa 0 (T 3)),Z 20 (.ld 1 false (T 19)),Zm 21 5,Z 22 (.un .not (T 21)),Z 23 (.bld [.int .i64 0,.bool false] [(0,(1,T 20)),(1,(1,T 22))]),(.mk (.some 18) (.inv "horologe/mvcc.key" (T 17) []) none,[.mk (.some 15) (.ld 1 false (T 14)) none,.mk (.some 20) (.ld 1 false (T 19)) none]),Z 24 (.call 168 [T 15,T 18,T 23])]) (.seq (.reg [Zm 25 0,Z 26 (.nilck (T 25)),Z 27 (.fa 4 (T 26)),Z 28 (.ld 1 false (T 27)),Z 29 (.fa 1 (T 3)),Z 30 (.ld 1 false (T 29)),Zm 32 0,Z 33 (.nilck (T 32)),Z 34 (.fa 4 (T 33)),Z 35 (.ld 1 false (T 34)),Z 36 (.fa 1 (T 3)),Z 37 (.ld 1 false (T 36)),Z 40 (.ld 2 true (T 3)),(.mk (.some 31) (.inv "horologe/mvcc.key" (T 30) []) none,[.mk (.some 28) (.ld 1 false (T 27)) none,.mk (.some 35) (.ld 1 false (T 34)) none,.mk (.some 37) (.ld 1 false (T 36)) none,.mk (.some 40) (.ld 2 true (T 3)) none]),(.mk (.some 38) (.inv "horologe/mvcc.key" (T 37) []) none,[.mk (.some 28) (.ld 1 false (T 27)) none,.mk (.some 35) (.ld 1 false (T 34)) none,.mk (.some 40) (.ld 2 true (T 3)) none]),Z 39 (.lkp true false .nils (T 35) (T 38)),Z 41 (.bsl [.int .i64 0,.nili] 1 [(0,T 40)]),(.mk (.some 42) (.app 2 24 (T 39) (T 41)) none,[.mk (.some 28) (.ld 1 false (T 27)) none]),(.mk none (.mup true (T 28) (T 31) (T 42)) none,[])]) (.reg [Zm 43 0,Zm 44 0,Z 45 (.nilck (T 44)),Z 46 (.fa 5 (T 45)),Z 47 (.ld 1 false (T 46)),Z 48 (.ld 2 true (T 3)),Z 49 (.bsl [.int .i64 0,.nili] 1 [(0,T 48)]),Z 50 (.app 2 24 (T 47) (T 49)),Z 51 (.nilck (T 43)),Z 52 (.fa 5 (T 51)),(.mk none (.st 1 (T 52) (T 50)) none,[])]))))) []
theorem c169 : compF Tryz.prog Tryz.f169 = some F169:=by kernel_rfl
theorem t169 : TT 169 F169:=tt Tryz.func169 c169
def F184 : AFun:=.mk 15 (.seq (.reg [Z 2 (.mv (I 0))]) (.seq (.seq (.reg [Zm 5 0,Z 6 (.lenL (T 5)),Z 7 (.mv (I 0))]) (.block 0 (.loop (.seq (.reg [Z 8 (.bin .lss (T 7) (T 6))]) (.seq (.cond (T 8) .skip (.exit 0)) (.seq (.block 1 (.seq (.reg [Z 9 (.ia 1 (T 5) (T 7)),Z 10 (.ld 1 false (T 9)),Zm 4 10]) (.seq (.reg [Zm 11 4,Z 12 (.bin .neq (T 11) (I 0))]) (.cond (T 12) (.seq (.reg [Zm 13 4,Zm 2 13]) .ret) .skip)))) (.reg [Z 14 (.bin .add (T 7) (I 1)),Zm 7 14]))))))) (.seq (.reg [Z 2 (.mv (I 0))]) .ret))) [.tmp 2]
theorem c184 : compF Tryz.prog Tryz.f184 = some F184:=by kernel_rfl
theorem t184 : TT 184 F184:=tt Tryz.func184 c184
def F185 : AFun:=.mk 28 (.seq (.reg [Z 1 (.box (T 0)),Z 2 (.mv (I 0))]) (.seq (.seq (.reg [Z 3 (.fa 0 (T 1)),Z 4 (.ld 1 false (T 3)),Z 7 (.fa 1 (T 1)),Z 8 (.ld 1 false (T 7)),Z 9 (.bin .geq (T 8) (I 0)),(.mk (.some 5) (.call 208 [T 4]) none,[.mk (.some 8) (.ld 1 false (T 7)) none]),(.mk (.some 6) (.call 187 [T 5,I 1]) none,[.mk (.some 8) (.ld 1 false (T 7)) none]),Zm 10 9]) (.seq (.cond (T 10) (.reg [Z 11 (.fa 1 (T 1)),Z 12 (.ld 1 false (T 11)),Z 13 (.bin .leq (T 12) (I 4))]) (ZP 11 3)) (.seq (.reg [Z 14 (.pick (T 10) (T 13) (.cs (.bool false))),Zm 15 14]) (.seq (.cond (T 15) (.reg [Z 16 (.fa 2 (T 1)),Z 17 (.ld 1 false (T 16)),Z 18 (.bin .geq (T 17) (I 0))]) (ZP 16 3)) (.seq (.reg [Z 19 (.pick (T 15) (T 18) (.cs (.bool false))),Zm 20 19]) (.seq (.cond (T 20) (.reg [Z 21 (.fa 2 (T 1)),Z 22 (.ld 1 false (T 21)),Z 23 (.bin .leq (T 22) (I 3))]) (ZP 21 3)) (.reg [Z 24 (.pick (T 20) (T 23) (.cs (.bool false))),Z 25 (.call 187 [T 24,I 3]),Z 26 (.bsl [.int .i64 0] 2 [(0,T 6),(1,T 25)]),Z 27 (.call 184 [T 26]),Zm 2 27]))))))) .ret)) [.tmp 2]
theorem c185 : compF Tryz.prog Tryz.f185 = some F185:=by kernel_rfl
theorem t185 : TT 185 F185:=tt Tryz.func185 c185
def F186 : AFun:=.mk 52 (.seq (.reg [Z 1 (.box (T 0)),Z 2 (.mv (I 0))]) (.seq (.seq (.reg [Z 4 (.fa 0 (T 1)),Z 5 (.ld 1 false (T 4)),Z 6 (.bin .geq (T 5) (I 0)),Zm 7 6]) (.seq (.cond (T 7) (.reg [Z 8 (.fa 0 (T 1)),Z 9 (.ld 1 false (T 8)),Z 10 (.bin .leq (T 9) (I 2))]) (ZP 8 3)) (.seq (.reg [Z 11 (.pick (T 7) (T 10) (.cs (.bool false))),Z 13 (.fa 1 (T 1)),Z 14 (.ld 1 false (T 13)),(.mk (.some 12) (.call 187 [T 11,I 3]) none,[.mk (.some 14) (.ld 1 false (T 13)) none]),Z 15 (.call 208 [T 14]),Zm 16 15]) (.seq (.cond (T 16) (.seq (.reg [Z 17 (.fa 2 (T 1)),Z 18 (.ld 1 false (T 17)),Z 19 (.bin .eql (T 18) (.cs (.str []))),Zm 20 19]) (.seq (.cond (T 20) (ZP 21 5) (.reg [Z 21 (.fa 2 (T 1)),Z 22 (.ld 1 false (T 21)),Z 23 (.fa 1 (T 1)),Z 24 (.ld 1 false (T 23)),Z 25 (.bin .gtr (T 22) (T 24))])) (.reg [Z 26 (.pick (T 20) (.cs (.bool true)) (T 25))]))) (ZP 17 10)) (.reg [Z 27 (.pick (T 16) (T 26) (.cs (.bool false))),Z 28 (.call 187 [T 27,I 1]),Z 29 (.bsl [.int .i64 0] 2 [(0,T 12),(1,T 28)]),Z 30 (.call 184 [T 29]),Zm 3 30]))))) (.seq (.seq (.reg [Z 31 (.fa 0 (T 1)),Z 32 (.ld 1 false (T 31)),Z 33 (.bin .eql (T 32) (I 0))]) (.cond (T 33) (.seq (.reg [Zm 34 3,Z 35 (.fa 2 (T 1)),Z 36 (.ld 1 false (T 35)),Z 37 (.bin .eql (T 36) (.cs (.str []))),Zm 38 37]) (.seq (.cond (T 38) (.reg [Z 39 (.fa 4 (T 1)),Z 40 (.ld 1 false (T 39)),Z 41 (.bin .geq (T 40) (I 0))]) (ZP 39 3)) (.reg [Z 42 (.pick (T 38) (T 41) (.cs (.bool false))),Z 44 (.fa 3 (T 1)),Z 45 (.ld 1 false (T 44)),Z 46 (.lenS (T 45)),Z 47 (.bin .leq (T 46) (I 4096)),(.mk (.some 43) (.call 187 [T 42,I 1]) none,[.mk (.some 45) (.ld 1 false (T 44)) none]),Z 48 (.call 187 [T 47,I 5]),Z 49 (.bsl [.int .i64 0] 3 [(0,T 34),(1,T 43),(2,T 48)]),Z 50 (.call 184 [T 49]),Zm 3 50]))) .skip)) (.seq (.reg [Zm 51 3,Zm 2 51]) .ret)))) [.tmp 2]
theorem c186 : compF Tryz.prog Tryz.f186 = some F186:=by kernel_rfl
theorem t186 : TT 186 F186:=tt Tryz.func186 c186
def F187 : AFun:=.mk 7 (.seq (.reg [Z 4 (.mv (I 0))]) (.seq (.seq (.reg [Zm 5 0]) (.cond (T 5) (.seq (.reg [Z 4 (.mv (I 0))]) .ret) .skip)) (.seq (.reg [Zm 6 1,Zm 4 6]) .ret))) [.tmp 4]
theorem c187 : compF Tryz.prog Tryz.f187 = some F187:=by kernel_rfl
theorem t187 : TT 187 F187:=tt Tryz.func187 c187
def F188 : AFun:=.mk 42 (.seq (.reg [Z 2 (.mv (.cs (.bool false)))]) (.seq (.seq (.reg [Zm 7 0,Z 8 (.lenL (T 7)),Z 9 (.mv (I 0))]) (.block 0 (.loop (.seq (.reg [Z 10 (.bin .lss (T 9) (T 8))]) (.seq (.cond (T 10) .skip (.exit 0)) (.seq (.block 1 (.seq (.reg [Zm 11 9,Z 12 (.ia 6 (T 7) (T 9)),Z 13 (.ld 6 true (T 12)),Z 4 (.alloc [.int .i64 0,.str [],.str [],.str [],.int .i64 0,.int .i64 0]),Zm 3 11,(.mk none (.st 6 (T 4) (T 13)) none,[])]) (.seq (.reg [Zm 14 0,Z 15 (.lenL (T 14)),Z 16 (.mv (I 0))]) (.block 2 (.loop (.seq (.reg [Z 17 (.bin .lss (T 16) (T 15))]) (.seq (.cond (T 17) .skip (.exit 2)) (.seq (.block 3 (.seq (.reg [Zm 18 16,Z 19 (.ia 6 (T 14) (T 16)),Z 20 (.ld 6 true (T 19)),Z 6 (.alloc [.int .i64 0,.str [],.str [],.str [],.int .i64 0,.int .i64 0]),Zm 5 18,(.mk none (.st 6 (T 6) (T 20)) none,[])]) (.seq (.seq (.reg [Zm 21 3,Zm 22 5,Z 23 (.bin .neq (T 21) (T 22)),Zm 24 23]) (.seq (.cond (T 24) (.reg [Z 25 (.fa 0 (T 4)),Z 26 (.ld 1 false (T 25)),Z 27 (.bin .eql (T 26) (I 0))]) (ZP 25 3)) (.seq (.reg [Z 28 (.pick (T 24) (T 27) (.cs (.bool false))),Zm 29 28]) (.seq (.cond (T 29) (.reg [Z 30 (.fa 0 (T 6)),Z 31 (.ld 1 false (T 30)),Z 32 (.bin .neq (T 31) (I 2))]) (ZP 30 3)) (.seq (.reg [Z 33 (.pick (T 29) (T 32) (.cs (.bool false))),Zm 34 33]) (.seq (.cond (T 34) (.reg [Z 35 (.fa 1 (T 4)),Z 36 (.ld 1 false (T 35)),Z 37 (.ld 6 true (T 6)),Z 38 (.call 209 [T 36,T 37])]) (ZP 35 4)) (.reg [Z 39 (.pick (T 34) (T 38) (.cs (.bool false)))]))))))) (.cond (T 39) (.seq (.reg [Z 2 (.mv (.cs (.bool true)))]) .ret) .skip)))) (.reg [Z 40 (.bin .add (T 16) (I 1)),Zm 16 40]))))))))) (.reg [Z 41 (.bin .add (T 9) (I 1)),Zm 9 41]))))))) (.seq (.reg [Z 2 (.mv (.cs (.bool false)))]) .ret))) [.tmp 2]
theorem c188 : compF Tryz.prog Tryz.f188 = some F188:=by kernel_rfl
theorem t188 : TT 188 F188:=tt Tryz.func188 c188
def F189 : AFun:=.mk 35 (.seq (.reg [Z 2 (.box (T 0)),Z 3 (.box (T 1)),Z 4 (.mv (I 0))]) (.seq (.reg [Z 5 (.mv (I 0))]) (.seq (.seq (.reg [Z 6 (.fa 1 (T 3)),Z 7 (.ld 1 false (T 6))]) (.block 0 (.seq (.reg [Z 9 (.bin .eql (T 7) (I 4)),Zm 8 9]) (.cond (T 8) (.seq (.reg [Z 10 (.fa 1 (T 2)),Z 11 (.ld 1 false (T 10)),Z 12 (.fa 4 (T 3)),Z 13 (.ld 1 false (T 12)),Z 14 (.call 210 [T 11,T 13]),Zm 4 14]) .ret) (.seq (.reg [Z 16 (.bin .eql (T 7) (I 0)),Zm 15 16]) (.cond (T 15) (.reg [Z 17 (.fa 4 (T 2)),Z 18 (.ld 1 false (T 17)),Zm 5 18]) (.seq (.reg [Z 20 (.bin .eql (T 7) (I 1)),Zm 19 20]) (.cond (T 19) (.reg [Z 21 (.fa 2 (T 2)),Z 22 (.ld 1 false (T 21)),Zm 5 22]) (.seq (.reg [Z 24 (.bin .eql (T 7) (I 2)),Zm 23 24]) (.cond (T 23) (.reg [Z 25 (.fa 3 (T 2)),Z 26 (.ld 1 false (T 25)),Zm 5 26]) (.seq (.reg [Z 28 (.bin .eql (T 7) (I 3)),Zm 27 28]) (.cond (T 27) (.reg [Z 29 (.fa 5 (T 2)),Z 30 (.ld 1 false (T 29)),Zm 5 30]) .skip)))))))))))) (.seq (.reg [Zm 31 5,Z 32 (.fa 3 (T 3)),Z 33 (.ld 1 false (T 32)),Z 34 (.call 101 [T 31,T 33]),Zm 4 34]) .ret)))) [.tmp 4]
theorem c189 : compF Tryz.prog Tryz.f189 = some F189:=by kernel_rfl
theorem t189 : TT 189 F189:=tt Tryz.func189 c189
def F190 : AFun:=.mk 95 (.seq (.reg [Z 8 (.mv (I 0))]) (.seq (.reg [Zm 15 0,Z 16 (.nilck (T 15)),Z 17 (.fa 2 (T 16)),Z 18 (.ld 1 false (T 17)),Zm 19 1,Z 20 (.lkp true true .nili (T 18) (T 19)),Zm 14 20,Z 21 (.ext 0 (T 14)),Z 22 (.ext 1 (T 14)),Zm 9 21,Zm 10 22]) (.seq (.reg [Zm 24 0,Zm 25 1,Z 26 (.call 193 [T 24,T 25]),Zm 23 26,Z 27 (.ext 0 (T 23)),Z 28 (.ext 1 (T 23)),Z 11 (.alloc [.str [],.str [],.int .i64 0,.int .i64 0,.int .i64 0,.int .i64 0]),(.mk none (.st 6 (T 11) (T 27)) none,[]),Zm 12 28]) (.seq (.block 0 (.seq (.seq (.reg [Zm 30 1,Z 31 (.bin .eql (T 30) (.cs (.str []))),Zm 32 31]) (.seq (.cond (T 32) (ZP 33 3) (.reg [Zm 33 1,Z 34 (.lenS (T 33)),Z 35 (.bin .gtr (T 34) (I 100))])) (.seq (.reg [Z 36 (.pick (T 32) (.cs (.bool true)) (T 35)),Zm 37 36]) (.seq (.cond (T 37) (ZP 38 2) (.reg [Zm 38 3,Z 39 (.bin .lss (T 38) (I 0))])) (.reg [Z 40 (.pick (T 37) (.cs (.bool true)) (T 39)),Zm 29 40]))))) (.cond (T 29) (.seq (.reg [Z 8 (.mv (I 1))]) .ret) (.seq (.reg [Zm 42 2,Z 43 (.lenS (T 42)),Z 44 (.bin .gtr (T 43) (I 4096)),Zm 41 44]) (.cond (T 41) (.seq (.reg [Z 8 (.mv (I 5))]) .ret) (.seq (.reg [Zm 46 10,Zm 45 46]) (.cond (T 45) (.seq (.reg [Z 8 (.mv (I 18))]) .ret) (.seq (.seq (.reg [Zm 48 12,Z 49 (.un .not (T 48)),Zm 50 49]) (.seq (.cond (T 50) (.reg [Zm 51 0,Z 52 (.nilck (T 51)),Z 53 (.fa 3 (T 52)),Z 54 (.ld 1 false (T 53)),Z 55 (.bin .geq (T 54) (I 4096))]) (ZP 51 5)) (.reg [Z 56 (.pick (T 50) (T 55) (.cs (.bool false))),Zm 47 56]))) (.cond (T 47) (.seq (.reg [Z 8 (.mv (I 14))]) .ret) (.seq (.reg [Zm 58 0,Z 59 (.call 191 [T 58]),Zm 57 59]) (.cond (T 57) (.seq (.reg [Z 8 (.mv (I 1))]) .ret) .skip))))))))))) (.seq (.reg [Zm 60 0,Z 61 (.nilck (T 60)),Z 62 (.fa 0 (T 61)),Z 63 (.ld 1 false (T 62)),Z 64 (.nilck (T 63)),Z 65 (.fa 0 (T 64)),Z 66 (.ld 1 false (T 65)),Z 67 (.bin .add (T 66) (I 1)),Zm 13 67]) (.seq (.seq (.reg [Zm 68 12,Z 69 (.un .not (T 68))]) (.cond (T 69) (.seq (.reg [Zm 70 1,Zm 71 13,Z 72 (.bld [.str [],.str [],.int .i64 0,.int .i64 0,.int .i64 0,.int .i64 0] [(0,(1,T 70)),(2,(1,T 71))]),(.mk none (.st 6 (T 11) (T 72)) none,[])]) (.reg [Zm 73 0,Z 74 (.nilck (T 73)),Z 75 (.fa 3 (T 74)),Z 76 (.ld 1 false (T 75)),Z 77 (.bin .add (T 76) (I 1)),Z 78 (.nilck (T 73)),Z 79 (.fa 3 (T 78)),(.mk none (.st 1 (T 79) (T 77)) none,[])])) .skip)) (.seq (.reg [Zm 80 2,Zm 81 3,Zm 82 13,Z 83 (.fa 1 (T 11)),(.mk none (.st 1 (T 83) (T 80)) none,[]),Z 84 (.fa 5 (T 11)),(.mk none (.st 1 (T 84) (T 81)) none,[]),Z 85 (.fa 3 (T 11)),(.mk none (.st 1 (T 85) (T 82)) none,[])]) (.seq (.reg [Z 86 (.fa 4 (T 11)),Z 87 (.ld 1 false (T 86)),Z 88 (.bin .add (T 87) (I 1)),Z 89 (.fa 4 (T 11)),(.mk none (.st 1 (T 89) (T 88)) none,[])]) (.seq (.reg [Zm 90 0,Z 91 (.ld 6 true (T 11)),Z 92 (.bld [.str [],.str [],.int .i64 0,.int .i64 0,.int .i64 0,.int .i64 0] [(0,(6,T 91))]),Z 93 (.mkif 199 (T 92)),Z 94 (.call 196 [T 90,T 93])]) (.seq (.reg [Z 8 (.mv (I 0))]) .ret)))))))))) [.tmp 8]
theorem c190 : compF Tryz.prog Tryz.f190 = some F190:=by kernel_rfl
theorem t190 : TT 190 F190:=tt Tryz.func190 c190
def F191 : AFun:=.mk 12 (.seq (.reg [Z 2 (.mv (.cs (.bool false)))]) (.seq (.reg [Zm 3 0,Z 4 (.nilck (T 3)),Z 5 (.fa 0 (T 4)),Z 6 (.ld 1 false (T 5)),Z 7 (.nilck (T 6)),Z 8 (.fa 6 (T 7)),Z 9 (.ld 1 false (T 8)),Zm 10 0,Z 11 (.eqn .ptr true (T 9) (T 10)),Zm 2 11]) .ret)) [.tmp 2]
theorem c191 : compF Tryz.prog Tryz.f191 = some F191:=by kernel_rfl
theorem t191 : TT 191 F191:=tt Tryz.func191 c191
def F192 : AFun:=.mk 43 (.seq (.reg [Z 6 (.mv (.cs .nils))]) (.seq (.reg [Zm 9 0,Z 10 (.nilck (T 9)),Z 11 (.fa 0 (T 10)),Z 12 (.ld 1 false (T 11)),Zm 13 1,Zm 14 2,Z 15 (.call 43 [T 12,T 13,T 14]),Zm 7 15]) (.seq (.seq (.reg [Zm 16 2,Z 17 (.bin .neq (T 16) (.cs (.str [])))]) (.cond (T 17) (.seq (.reg [Zm 18 0,Z 19 (.nilck (T 18)),Z 20 (.fa 2 (T 19)),Z 21 (.ld 1 false (T 20)),Z 22 (.rng (T 21))]) (.block 0 (.loop (.seq (.reg [Z 23 (.nxt (T 22)),Z 24 (.ext 0 (T 23))]) (.seq (.cond (T 24) .skip (.exit 0)) (.block 1 (.seq (.reg [Z 25 (.ent (T 22)),Z 26 (.ext 0 (T 25)),Zm 8 26]) (.seq (.seq (.reg [Zm 27 8,Zm 28 1,Z 29 (.bin .geq (T 27) (T 28)),Zm 30 29]) (.seq (.cond (T 30) (.reg [Zm 31 8,Zm 32 2,Z 33 (.bin .lss (T 31) (T 32))]) (ZP 31 3)) (.reg [Z 34 (.pick (T 30) (T 33) (.cs (.bool false)))]))) (.cond (T 34) (.reg [Zm 35 7,Zm 36 8,Z 37 (.bsl [.str []] 1 [(0,T 36)]),Z 38 (.app 1 16 (T 35) (T 37)),Zm 7 38]) .skip))))))))) .skip)) (.seq (.reg [Zm 39 7,Z 40 (.call 211 [T 39])]) (.seq (.reg [Zm 41 7,Z 42 (.call 212 [T 41]),Zm 6 42]) .ret))))) [.tmp 6]
theorem c192 : compF Tryz.prog Tryz.f192 = some F192:=by kernel_rfl
theorem t192 : TT 192 F192:=tt Tryz.func192 c192
def F193 : AFun:=.mk 44 (.seq (.reg [Z 4 (.alloc [.str [],.str [],.int .i64 0,.int .i64 0,.int .i64 0,.int .i64 0]),Z 5 (.mv (.cs (.bool false)))]) (.seq (.reg [Zm 11 0,Z 12 (.nilck (T 11)),Z 13 (.fa 2 (T 12)),Z 14 (.ld 1 false (T 13)),Zm 15 1,Z 16 (.lkp true true .nili (T 14) (T 15)),Zm 10 16,Z 17 (.ext 0 (T 10)),Z 18 (.ext 1 (T 10)),Zm 6 17,Zm 7 18]) (.seq (.seq (.reg [Zm 19 7,Z 20 (.un .not (T 19))]) (.cond (T 20) (.seq (.reg [Zm 21 0,Z 22 (.nilck (T 21)),Z 23 (.fa 0 (T 22)),Z 24 (.ld 1 false (T 23)),Zm 25 1,Zm 26 0,Z 27 (.nilck (T 26)),Z 28 (.fa 0 (T 27)),Z 29 (.ld 1 false (T 28)),Z 30 (.nilck (T 29)),Z 31 (.fa 0 (T 30)),Z 32 (.ld 1 false (T 31)),Z 33 (.call 44 [T 24,T 25,T 32]),Z 34 (.ext 0 (T 33)),Z 35 (.ext 1 (T 33)),(.mk none (.st 6 (T 4) (T 34)) none,[]),Zm 5 35]) .ret) .skip)) (.seq (.reg [Zm 37 6,Z 38 (.ta 199 true (.agg [.str [],.str [],.int .i64 0,.int .i64 0,.int .i64 0,.int .i64 0]) (T 37)),Zm 36 38,Z 39 (.ext 0 (T 36)),Z 40 (.ext 1 (T 36)),Z 8 (.alloc [.str [],.str [],.int .i64 0,.int .i64 0,.int .i64 0,.int .i64 0]),(.mk none (.st 6 (T 8) (T 39)) none,[]),Zm 9 40]) (.seq (.reg [Z 41 (.fa 0 (T 8)),Z 42 (.ld 6 true (T 41)),Zm 43 9,(.mk none (.st 6 (T 4) (T 42)) none,[]),Zm 5 43]) .ret))))) [.cell 4 6 true,.tmp 5]
theorem c193 : compF Tryz.prog Tryz.f193 = some F193:=by kernel_rfl
theorem t193 : TT 193 F193:=tt Tryz.func193 c193
def F194 : AFun:=.mk 30 (.seq (.reg [Z 4 (.mv (.cs (.int .u64 0))),Z 5 (.mv (.cs (.int .u64 0)))]) (.seq (.cond (.cs (.bool false)) (.seq (.reg [Zm 11 0,Z 12 (.cvi .u32 (T 11)),Zm 13 1,Z 14 (.cvi .u32 (T 13)),Z 15 (.call 213 [T 12,T 14]),Zm 10 15,Z 16 (.ext 0 (T 10)),Z 17 (.ext 1 (T 10)),Zm 6 16,Zm 7 17]) (.seq (.reg [Zm 18 6,Z 19 (.cvi .u64 (T 18)),Zm 20 7,Z 21 (.cvi .u64 (T 20)),Zm 4 19,Zm 5 21]) .ret)) .skip) (.seq (.reg [Zm 23 0,Zm 24 1,Z 25 (.call 214 [T 23,T 24]),Zm 22 25,Z 26 (.ext 0 (T 22)),Z 27 (.ext 1 (T 22)),Zm 8 26,Zm 9 27]) (.seq (.reg [Zm 28 8,Zm 29 9,Zm 4 28,Zm 5 29]) .ret)))) [.tmp 4,.tmp 5]
theorem c194 : compF Tryz.prog Tryz.f194 = some F194:=by kernel_rfl
theorem t194 : TT 194 F194:=tt Tryz.func194 c194
def F195 : AFun:=.mk 19 (.seq (.reg [Z 4 (.mv (I 0))]) (.seq (.seq (.reg [Zm 6 0,Z 7 (.lenL (T 6)),Z 8 (.mv (I 0))]) (.block 0 (.loop (.seq (.reg [Z 9 (.bin .lss (T 8) (T 7))]) (.seq (.cond (T 9) .skip (.exit 0)) (.seq (.block 1 (.seq (.reg [Zm 10 8,Zm 5 10]) (.seq (.reg [Zm 11 1,Zm 12 0,Zm 13 5,Z 14 (.ia 1 (T 12) (T 13)),Z 15 (.ld 1 false (T 14)),Z 16 (.bin .eql (T 11) (T 15))]) (.cond (T 16) (.seq (.reg [Zm 17 5,Zm 4 17]) .ret) .skip)))) (.reg [Z 18 (.bin .add (T 8) (I 1)),Zm 8 18]))))))) (.seq (.reg [Z 4 (.mv (I (-1)))]) .ret))) [.tmp 4]
theorem c195 : compF Tryz.prog Tryz.f195 = some F195:=by kernel_rfl
theorem t195 : TT 195 F195:=tt Tryz.func195 c195
def F196 : AFun:=.mk 21 (.seq (.reg [Zm 4 0,Zm 5 0,Z 6 (.nilck (T 5)),Z 7 (.fa 1 (T 6)),Z 8 (.ld 1 false (T 7)),Zm 9 1,Z 10 (.bsl [.nili] 1 [(0,T 9)]),Z 11 (.app 1 16 (T 8) (T 10)),Z 12 (.nilck (T 4)),Z 13 (.fa 1 (T 12)),(.mk none (.st 1 (T 13) (T 11)) none,[])]) (.reg [Zm 14 0,Z 15 (.nilck (T 14)),Z 16 (.fa 2 (T 15)),Z 17 (.ld 1 false (T 16)),Zm 18 1,Zm 20 1,(.mk (.some 19) (.inv "horologe/mvcc.key" (T 18) []) none,[.mk (.some 17) (.ld 1 false (T 16)) none]),(.mk none (.mup true (T 17) (T 19) (T 20)) none,[])])) []
theorem c196 : compF Tryz.prog Tryz.f196 = some F196:=by kernel_rfl
theorem t196 : TT 196 F196:=tt Tryz.func196 c196
def F198 : AFun:=.mk 25 (.seq (.reg [Z 2 (.box (T 0)),Z 3 (.box (T 1)),Z 4 (.mv (.cs .nils))]) (.seq (.reg [Z 6 (.ld 1 false (T 2)),Z 7 (.lenL (T 6)),Z 8 (.mkfn 215 [T 2,T 3]),Z 9 (.call 96 [T 7,T 8]),Z 10 (.bin .sub (T 9) (I 1)),Zm 5 10]) (.seq (.seq (.reg [Zm 11 5,Z 12 (.bin .lss (T 11) (I 0))]) (.cond (T 12) (.seq (.reg [Z 13 (.ld 1 false (T 2)),Zm 4 13]) .ret) .skip)) (.seq (.seq (.reg [Z 14 (.ld 1 false (T 2)),Zm 15 5,Z 16 (.ia 2 (T 14) (T 15)),Z 17 (.fa 1 (T 16)),Z 18 (.ld 1 false (T 17))]) (.cond (T 18) (.reg [Zm 19 5,Z 20 (.bin .add (T 19) (I 1)),Zm 5 20]) .skip)) (.seq (.reg [Z 21 (.ld 1 false (T 2)),Zm 22 5,Z 23 (.slcL 2 (T 21) (.some (T 22)) none),Z 24 (.call 216 [T 23]),Zm 4 24]) .ret))))) [.tmp 4]
theorem c198 : compF Tryz.prog Tryz.f198 = some F198:=by kernel_rfl
theorem t198 : TT 198 F198:=tt Tryz.func198 c198
def F199 : AFun:=.mk 47 (.seq (.reg [Zm 6 0,Z 7 (.nilck (T 6)),Z 8 (.fa 1 (T 7)),Z 9 (.ld 1 false (T 8)),Z 10 (.bin .add (T 9) (I 1)),Z 11 (.nilck (T 6)),Z 12 (.fa 1 (T 11)),(.mk none (.st 1 (T 12) (T 10)) none,[])]) (.seq (.seq (.reg [Zm 13 0,Z 14 (.nilck (T 13)),Z 15 (.fa 0 (T 14)),Z 16 (.ld 1 false (T 15)),Z 17 (.eqn .ptr false (T 16) (.cs .nilp))]) (.cond (T 17) (.reg [Zm 18 0,Z 19 (.bld [.nils,.nils] []),Z 20 (.box (T 19)),Z 21 (.nilck (T 18)),Z 22 (.fa 0 (T 21)),(.mk none (.st 1 (T 22) (T 20)) none,[])]) .skip)) (.seq (.reg [Zm 24 0,Z 25 (.nilck (T 24)),Z 26 (.fa 0 (T 25)),Z 27 (.ld 1 false (T 26)),Zm 28 1,Z 29 (.call 217 [T 27,T 28]),Zm 23 29,Z 30 (.ext 0 (T 23)),Z 31 (.ext 1 (T 23)),Zm 4 30,Zm 5 31]) (.seq (.reg [Zm 32 5,Z 33 (.eqn .ptr true (T 32) (.cs .nilp))]) (.cond (T 33) (.reg [Zm 34 0,Zm 35 4,Z 36 (.bsl [.nilp] 1 [(0,T 35)]),Zm 37 0,Z 38 (.nilck (T 37)),Z 39 (.fa 0 (T 38)),Z 40 (.ld 1 false (T 39)),Zm 41 5,Z 42 (.bsl [.nilp] 2 [(0,T 40),(1,T 41)]),Z 43 (.bld [.nils,.nils] [(0,(1,T 36)),(1,(1,T 42))]),Z 44 (.box (T 43)),Z 45 (.nilck (T 34)),Z 46 (.fa 0 (T 45)),(.mk none (.st 1 (T 46) (T 44)) none,[])]) .skip))))) []
theorem c199 : compF Tryz.prog Tryz.f199 = some F199:=by kernel_rfl
theorem t199 : TT 199 F199:=tt Tryz.func199 c199
def F200 : AFun:=.mk 41 (.seq (.reg [Z 4 (.mv (.cs .nilp))]) (.seq (.seq (.reg [Zm 8 0,Z 9 (.nilck (T 8)),Z 10 (.fa 0 (T 9)),Z 11 (.ld 1 false (T 10)),Zm 5 11]) (.block 0 (.loop (.seq (.seq (.reg [Zm 12 5,Z 13 (.eqn .ptr true (T 12) (.cs .nilp))]) (.cond (T 13) .skip (.exit 0))) (.block 1 (.seq (.reg [Zm 15 5,Zm 16 1,Z 17 (.call 201 [T 15,T 16]),Zm 14 17,Z 18 (.ext 0 (T 14)),Z 19 (.ext 1 (T 14)),Zm 6 18,Zm 7 19]) (.seq (.seq (.reg [Zm 20 7]) (.cond (T 20) (.seq (.reg [Zm 21 5,Z 22 (.nilck (T 21)),Z 23 (.fa 0 (T 22)),Z 24 (.ld 1 false (T 23)),Zm 25 6,Z 26 (.ia 1 (T 24) (T 25)),Z 27 (.ld 1 false (T 26)),Zm 4 27]) .ret) .skip)) (.seq (.seq (.reg [Zm 28 5,Z 29 (.nilck (T 28)),Z 30 (.fa 1 (T 29)),Z 31 (.ld 1 false (T 30)),Z 32 (.lenL (T 31)),Z 33 (.bin .eql (T 32) (I 0))]) (.cond (T 33) (.exit 0) .skip)) (.reg [Zm 34 5,Z 35 (.nilck (T 34)),Z 36 (.fa 1 (T 35)),Z 37 (.ld 1 false (T 36)),Zm 38 6,Z 39 (.ia 1 (T 37) (T 38)),Z 40 (.ld 1 false (T 39)),Zm 5 40]))))))))) (.seq (.reg [Z 4 (.mv (.cs .nilp))]) .ret))) [.tmp 4]
theorem c200 : compF Tryz.prog Tryz.f200 = some F200:=by kernel_rfl
theorem t200 : TT 200 F200:=tt Tryz.func200 c200
def F201 : AFun:=.mk 36 (.seq (.reg [Z 2 (.box (T 0)),Z 3 (.box (T 1)),Z 4 (.mv (I 0)),Z 5 (.mv (.cs (.bool false)))]) (.seq (.reg [Z 7 (.ld 1 false (T 2)),Z 8 (.nilck (T 7)),Z 9 (.fa 0 (T 8)),Z 10 (.ld 1 false (T 9)),Z 11 (.lenL (T 10)),Z 12 (.mkfn 218 [T 2,T 3]),Z 13 (.call 96 [T 11,T 12]),Zm 6 13]) (.seq (.seq (.reg [Zm 14 6,Zm 15 6,Z 16 (.ld 1 false (T 2)),Z 17 (.nilck (T 16)),Z 18 (.fa 0 (T 17)),Z 19 (.ld 1 false (T 18)),Z 20 (.lenL (T 19)),Z 21 (.bin .lss (T 15) (T 20)),Zm 22 21]) (.seq (.cond (T 22) (.reg [Z 23 (.ld 1 false (T 2)),Z 24 (.nilck (T 23)),Z 25 (.fa 0 (T 24)),Z 26 (.ld 1 false (T 25)),Zm 27 6,Z 28 (.ia 1 (T 26) (T 27)),Z 29 (.ld 1 false (T 28)),Z 30 (.nilck (T 29)),Z 31 (.fa 0 (T 30)),Z 32 (.ld 1 false (T 31)),Z 33 (.ld 1 false (T 3)),Z 34 (.bin .eql (T 32) (T 33))]) (ZP 23 12)) (.reg [Z 35 (.pick (T 22) (T 34) (.cs (.bool false))),Zm 4 14,Zm 5 35]))) .ret))) [.tmp 4,.tmp 5]
theorem c201 : compF Tryz.prog Tryz.f201 = some F201:=by kernel_rfl
theorem t201 : TT 201 F201:=tt Tryz.func201 c201
def F202 : AFun:=.mk 13 (.seq (.reg [Z 2 (.box (T 0)),Z 4 (.mv (.cs .nils))]) (.seq (.seq (.reg [Zm 6 1]) (.block 0 (.rangeF 13 (T 6) [7] (.region 2 (.mk [.mk (.some 5) (.alloc 147) 0 "iter.go:51" (.mk []) none,.mk none (.store 147 (.tmp 5) (.tmp 7)) 0 "iter.go:51" (.mk [.mk 0 .data,.mk 0 .phase]) none]) false) (.block 1 (.region 3 (.mk [.mk (.some 8) (.load 55 (.tmp 2)) 55 "iter.go:52" (.mk []) none,.mk (.some 9) (.load 147 (.tmp 5)) 147 "iter.go:52" (.mk []) none,.mk (.some 10) (.buildSlice 55 1 (.mk [(0,.tmp 9)])) 55 "iter.go:52" (.mk [.mk 1 .data]) none,.mk (.some 11) (.call (.mk (.builtin .append) (.mk [.tmp 8,.tmp 10]) (.mk [55,55]))) 55 "iter.go:52" (.mk [.mk 0 .data,.mk 2 .data]) none,.mk none (.store 55 (.tmp 2) (.tmp 11)) 0 "iter.go:52" (.mk [.mk 3 .data,.mk 3 .chain,.mk 0 .phase,.mk 1 .phase,.mk 2 .phase,.mk 3 .phase]) none]) false))))) (.seq (.reg [Z 12 (.ld 1 false (T 2)),Zm 4 12]) .ret))) [.tmp 4]
theorem c202 : compF Tryz.prog Tryz.f202 = some F202:=by kernel_rfl
theorem t202 : TT 202 F202:=tt Tryz.func202 c202
def F203 : AFun:=.mk 148 (.seq (.reg [Z 10 (.mv (.cs (.bool true)))]) (.seq (.reg [Z 11 (.mv (.cs (.bool true)))]) (.block 0 (.loop (.block 1 (.seq (.reg [Zm 21 2,Zm 22 1,Z 23 (.bin .sub (T 21) (T 22)),Zm 12 23]) (.seq (.seq (.reg [Zm 24 12,Z 25 (.bin .leq (T 24) (I 12))]) (.cond (T 25) (.seq (.reg [Zm 26 0,Zm 27 1,Zm 28 2,Zm 29 4,Z 30 (.call 219 [T 26,T 27,T 28,T 29])]) .ret) .skip)) (.seq (.seq (.reg [Zm 31 3,Z 32 (.bin .eql (T 31) (I 0))]) (.cond (T 32) (.seq (.reg [Zm 33 0,Zm 34 1,Zm 35 2,Zm 36 4,Z 37 (.call 220 [T 33,T 34,T 35,T 36])]) .ret) .skip)) (.seq (.seq (.reg [Zm 38 10,Z 39 (.un .not (T 38))]) (.cond (T 39) (.seq (.reg [Zm 40 0,Zm 41 1,Zm 42 2,Zm 43 4,Z 44 (.call 221 [T 40,T 41,T 42,T 43])]) (.reg [Zm 45 3,Z 46 (.bin .sub (T 45) (I 1)),Zm 3 46])) .skip)) (.seq (.reg [Zm 48 0,Zm 49 1,Zm 50 2,Zm 51 4,Z 52 (.call 222 [T 48,T 49,T 50,T 51]),Zm 47 52,Z 53 (.ext 0 (T 47)),Z 54 (.ext 1 (T 47)),Zm 13 53,Zm 14 54]) (.seq (.seq (.reg [Zm 55 14,Z 56 (.bin .eql (T 55) (I 2))]) (.cond (T 56) (.seq (.reg [Zm 57 0,Zm 58 1,Zm 59 2,Zm 60 4,Z 61 (.call 223 [T 57,T 58,T 59,T 60])]) (.seq (.reg [Zm 62 2,Z 63 (.bin .sub (T 62) (I 1)),Zm 64 13,Zm 65 1,Z 66 (.bin .sub (T 64) (T 65)),Z 67 (.bin .sub (T 63) (T 66)),Zm 13 67]) (.reg [Z 14 (.mv (I 1))]))) .skip)) (.seq (.seq (.seq (.reg [Zm 68 10,Zm 69 68]) (.seq (.cond (T 69) (.reg [Zm 70 11]) (.reg [Z 70 (.mv (.cs (.tup [])))])) (.seq (.reg [Z 71 (.pick (T 69) (T 70) (.cs (.bool false))),Zm 72 71]) (.seq (.cond (T 72) (.reg [Zm 73 14,Z 74 (.bin .eql (T 73) (I 1))]) (ZP 73 2)) (.reg [Z 75 (.pick (T 72) (T 74) (.cs (.bool false)))]))))) (.cond (T 75) (.seq (.reg [Zm 76 0,Zm 77 1,Zm 78 2,Zm 79 4,Z 80 (.call 224 [T 76,T 77,T 78,T 79])]) (.cond (T 80) .ret .skip)) .skip)) (.seq (.seq (.seq (.reg [Zm 81 1,Z 82 (.bin .gtr (T 81) (I 0)),Zm 83 82]) (.seq (.cond (T 83) (.reg [Zm 84 4,Zm 85 0,Zm 86 1,Z 87 (.bin .sub (T 86) (I 1)),Z 88 (.ia 3 (T 85) (T 87)),Z 89 (.ld 3 true (T 88)),Zm 90 0,Zm 91 13,Z 92 (.ia 3 (T 90) (T 91)),Z 93 (.ld 3 true (T 92)),Z 94 (.callv (T 84) [T 89,T 93]),Z 95 (.bin .lss (T 94) (I 0)),Z 96 (.un .not (T 95))]) (ZP 84 13)) (.reg [Z 97 (.pick (T 83) (T 96) (.cs (.bool false)))]))) (.cond (T 97) (.seq (.reg [Zm 98 0,Zm 99 1,Zm 100 2,Zm 101 13,Zm 102 4,Z 103 (.call 225 [T 98,T 99,T 100,T 101,T 102]),Zm 15 103]) (.seq (.reg [Zm 104 15,Zm 1 104]) (.exit 1))) .skip)) (.seq (.reg [Zm 106 0,Zm 107 1,Zm 108 2,Zm 109 13,Zm 110 4,Z 111 (.call 226 [T 106,T 107,T 108,T 109,T 110]),Zm 105 111,Z 112 (.ext 0 (T 105)),Z 113 (.ext 1 (T 105)),Zm 16 112,Zm 17 113]) (.seq (.reg [Zm 114 17,Zm 11 114]) (.seq (.reg [Zm 115 16,Zm 116 1,Z 117 (.bin .sub (T 115) (T 116)),Zm 118 2,Zm 119 16,Z 120 (.bin .sub (T 118) (T 119)),Zm 18 117,Zm 19 120]) (.seq (.reg [Zm 121 12,Z 122 (.bin .quo (T 121) (I 8)),Zm 20 122]) (.seq (.reg [Zm 123 18,Zm 124 19,Z 125 (.bin .lss (T 123) (T 124))]) (.cond (T 125) (.seq (.reg [Zm 126 18,Zm 127 20,Z 128 (.bin .geq (T 126) (T 127)),Zm 10 128]) (.seq (.reg [Zm 129 0,Zm 130 1,Zm 131 16,Zm 132 3,Zm 133 4,Z 134 (.call 203 [T 129,T 130,T 131,T 132,T 133])]) (.reg [Zm 135 16,Z 136 (.bin .add (T 135) (I 1)),Zm 1 136]))) (.seq (.reg [Zm 137 19,Zm 138 20,Z 139 (.bin .geq (T 137) (T 138)),Zm 10 139]) (.seq (.reg [Zm 140 0,Zm 141 16,Z 142 (.bin .add (T 141) (I 1)),Zm 143 2,Zm 144 3,Zm 145 4,Z 146 (.call 203 [T 140,T 142,T 143,T 144,T 145])]) (.reg [Zm 147 16,Zm 2 147])))))))))))))))))))))) []
theorem c203 : compF Tryz.prog Tryz.f203 = some F203:=by kernel_rfl
theorem t203 : TT 203 F203:=tt Tryz.func203 c203
def F204 : AFun:=.mk 8 (.seq (.reg [Z 2 (.mv (I 0))]) (.seq (.cond (.cs (.bool false)) (.seq (.reg [Zm 3 0,Z 4 (.cvi .u32 (T 3)),Z 5 (.call 227 [T 4]),Zm 2 5]) .ret) .skip) (.seq (.reg [Zm 6 0,Z 7 (.call 228 [T 6]),Zm 2 7]) .ret))) [.tmp 2]
theorem c204 : compF Tryz.prog Tryz.f204 = some F204:=by kernel_rfl
theorem t204 : TT 204 F204:=tt Tryz.func204 c204
def F208 : AFun:=.mk 10 (.seq (.reg [Z 2 (.mv (.cs (.bool false)))]) (.seq (.seq (.reg [Zm 3 0,Z 4 (.bin .neq (T 3) (.cs (.str []))),Zm 5 4]) (.seq (.cond (T 5) (.reg [Zm 6 0,Z 7 (.lenS (T 6)),Z 8 (.bin .leq (T 7) (I 100))]) (ZP 6 3)) (.reg [Z 9 (.pick (T 5) (T 8) (.cs (.bool false))),Zm 2 9]))) .ret)) [.tmp 2]
theorem c208 : compF Tryz.prog Tryz.f208 = some F208:=by kernel_rfl
theorem t208 : TT 208 F208:=tt Tryz.func208 c208
def F209 : AFun:=.mk 26 (.seq (.reg [Z 3 (.box (T 1)),Z 4 (.mv (.cs (.bool false)))]) (.seq (.seq (.reg [Zm 5 0,Z 6 (.fa 1 (T 3)),Z 7 (.ld 1 false (T 6)),Z 8 (.bin .eql (T 5) (T 7)),Zm 9 8]) (.seq (.cond (T 9) (ZP 10 15) (.seq (.reg [Z 10 (.fa 2 (T 3)),Z 11 (.ld 1 false (T 10)),Z 12 (.bin .neq (T 11) (.cs (.str []))),Zm 13 12]) (.seq (.cond (T 13) (.reg [Zm 14 0,Z 15 (.fa 1 (T 3)),Z 16 (.ld 1 false (T 15)),Z 17 (.bin .gtr (T 14) (T 16))]) (ZP 14 4)) (.seq (.reg [Z 18 (.pick (T 13) (T 17) (.cs (.bool false))),Zm 19 18]) (.seq (.cond (T 19) (.reg [Zm 20 0,Z 21 (.fa 2 (T 3)),Z 22 (.ld 1 false (T 21)),Z 23 (.bin .lss (T 20) (T 22))]) (ZP 20 4)) (.reg [Z 24 (.pick (T 19) (T 23) (.cs (.bool false)))])))))) (.reg [Z 25 (.pick (T 9) (.cs (.bool true)) (T 24)),Zm 4 25]))) .ret)) [.tmp 4]
theorem c209 : compF Tryz.prog Tryz.f209 = some F209:=by kernel_rfl
theorem t209 : TT 209 F209:=tt Tryz.func209 c209
def F210 : AFun:=.mk 20 (.seq (.reg [Z 4 (.mv (I 0))]) (.seq (.reg [Zm 7 0,Z 8 (.call 237 [T 7]),Zm 5 8]) (.seq (.reg [Zm 9 1,Z 10 (.call 237 [T 9]),Zm 6 10]) (.seq (.seq (.reg [Zm 11 5]) (.cond (T 11) (.seq (.seq (.reg [Zm 12 6]) (.cond (T 12) (.seq (.reg [Z 4 (.mv (I 0))]) .ret) .skip)) (.seq (.reg [Z 4 (.mv (I (-1)))]) .ret)) .skip)) (.seq (.seq (.reg [Zm 13 6]) (.cond (T 13) (.seq (.reg [Z 4 (.mv (I 1))]) .ret) .skip)) (.seq (.seq (.reg [Zm 14 0,Zm 15 1,Z 16 (.bin .lss (T 14) (T 15))]) (.cond (T 16) (.seq (.reg [Z 4 (.mv (I (-1)))]) .ret) .skip)) (.seq (.seq (.reg [Zm 17 0,Zm 18 1,Z 19 (.bin .gtr (T 17) (T 18))]) (.cond (T 19) (.seq (.reg [Z 4 (.mv (I 1))]) .ret) .skip)) (.seq (.reg [Z 4 (.mv (I 0))]) .ret)))))))) [.tmp 4]
theorem c210 : compF Tryz.prog Tryz.f210 = some F210:=by kernel_rfl
theorem t210 : TT 210 F210:=tt Tryz.func210 c210
def F211 : AFun:=.mk 11 (.seq (.reg [Zm 3 0,Z 4 (.lenL (T 3)),Zm 2 4]) (.reg [Zm 5 0,Zm 6 2,Zm 7 2,Z 8 (.cvi .u64 (T 7)),Z 9 (.call 204 [T 8]),Z 10 (.call 238 [T 5,I 0,T 6,T 9])])) []
theorem c211 : compF Tryz.prog Tryz.f211 = some F211:=by kernel_rfl
theorem t211 : TT 211 F211:=tt Tryz.func211 c211
def F212 : AFun:=.mk 61 (.seq (.reg [Z 2 (.mv (.cs .nils))]) (.seq (.seq (.reg [Zm 6 0,Z 7 (.lenL (T 6)),Z 8 (.bin .lss (T 7) (I 2))]) (.cond (T 8) (.seq (.reg [Zm 9 0,Zm 2 9]) .ret) .skip)) (.seq (.seq (.reg [Z 3 (.mv (I 1))]) (.block 0 (.loop (.seq (.seq (.reg [Zm 10 3,Zm 11 0,Z 12 (.lenL (T 11)),Z 13 (.bin .lss (T 10) (T 12))]) (.cond (T 13) .skip (.exit 0))) (.seq (.block 1 (.seq (.reg [Zm 16 0,Zm 17 3,Z 18 (.ia 1 (T 16) (T 17)),Z 19 (.ld 1 false (T 18)),Zm 20 0,Zm 21 3,Z 22 (.bin .sub (T 21) (I 1)),Z 23 (.ia 1 (T 20) (T 22)),Z 24 (.ld 1 false (T 23)),Z 25 (.bin .eql (T 19) (T 24))]) (.cond (T 25) (.seq (.reg [Zm 26 0,Zm 27 3,Z 28 (.slcL 1 (T 26) (.some (T 27)) none),Zm 4 28]) (.seq (.seq (.reg [Z 5 (.mv (I 1))]) (.block 2 (.loop (.seq (.seq (.reg [Zm 29 5,Zm 30 4,Z 31 (.lenL (T 30)),Z 32 (.bin .lss (T 29) (T 31))]) (.cond (T 32) .skip (.exit 2))) (.seq (.block 3 (.seq (.reg [Zm 35 4,Zm 36 5,Z 37 (.ia 1 (T 35) (T 36)),Z 38 (.ld 1 false (T 37)),Zm 39 4,Zm 40 5,Z 41 (.bin .sub (T 40) (I 1)),Z 42 (.ia 1 (T 39) (T 41)),Z 43 (.ld 1 false (T 42)),Z 44 (.bin .neq (T 38) (T 43))]) (.cond (T 44) (.seq (.reg [Zm 45 0,Zm 46 3,Zm 47 4,Zm 48 5,Z 49 (.ia 1 (T 47) (T 48)),Z 50 (.ld 1 false (T 49)),Z 51 (.ia 1 (T 45) (T 46)),(.mk none (.st 1 (T 51) (T 50)) none,[])]) (.reg [Zm 52 3,Z 53 (.bin .add (T 52) (I 1)),Zm 3 53])) .skip))) (.reg [Zm 33 5,Z 34 (.bin .add (T 33) (I 1)),Zm 5 34])))))) (.seq (.reg [Zm 54 0,Zm 55 3,Z 56 (.slcL 1 (T 54) (.some (T 55)) none),(.mk none (.clr 1 [.str []] (T 56)) none,[])]) (.seq (.reg [Zm 57 0,Zm 58 3,Z 59 (.slcL 1 (T 57) none (.some (T 58))),Zm 2 59]) .ret)))) .skip))) (.reg [Zm 14 3,Z 15 (.bin .add (T 14) (I 1)),Zm 3 15])))))) (.seq (.reg [Zm 60 0,Zm 2 60]) .ret)))) [.tmp 2]
theorem c212 : compF Tryz.prog Tryz.f212 = some F212:=by kernel_rfl
theorem t212 : TT 212 F212:=tt Tryz.func212 c212
def F214 : AFun:=.mk 51 (.seq (.reg [Z 4 (.mv (.cs (.int .u64 0))),Z 5 (.mv (.cs (.int .u64 0)))]) (.seq (.reg [Zm 14 0,Z 15 (.bin .and (T 14) (.cs (.int .u64 4294967295))),Zm 6 15]) (.seq (.reg [Zm 16 0,Z 17 (.bin .shr (T 16) (.cs (.int .u64 32))),Zm 7 17]) (.seq (.reg [Zm 18 1,Z 19 (.bin .and (T 18) (.cs (.int .u64 4294967295))),Zm 8 19]) (.seq (.reg [Zm 20 1,Z 21 (.bin .shr (T 20) (.cs (.int .u64 32))),Zm 9 21]) (.seq (.reg [Zm 22 6,Zm 23 8,Z 24 (.bin .mul (T 22) (T 23)),Zm 10 24]) (.seq (.reg [Zm 25 7,Zm 26 8,Z 27 (.bin .mul (T 25) (T 26)),Zm 28 10,Z 29 (.bin .shr (T 28) (.cs (.int .u64 32))),Z 30 (.bin .add (T 27) (T 29)),Zm 11 30]) (.seq (.reg [Zm 31 11,Z 32 (.bin .and (T 31) (.cs (.int .u64 4294967295))),Zm 12 32]) (.seq (.reg [Zm 33 11,Z 34 (.bin .shr (T 33) (.cs (.int .u64 32))),Zm 13 34]) (.seq (.reg [Zm 35 12,Zm 36 6,Zm 37 9,Z 38 (.bin .mul (T 36) (T 37)),Z 39 (.bin .add (T 35) (T 38)),Zm 12 39]) (.seq (.reg [Zm 40 7,Zm 41 9,Z 42 (.bin .mul (T 40) (T 41)),Zm 43 13,Z 44 (.bin .add (T 42) (T 43)),Zm 45 12,Z 46 (.bin .shr (T 45) (.cs (.int .u64 32))),Z 47 (.bin .add (T 44) (T 46)),Zm 4 47]) (.seq (.reg [Zm 48 0,Zm 49 1,Z 50 (.bin .mul (T 48) (T 49)),Zm 5 50]) .ret)))))))))))) [.tmp 4,.tmp 5]
theorem c214 : compF Tryz.prog Tryz.f214 = some F214:=by kernel_rfl
theorem t214 : TT 214 F214:=tt Tryz.func214 c214
def F215 : AFun:=.mk 12 (.seq (.reg [Z 4 (.mv (.cs (.bool false)))]) (.seq (.reg [Z 5 (.ld 1 false (T 1)),Zm 6 0,Z 7 (.ia 2 (T 5) (T 6)),Z 8 (.fa 0 (T 7)),Z 9 (.ld 1 false (T 8)),Z 10 (.ld 1 false (T 2)),Z 11 (.bin .gtr (T 9) (T 10)),Zm 4 11]) .ret)) [.tmp 4]
theorem c215 : compF Tryz.prog Tryz.f215 = some F215:=by kernel_rfl
theorem t215 : TT 215 F215:=tt Tryz.func215 c215
def F216 : AFun:=.mk 8 (.seq (.reg [Z 2 (.mv (.cs .nils))]) (.seq (.seq (.reg [Zm 3 0,Z 4 (.eqn .sl false (T 3) (.cs .nils))]) (.cond (T 4) (.seq (.reg [Z 2 (.mv (.cs .nils))]) .ret) .skip)) (.seq (.reg [Z 5 (.bsl [.int .i64 0,.bool false] 0 []),Zm 6 0,Z 7 (.app 2 16 (T 5) (T 6)),Zm 2 7]) .ret))) [.tmp 2]
theorem c216 : compF Tryz.prog Tryz.f216 = some F216:=by kernel_rfl
theorem t216 : TT 216 F216:=tt Tryz.func216 c216
def F217 : AFun:=.mk 81 (.seq (.reg [Z 4 (.mv (.cs .nilp)),Z 5 (.mv (.cs .nilp))]) (.seq (.reg [Zm 11 0,Zm 12 1,Z 13 (.nilck (T 12)),Z 14 (.fa 0 (T 13)),Z 15 (.ld 1 false (T 14)),Z 16 (.call 201 [T 11,T 15]),Zm 10 16,Z 17 (.ext 0 (T 10)),Z 18 (.ext 1 (T 10)),Zm 6 17,Zm 7 18]) (.seq (.seq (.reg [Zm 19 0,Z 20 (.nilck (T 19)),Z 21 (.fa 1 (T 20)),Z 22 (.ld 1 false (T 21)),Z 23 (.lenL (T 22)),Z 24 (.bin .eql (T 23) (I 0))]) (.cond (T 24) (.seq (.reg [Zm 25 0,Zm 26 0,Z 27 (.nilck (T 26)),Z 28 (.fa 0 (T 27)),Z 29 (.ld 1 false (T 28)),Zm 30 6,Zm 31 1,Z 32 (.bsl [.nilp] 1 [(0,T 31)]),Z 33 (.call 239 [T 29,T 30,T 32]),Z 34 (.nilck (T 25)),Z 35 (.fa 0 (T 34)),(.mk none (.st 1 (T 35) (T 33)) none,[])]) (.seq (.reg [Zm 36 0,Z 37 (.call 240 [T 36]),Z 38 (.ext 0 (T 37)),Z 39 (.ext 1 (T 37)),Zm 4 38,Zm 5 39]) .ret)) .skip)) (.seq (.seq (.reg [Zm 41 0,Z 42 (.nilck (T 41)),Z 43 (.fa 1 (T 42)),Z 44 (.ld 1 false (T 43)),Zm 45 6,Z 46 (.ia 1 (T 44) (T 45)),Z 47 (.ld 1 false (T 46)),Zm 48 1,Z 49 (.call 217 [T 47,T 48]),Zm 40 49,Z 50 (.ext 0 (T 40)),Z 51 (.ext 1 (T 40)),Zm 8 50,Zm 9 51]) (.seq (.reg [Zm 52 9,Z 53 (.eqn .ptr true (T 52) (.cs .nilp))]) (.cond (T 53) (.seq (.reg [Zm 54 0,Zm 55 0,Z 56 (.nilck (T 55)),Z 57 (.fa 0 (T 56)),Z 58 (.ld 1 false (T 57)),Zm 59 6,Zm 60 8,Z 61 (.bsl [.nilp] 1 [(0,T 60)]),Z 62 (.call 239 [T 58,T 59,T 61]),Z 63 (.nilck (T 54)),Z 64 (.fa 0 (T 63)),(.mk none (.st 1 (T 64) (T 62)) none,[])]) (.reg [Zm 65 0,Zm 66 0,Z 67 (.nilck (T 66)),Z 68 (.fa 1 (T 67)),Z 69 (.ld 1 false (T 68)),Zm 70 6,Z 71 (.bin .add (T 70) (I 1)),Zm 72 9,Z 73 (.bsl [.nilp] 1 [(0,T 72)]),Z 74 (.call 241 [T 69,T 71,T 73]),Z 75 (.nilck (T 65)),Z 76 (.fa 1 (T 75)),(.mk none (.st 1 (T 76) (T 74)) none,[])])) .skip))) (.seq (.reg [Zm 77 0,Z 78 (.call 240 [T 77]),Z 79 (.ext 0 (T 78)),Z 80 (.ext 1 (T 78)),Zm 4 79,Zm 5 80]) .ret))))) [.tmp 4,.tmp 5]
theorem c217 : compF Tryz.prog Tryz.f217 = some F217:=by kernel_rfl
theorem t217 : TT 217 F217:=tt Tryz.func217 c217
def F218 : AFun:=.mk 17 (.seq (.reg [Z 4 (.mv (.cs (.bool false)))]) (.seq (.reg [Z 5 (.ld 1 false (T 1)),Z 6 (.nilck (T 5)),Z 7 (.fa 0 (T 6)),Z 8 (.ld 1 false (T 7)),Zm 9 0,Z 10 (.ia 1 (T 8) (T 9)),Z 11 (.ld 1 false (T 10)),Z 12 (.nilck (T 11)),Z 13 (.fa 0 (T 12)),Z 14 (.ld 1 false (T 13)),Z 15 (.ld 1 false (T 2)),Z 16 (.bin .geq (T 14) (T 15)),Zm 4 16]) .ret)) [.tmp 4]
theorem c218 : compF Tryz.prog Tryz.f218 = some F218:=by kernel_rfl
theorem t218 : TT 218 F218:=tt Tryz.func218 c218
def F219 : AFun:=.mk 53 (.seq (.reg [Zm 10 1,Z 11 (.bin .add (T 10) (I 1)),Zm 8 11]) (.block 0 (.loop (.seq (.seq (.reg [Zm 12 8,Zm 13 2,Z 14 (.bin .lss (T 12) (T 13))]) (.cond (T 14) .skip (.exit 0))) (.seq (.block 1 (.seq (.reg [Zm 17 8,Zm 9 17]) (.block 2 (.loop (.seq (.seq (.seq (.reg [Zm 18 9,Zm 19 1,Z 20 (.bin .gtr (T 18) (T 19)),Zm 21 20]) (.seq (.cond (T 21) (.reg [Zm 22 3,Zm 23 0,Zm 24 9,Z 25 (.ia 3 (T 23) (T 24)),Z 26 (.ld 3 true (T 25)),Zm 27 0,Zm 28 9,Z 29 (.bin .sub (T 28) (I 1)),Z 30 (.ia 3 (T 27) (T 29)),Z 31 (.ld 3 true (T 30)),Z 32 (.callv (T 22) [T 26,T 31]),Z 33 (.bin .lss (T 32) (I 0))]) (ZP 22 12)) (.reg [Z 34 (.pick (T 21) (T 33) (.cs (.bool false)))]))) (.cond (T 34) .skip (.exit 2))) (.seq (.block 3 (.reg [Zm 37 0,Zm 38 9,Zm 39 0,Zm 40 9,Z 41 (.bin .sub (T 40) (I 1)),Zm 42 0,Zm 43 9,Z 44 (.bin .sub (T 43) (I 1)),Z 45 (.ia 3 (T 42) (T 44)),Z 46 (.ld 3 true (T 45)),Zm 47 0,Zm 48 9,Z 49 (.ia 3 (T 47) (T 48)),Z 50 (.ld 3 true (T 49)),Z 51 (.ia 3 (T 37) (T 38)),(.mk none (.st 3 (T 51) (T 46)) none,[]),Z 52 (.ia 3 (T 39) (T 41)),(.mk none (.st 3 (T 52) (T 50)) none,[])])) (.reg [Zm 35 9,Z 36 (.bin .sub (T 35) (I 1)),Zm 9 36]))))))) (.reg [Zm 15 8,Z 16 (.bin .add (T 15) (I 1)),Zm 8 16])))))) []
theorem c219 : compF Tryz.prog Tryz.f219 = some F219:=by kernel_rfl
theorem t219 : TT 219 F219:=tt Tryz.func219 c219
def F220 : AFun:=.mk 60 (.seq (.reg [Zm 13 1,Zm 8 13]) (.seq (.reg [Z 9 (.mv (I 0))]) (.seq (.reg [Zm 14 2,Zm 15 1,Z 16 (.bin .sub (T 14) (T 15)),Zm 10 16]) (.seq (.seq (.reg [Zm 17 10,Z 18 (.bin .sub (T 17) (I 1)),Z 19 (.bin .quo (T 18) (I 2)),Zm 11 19]) (.block 0 (.loop (.seq (.seq (.reg [Zm 20 11,Z 21 (.bin .geq (T 20) (I 0))]) (.cond (T 21) .skip (.exit 0))) (.seq (.block 1 (.reg [Zm 24 0,Zm 25 11,Zm 26 10,Zm 27 8,Zm 28 3,Z 29 (.call 242 [T 24,T 25,T 26,T 27,T 28])])) (.reg [Zm 22 11,Z 23 (.bin .sub (T 22) (I 1)),Zm 11 23])))))) (.seq (.reg [Zm 30 10,Z 31 (.bin .sub (T 30) (I 1)),Zm 12 31]) (.block 2 (.loop (.seq (.seq (.reg [Zm 32 12,Z 33 (.bin .geq (T 32) (I 0))]) (.cond (T 33) .skip (.exit 2))) (.seq (.block 3 (.seq (.reg [Zm 36 0,Zm 37 8,Zm 38 0,Zm 39 8,Zm 40 12,Z 41 (.bin .add (T 39) (T 40)),Zm 42 0,Zm 43 8,Zm 44 12,Z 45 (.bin .add (T 43) (T 44)),Z 46 (.ia 3 (T 42) (T 45)),Z 47 (.ld 3 true (T 46)),Zm 48 0,Zm 49 8,Z 50 (.ia 3 (T 48) (T 49)),Z 51 (.ld 3 true (T 50)),Z 52 (.ia 3 (T 36) (T 37)),(.mk none (.st 3 (T 52) (T 47)) none,[]),Z 53 (.ia 3 (T 38) (T 41)),(.mk none (.st 3 (T 53) (T 51)) none,[])]) (.reg [Zm 54 0,Zm 55 9,Zm 56 12,Zm 57 8,Zm 58 3,Z 59 (.call 242 [T 54,T 55,T 56,T 57,T 58])]))) (.reg [Zm 34 12,Z 35 (.bin .sub (T 34) (I 1)),Zm 12 35])))))))))) []
theorem c220 : compF Tryz.prog Tryz.f220 = some F220:=by kernel_rfl
theorem t220 : TT 220 F220:=tt Tryz.func220 c220
def F221 : AFun:=.mk 67 (.seq (.reg [Zm 13 2,Zm 14 1,Z 15 (.bin .sub (T 13) (T 14)),Zm 8 15]) (.seq (.reg [Zm 16 8,Z 17 (.bin .geq (T 16) (I 8))]) (.cond (T 17) (.seq (.reg [Zm 18 8,Z 19 (.cvi .u64 (T 18)),Z 9 (.alloc [.int .u64 0]),(.mk none (.st 1 (T 9) (T 19)) none,[])]) (.seq (.reg [Zm 20 8,Z 21 (.call 243 [T 20]),Zm 10 21]) (.seq (.reg [Zm 22 1,Zm 23 8,Z 24 (.bin .quo (T 23) (I 4)),Z 25 (.bin .mul (T 24) (I 2)),Z 26 (.bin .add (T 22) (T 25)),Z 27 (.bin .sub (T 26) (I 1)),Zm 11 27]) (.block 0 (.loop (.seq (.seq (.reg [Zm 28 11,Zm 29 1,Zm 30 8,Z 31 (.bin .quo (T 30) (I 4)),Z 32 (.bin .mul (T 31) (I 2)),Z 33 (.bin .add (T 29) (T 32)),Z 34 (.bin .add (T 33) (I 1)),Z 35 (.bin .leq (T 28) (T 34))]) (.cond (T 35) .skip (.exit 0))) (.seq (.block 1 (.seq (.reg [Z 38 (.call 244 [T 9]),Zm 39 10,Z 40 (.bin .sub (T 39) (.cs (.int .u64 1))),Z 41 (.bin .and (T 38) (T 40)),Z 42 (.cvi .i64 (T 41)),Zm 12 42]) (.seq (.seq (.reg [Zm 43 12,Zm 44 8,Z 45 (.bin .geq (T 43) (T 44))]) (.cond (T 45) (.reg [Zm 46 12,Zm 47 8,Z 48 (.bin .sub (T 46) (T 47)),Zm 12 48]) .skip)) (.reg [Zm 49 0,Zm 50 11,Zm 51 0,Zm 52 1,Zm 53 12,Z 54 (.bin .add (T 52) (T 53)),Zm 55 0,Zm 56 1,Zm 57 12,Z 58 (.bin .add (T 56) (T 57)),Z 59 (.ia 3 (T 55) (T 58)),Z 60 (.ld 3 true (T 59)),Zm 61 0,Zm 62 11,Z 63 (.ia 3 (T 61) (T 62)),Z 64 (.ld 3 true (T 63)),Z 65 (.ia 3 (T 49) (T 50)),(.mk none (.st 3 (T 65) (T 60)) none,[]),Z 66 (.ia 3 (T 51) (T 54)),(.mk none (.st 3 (T 66) (T 64)) none,[])])))) (.reg [Zm 36 11,Z 37 (.bin .add (T 36) (I 1)),Zm 11 37])))))))) .skip))) []
theorem c221 : compF Tryz.prog Tryz.f221 = some F221:=by kernel_rfl
theorem t221 : TT 221 F221:=tt Tryz.func221 c221
def F222 : AFun:=.mk 63 (.seq (.reg [Z 8 (.mv (I 0)),Z 9 (.mv (I 0))]) (.seq (.reg [Zm 15 2,Zm 16 1,Z 17 (.bin .sub (T 15) (T 16)),Zm 10 17]) (.seq (.reg [Z 11 (.alloc [.int .i64 0])]) (.seq (.reg [Zm 18 1,Zm 19 10,Z 20 (.bin .quo (T 19) (I 4)),Z 21 (.bin .mul (T 20) (I 1)),Z 22 (.bin .add (T 18) (T 21)),Zm 12 22]) (.seq (.reg [Zm 23 1,Zm 24 10,Z 25 (.bin .quo (T 24) (I 4)),Z 26 (.bin .mul (T 25) (I 2)),Z 27 (.bin .add (T 23) (T 26)),Zm 13 27]) (.seq (.reg [Zm 28 1,Zm 29 10,Z 30 (.bin .quo (T 29) (I 4)),Z 31 (.bin .mul (T 30) (I 3)),Z 32 (.bin .add (T 28) (T 31)),Zm 14 32]) (.seq (.seq (.reg [Zm 33 10,Z 34 (.bin .geq (T 33) (I 8))]) (.cond (T 34) (.seq (.seq (.reg [Zm 35 10,Z 36 (.bin .geq (T 35) (I 50))]) (.cond (T 36) (.seq (.reg [Zm 37 0,Zm 38 12,Zm 39 3,Z 40 (.call 245 [T 37,T 38,T 11,T 39]),Zm 12 40]) (.seq (.reg [Zm 41 0,Zm 42 13,Zm 43 3,Z 44 (.call 245 [T 41,T 42,T 11,T 43]),Zm 13 44]) (.reg [Zm 45 0,Zm 46 14,Zm 47 3,Z 48 (.call 245 [T 45,T 46,T 11,T 47]),Zm 14 48]))) .skip)) (.reg [Zm 49 0,Zm 50 12,Zm 51 13,Zm 52 14,Zm 53 3,Z 54 (.call 246 [T 49,T 50,T 51,T 52,T 11,T 53]),Zm 13 54])) .skip)) (.seq (.reg [Z 55 (.ld 1 false (T 11))]) (.block 0 (.seq (.reg [Z 58 (.bin .eql (T 55) (I 0)),Zm 57 58]) (.cond (T 57) (.seq (.reg [Zm 59 13,Zm 8 59,Z 9 (.mv (I 1))]) .ret) (.seq (.reg [Z 61 (.bin .eql (T 55) (I 12)),Zm 60 61]) (.cond (T 60) (.seq (.reg [Zm 62 13,Zm 8 62,Z 9 (.mv (I 2))]) .ret) (.seq (.reg [Zm 56 13,Zm 8 56,Z 9 (.mv (I 0))]) .ret)))))))))))))) [.tmp 8,.tmp 9]
theorem c222 : compF Tryz.prog Tryz.f222 = some F222:=by kernel_rfl
theorem t222 : TT 222 F222:=tt Tryz.func222 c222
def F223 : AFun:=.mk 34 (.seq (.reg [Zm 10 1,Zm 8 10]) (.seq (.reg [Zm 11 2,Z 12 (.bin .sub (T 11) (I 1)),Zm 9 12]) (.block 0 (.loop (.seq (.seq (.reg [Zm 13 8,Zm 14 9,Z 15 (.bin .lss (T 13) (T 14))]) (.cond (T 15) .skip (.exit 0))) (.block 1 (.seq (.reg [Zm 16 0,Zm 17 8,Zm 18 0,Zm 19 9,Zm 20 0,Zm 21 9,Z 22 (.ia 3 (T 20) (T 21)),Z 23 (.ld 3 true (T 22)),Zm 24 0,Zm 25 8,Z 26 (.ia 3 (T 24) (T 25)),Z 27 (.ld 3 true (T 26)),Z 28 (.ia 3 (T 16) (T 17)),(.mk none (.st 3 (T 28) (T 23)) none,[]),Z 29 (.ia 3 (T 18) (T 19)),(.mk none (.st 3 (T 29) (T 27)) none,[])]) (.seq (.reg [Zm 30 8,Z 31 (.bin .add (T 30) (I 1)),Zm 8 31]) (.reg [Zm 32 9,Z 33 (.bin .sub (T 32) (I 1)),Zm 9 33]))))))))) []
theorem c223 : compF Tryz.prog Tryz.f223 = some F223:=by kernel_rfl
theorem t223 : TT 223 F223:=tt Tryz.func223 c223
def F224 : AFun:=.mk 141 (.seq (.reg [Z 8 (.mv (.cs (.bool false)))]) (.seq (.reg [Zm 13 1,Z 14 (.bin .add (T 13) (I 1)),Zm 9 14]) (.seq (.seq (.reg [Z 10 (.mv (I 0))]) (.block 0 (.loop (.seq (.seq (.reg [Zm 15 10,Z 16 (.bin .lss (T 15) (I 5))]) (.cond (T 16) .skip (.exit 0))) (.seq (.block 1 (.seq (.block 2 (.loop (.seq (.seq (.seq (.reg [Zm 19 9,Zm 20 2,Z 21 (.bin .lss (T 19) (T 20)),Zm 22 21]) (.seq (.cond (T 22) (.reg [Zm 23 3,Zm 24 0,Zm 25 9,Z 26 (.ia 3 (T 24) (T 25)),Z 27 (.ld 3 true (T 26)),Zm 28 0,Zm 29 9,Z 30 (.bin .sub (T 29) (I 1)),Z 31 (.ia 3 (T 28) (T 30)),Z 32 (.ld 3 true (T 31)),Z 33 (.callv (T 23) [T 27,T 32]),Z 34 (.bin .lss (T 33) (I 0)),Z 35 (.un .not (T 34))]) (ZP 23 13)) (.reg [Z 36 (.pick (T 22) (T 35) (.cs (.bool false)))]))) (.cond (T 36) .skip (.exit 2))) (.block 3 (.reg [Zm 37 9,Z 38 (.bin .add (T 37) (I 1)),Zm 9 38]))))) (.seq (.seq (.reg [Zm 39 9,Zm 40 2,Z 41 (.bin .eql (T 39) (T 40))]) (.cond (T 41) (.seq (.reg [Z 8 (.mv (.cs (.bool true)))]) .ret) .skip)) (.seq (.seq (.reg [Zm 42 2,Zm 43 1,Z 44 (.bin .sub (T 42) (T 43)),Z 45 (.bin .lss (T 44) (I 50))]) (.cond (T 45) (.seq (.reg [Z 8 (.mv (.cs (.bool false)))]) .ret) .skip)) (.seq (.reg [Zm 46 0,Zm 47 9,Zm 48 0,Zm 49 9,Z 50 (.bin .sub (T 49) (I 1)),Zm 51 0,Zm 52 9,Z 53 (.bin .sub (T 52) (I 1)),Z 54 (.ia 3 (T 51) (T 53)),Z 55 (.ld 3 true (T 54)),Zm 56 0,Zm 57 9,Z 58 (.ia 3 (T 56) (T 57)),Z 59 (.ld 3 true (T 58)),Z 60 (.ia 3 (T 46) (T 47)),(.mk none (.st 3 (T 60) (T 55)) none,[]),Z 61 (.ia 3 (T 48) (T 50)),(.mk none (.st 3 (T 61) (T 59)) none,[])]) (.seq (.seq (.reg [Zm 62 9,Zm 63 1,Z 64 (.bin .sub (T 62) (T 63)),Z 65 (.bin .geq (T 64) (I 2))]) (.cond (T 65) (.seq (.reg [Zm 66 9,Z 67 (.bin .sub (T 66) (I 1)),Zm 11 67]) (.block 4 (.loop (.seq (.seq (.reg [Zm 68 11,Z 69 (.bin .geq (T 68) (I 1))]) (.cond (T 69) .skip (.exit 4))) (.seq (.block 5 (.seq (.seq (.reg [Zm 72 3,Zm 73 0,Zm 74 11,Z 75 (.ia 3 (T 73) (T 74)),Z 76 (.ld 3 true (T 75)),Zm 77 0,Zm 78 11,Z 79 (.bin .sub (T 78) (I 1)),Z 80 (.ia 3 (T 77) (T 79)),Z 81 (.ld 3 true (T 80)),Z 82 (.callv (T 72) [T 76,T 81]),Z 83 (.bin .lss (T 82) (I 0)),Z 84 (.un .not (T 83))]) (.cond (T 84) (.exit 4) .skip)) (.reg [Zm 85 0,Zm 86 11,Zm 87 0,Zm 88 11,Z 89 (.bin .sub (T 88) (I 1)),Zm 90 0,Zm 91 11,Z 92 (.bin .sub (T 91) (I 1)),Z 93 (.ia 3 (T 90) (T 92)),Z 94 (.ld 3 true (T 93)),Zm 95 0,Zm 96 11,Z 97 (.ia 3 (T 95) (T 96)),Z 98 (.ld 3 true (T 97)),Z 99 (.ia 3 (T 85) (T 86)),(.mk none (.st 3 (T 99) (T 94)) none,[]),Z 100 (.ia 3 (T 87) (T 89)),(.mk none (.st 3 (T 100) (T 98)) none,[])]))) (.reg [Zm 70 11,Z 71 (.bin .sub (T 70) (I 1)),Zm 11 71])))))) .skip)) (.seq (.reg [Zm 101 2,Zm 102 9,Z 103 (.bin .sub (T 101) (T 102)),Z 104 (.bin .geq (T 103) (I 2))]) (.cond (T 104) (.seq (.reg [Zm 105 9,Z 106 (.bin .add (T 105) (I 1)),Zm 12 106]) (.block 6 (.loop (.seq (.seq (.reg [Zm 107 12,Zm 108 2,Z 109 (.bin .lss (T 107) (T 108))]) (.cond (T 109) .skip (.exit 6))) (.seq (.block 7 (.seq (.seq (.reg [Zm 112 3,Zm 113 0,Zm 114 12,Z 115 (.ia 3 (T 113) (T 114)),Z 116 (.ld 3 true (T 115)),Zm 117 0,Zm 118 12,Z 119 (.bin .sub (T 118) (I 1)),Z 120 (.ia 3 (T 117) (T 119)),Z 121 (.ld 3 true (T 120)),Z 122 (.callv (T 112) [T 116,T 121]),Z 123 (.bin .lss (T 122) (I 0)),Z 124 (.un .not (T 123))]) (.cond (T 124) (.exit 6) .skip)) (.reg [Zm 125 0,Zm 126 12,Zm 127 0,Zm 128 12,Z 129 (.bin .sub (T 128) (I 1)),Zm 130 0,Zm 131 12,Z 132 (.bin .sub (T 131) (I 1)),Z 133 (.ia 3 (T 130) (T 132)),Z 134 (.ld 3 true (T 133)),Zm 135 0,Zm 136 12,Z 137 (.ia 3 (T 135) (T 136)),Z 138 (.ld 3 true (T 137)),Z 139 (.ia 3 (T 125) (T 126)),(.mk none (.st 3 (T 139) (T 134)) none,[]),Z 140 (.ia 3 (T 127) (T 129)),(.mk none (.st 3 (T 140) (T 138)) none,[])]))) (.reg [Zm 110 12,Z 111 (.bin .add (T 110) (I 1)),Zm 12 111])))))) .skip)))))))) (.reg [Zm 17 10,Z 18 (.bin .add (T 17) (I 1)),Zm 10 18])))))) (.seq (.reg [Z 8 (.mv (.cs (.bool false)))]) .ret)))) [.tmp 8]
theorem c224 : compF Tryz.prog Tryz.f224 = some F224:=by kernel_rfl
theorem t224 : TT 224 F224:=tt Tryz.func224 c224
def F225 : AFun:=.mk 90 (.seq (.reg [Z 10 (.mv (I 0))]) (.seq (.reg [Zm 13 0,Zm 14 1,Zm 15 0,Zm 16 3,Zm 17 0,Zm 18 3,Z 19 (.ia 3 (T 17) (T 18)),Z 20 (.ld 3 true (T 19)),Zm 21 0,Zm 22 1,Z 23 (.ia 3 (T 21) (T 22)),Z 24 (.ld 3 true (T 23)),Z 25 (.ia 3 (T 13) (T 14)),(.mk none (.st 3 (T 25) (T 20)) none,[]),Z 26 (.ia 3 (T 15) (T 16)),(.mk none (.st 3 (T 26) (T 24)) none,[])]) (.seq (.reg [Zm 27 1,Z 28 (.bin .add (T 27) (I 1)),Zm 29 2,Z 30 (.bin .sub (T 29) (I 1)),Zm 11 28,Zm 12 30]) (.seq (.block 0 (.loop (.block 1 (.seq (.block 2 (.loop (.seq (.seq (.seq (.reg [Zm 31 11,Zm 32 12,Z 33 (.bin .leq (T 31) (T 32)),Zm 34 33]) (.seq (.cond (T 34) (.reg [Zm 35 4,Zm 36 0,Zm 37 1,Z 38 (.ia 3 (T 36) (T 37)),Z 39 (.ld 3 true (T 38)),Zm 40 0,Zm 41 11,Z 42 (.ia 3 (T 40) (T 41)),Z 43 (.ld 3 true (T 42)),Z 44 (.callv (T 35) [T 39,T 43]),Z 45 (.bin .lss (T 44) (I 0)),Z 46 (.un .not (T 45))]) (ZP 35 12)) (.reg [Z 47 (.pick (T 34) (T 46) (.cs (.bool false)))]))) (.cond (T 47) .skip (.exit 2))) (.block 3 (.reg [Zm 48 11,Z 49 (.bin .add (T 48) (I 1)),Zm 11 49]))))) (.seq (.block 4 (.loop (.seq (.seq (.seq (.reg [Zm 50 11,Zm 51 12,Z 52 (.bin .leq (T 50) (T 51)),Zm 53 52]) (.seq (.cond (T 53) (.reg [Zm 54 4,Zm 55 0,Zm 56 1,Z 57 (.ia 3 (T 55) (T 56)),Z 58 (.ld 3 true (T 57)),Zm 59 0,Zm 60 12,Z 61 (.ia 3 (T 59) (T 60)),Z 62 (.ld 3 true (T 61)),Z 63 (.callv (T 54) [T 58,T 62]),Z 64 (.bin .lss (T 63) (I 0))]) (ZP 54 11)) (.reg [Z 65 (.pick (T 53) (T 64) (.cs (.bool false)))]))) (.cond (T 65) .skip (.exit 4))) (.block 5 (.reg [Zm 66 12,Z 67 (.bin .sub (T 66) (I 1)),Zm 12 67]))))) (.seq (.seq (.reg [Zm 68 11,Zm 69 12,Z 70 (.bin .gtr (T 68) (T 69))]) (.cond (T 70) (.exit 0) .skip)) (.seq (.reg [Zm 71 0,Zm 72 11,Zm 73 0,Zm 74 12,Zm 75 0,Zm 76 12,Z 77 (.ia 3 (T 75) (T 76)),Z 78 (.ld 3 true (T 77)),Zm 79 0,Zm 80 11,Z 81 (.ia 3 (T 79) (T 80)),Z 82 (.ld 3 true (T 81)),Z 83 (.ia 3 (T 71) (T 72)),(.mk none (.st 3 (T 83) (T 78)) none,[]),Z 84 (.ia 3 (T 73) (T 74)),(.mk none (.st 3 (T 84) (T 82)) none,[])]) (.seq (.reg [Zm 85 11,Z 86 (.bin .add (T 85) (I 1)),Zm 11 86]) (.reg [Zm 87 12,Z 88 (.bin .sub (T 87) (I 1)),Zm 12 88]))))))))) (.seq (.reg [Zm 89 11,Zm 10 89]) .ret))))) [.tmp 10]
theorem c225 : compF Tryz.prog Tryz.f225 = some F225:=by kernel_rfl
theorem t225 : TT 225 F225:=tt Tryz.func225 c225
def F226 : AFun:=.mk 178 (.seq (.reg [Z 10 (.mv (I 0)),Z 11 (.mv (.cs (.bool false)))]) (.seq (.reg [Zm 14 0,Zm 15 1,Zm 16 0,Zm 17 3,Zm 18 0,Zm 19 3,Z 20 (.ia 3 (T 18) (T 19)),Z 21 (.ld 3 true (T 20)),Zm 22 0,Zm 23 1,Z 24 (.ia 3 (T 22) (T 23)),Z 25 (.ld 3 true (T 24)),Z 26 (.ia 3 (T 14) (T 15)),(.mk none (.st 3 (T 26) (T 21)) none,[]),Z 27 (.ia 3 (T 16) (T 17)),(.mk none (.st 3 (T 27) (T 25)) none,[])]) (.seq (.reg [Zm 28 1,Z 29 (.bin .add (T 28) (I 1)),Zm 30 2,Z 31 (.bin .sub (T 30) (I 1)),Zm 12 29,Zm 13 31]) (.seq (.block 0 (.loop (.seq (.seq (.seq (.reg [Zm 32 12,Zm 33 13,Z 34 (.bin .leq (T 32) (T 33)),Zm 35 34]) (.seq (.cond (T 35) (.reg [Zm 36 4,Zm 37 0,Zm 38 12,Z 39 (.ia 3 (T 37) (T 38)),Z 40 (.ld 3 true (T 39)),Zm 41 0,Zm 42 1,Z 43 (.ia 3 (T 41) (T 42)),Z 44 (.ld 3 true (T 43)),Z 45 (.callv (T 36) [T 40,T 44]),Z 46 (.bin .lss (T 45) (I 0))]) (ZP 36 11)) (.reg [Z 47 (.pick (T 35) (T 46) (.cs (.bool false)))]))) (.cond (T 47) .skip (.exit 0))) (.block 1 (.reg [Zm 48 12,Z 49 (.bin .add (T 48) (I 1)),Zm 12 49]))))) (.seq (.block 2 (.loop (.seq (.seq (.seq (.reg [Zm 50 12,Zm 51 13,Z 52 (.bin .leq (T 50) (T 51)),Zm 53 52]) (.seq (.cond (T 53) (.reg [Zm 54 4,Zm 55 0,Zm 56 13,Z 57 (.ia 3 (T 55) (T 56)),Z 58 (.ld 3 true (T 57)),Zm 59 0,Zm 60 1,Z 61 (.ia 3 (T 59) (T 60)),Z 62 (.ld 3 true (T 61)),Z 63 (.callv (T 54) [T 58,T 62]),Z 64 (.bin .lss (T 63) (I 0)),Z 65 (.un .not (T 64))]) (ZP 54 12)) (.reg [Z 66 (.pick (T 53) (T 65) (.cs (.bool false)))]))) (.cond (T 66) .skip (.exit 2))) (.block 3 (.reg [Zm 67 13,Z 68 (.bin .sub (T 67) (I 1)),Zm 13 68]))))) (.seq (.seq (.reg [Zm 69 12,Zm 70 13,Z 71 (.bin .gtr (T 69) (T 70))]) (.cond (T 71) (.seq (.reg [Zm 72 0,Zm 73 13,Zm 74 0,Zm 75 1,Zm 76 0,Zm 77 1,Z 78 (.ia 3 (T 76) (T 77)),Z 79 (.ld 3 true (T 78)),Zm 80 0,Zm 81 13,Z 82 (.ia 3 (T 80) (T 81)),Z 83 (.ld 3 true (T 82)),Z 84 (.ia 3 (T 72) (T 73)),(.mk none (.st 3 (T 84) (T 79)) none,[]),Z 85 (.ia 3 (T 74) (T 75)),(.mk none (.st 3 (T 85) (T 83)) none,[])]) (.seq (.reg [Zm 86 13,Zm 10 86,Z 11 (.mv (.cs (.bool true)))]) .ret)) .skip)) (.seq (.reg [Zm 87 0,Zm 88 12,Zm 89 0,Zm 90 13,Zm 91 0,Zm 92 13,Z 93 (.ia 3 (T 91) (T 92)),Z 94 (.ld 3 true (T 93)),Zm 95 0,Zm 96 12,Z 97 (.ia 3 (T 95) (T 96)),Z 98 (.ld 3 true (T 97)),Z 99 (.ia 3 (T 87) (T 88)),(.mk none (.st 3 (T 99) (T 94)) none,[]),Z 100 (.ia 3 (T 89) (T 90)),(.mk none (.st 3 (T 100) (T 98)) none,[])]) (.seq (.reg [Zm 101 12,Z 102 (.bin .add (T 101) (I 1)),Zm 12 102]) (.seq (.reg [Zm 103 13,Z 104 (.bin .sub (T 103) (I 1)),Zm 13 104]) (.seq (.block 4 (.loop (.block 5 (.seq (.block 6 (.loop (.seq (.seq (.seq (.reg [Zm 105 12,Zm 106 13,Z 107 (.bin .leq (T 105) (T 106)),Zm 108 107]) (.seq (.cond (T 108) (.reg [Zm 109 4,Zm 110 0,Zm 111 12,Z 112 (.ia 3 (T 110) (T 111)),Z 113 (.ld 3 true (T 112)),Zm 114 0,Zm 115 1,Z 116 (.ia 3 (T 114) (T 115)),Z 117 (.ld 3 true (T 116)),Z 118 (.callv (T 109) [T 113,T 117]),Z 119 (.bin .lss (T 118) (I 0))]) (ZP 109 11)) (.reg [Z 120 (.pick (T 108) (T 119) (.cs (.bool false)))]))) (.cond (T 120) .skip (.exit 6))) (.block 7 (.reg [Zm 121 12,Z 122 (.bin .add (T 121) (I 1)),Zm 12 122]))))) (.seq (.block 8 (.loop (.seq (.seq (.seq (.reg [Zm 123 12,Zm 124 13,Z 125 (.bin .leq (T 123) (T 124)),Zm 126 125]) (.seq (.cond (T 126) (.reg [Zm 127 4,Zm 128 0,Zm 129 13,Z 130 (.ia 3 (T 128) (T 129)),Z 131 (.ld 3 true (T 130)),Zm 132 0,Zm 133 1,Z 134 (.ia 3 (T 132) (T 133)),Z 135 (.ld 3 true (T 134)),Z 136 (.callv (T 127) [T 131,T 135]),Z 137 (.bin .lss (T 136) (I 0)),Z 138 (.un .not (T 137))]) (ZP 127 12)) (.reg [Z 139 (.pick (T 126) (T 138) (.cs (.bool false)))]))) (.cond (T 139) .skip (.exit 8))) (.block 9 (.reg [Zm 140 13,Z 141 (.bin .sub (T 140) (I 1)),Zm 13 141]))))) (.seq (.seq (.reg [Zm 142 12,Zm 143 13,Z 144 (.bin .gtr (T 142) (T 143))]) (.cond (T 144) (.exit 4) .skip)) (.seq (.reg [Zm 145 0,Zm 146 12,Zm 147 0,Zm 148 13,Zm 149 0,Zm 150 13,Z 151 (.ia 3 (T 149) (T 150)),Z 152 (.ld 3 true (T 151)),Zm 153 0,Zm 154 12,Z 155 (.ia 3 (T 153) (T 154)),Z 156 (.ld 3 true (T 155)),Z 157 (.ia 3 (T 145) (T 146)),(.mk none (.st 3 (T 157) (T 152)) none,[]),Z 158 (.ia 3 (T 147) (T 148)),(.mk none (.st 3 (T 158) (T 156)) none,[])]) (.seq (.reg [Zm 159 12,Z 160 (.bin .add (T 159) (I 1)),Zm 12 160]) (.reg [Zm 161 13,Z 162 (.bin .sub (T 161) (I 1)),Zm 13 162]))))))))) (.seq (.reg [Zm 163 0,Zm 164 13,Zm 165 0,Zm 166 1,Zm 167 0,Zm 168 1,Z 169 (.ia 3 (T 167) (T 168)),Z 170 (.ld 3 true (T 169)),Zm 171 0,Zm 172 13,Z 173 (.ia 3 (T 171) (T 172)),Z 174 (.ld 3 true (T 173)),Z 175 (.ia 3 (T 163) (T 164)),(.mk none (.st 3 (T 175) (T 170)) none,[]),Z 176 (.ia 3 (T 165) (T 166)),(.mk none (.st 3 (T 176) (T 174)) none,[])]) (.seq (.reg [Zm 177 13,Zm 10 177,Z 11 (.mv (.cs (.bool false)))]) .ret)))))))))))) [.tmp 10,.tmp 11]
theorem c226 : compF Tryz.prog Tryz.f226 = some F226:=by kernel_rfl
theorem t226 : TT 226 F226:=tt Tryz.func226 c226
def F228 : AFun:=.mk 25 (.seq (.reg [Z 2 (.mv (I 0))]) (.seq (.seq (.reg [Zm 3 0,Z 4 (.bin .geq (T 3) (.cs (.int .u64 4294967296)))]) (.cond (T 4) (.seq (.reg [Zm 5 0,Z 6 (.bin .shr (T 5) (.cs (.int .u64 32))),Zm 0 6]) (.reg [Z 2 (.mv (I 32))])) .skip)) (.seq (.seq (.reg [Zm 7 0,Z 8 (.bin .geq (T 7) (.cs (.int .u64 65536)))]) (.cond (T 8) (.seq (.reg [Zm 9 0,Z 10 (.bin .shr (T 9) (.cs (.int .u64 16))),Zm 0 10]) (.reg [Zm 11 2,Z 12 (.bin .add (T 11) (I 16)),Zm 2 12])) .skip)) (.seq (.seq (.reg [Zm 13 0,Z 14 (.bin .geq (T 13) (.cs (.int .u64 256)))]) (.cond (T 14) (.seq (.reg [Zm 15 0,Z 16 (.bin .shr (T 15) (.cs (.int .u64 8))),Zm 0 16]) (.reg [Zm 17 2,Z 18 (.bin .add (T 17) (I 8)),Zm 2 18])) .skip)) (.seq (.reg [Zm 19 2,Zm 20 0,Z 21 (.cvi .u8 (T 20)),Z 22 (.ixs (.cs (.str [0,1,2,2,3,3,3,3,4,4,4,4,4,4,4,4,5,5,5,5,5,5,5,5,5,5,5,5,5,5,5,5,6,6,6,6,6,6,6,6,6,6,6,6,6,6,6,6,6,6,6,6,6,6,6,6,6,6,6,6,6,6,6,6,7,7,7,7,7,7,7,7,7,7,7,7,7,7,7,7,7,7,7,7,7,7,7,7,7,7,7,7,7,7,7,7,7,7,7,7,7,7,7,7,7,7,7,7,7,7,7,7,7,7,7,7,7,7,7,7,7,7,7,7,7,7,7,7,8,8,8,8,8,8,8,8,8,8,8,8,8,8,8,8,8,8,8,8,8,8,8,8,8,8,8,8,8,8,8,8,8,8,8,8,8,8,8,8,8,8,8,8,8,8,8,8,8,8,8,8,8,8,8,8,8,8,8,8,8,8,8,8,8,8,8,8,8,8,8,8,8,8,8,8,8,8,8,8,8,8,8,8,8,8,8,8,8,8,8,8,8,8,8,8,8,8,8,8,8,8,8,8,8,8,8,8,8,8,8,8,8,8,8,8,8,8,8,8,8,8,8,8,8,8,8,8])) (T 21)),Z 23 (.cvi .i64 (T 22)),Z 24 (.bin .add (T 19) (T 23)),Zm 2 24]) .ret))))) [.tmp 2]
theorem c228 : compF Tryz.prog Tryz.f228 = some F228:=by kernel_rfl
theorem t228 : TT 228 F228:=tt Tryz.func228 c228
def F237 : AFun:=.mk 6 (.seq (.reg [Z 2 (.mv (.cs (.bool false)))]) (.seq (.reg [Zm 3 0,Zm 4 0,Z 5 (.bin .neq (T 3) (T 4)),Zm 2 5]) .ret)) [.tmp 2]
theorem c237 : compF Tryz.prog Tryz.f237 = some F237:=by kernel_rfl
theorem t237 : TT 237 F237:=tt Tryz.func237 c237
def F238 : AFun:=.mk 134 (.seq (.reg [Z 8 (.mv (.cs (.bool true)))]) (.seq (.reg [Z 9 (.mv (.cs (.bool true)))]) (.block 0 (.loop (.block 1 (.seq (.reg [Zm 19 2,Zm 20 1,Z 21 (.bin .sub (T 19) (T 20)),Zm 10 21]) (.seq (.seq (.reg [Zm 22 10,Z 23 (.bin .leq (T 22) (I 12))]) (.cond (T 23) (.seq (.reg [Zm 24 0,Zm 25 1,Zm 26 2,Z 27 (.call 250 [T 24,T 25,T 26])]) .ret) .skip)) (.seq (.seq (.reg [Zm 28 3,Z 29 (.bin .eql (T 28) (I 0))]) (.cond (T 29) (.seq (.reg [Zm 30 0,Zm 31 1,Zm 32 2,Z 33 (.call 251 [T 30,T 31,T 32])]) .ret) .skip)) (.seq (.seq (.reg [Zm 34 8,Z 35 (.un .not (T 34))]) (.cond (T 35) (.seq (.reg [Zm 36 0,Zm 37 1,Zm 38 2,Z 39 (.call 252 [T 36,T 37,T 38])]) (.reg [Zm 40 3,Z 41 (.bin .sub (T 40) (I 1)),Zm 3 41])) .skip)) (.seq (.reg [Zm 43 0,Zm 44 1,Zm 45 2,Z 46 (.call 253 [T 43,T 44,T 45]),Zm 42 46,Z 47 (.ext 0 (T 42)),Z 48 (.ext 1 (T 42)),Zm 11 47,Zm 12 48]) (.seq (.seq (.reg [Zm 49 12,Z 50 (.bin .eql (T 49) (I 2))]) (.cond (T 50) (.seq (.reg [Zm 51 0,Zm 52 1,Zm 53 2,Z 54 (.call 254 [T 51,T 52,T 53])]) (.seq (.reg [Zm 55 2,Z 56 (.bin .sub (T 55) (I 1)),Zm 57 11,Zm 58 1,Z 59 (.bin .sub (T 57) (T 58)),Z 60 (.bin .sub (T 56) (T 59)),Zm 11 60]) (.reg [Z 12 (.mv (I 1))]))) .skip)) (.seq (.seq (.seq (.reg [Zm 61 8,Zm 62 61]) (.seq (.cond (T 62) (.reg [Zm 63 9]) (.reg [Z 63 (.mv (.cs (.tup [])))])) (.seq (.reg [Z 64 (.pick (T 62) (T 63) (.cs (.bool false))),Zm 65 64]) (.seq (.cond (T 65) (.reg [Zm 66 12,Z 67 (.bin .eql (T 66) (I 1))]) (ZP 66 2)) (.reg [Z 68 (.pick (T 65) (T 67) (.cs (.bool false)))]))))) (.cond (T 68) (.seq (.reg [Zm 69 0,Zm 70 1,Zm 71 2,Z 72 (.call 255 [T 69,T 70,T 71])]) (.cond (T 72) .ret .skip)) .skip)) (.seq (.seq (.seq (.reg [Zm 73 1,Z 74 (.bin .gtr (T 73) (I 0)),Zm 75 74]) (.seq (.cond (T 75) (.reg [Zm 76 0,Zm 77 1,Z 78 (.bin .sub (T 77) (I 1)),Z 79 (.ia 1 (T 76) (T 78)),Z 80 (.ld 1 false (T 79)),Zm 81 0,Zm 82 11,Z 83 (.ia 1 (T 81) (T 82)),Z 84 (.ld 1 false (T 83)),Z 85 (.call 256 [T 80,T 84]),Z 86 (.un .not (T 85))]) (ZP 76 11)) (.reg [Z 87 (.pick (T 75) (T 86) (.cs (.bool false)))]))) (.cond (T 87) (.seq (.reg [Zm 88 0,Zm 89 1,Zm 90 2,Zm 91 11,Z 92 (.call 257 [T 88,T 89,T 90,T 91]),Zm 13 92]) (.seq (.reg [Zm 93 13,Zm 1 93]) (.exit 1))) .skip)) (.seq (.reg [Zm 95 0,Zm 96 1,Zm 97 2,Zm 98 11,Z 99 (.call 258 [T 95,T 96,T 97,T 98]),Zm 94 99,Z 100 (.ext 0 (T 94)),Z 101 (.ext 1 (T 94)),Zm 14 100,Zm 15 101]) (.seq (.reg [Zm 102 15,Zm 9 102]) (.seq (.reg [Zm 103 14,Zm 104 1,Z 105 (.bin .sub (T 103) (T 104)),Zm 106 2,Zm 107 14,Z 108 (.bin .sub (T 106) (T 107)),Zm 16 105,Zm 17 108]) (.seq (.reg [Zm 109 10,Z 110 (.bin .quo (T 109) (I 8)),Zm 18 110]) (.seq (.reg [Zm 111 16,Zm 112 17,Z 113 (.bin .lss (T 111) (T 112))]) (.cond (T 113) (.seq (.reg [Zm 114 16,Zm 115 18,Z 116 (.bin .geq (T 114) (T 115)),Zm 8 116]) (.seq (.reg [Zm 117 0,Zm 118 1,Zm 119 14,Zm 120 3,Z 121 (.call 238 [T 117,T 118,T 119,T 120])]) (.reg [Zm 122 14,Z 123 (.bin .add (T 122) (I 1)),Zm 1 123]))) (.seq (.reg [Zm 124 17,Zm 125 18,Z 126 (.bin .geq (T 124) (T 125)),Zm 8 126]) (.seq (.reg [Zm 127 0,Zm 128 14,Z 129 (.bin .add (T 128) (I 1)),Zm 130 2,Zm 131 3,Z 132 (.call 238 [T 127,T 129,T 130,T 131])]) (.reg [Zm 133 14,Zm 2 133])))))))))))))))))))))) []
theorem c238 : compF Tryz.prog Tryz.f238 = some F238:=by kernel_rfl
theorem t238 : TT 238 F238:=tt Tryz.func238 c238
def F239 : AFun:=.mk 95 (.seq (.reg [Z 6 (.mv (.cs .nils))]) (.seq (.reg [Zm 10 0,Zm 11 1,Z 12 (.slcL 1 (T 10) (.some (T 11)) none)]) (.seq (.reg [Zm 13 2,Z 14 (.lenL (T 13)),Zm 7 14]) (.seq (.seq (.reg [Zm 15 7,Z 16 (.bin .eql (T 15) (I 0))]) (.cond (T 16) (.seq (.reg [Zm 17 0,Zm 6 17]) .ret) .skip)) (.seq (.reg [Zm 18 0,Z 19 (.lenL (T 18)),Zm 8 19]) (.seq (.seq (.reg [Zm 20 1,Zm 21 8,Z 22 (.bin .eql (T 20) (T 21))]) (.cond (T 22) (.seq (.reg [Zm 23 0,Zm 24 2,Z 25 (.app 1 8 (T 23) (T 24)),Zm 6 25]) .ret) .skip)) (.seq (.seq (.reg [Zm 26 8,Zm 27 7,Z 28 (.bin .add (T 26) (T 27)),Zm 29 0,Z 30 (.capL (T 29)),Z 31 (.bin .gtr (T 28) (T 30))]) (.cond (T 31) (.seq (.reg [Zm 32 0,Zm 33 1,Z 34 (.slcL 1 (T 32) none (.some (T 33))),Zm 35 8,Zm 36 7,Z 37 (.bin .add (T 35) (T 36)),Zm 38 1,Z 39 (.bin .sub (T 37) (T 38)),Z 40 (.appz 1 8 [.nilp] (T 34) (T 39)),Zm 9 40]) (.seq (.reg [Zm 41 9,Zm 42 1,Z 43 (.slcL 1 (T 41) (.some (T 42)) none),Zm 44 2,Z 45 (.cp 1 (T 43) (T 44))]) (.seq (.reg [Zm 46 9,Zm 47 1,Zm 48 7,Z 49 (.bin .add (T 47) (T 48)),Z 50 (.slcL 1 (T 46) (.some (T 49)) none),Zm 51 0,Zm 52 1,Z 53 (.slcL 1 (T 51) (.some (T 52)) none),Z 54 (.cp 1 (T 50) (T 53))]) (.seq (.reg [Zm 55 9,Zm 6 55]) .ret)))) .skip)) (.seq (.reg [Zm 56 0,Zm 57 8,Zm 58 7,Z 59 (.bin .add (T 57) (T 58)),Z 60 (.slcL 1 (T 56) none (.some (T 59))),Zm 0 60]) (.seq (.seq (.reg [Zm 61 2,Zm 62 0,Zm 63 1,Zm 64 7,Z 65 (.bin .add (T 63) (T 64)),Z 66 (.slcL 1 (T 62) (.some (T 65)) none),Z 67 (.ovl 1 (T 61) (T 66)),Z 68 (.un .not (T 67))]) (.cond (T 68) (.seq (.reg [Zm 69 0,Zm 70 1,Zm 71 7,Z 72 (.bin .add (T 70) (T 71)),Z 73 (.slcL 1 (T 69) (.some (T 72)) none),Zm 74 0,Zm 75 1,Z 76 (.slcL 1 (T 74) (.some (T 75)) none),Z 77 (.cp 1 (T 73) (T 76))]) (.seq (.reg [Zm 78 0,Zm 79 1,Z 80 (.slcL 1 (T 78) (.some (T 79)) none),Zm 81 2,Z 82 (.cp 1 (T 80) (T 81))]) (.seq (.reg [Zm 83 0,Zm 6 83]) .ret))) .skip)) (.seq (.reg [Zm 84 0,Zm 85 8,Z 86 (.slcL 1 (T 84) (.some (T 85)) none),Zm 87 2,Z 88 (.cp 1 (T 86) (T 87))]) (.seq (.reg [Zm 89 0,Zm 90 1,Z 91 (.slcL 1 (T 89) (.some (T 90)) none),Zm 92 7,Z 93 (.call 260 [T 91,T 92])]) (.seq (.reg [Zm 94 0,Zm 6 94]) .ret)))))))))))) [.tmp 6]
theorem c239 : compF Tryz.prog Tryz.f239 = some F239:=by kernel_rfl
theorem t239 : TT 239 F239:=tt Tryz.func239 c239
def F240 : AFun:=.mk 74 (.seq (.reg [Z 2 (.mv (.cs .nilp)),Z 3 (.mv (.cs .nilp))]) (.seq (.seq (.reg [Zm 7 0,Z 8 (.nilck (T 7)),Z 9 (.fa 0 (T 8)),Z 10 (.ld 1 false (T 9)),Z 11 (.lenL (T 10)),Z 12 (.bin .leq (T 11) (I 5))]) (.cond (T 12) (.seq (.reg [Z 2 (.mv (.cs .nilp)),Z 3 (.mv (.cs .nilp))]) .ret) .skip)) (.seq (.reg [Zm 13 0,Z 14 (.nilck (T 13)),Z 15 (.fa 0 (T 14)),Z 16 (.ld 1 false (T 15)),Z 17 (.lenL (T 16)),Z 18 (.bin .quo (T 17) (I 2)),Zm 4 18]) (.seq (.reg [Zm 19 0,Z 20 (.nilck (T 19)),Z 21 (.fa 0 (T 20)),Z 22 (.ld 1 false (T 21)),Zm 23 4,Z 24 (.ia 1 (T 22) (T 23)),Z 25 (.ld 1 false (T 24)),Zm 5 25]) (.seq (.reg [Zm 26 0,Z 27 (.nilck (T 26)),Z 28 (.fa 0 (T 27)),Z 29 (.ld 1 false (T 28)),Zm 30 4,Z 31 (.bin .add (T 30) (I 1)),Z 32 (.slcL 1 (T 29) (.some (T 31)) none),Z 33 (.call 261 [T 32]),Z 34 (.bld [.nils,.nils] [(0,(1,T 33))]),Z 35 (.box (T 34)),Zm 6 35]) (.seq (.seq (.reg [Zm 36 0,Z 37 (.nilck (T 36)),Z 38 (.fa 1 (T 37)),Z 39 (.ld 1 false (T 38)),Z 40 (.lenL (T 39)),Z 41 (.bin .gtr (T 40) (I 0))]) (.cond (T 41) (.seq (.reg [Zm 42 6,Zm 43 0,Z 44 (.nilck (T 43)),Z 45 (.fa 1 (T 44)),Z 46 (.ld 1 false (T 45)),Zm 47 4,Z 48 (.bin .add (T 47) (I 1)),Z 49 (.slcL 1 (T 46) (.some (T 48)) none),Z 50 (.call 262 [T 49]),Z 51 (.nilck (T 42)),Z 52 (.fa 1 (T 51)),(.mk none (.st 1 (T 52) (T 50)) none,[])]) (.reg [Zm 53 0,Zm 54 0,Z 55 (.nilck (T 54)),Z 56 (.fa 1 (T 55)),Z 57 (.ld 1 false (T 56)),Zm 58 4,Z 59 (.bin .add (T 58) (I 1)),Z 60 (.slcL 1 (T 57) none (.some (T 59))),Z 61 (.nilck (T 53)),Z 62 (.fa 1 (T 61)),(.mk none (.st 1 (T 62) (T 60)) none,[])])) .skip)) (.seq (.reg [Zm 63 0,Zm 64 0,Z 65 (.nilck (T 64)),Z 66 (.fa 0 (T 65)),Z 67 (.ld 1 false (T 66)),Zm 68 4,Z 69 (.slcL 1 (T 67) none (.some (T 68))),Z 70 (.nilck (T 63)),Z 71 (.fa 0 (T 70)),(.mk none (.st 1 (T 71) (T 69)) none,[])]) (.seq (.reg [Zm 72 5,Zm 73 6,Zm 2 72,Zm 3 73]) .ret)))))))) [.tmp 2,.tmp 3]
theorem c240 : compF Tryz.prog Tryz.f240 = some F240:=by kernel_rfl
theorem t240 : TT 240 F240:=tt Tryz.func240 c240
def F241 : AFun:=.mk 95 (.seq (.reg [Z 6 (.mv (.cs .nils))]) (.seq (.reg [Zm 10 0,Zm 11 1,Z 12 (.slcL 1 (T 10) (.some (T 11)) none)]) (.seq (.reg [Zm 13 2,Z 14 (.lenL (T 13)),Zm 7 14]) (.seq (.seq (.reg [Zm 15 7,Z 16 (.bin .eql (T 15) (I 0))]) (.cond (T 16) (.seq (.reg [Zm 17 0,Zm 6 17]) .ret) .skip)) (.seq (.reg [Zm 18 0,Z 19 (.lenL (T 18)),Zm 8 19]) (.seq (.seq (.reg [Zm 20 1,Zm 21 8,Z 22 (.bin .eql (T 20) (T 21))]) (.cond (T 22) (.seq (.reg [Zm 23 0,Zm 24 2,Z 25 (.app 1 8 (T 23) (T 24)),Zm 6 25]) .ret) .skip)) (.seq (.seq (.reg [Zm 26 8,Zm 27 7,Z 28 (.bin .add (T 26) (T 27)),Zm 29 0,Z 30 (.capL (T 29)),Z 31 (.bin .gtr (T 28) (T 30))]) (.cond (T 31) (.seq (.reg [Zm 32 0,Zm 33 1,Z 34 (.slcL 1 (T 32) none (.some (T 33))),Zm 35 8,Zm 36 7,Z 37 (.bin .add (T 35) (T 36)),Zm 38 1,Z 39 (.bin .sub (T 37) (T 38)),Z 40 (.appz 1 8 [.nilp] (T 34) (T 39)),Zm 9 40]) (.seq (.reg [Zm 41 9,Zm 42 1,Z 43 (.slcL 1 (T 41) (.some (T 42)) none),Zm 44 2,Z 45 (.cp 1 (T 43) (T 44))]) (.seq (.reg [Zm 46 9,Zm 47 1,Zm 48 7,Z 49 (.bin .add (T 47) (T 48)),Z 50 (.slcL 1 (T 46) (.some (T 49)) none),Zm 51 0,Zm 52 1,Z 53 (.slcL 1 (T 51) (.some (T 52)) none),Z 54 (.cp 1 (T 50) (T 53))]) (.seq (.reg [Zm 55 9,Zm 6 55]) .ret)))) .skip)) (.seq (.reg [Zm 56 0,Zm 57 8,Zm 58 7,Z 59 (.bin .add (T 57) (T 58)),Z 60 (.slcL 1 (T 56) none (.some (T 59))),Zm 0 60]) (.seq (.seq (.reg [Zm 61 2,Zm 62 0,Zm 63 1,Zm 64 7,Z 65 (.bin .add (T 63) (T 64)),Z 66 (.slcL 1 (T 62) (.some (T 65)) none),Z 67 (.ovl 1 (T 61) (T 66)),Z 68 (.un .not (T 67))]) (.cond (T 68) (.seq (.reg [Zm 69 0,Zm 70 1,Zm 71 7,Z 72 (.bin .add (T 70) (T 71)),Z 73 (.slcL 1 (T 69) (.some (T 72)) none),Zm 74 0,Zm 75 1,Z 76 (.slcL 1 (T 74) (.some (T 75)) none),Z 77 (.cp 1 (T 73) (T 76))]) (.seq (.reg [Zm 78 0,Zm 79 1,Z 80 (.slcL 1 (T 78) (.some (T 79)) none),Zm 81 2,Z 82 (.cp 1 (T 80) (T 81))]) (.seq (.reg [Zm 83 0,Zm 6 83]) .ret))) .skip)) (.seq (.reg [Zm 84 0,Zm 85 8,Z 86 (.slcL 1 (T 84) (.some (T 85)) none),Zm 87 2,Z 88 (.cp 1 (T 86) (T 87))]) (.seq (.reg [Zm 89 0,Zm 90 1,Z 91 (.slcL 1 (T 89) (.some (T 90)) none),Zm 92 7,Z 93 (.call 264 [T 91,T 92])]) (.seq (.reg [Zm 94 0,Zm 6 94]) .ret)))))))))))) [.tmp 6]
theorem c241 : compF Tryz.prog Tryz.f241 = some F241:=by kernel_rfl
theorem t241 : TT 241 F241:=tt Tryz.func241 c241
def F242 : AFun:=.mk 82 (.seq (.reg [Zm 12 1,Zm 10 12]) (.block 0 (.loop (.block 1 (.seq (.reg [Zm 13 10,Z 14 (.bin .mul (I 2) (T 13)),Z 15 (.bin .add (T 14) (I 1)),Zm 11 15]) (.seq (.seq (.reg [Zm 16 11,Zm 17 2,Z 18 (.bin .geq (T 16) (T 17))]) (.cond (T 18) (.exit 0) .skip)) (.seq (.seq (.seq (.reg [Zm 19 11,Z 20 (.bin .add (T 19) (I 1)),Zm 21 2,Z 22 (.bin .lss (T 20) (T 21)),Zm 23 22]) (.seq (.cond (T 23) (.reg [Zm 24 4,Zm 25 0,Zm 26 3,Zm 27 11,Z 28 (.bin .add (T 26) (T 27)),Z 29 (.ia 3 (T 25) (T 28)),Z 30 (.ld 3 true (T 29)),Zm 31 0,Zm 32 3,Zm 33 11,Z 34 (.bin .add (T 32) (T 33)),Z 35 (.bin .add (T 34) (I 1)),Z 36 (.ia 3 (T 31) (T 35)),Z 37 (.ld 3 true (T 36)),Z 38 (.callv (T 24) [T 30,T 37]),Z 39 (.bin .lss (T 38) (I 0))]) (ZP 24 16)) (.reg [Z 40 (.pick (T 23) (T 39) (.cs (.bool false)))]))) (.cond (T 40) (.reg [Zm 41 11,Z 42 (.bin .add (T 41) (I 1)),Zm 11 42]) .skip)) (.seq (.seq (.reg [Zm 43 4,Zm 44 0,Zm 45 3,Zm 46 10,Z 47 (.bin .add (T 45) (T 46)),Z 48 (.ia 3 (T 44) (T 47)),Z 49 (.ld 3 true (T 48)),Zm 50 0,Zm 51 3,Zm 52 11,Z 53 (.bin .add (T 51) (T 52)),Z 54 (.ia 3 (T 50) (T 53)),Z 55 (.ld 3 true (T 54)),Z 56 (.callv (T 43) [T 49,T 55]),Z 57 (.bin .lss (T 56) (I 0)),Z 58 (.un .not (T 57))]) (.cond (T 58) .ret .skip)) (.seq (.reg [Zm 59 0,Zm 60 3,Zm 61 10,Z 62 (.bin .add (T 60) (T 61)),Zm 63 0,Zm 64 3,Zm 65 11,Z 66 (.bin .add (T 64) (T 65)),Zm 67 0,Zm 68 3,Zm 69 11,Z 70 (.bin .add (T 68) (T 69)),Z 71 (.ia 3 (T 67) (T 70)),Z 72 (.ld 3 true (T 71)),Zm 73 0,Zm 74 3,Zm 75 10,Z 76 (.bin .add (T 74) (T 75)),Z 77 (.ia 3 (T 73) (T 76)),Z 78 (.ld 3 true (T 77)),Z 79 (.ia 3 (T 59) (T 62)),(.mk none (.st 3 (T 79) (T 72)) none,[]),Z 80 (.ia 3 (T 63) (T 66)),(.mk none (.st 3 (T 80) (T 78)) none,[])]) (.reg [Zm 81 11,Zm 10 81])))))))))) []
theorem c242 : compF Tryz.prog Tryz.f242 = some F242:=by kernel_rfl
theorem t242 : TT 242 F242:=tt Tryz.func242 c242
def F243 : AFun:=.mk 7 (.seq (.reg [Z 2 (.mv (.cs (.int .u64 0)))]) (.seq (.reg [Zm 3 0,Z 4 (.cvi .u64 (T 3)),Z 5 (.call 204 [T 4]),Z 6 (.bin .shl (.cs (.int .u64 1)) (T 5)),Zm 2 6]) .ret)) [.tmp 2]
theorem c243 : compF Tryz.prog Tryz.f243 = some F243:=by kernel_rfl
theorem t243 : TT 243 F243:=tt Tryz.func243 c243
def F244 : AFun:=.mk 33 (.seq (.reg [Z 2 (.mv (.cs (.int .u64 0)))]) (.seq (.reg [Zm 3 0,Z 4 (.nilck (T 3)),Z 5 (.ld 1 false (T 4)),Zm 6 0,Z 7 (.nilck (T 6)),Z 8 (.ld 1 false (T 7)),Z 9 (.bin .shl (T 8) (.cs (.int .u64 13))),Z 10 (.bin .xor (T 5) (T 9)),Z 11 (.nilck (T 3)),(.mk none (.st 1 (T 11) (T 10)) none,[])]) (.seq (.reg [Zm 12 0,Z 13 (.nilck (T 12)),Z 14 (.ld 1 false (T 13)),Zm 15 0,Z 16 (.nilck (T 15)),Z 17 (.ld 1 false (T 16)),Z 18 (.bin .shr (T 17) (.cs (.int .u64 7))),Z 19 (.bin .xor (T 14) (T 18)),Z 20 (.nilck (T 12)),(.mk none (.st 1 (T 20) (T 19)) none,[])]) (.seq (.reg [Zm 21 0,Z 22 (.nilck (T 21)),Z 23 (.ld 1 false (T 22)),Zm 24 0,Z 25 (.nilck (T 24)),Z 26 (.ld 1 false (T 25)),Z 27 (.bin .shl (T 26) (.cs (.int .u64 17))),Z 28 (.bin .xor (T 23) (T 27)),Z 29 (.nilck (T 21)),(.mk none (.st 1 (T 29) (T 28)) none,[])]) (.seq (.reg [Zm 30 0,Z 31 (.nilck (T 30)),Z 32 (.ld 1 false (T 31)),Zm 2 32]) .ret))))) [.tmp 2]
theorem c244 : compF Tryz.prog Tryz.f244 = some F244:=by kernel_rfl
theorem t244 : TT 244 F244:=tt Tryz.func244 c244
def F245 : AFun:=.mk 18 (.seq (.reg [Z 8 (.mv (I 0))]) (.seq (.reg [Zm 9 0,Zm 10 1,Z 11 (.bin .sub (T 10) (I 1)),Zm 12 1,Zm 13 1,Z 14 (.bin .add (T 13) (I 1)),Zm 15 2,Zm 16 3,Z 17 (.call 246 [T 9,T 11,T 12,T 14,T 15,T 16]),Zm 8 17]) .ret)) [.tmp 8]
theorem c245 : compF Tryz.prog Tryz.f245 = some F245:=by kernel_rfl
theorem t245 : TT 245 F245:=tt Tryz.func245 c245
def F246 : AFun:=.mk 41 (.seq (.reg [Z 12 (.mv (I 0))]) (.seq (.reg [Zm 14 0,Zm 15 1,Zm 16 2,Zm 17 4,Zm 18 5,Z 19 (.call 265 [T 14,T 15,T 16,T 17,T 18]),Zm 13 19,Z 20 (.ext 0 (T 13)),Z 21 (.ext 1 (T 13)),Zm 1 20,Zm 2 21]) (.seq (.reg [Zm 23 0,Zm 24 2,Zm 25 3,Zm 26 4,Zm 27 5,Z 28 (.call 265 [T 23,T 24,T 25,T 26,T 27]),Zm 22 28,Z 29 (.ext 0 (T 22)),Z 30 (.ext 1 (T 22)),Zm 2 29,Zm 3 30]) (.seq (.reg [Zm 32 0,Zm 33 1,Zm 34 2,Zm 35 4,Zm 36 5,Z 37 (.call 265 [T 32,T 33,T 34,T 35,T 36]),Zm 31 37,Z 38 (.ext 0 (T 31)),Z 39 (.ext 1 (T 31)),Zm 1 38,Zm 2 39]) (.seq (.reg [Zm 40 2,Zm 12 40]) .ret))))) [.tmp 12]
theorem c246 : compF Tryz.prog Tryz.f246 = some F246:=by kernel_rfl
theorem t246 : TT 246 F246:=tt Tryz.func246 c246
def F250 : AFun:=.mk 49 (.seq (.reg [Zm 8 1,Z 9 (.bin .add (T 8) (I 1)),Zm 6 9]) (.block 0 (.loop (.seq (.seq (.reg [Zm 10 6,Zm 11 2,Z 12 (.bin .lss (T 10) (T 11))]) (.cond (T 12) .skip (.exit 0))) (.seq (.block 1 (.seq (.reg [Zm 15 6,Zm 7 15]) (.block 2 (.loop (.seq (.seq (.seq (.reg [Zm 16 7,Zm 17 1,Z 18 (.bin .gtr (T 16) (T 17)),Zm 19 18]) (.seq (.cond (T 19) (.reg [Zm 20 0,Zm 21 7,Z 22 (.ia 1 (T 20) (T 21)),Z 23 (.ld 1 false (T 22)),Zm 24 0,Zm 25 7,Z 26 (.bin .sub (T 25) (I 1)),Z 27 (.ia 1 (T 24) (T 26)),Z 28 (.ld 1 false (T 27)),Z 29 (.call 256 [T 23,T 28])]) (ZP 20 10)) (.reg [Z 30 (.pick (T 19) (T 29) (.cs (.bool false)))]))) (.cond (T 30) .skip (.exit 2))) (.seq (.block 3 (.reg [Zm 33 0,Zm 34 7,Zm 35 0,Zm 36 7,Z 37 (.bin .sub (T 36) (I 1)),Zm 38 0,Zm 39 7,Z 40 (.bin .sub (T 39) (I 1)),Z 41 (.ia 1 (T 38) (T 40)),Z 42 (.ld 1 false (T 41)),Zm 43 0,Zm 44 7,Z 45 (.ia 1 (T 43) (T 44)),Z 46 (.ld 1 false (T 45)),Z 47 (.ia 1 (T 33) (T 34)),(.mk none (.st 1 (T 47) (T 42)) none,[]),Z 48 (.ia 1 (T 35) (T 37)),(.mk none (.st 1 (T 48) (T 46)) none,[])])) (.reg [Zm 31 7,Z 32 (.bin .sub (T 31) (I 1)),Zm 7 32]))))))) (.reg [Zm 13 6,Z 14 (.bin .add (T 13) (I 1)),Zm 6 14])))))) []
theorem c250 : compF Tryz.prog Tryz.f250 = some F250:=by kernel_rfl
theorem t250 : TT 250 F250:=tt Tryz.func250 c250
def F251 : AFun:=.mk 56 (.seq (.reg [Zm 11 1,Zm 6 11]) (.seq (.reg [Z 7 (.mv (I 0))]) (.seq (.reg [Zm 12 2,Zm 13 1,Z 14 (.bin .sub (T 12) (T 13)),Zm 8 14]) (.seq (.seq (.reg [Zm 15 8,Z 16 (.bin .sub (T 15) (I 1)),Z 17 (.bin .quo (T 16) (I 2)),Zm 9 17]) (.block 0 (.loop (.seq (.seq (.reg [Zm 18 9,Z 19 (.bin .geq (T 18) (I 0))]) (.cond (T 19) .skip (.exit 0))) (.seq (.block 1 (.reg [Zm 22 0,Zm 23 9,Zm 24 8,Zm 25 6,Z 26 (.call 267 [T 22,T 23,T 24,T 25])])) (.reg [Zm 20 9,Z 21 (.bin .sub (T 20) (I 1)),Zm 9 21])))))) (.seq (.reg [Zm 27 8,Z 28 (.bin .sub (T 27) (I 1)),Zm 10 28]) (.block 2 (.loop (.seq (.seq (.reg [Zm 29 10,Z 30 (.bin .geq (T 29) (I 0))]) (.cond (T 30) .skip (.exit 2))) (.seq (.block 3 (.seq (.reg [Zm 33 0,Zm 34 6,Zm 35 0,Zm 36 6,Zm 37 10,Z 38 (.bin .add (T 36) (T 37)),Zm 39 0,Zm 40 6,Zm 41 10,Z 42 (.bin .add (T 40) (T 41)),Z 43 (.ia 1 (T 39) (T 42)),Z 44 (.ld 1 false (T 43)),Zm 45 0,Zm 46 6,Z 47 (.ia 1 (T 45) (T 46)),Z 48 (.ld 1 false (T 47)),Z 49 (.ia 1 (T 33) (T 34)),(.mk none (.st 1 (T 49) (T 44)) none,[]),Z 50 (.ia 1 (T 35) (T 38)),(.mk none (.st 1 (T 50) (T 48)) none,[])]) (.reg [Zm 51 0,Zm 52 7,Zm 53 10,Zm 54 6,Z 55 (.call 267 [T 51,T 52,T 53,T 54])]))) (.reg [Zm 31 10,Z 32 (.bin .sub (T 31) (I 1)),Zm 10 32])))))))))) []
theorem c251 : compF Tryz.prog Tryz.f251 = some F251:=by kernel_rfl
theorem t251 : TT 251 F251:=tt Tryz.func251 c251
def F252 : AFun:=.mk 65 (.seq (.reg [Zm 11 2,Zm 12 1,Z 13 (.bin .sub (T 11) (T 12)),Zm 6 13]) (.seq (.reg [Zm 14 6,Z 15 (.bin .geq (T 14) (I 8))]) (.cond (T 15) (.seq (.reg [Zm 16 6,Z 17 (.cvi .u64 (T 16)),Z 7 (.alloc [.int .u64 0]),(.mk none (.st 1 (T 7) (T 17)) none,[])]) (.seq (.reg [Zm 18 6,Z 19 (.call 243 [T 18]),Zm 8 19]) (.seq (.reg [Zm 20 1,Zm 21 6,Z 22 (.bin .quo (T 21) (I 4)),Z 23 (.bin .mul (T 22) (I 2)),Z 24 (.bin .add (T 20) (T 23)),Z 25 (.bin .sub (T 24) (I 1)),Zm 9 25]) (.block 0 (.loop (.seq (.seq (.reg [Zm 26 9,Zm 27 1,Zm 28 6,Z 29 (.bin .quo (T 28) (I 4)),Z 30 (.bin .mul (T 29) (I 2)),Z 31 (.bin .add (T 27) (T 30)),Z 32 (.bin .add (T 31) (I 1)),Z 33 (.bin .leq (T 26) (T 32))]) (.cond (T 33) .skip (.exit 0))) (.seq (.block 1 (.seq (.reg [Z 36 (.call 244 [T 7]),Zm 37 8,Z 38 (.bin .sub (T 37) (.cs (.int .u64 1))),Z 39 (.bin .and (T 36) (T 38)),Z 40 (.cvi .i64 (T 39)),Zm 10 40]) (.seq (.seq (.reg [Zm 41 10,Zm 42 6,Z 43 (.bin .geq (T 41) (T 42))]) (.cond (T 43) (.reg [Zm 44 10,Zm 45 6,Z 46 (.bin .sub (T 44) (T 45)),Zm 10 46]) .skip)) (.reg [Zm 47 0,Zm 48 9,Zm 49 0,Zm 50 1,Zm 51 10,Z 52 (.bin .add (T 50) (T 51)),Zm 53 0,Zm 54 1,Zm 55 10,Z 56 (.bin .add (T 54) (T 55)),Z 57 (.ia 1 (T 53) (T 56)),Z 58 (.ld 1 false (T 57)),Zm 59 0,Zm 60 9,Z 61 (.ia 1 (T 59) (T 60)),Z 62 (.ld 1 false (T 61)),Z 63 (.ia 1 (T 47) (T 48)),(.mk none (.st 1 (T 63) (T 58)) none,[]),Z 64 (.ia 1 (T 49) (T 52)),(.mk none (.st 1 (T 64) (T 62)) none,[])])))) (.reg [Zm 34 9,Z 35 (.bin .add (T 34) (I 1)),Zm 9 35])))))))) .skip))) []
theorem c252 : compF Tryz.prog Tryz.f252 = some F252:=by kernel_rfl
theorem t252 : TT 252 F252:=tt Tryz.func252 c252
def F253 : AFun:=.mk 57 (.seq (.reg [Z 6 (.mv (I 0)),Z 7 (.mv (I 0))]) (.seq (.reg [Zm 13 2,Zm 14 1,Z 15 (.bin .sub (T 13) (T 14)),Zm 8 15]) (.seq (.reg [Z 9 (.alloc [.int .i64 0])]) (.seq (.reg [Zm 16 1,Zm 17 8,Z 18 (.bin .quo (T 17) (I 4)),Z 19 (.bin .mul (T 18) (I 1)),Z 20 (.bin .add (T 16) (T 19)),Zm 10 20]) (.seq (.reg [Zm 21 1,Zm 22 8,Z 23 (.bin .quo (T 22) (I 4)),Z 24 (.bin .mul (T 23) (I 2)),Z 25 (.bin .add (T 21) (T 24)),Zm 11 25]) (.seq (.reg [Zm 26 1,Zm 27 8,Z 28 (.bin .quo (T 27) (I 4)),Z 29 (.bin .mul (T 28) (I 3)),Z 30 (.bin .add (T 26) (T 29)),Zm 12 30]) (.seq (.seq (.reg [Zm 31 8,Z 32 (.bin .geq (T 31) (I 8))]) (.cond (T 32) (.seq (.seq (.reg [Zm 33 8,Z 34 (.bin .geq (T 33) (I 50))]) (.cond (T 34) (.seq (.reg [Zm 35 0,Zm 36 10,Z 37 (.call 268 [T 35,T 36,T 9]),Zm 10 37]) (.seq (.reg [Zm 38 0,Zm 39 11,Z 40 (.call 268 [T 38,T 39,T 9]),Zm 11 40]) (.reg [Zm 41 0,Zm 42 12,Z 43 (.call 268 [T 41,T 42,T 9]),Zm 12 43]))) .skip)) (.reg [Zm 44 0,Zm 45 10,Zm 46 11,Zm 47 12,Z 48 (.call 269 [T 44,T 45,T 46,T 47,T 9]),Zm 11 48])) .skip)) (.seq (.reg [Z 49 (.ld 1 false (T 9))]) (.block 0 (.seq (.reg [Z 52 (.bin .eql (T 49) (I 0)),Zm 51 52]) (.cond (T 51) (.seq (.reg [Zm 53 11,Zm 6 53,Z 7 (.mv (I 1))]) .ret) (.seq (.reg [Z 55 (.bin .eql (T 49) (I 12)),Zm 54 55]) (.cond (T 54) (.seq (.reg [Zm 56 11,Zm 6 56,Z 7 (.mv (I 2))]) .ret) (.seq (.reg [Zm 50 11,Zm 6 50,Z 7 (.mv (I 0))]) .ret)))))))))))))) [.tmp 6,.tmp 7]
theorem c253 : compF Tryz.prog Tryz.f253 = some F253:=by kernel_rfl
theorem t253 : TT 253 F253:=tt Tryz.func253 c253
def F254 : AFun:=.mk 32 (.seq (.reg [Zm 8 1,Zm 6 8]) (.seq (.reg [Zm 9 2,Z 10 (.bin .sub (T 9) (I 1)),Zm 7 10]) (.block 0 (.loop (.seq (.seq (.reg [Zm 11 6,Zm 12 7,Z 13 (.bin .lss (T 11) (T 12))]) (.cond (T 13) .skip (.exit 0))) (.block 1 (.seq (.reg [Zm 14 0,Zm 15 6,Zm 16 0,Zm 17 7,Zm 18 0,Zm 19 7,Z 20 (.ia 1 (T 18) (T 19)),Z 21 (.ld 1 false (T 20)),Zm 22 0,Zm 23 6,Z 24 (.ia 1 (T 22) (T 23)),Z 25 (.ld 1 false (T 24)),Z 26 (.ia 1 (T 14) (T 15)),(.mk none (.st 1 (T 26) (T 21)) none,[]),Z 27 (.ia 1 (T 16) (T 17)),(.mk none (.st 1 (T 27) (T 25)) none,[])]) (.seq (.reg [Zm 28 6,Z 29 (.bin .add (T 28) (I 1)),Zm 6 29]) (.reg [Zm 30 7,Z 31 (.bin .sub (T 30) (I 1)),Zm 7 31]))))))))) []
theorem c254 : compF Tryz.prog Tryz.f254 = some F254:=by kernel_rfl
theorem t254 : TT 254 F254:=tt Tryz.func254 c254
def F255 : AFun:=.mk 133 (.seq (.reg [Z 6 (.mv (.cs (.bool false)))]) (.seq (.reg [Zm 11 1,Z 12 (.bin .add (T 11) (I 1)),Zm 7 12]) (.seq (.seq (.reg [Z 8 (.mv (I 0))]) (.block 0 (.loop (.seq (.seq (.reg [Zm 13 8,Z 14 (.bin .lss (T 13) (I 5))]) (.cond (T 14) .skip (.exit 0))) (.seq (.block 1 (.seq (.block 2 (.loop (.seq (.seq (.seq (.reg [Zm 17 7,Zm 18 2,Z 19 (.bin .lss (T 17) (T 18)),Zm 20 19]) (.seq (.cond (T 20) (.reg [Zm 21 0,Zm 22 7,Z 23 (.ia 1 (T 21) (T 22)),Z 24 (.ld 1 false (T 23)),Zm 25 0,Zm 26 7,Z 27 (.bin .sub (T 26) (I 1)),Z 28 (.ia 1 (T 25) (T 27)),Z 29 (.ld 1 false (T 28)),Z 30 (.call 256 [T 24,T 29]),Z 31 (.un .not (T 30))]) (ZP 21 11)) (.reg [Z 32 (.pick (T 20) (T 31) (.cs (.bool false)))]))) (.cond (T 32) .skip (.exit 2))) (.block 3 (.reg [Zm 33 7,Z 34 (.bin .add (T 33) (I 1)),Zm 7 34]))))) (.seq (.seq (.reg [Zm 35 7,Zm 36 2,Z 37 (.bin .eql (T 35) (T 36))]) (.cond (T 37) (.seq (.reg [Z 6 (.mv (.cs (.bool true)))]) .ret) .skip)) (.seq (.seq (.reg [Zm 38 2,Zm 39 1,Z 40 (.bin .sub (T 38) (T 39)),Z 41 (.bin .lss (T 40) (I 50))]) (.cond (T 41) (.seq (.reg [Z 6 (.mv (.cs (.bool false)))]) .ret) .skip)) (.seq (.reg [Zm 42 0,Zm 43 7,Zm 44 0,Zm 45 7,Z 46 (.bin .sub (T 45) (I 1)),Zm 47 0,Zm 48 7,Z 49 (.bin .sub (T 48) (I 1)),Z 50 (.ia 1 (T 47) (T 49)),Z 51 (.ld 1 false (T 50)),Zm 52 0,Zm 53 7,Z 54 (.ia 1 (T 52) (T 53)),Z 55 (.ld 1 false (T 54)),Z 56 (.ia 1 (T 42) (T 43)),(.mk none (.st 1 (T 56) (T 51)) none,[]),Z 57 (.ia 1 (T 44) (T 46)),(.mk none (.st 1 (T 57) (T 55)) none,[])]) (.seq (.seq (.reg [Zm 58 7,Zm 59 1,Z 60 (.bin .sub (T 58) (T 59)),Z 61 (.bin .geq (T 60) (I 2))]) (.cond (T 61) (.seq (.reg [Zm 62 7,Z 63 (.bin .sub (T 62) (I 1)),Zm 9 63]) (.block 4 (.loop (.seq (.seq (.reg [Zm 64 9,Z 65 (.bin .geq (T 64) (I 1))]) (.cond (T 65) .skip (.exit 4))) (.seq (.block 5 (.seq (.seq (.reg [Zm 68 0,Zm 69 9,Z 70 (.ia 1 (T 68) (T 69)),Z 71 (.ld 1 false (T 70)),Zm 72 0,Zm 73 9,Z 74 (.bin .sub (T 73) (I 1)),Z 75 (.ia 1 (T 72) (T 74)),Z 76 (.ld 1 false (T 75)),Z 77 (.call 256 [T 71,T 76]),Z 78 (.un .not (T 77))]) (.cond (T 78) (.exit 4) .skip)) (.reg [Zm 79 0,Zm 80 9,Zm 81 0,Zm 82 9,Z 83 (.bin .sub (T 82) (I 1)),Zm 84 0,Zm 85 9,Z 86 (.bin .sub (T 85) (I 1)),Z 87 (.ia 1 (T 84) (T 86)),Z 88 (.ld 1 false (T 87)),Zm 89 0,Zm 90 9,Z 91 (.ia 1 (T 89) (T 90)),Z 92 (.ld 1 false (T 91)),Z 93 (.ia 1 (T 79) (T 80)),(.mk none (.st 1 (T 93) (T 88)) none,[]),Z 94 (.ia 1 (T 81) (T 83)),(.mk none (.st 1 (T 94) (T 92)) none,[])]))) (.reg [Zm 66 9,Z 67 (.bin .sub (T 66) (I 1)),Zm 9 67])))))) .skip)) (.seq (.reg [Zm 95 2,Zm 96 7,Z 97 (.bin .sub (T 95) (T 96)),Z 98 (.bin .geq (T 97) (I 2))]) (.cond (T 98) (.seq (.reg [Zm 99 7,Z 100 (.bin .add (T 99) (I 1)),Zm 10 100]) (.block 6 (.loop (.seq (.seq (.reg [Zm 101 10,Zm 102 2,Z 103 (.bin .lss (T 101) (T 102))]) (.cond (T 103) .skip (.exit 6))) (.seq (.block 7 (.seq (.seq (.reg [Zm 106 0,Zm 107 10,Z 108 (.ia 1 (T 106) (T 107)),Z 109 (.ld 1 false (T 108)),Zm 110 0,Zm 111 10,Z 112 (.bin .sub (T 111) (I 1)),Z 113 (.ia 1 (T 110) (T 112)),Z 114 (.ld 1 false (T 113)),Z 115 (.call 256 [T 109,T 114]),Z 116 (.un .not (T 115))]) (.cond (T 116) (.exit 6) .skip)) (.reg [Zm 117 0,Zm 118 10,Zm 119 0,Zm 120 10,Z 121 (.bin .sub (T 120) (I 1)),Zm 122 0,Zm 123 10,Z 124 (.bin .sub (T 123) (I 1)),Z 125 (.ia 1 (T 122) (T 124)),Z 126 (.ld 1 false (T 125)),Zm 127 0,Zm 128 10,Z 129 (.ia 1 (T 127) (T 128)),Z 130 (.ld 1 false (T 129)),Z 131 (.ia 1 (T 117) (T 118)),(.mk none (.st 1 (T 131) (T 126)) none,[]),Z 132 (.ia 1 (T 119) (T 121)),(.mk none (.st 1 (T 132) (T 130)) none,[])]))) (.reg [Zm 104 10,Z 105 (.bin .add (T 104) (I 1)),Zm 10 105])))))) .skip)))))))) (.reg [Zm 15 8,Z 16 (.bin .add (T 15) (I 1)),Zm 8 16])))))) (.seq (.reg [Z 6 (.mv (.cs (.bool false)))]) .ret)))) [.tmp 6]
theorem c255 : compF Tryz.prog Tryz.f255 = some F255:=by kernel_rfl
theorem t255 : TT 255 F255:=tt Tryz.func255 c255
def F256 : AFun:=.mk 17 (.seq (.reg [Z 4 (.mv (.cs (.bool false)))]) (.seq (.seq (.reg [Zm 5 0,Z 6 (.call 237 [T 5]),Zm 7 6]) (.seq (.cond (T 7) (.reg [Zm 8 1,Z 9 (.call 237 [T 8]),Z 10 (.un .not (T 9))]) (ZP 8 3)) (.seq (.reg [Z 11 (.pick (T 7) (T 10) (.cs (.bool false))),Zm 12 11]) (.seq (.cond (T 12) (ZP 13 3) (.reg [Zm 13 0,Zm 14 1,Z 15 (.bin .lss (T 13) (T 14))])) (.reg [Z 16 (.pick (T 12) (.cs (.bool true)) (T 15)),Zm 4 16]))))) .ret)) [.tmp 4]
theorem c256 : compF Tryz.prog Tryz.f256 = some F256:=by kernel_rfl
theorem t256 : TT 256 F256:=tt Tryz.func256 c256
def F257 : AFun:=.mk 84 (.seq (.reg [Z 8 (.mv (I 0))]) (.seq (.reg [Zm 11 0,Zm 12 1,Zm 13 0,Zm 14 3,Zm 15 0,Zm 16 3,Z 17 (.ia 1 (T 15) (T 16)),Z 18 (.ld 1 false (T 17)),Zm 19 0,Zm 20 1,Z 21 (.ia 1 (T 19) (T 20)),Z 22 (.ld 1 false (T 21)),Z 23 (.ia 1 (T 11) (T 12)),(.mk none (.st 1 (T 23) (T 18)) none,[]),Z 24 (.ia 1 (T 13) (T 14)),(.mk none (.st 1 (T 24) (T 22)) none,[])]) (.seq (.reg [Zm 25 1,Z 26 (.bin .add (T 25) (I 1)),Zm 27 2,Z 28 (.bin .sub (T 27) (I 1)),Zm 9 26,Zm 10 28]) (.seq (.block 0 (.loop (.block 1 (.seq (.block 2 (.loop (.seq (.seq (.seq (.reg [Zm 29 9,Zm 30 10,Z 31 (.bin .leq (T 29) (T 30)),Zm 32 31]) (.seq (.cond (T 32) (.reg [Zm 33 0,Zm 34 1,Z 35 (.ia 1 (T 33) (T 34)),Z 36 (.ld 1 false (T 35)),Zm 37 0,Zm 38 9,Z 39 (.ia 1 (T 37) (T 38)),Z 40 (.ld 1 false (T 39)),Z 41 (.call 256 [T 36,T 40]),Z 42 (.un .not (T 41))]) (ZP 33 10)) (.reg [Z 43 (.pick (T 32) (T 42) (.cs (.bool false)))]))) (.cond (T 43) .skip (.exit 2))) (.block 3 (.reg [Zm 44 9,Z 45 (.bin .add (T 44) (I 1)),Zm 9 45]))))) (.seq (.block 4 (.loop (.seq (.seq (.seq (.reg [Zm 46 9,Zm 47 10,Z 48 (.bin .leq (T 46) (T 47)),Zm 49 48]) (.seq (.cond (T 49) (.reg [Zm 50 0,Zm 51 1,Z 52 (.ia 1 (T 50) (T 51)),Z 53 (.ld 1 false (T 52)),Zm 54 0,Zm 55 10,Z 56 (.ia 1 (T 54) (T 55)),Z 57 (.ld 1 false (T 56)),Z 58 (.call 256 [T 53,T 57])]) (ZP 50 9)) (.reg [Z 59 (.pick (T 49) (T 58) (.cs (.bool false)))]))) (.cond (T 59) .skip (.exit 4))) (.block 5 (.reg [Zm 60 10,Z 61 (.bin .sub (T 60) (I 1)),Zm 10 61]))))) (.seq (.seq (.reg [Zm 62 9,Zm 63 10,Z 64 (.bin .gtr (T 62) (T 63))]) (.cond (T 64) (.exit 0) .skip)) (.seq (.reg [Zm 65 0,Zm 66 9,Zm 67 0,Zm 68 10,Zm 69 0,Zm 70 10,Z 71 (.ia 1 (T 69) (T 70)),Z 72 (.ld 1 false (T 71)),Zm 73 0,Zm 74 9,Z 75 (.ia 1 (T 73) (T 74)),Z 76 (.ld 1 false (T 75)),Z 77 (.ia 1 (T 65) (T 66)),(.mk none (.st 1 (T 77) (T 72)) none,[]),Z 78 (.ia 1 (T 67) (T 68)),(.mk none (.st 1 (T 78) (T 76)) none,[])]) (.seq (.reg [Zm 79 9,Z 80 (.bin .add (T 79) (I 1)),Zm 9 80]) (.reg [Zm 81 10,Z 82 (.bin .sub (T 81) (I 1)),Zm 10 82]))))))))) (.seq (.reg [Zm 83 9,Zm 8 83]) .ret))))) [.tmp 8]
theorem c257 : compF Tryz.prog Tryz.f257 = some F257:=by kernel_rfl
theorem t257 : TT 257 F257:=tt Tryz.func257 c257
def F258 : AFun:=.mk 168 (.seq (.reg [Z 8 (.mv (I 0)),Z 9 (.mv (.cs (.bool false)))]) (.seq (.reg [Zm 12 0,Zm 13 1,Zm 14 0,Zm 15 3,Zm 16 0,Zm 17 3,Z 18 (.ia 1 (T 16) (T 17)),Z 19 (.ld 1 false (T 18)),Zm 20 0,Zm 21 1,Z 22 (.ia 1 (T 20) (T 21)),Z 23 (.ld 1 false (T 22)),Z 24 (.ia 1 (T 12) (T 13)),(.mk none (.st 1 (T 24) (T 19)) none,[]),Z 25 (.ia 1 (T 14) (T 15)),(.mk none (.st 1 (T 25) (T 23)) none,[])]) (.seq (.reg [Zm 26 1,Z 27 (.bin .add (T 26) (I 1)),Zm 28 2,Z 29 (.bin .sub (T 28) (I 1)),Zm 10 27,Zm 11 29]) (.seq (.block 0 (.loop (.seq (.seq (.seq (.reg [Zm 30 10,Zm 31 11,Z 32 (.bin .leq (T 30) (T 31)),Zm 33 32]) (.seq (.cond (T 33) (.reg [Zm 34 0,Zm 35 10,Z 36 (.ia 1 (T 34) (T 35)),Z 37 (.ld 1 false (T 36)),Zm 38 0,Zm 39 1,Z 40 (.ia 1 (T 38) (T 39)),Z 41 (.ld 1 false (T 40)),Z 42 (.call 256 [T 37,T 41])]) (ZP 34 9)) (.reg [Z 43 (.pick (T 33) (T 42) (.cs (.bool false)))]))) (.cond (T 43) .skip (.exit 0))) (.block 1 (.reg [Zm 44 10,Z 45 (.bin .add (T 44) (I 1)),Zm 10 45]))))) (.seq (.block 2 (.loop (.seq (.seq (.seq (.reg [Zm 46 10,Zm 47 11,Z 48 (.bin .leq (T 46) (T 47)),Zm 49 48]) (.seq (.cond (T 49) (.reg [Zm 50 0,Zm 51 11,Z 52 (.ia 1 (T 50) (T 51)),Z 53 (.ld 1 false (T 52)),Zm 54 0,Zm 55 1,Z 56 (.ia 1 (T 54) (T 55)),Z 57 (.ld 1 false (T 56)),Z 58 (.call 256 [T 53,T 57]),Z 59 (.un .not (T 58))]) (ZP 50 10)) (.reg [Z 60 (.pick (T 49) (T 59) (.cs (.bool false)))]))) (.cond (T 60) .skip (.exit 2))) (.block 3 (.reg [Zm 61 11,Z 62 (.bin .sub (T 61) (I 1)),Zm 11 62]))))) (.seq (.seq (.reg [Zm 63 10,Zm 64 11,Z 65 (.bin .gtr (T 63) (T 64))]) (.cond (T 65) (.seq (.reg [Zm 66 0,Zm 67 11,Zm 68 0,Zm 69 1,Zm 70 0,Zm 71 1,Z 72 (.ia 1 (T 70) (T 71)),Z 73 (.ld 1 false (T 72)),Zm 74 0,Zm 75 11,Z 76 (.ia 1 (T 74) (T 75)),Z 77 (.ld 1 false (T 76)),Z 78 (.ia 1 (T 66) (T 67)),(.mk none (.st 1 (T 78) (T 73)) none,[]),Z 79 (.ia 1 (T 68) (T 69)),(.mk none (.st 1 (T 79) (T 77)) none,[])]) (.seq (.reg [Zm 80 11,Zm 8 80,Z 9 (.mv (.cs (.bool true)))]) .ret)) .skip)) (.seq (.reg [Zm 81 0,Zm 82 10,Zm 83 0,Zm 84 11,Zm 85 0,Zm 86 11,Z 87 (.ia 1 (T 85) (T 86)),Z 88 (.ld 1 false (T 87)),Zm 89 0,Zm 90 10,Z 91 (.ia 1 (T 89) (T 90)),Z 92 (.ld 1 false (T 91)),Z 93 (.ia 1 (T 81) (T 82)),(.mk none (.st 1 (T 93) (T 88)) none,[]),Z 94 (.ia 1 (T 83) (T 84)),(.mk none (.st 1 (T 94) (T 92)) none,[])]) (.seq (.reg [Zm 95 10,Z 96 (.bin .add (T 95) (I 1)),Zm 10 96]) (.seq (.reg [Zm 97 11,Z 98 (.bin .sub (T 97) (I 1)),Zm 11 98]) (.seq (.block 4 (.loop (.block 5 (.seq (.block 6 (.loop (.seq (.seq (.seq (.reg [Zm 99 10,Zm 100 11,Z 101 (.bin .leq (T 99) (T 100)),Zm 102 101]) (.seq (.cond (T 102) (.reg [Zm 103 0,Zm 104 10,Z 105 (.ia 1 (T 103) (T 104)),Z 106 (.ld 1 false (T 105)),Zm 107 0,Zm 108 1,Z 109 (.ia 1 (T 107) (T 108)),Z 110 (.ld 1 false (T 109)),Z 111 (.call 256 [T 106,T 110])]) (ZP 103 9)) (.reg [Z 112 (.pick (T 102) (T 111) (.cs (.bool false)))]))) (.cond (T 112) .skip (.exit 6))) (.block 7 (.reg [Zm 113 10,Z 114 (.bin .add (T 113) (I 1)),Zm 10 114]))))) (.seq (.block 8 (.loop (.seq (.seq (.seq (.reg [Zm 115 10,Zm 116 11,Z 117 (.bin .leq (T 115) (T 116)),Zm 118 117]) (.seq (.cond (T 118) (.reg [Zm 119 0,Zm 120 11,Z 121 (.ia 1 (T 119) (T 120)),Z 122 (.ld 1 false (T 121)),Zm 123 0,Zm 124 1,Z 125 (.ia 1 (T 123) (T 124)),Z 126 (.ld 1 false (T 125)),Z 127 (.call 256 [T 122,T 126]),Z 128 (.un .not (T 127))]) (ZP 119 10)) (.reg [Z 129 (.pick (T 118) (T 128) (.cs (.bool false)))]))) (.cond (T 129) .skip (.exit 8))) (.block 9 (.reg [Zm 130 11,Z 131 (.bin .sub (T 130) (I 1)),Zm 11 131]))))) (.seq (.seq (.reg [Zm 132 10,Zm 133 11,Z 134 (.bin .gtr (T 132) (T 133))]) (.cond (T 134) (.exit 4) .skip)) (.seq (.reg [Zm 135 0,Zm 136 10,Zm 137 0,Zm 138 11,Zm 139 0,Zm 140 11,Z 141 (.ia 1 (T 139) (T 140)),Z 142 (.ld 1 false (T 141)),Zm 143 0,Zm 144 10,Z 145 (.ia 1 (T 143) (T 144)),Z 146 (.ld 1 false (T 145)),Z 147 (.ia 1 (T 135) (T 136)),(.mk none (.st 1 (T 147) (T 142)) none,[]),Z 148 (.ia 1 (T 137) (T 138)),(.mk none (.st 1 (T 148) (T 146)) none,[])]) (.seq (.reg [Zm 149 10,Z 150 (.bin .add (T 149) (I 1)),Zm 10 150]) (.reg [Zm 151 11,Z 152 (.bin .sub (T 151) (I 1)),Zm 11 152]))))))))) (.seq (.reg [Zm 153 0,Zm 154 11,Zm 155 0,Zm 156 1,Zm 157 0,Zm 158 1,Z 159 (.ia 1 (T 157) (T 158)),Z 160 (.ld 1 false (T 159)),Zm 161 0,Zm 162 11,Z 163 (.ia 1 (T 161) (T 162)),Z 164 (.ld 1 false (T 163)),Z 165 (.ia 1 (T 153) (T 154)),(.mk none (.st 1 (T 165) (T 160)) none,[]),Z 166 (.ia 1 (T 155) (T 156)),(.mk none (.st 1 (T 166) (T 164)) none,[])]) (.seq (.reg [Zm 167 11,Zm 8 167,Z 9 (.mv (.cs (.bool false)))]) .ret)))))))))))) [.tmp 8,.tmp 9]
theorem c258 : compF Tryz.prog Tryz.f258 = some F258:=by kernel_rfl
theorem t258 : TT 258 F258:=tt Tryz.func258 c258
def F260 : AFun:=.mk 10 (.reg [Zm 4 0,Zm 5 0,Z 6 (.lenL (T 5)),Zm 7 1,Z 8 (.bin .sub (T 6) (T 7)),Z 9 (.call 270 [T 4,T 8])]) []
theorem c260 : compF Tryz.prog Tryz.f260 = some F260:=by kernel_rfl
theorem t260 : TT 260 F260:=tt Tryz.func260 c260
def F261 : AFun:=.mk 8 (.seq (.reg [Z 2 (.mv (.cs .nils))]) (.seq (.seq (.reg [Zm 3 0,Z 4 (.eqn .sl false (T 3) (.cs .nils))]) (.cond (T 4) (.seq (.reg [Z 2 (.mv (.cs .nils))]) .ret) .skip)) (.seq (.reg [Z 5 (.bsl [.nilp] 0 []),Zm 6 0,Z 7 (.app 1 8 (T 5) (T 6)),Zm 2 7]) .ret))) [.tmp 2]
theorem c261 : compF Tryz.prog Tryz.f261 = some F261:=by kernel_rfl
theorem t261 : TT 261 F261:=tt Tryz.func261 c261
def F262 : AFun:=.mk 8 (.seq (.reg [Z 2 (.mv (.cs .nils))]) (.seq (.seq (.reg [Zm 3 0,Z 4 (.eqn .sl false (T 3) (.cs .nils))]) (.cond (T 4) (.seq (.reg [Z 2 (.mv (.cs .nils))]) .ret) .skip)) (.seq (.reg [Z 5 (.bsl [.nilp] 0 []),Zm 6 0,Z 7 (.app 1 8 (T 5) (T 6)),Zm 2 7]) .ret))) [.tmp 2]
theorem c262 : compF Tryz.prog Tryz.f262 = some F262:=by kernel_rfl
theorem t262 : TT 262 F262:=tt Tryz.func262 c262
def F264 : AFun:=.mk 10 (.reg [Zm 4 0,Zm 5 0,Z 6 (.lenL (T 5)),Zm 7 1,Z 8 (.bin .sub (T 6) (T 7)),Z 9 (.call 271 [T 4,T 8])]) []
theorem c264 : compF Tryz.prog Tryz.f264 = some F264:=by kernel_rfl
theorem t264 : TT 264 F264:=tt Tryz.func264 c264
def F265 : AFun:=.mk 32 (.seq (.reg [Z 10 (.mv (I 0)),Z 11 (.mv (I 0))]) (.seq (.seq (.reg [Zm 12 4,Zm 13 0,Zm 14 2,Z 15 (.ia 3 (T 13) (T 14)),Z 16 (.ld 3 true (T 15)),Zm 17 0,Zm 18 1,Z 19 (.ia 3 (T 17) (T 18)),Z 20 (.ld 3 true (T 19)),Z 21 (.callv (T 12) [T 16,T 20]),Z 22 (.bin .lss (T 21) (I 0))]) (.cond (T 22) (.seq (.reg [Zm 23 3,Z 24 (.nilck (T 23)),Z 25 (.ld 1 false (T 24)),Z 26 (.bin .add (T 25) (I 1)),Z 27 (.nilck (T 23)),(.mk none (.st 1 (T 27) (T 26)) none,[])]) (.seq (.reg [Zm 28 2,Zm 29 1,Zm 10 28,Zm 11 29]) .ret)) .skip)) (.seq (.reg [Zm 30 1,Zm 31 2,Zm 10 30,Zm 11 31]) .ret))) [.tmp 10,.tmp 11]
theorem c265 : compF Tryz.prog Tryz.f265 = some F265:=by kernel_rfl
theorem t265 : TT 265 F265:=tt Tryz.func265 c265
def F267 : AFun:=.mk 76 (.seq (.reg [Zm 10 1,Zm 8 10]) (.block 0 (.loop (.block 1 (.seq (.reg [Zm 11 8,Z 12 (.bin .mul (I 2) (T 11)),Z 13 (.bin .add (T 12) (I 1)),Zm 9 13]) (.seq (.seq (.reg [Zm 14 9,Zm 15 2,Z 16 (.bin .geq (T 14) (T 15))]) (.cond (T 16) (.exit 0) .skip)) (.seq (.seq (.seq (.reg [Zm 17 9,Z 18 (.bin .add (T 17) (I 1)),Zm 19 2,Z 20 (.bin .lss (T 18) (T 19)),Zm 21 20]) (.seq (.cond (T 21) (.reg [Zm 22 0,Zm 23 3,Zm 24 9,Z 25 (.bin .add (T 23) (T 24)),Z 26 (.ia 1 (T 22) (T 25)),Z 27 (.ld 1 false (T 26)),Zm 28 0,Zm 29 3,Zm 30 9,Z 31 (.bin .add (T 29) (T 30)),Z 32 (.bin .add (T 31) (I 1)),Z 33 (.ia 1 (T 28) (T 32)),Z 34 (.ld 1 false (T 33)),Z 35 (.call 256 [T 27,T 34])]) (ZP 22 14)) (.reg [Z 36 (.pick (T 21) (T 35) (.cs (.bool false)))]))) (.cond (T 36) (.reg [Zm 37 9,Z 38 (.bin .add (T 37) (I 1)),Zm 9 38]) .skip)) (.seq (.seq (.reg [Zm 39 0,Zm 40 3,Zm 41 8,Z 42 (.bin .add (T 40) (T 41)),Z 43 (.ia 1 (T 39) (T 42)),Z 44 (.ld 1 false (T 43)),Zm 45 0,Zm 46 3,Zm 47 9,Z 48 (.bin .add (T 46) (T 47)),Z 49 (.ia 1 (T 45) (T 48)),Z 50 (.ld 1 false (T 49)),Z 51 (.call 256 [T 44,T 50]),Z 52 (.un .not (T 51))]) (.cond (T 52) .ret .skip)) (.seq (.reg [Zm 53 0,Zm 54 3,Zm 55 8,Z 56 (.bin .add (T 54) (T 55)),Zm 57 0,Zm 58 3,Zm 59 9,Z 60 (.bin .add (T 58) (T 59)),Zm 61 0,Zm 62 3,Zm 63 9,Z 64 (.bin .add (T 62) (T 63)),Z 65 (.ia 1 (T 61) (T 64)),Z 66 (.ld 1 false (T 65)),Zm 67 0,Zm 68 3,Zm 69 8,Z 70 (.bin .add (T 68) (T 69)),Z 71 (.ia 1 (T 67) (T 70)),Z 72 (.ld 1 false (T 71)),Z 73 (.ia 1 (T 53) (T 56)),(.mk none (.st 1 (T 73) (T 66)) none,[]),Z 74 (.ia 1 (T 57) (T 60)),(.mk none (.st 1 (T 74) (T 72)) none,[])]) (.reg [Zm 75 9,Zm 8 75])))))))))) []
theorem c267 : compF Tryz.prog Tryz.f267 = some F267:=by kernel_rfl
theorem t267 : TT 267 F267:=tt Tryz.func267 c267
def F268 : AFun:=.mk 15 (.seq (.reg [Z 6 (.mv (I 0))]) (.seq (.reg [Zm 7 0,Zm 8 1,Z 9 (.bin .sub (T 8) (I 1)),Zm 10 1,Zm 11 1,Z 12 (.bin .add (T 11) (I 1)),Zm 13 2,Z 14 (.call 269 [T 7,T 9,T 10,T 12,T 13]),Zm 6 14]) .ret)) [.tmp 6]
theorem c268 : compF Tryz.prog Tryz.f268 = some F268:=by kernel_rfl
theorem t268 : TT 268 F268:=tt Tryz.func268 c268
def F269 : AFun:=.mk 36 (.seq (.reg [Z 10 (.mv (I 0))]) (.seq (.reg [Zm 12 0,Zm 13 1,Zm 14 2,Zm 15 4,Z 16 (.call 272 [T 12,T 13,T 14,T 15]),Zm 11 16,Z 17 (.ext 0 (T 11)),Z 18 (.ext 1 (T 11)),Zm 1 17,Zm 2 18]) (.seq (.reg [Zm 20 0,Zm 21 2,Zm 22 3,Zm 23 4,Z 24 (.call 272 [T 20,T 21,T 22,T 23]),Zm 19 24,Z 25 (.ext 0 (T 19)),Z 26 (.ext 1 (T 19)),Zm 2 25,Zm 3 26]) (.seq (.reg [Zm 28 0,Zm 29 1,Zm 30 2,Zm 31 4,Z 32 (.call 272 [T 28,T 29,T 30,T 31]),Zm 27 32,Z 33 (.ext 0 (T 27)),Z 34 (.ext 1 (T 27)),Zm 1 33,Zm 2 34]) (.seq (.reg [Zm 35 2,Zm 10 35]) .ret))))) [.tmp 10]
theorem c269 : compF Tryz.prog Tryz.f269 = some F269:=by kernel_rfl
theorem t269 : TT 269 F269:=tt Tryz.func269 c269
def F270 : AFun:=.mk 14 (.seq (.reg [Zm 4 0,Zm 5 1,Z 6 (.slcL 1 (T 4) none (.some (T 5))),Z 7 (.call 273 [T 6])]) (.seq (.reg [Zm 8 0,Zm 9 1,Z 10 (.slcL 1 (T 8) (.some (T 9)) none),Z 11 (.call 273 [T 10])]) (.reg [Zm 12 0,Z 13 (.call 273 [T 12])]))) []
theorem c270 : compF Tryz.prog Tryz.f270 = some F270:=by kernel_rfl
theorem t270 : TT 270 F270:=tt Tryz.func270 c270
def F271 : AFun:=.mk 14 (.seq (.reg [Zm 4 0,Zm 5 1,Z 6 (.slcL 1 (T 4) none (.some (T 5))),Z 7 (.call 274 [T 6])]) (.seq (.reg [Zm 8 0,Zm 9 1,Z 10 (.slcL 1 (T 8) (.some (T 9)) none),Z 11 (.call 274 [T 10])]) (.reg [Zm 12 0,Z 13 (.call 274 [T 12])]))) []
theorem c271 : compF Tryz.prog Tryz.f271 = some F271:=by kernel_rfl
theorem t271 : TT 271 F271:=tt Tryz.func271 c271
def F272 : AFun:=.mk 28 (.seq (.reg [Z 8 (.mv (I 0)),Z 9 (.mv (I 0))]) (.seq (.seq (.reg [Zm 10 0,Zm 11 2,Z 12 (.ia 1 (T 10) (T 11)),Z 13 (.ld 1 false (T 12)),Zm 14 0,Zm 15 1,Z 16 (.ia 1 (T 14) (T 15)),Z 17 (.ld 1 false (T 16)),Z 18 (.call 256 [T 13,T 17])]) (.cond (T 18) (.seq (.reg [Zm 19 3,Z 20 (.nilck (T 19)),Z 21 (.ld 1 false (T 20)),Z 22 (.bin .add (T 21) (I 1)),Z 23 (.nilck (T 19)),(.mk none (.st 1 (T 23) (T 22)) none,[])]) (.seq (.reg [Zm 24 2,Zm 25 1,Zm 8 24,Zm 9 25]) .ret)) .skip)) (.seq (.reg [Zm 26 1,Zm 27 2,Zm 8 26,Zm 9 27]) .ret))) [.tmp 8,.tmp 9]
theorem c272 : compF Tryz.prog Tryz.f272 = some F272:=by kernel_rfl
theorem t272 : TT 272 F272:=tt Tryz.func272 c272
def F273 : AFun:=.mk 28 (.seq (.reg [Zm 4 0,Z 5 (.lenL (T 4)),Z 6 (.bin .sub (T 5) (I 1)),Z 2 (.mv (I 0)),Zm 3 6]) (.block 0 (.loop (.seq (.seq (.reg [Zm 7 2,Zm 8 3,Z 9 (.bin .lss (T 7) (T 8))]) (.cond (T 9) .skip (.exit 0))) (.seq (.block 1 (.reg [Zm 14 0,Zm 15 2,Zm 16 0,Zm 17 3,Zm 18 0,Zm 19 3,Z 20 (.ia 1 (T 18) (T 19)),Z 21 (.ld 1 false (T 20)),Zm 22 0,Zm 23 2,Z 24 (.ia 1 (T 22) (T 23)),Z 25 (.ld 1 false (T 24)),Z 26 (.ia 1 (T 14) (T 15)),(.mk none (.st 1 (T 26) (T 21)) none,[]),Z 27 (.ia 1 (T 16) (T 17)),(.mk none (.st 1 (T 27) (T 25)) none,[])])) (.reg [Zm 10 2,Z 11 (.bin .add (T 10) (I 1)),Zm 12 3,Z 13 (.bin .sub (T 12) (I 1)),Zm 2 11,Zm 3 13])))))) []
theorem c273 : compF Tryz.prog Tryz.f273 = some F273:=by kernel_rfl
theorem t273 : TT 273 F273:=tt Tryz.func273 c273
def F274 : AFun:=.mk 28 (.seq (.reg [Zm 4 0,Z 5 (.lenL (T 4)),Z 6 (.bin .sub (T 5) (I 1)),Z 2 (.mv (I 0)),Zm 3 6]) (.block 0 (.loop (.seq (.seq (.reg [Zm 7 2,Zm 8 3,Z 9 (.bin .lss (T 7) (T 8))]) (.cond (T 9) .skip (.exit 0))) (.seq (.block 1 (.reg [Zm 14 0,Zm 15 2,Zm 16 0,Zm 17 3,Zm 18 0,Zm 19 3,Z 20 (.ia 1 (T 18) (T 19)),Z 21 (.ld 1 false (T 20)),Zm 22 0,Zm 23 2,Z 24 (.ia 1 (T 22) (T 23)),Z 25 (.ld 1 false (T 24)),Z 26 (.ia 1 (T 14) (T 15)),(.mk none (.st 1 (T 26) (T 21)) none,[]),Z 27 (.ia 1 (T 16) (T 17)),(.mk none (.st 1 (T 27) (T 25)) none,[])])) (.reg [Zm 10 2,Z 11 (.bin .add (T 10) (I 1)),Zm 12 3,Z 13 (.bin .sub (T 12) (I 1)),Zm 2 11,Zm 3 13])))))) []
theorem c274 : compF Tryz.prog Tryz.f274 = some F274:=by kernel_rfl
theorem t274 : TT 274 F274:=tt Tryz.func274 c274
def F294 : AFun:=.mk 6 (.seq (.reg [Z 1 (.box (T 0)),Z 2 (.mv (.cs (.str [])))]) (.seq (.reg [Z 3 (.fa 0 (T 1)),Z 4 (.fa 0 (T 3)),Z 5 (.ld 1 false (T 4)),Zm 2 5]) .ret)) [.tmp 2]
theorem c294 : compF Tryz.prog Tryz.f294 = some F294:=by kernel_rfl
theorem t294 : TT 294 F294:=tt Tryz.func294 c294
def F295 : AFun:=.mk 5 (.seq (.reg [Z 1 (.box (T 0)),Z 2 (.mv (.cs (.str [])))]) (.seq (.reg [Z 3 (.fa 0 (T 1)),Z 4 (.ld 1 false (T 3)),Zm 2 4]) .ret)) [.tmp 2]
theorem c295 : compF Tryz.prog Tryz.f295 = some F295:=by kernel_rfl
theorem t295 : TT 295 F295:=tt Tryz.func295 c295
def F153 : AFun:=.mk 48 (.seq (.reg [Z 4 (.mv (.cs .nils))]) (.seq (.seq (.reg [Zm 9 1,Z 10 (.bin .lss (T 9) (I 0))]) (.cond (T 10) (.reg [Z 11 (.mkif 9 (.cs (.str [99,97,110,110,111,116,32,98,101,32,110,101,103,97,116,105,118,101]))),(.mk none (.nilck (.cs .nilp)) none,[])]) .skip)) (.seq (.reg [Zm 13 0,Z 14 (.lenL (T 13)),Z 15 (.cvi .u64 (T 14)),Zm 16 1,Z 17 (.cvi .u64 (T 16)),Z 18 (.call 194 [T 15,T 17]),Zm 12 18,Z 19 (.ext 0 (T 12)),Z 20 (.ext 1 (T 12)),Zm 5 19,Zm 6 20]) (.seq (.seq (.seq (.reg [Zm 21 5,Z 22 (.bin .gtr (T 21) (.cs (.int .u64 0))),Zm 23 22]) (.seq (.cond (T 23) (ZP 24 2) (.reg [Zm 24 6,Z 25 (.bin .gtr (T 24) (.cs (.int .u64 9223372036854775807)))])) (.reg [Z 26 (.pick (T 23) (.cs (.bool true)) (T 25))]))) (.cond (T 26) (.reg [Z 27 (.mkif 9 (.cs (.str [116,104,101,32,114,101,115,117,108,116,32,111,102,32,40,108,101,110,40,120,41,32,42,32,99,111,117,110,116,41,32,111,118,101,114,102,108,111,119,115]))),(.mk none (.nilck (.cs .nilp)) none,[])]) .skip)) (.seq (.reg [Zm 28 6,Z 29 (.cvi .i64 (T 28)),Z 30 (.msl 1 [.int .u8 0] (T 29) (T 29)),Zm 7 30]) (.seq (.reg [Zm 31 7,Zm 32 0,Z 33 (.cp 1 (T 31) (T 32)),Zm 8 33]) (.seq (.block 0 (.loop (.seq (.seq (.reg [Zm 34 8,Zm 35 7,Z 36 (.lenL (T 35)),Z 37 (.bin .lss (T 34) (T 36))]) (.cond (T 37) .skip (.exit 0))) (.block 1 (.reg [Zm 38 8,Zm 39 7,Zm 40 8,Z 41 (.slcL 1 (T 39) (.some (T 40)) none),Zm 42 7,Zm 43 8,Z 44 (.slcL 1 (T 42) none (.some (T 43))),Z 45 (.cp 1 (T 41) (T 44)),Z 46 (.bin .add (T 38) (T 45)),Zm 8 46]))))) (.seq (.reg [Zm 47 7,Zm 4 47]) .ret)))))))) [.tmp 4]
theorem c153 : compF Tryz.prog Tryz.f153 = some F153:=by kernel_rfl
theorem t153 : TT 153 F153:=tt Tryz.func153 c153
end Go.Proofs.YtmhbnkjajkcmkaaGreat
/- slices: insertion sort. -/
set_option maxRecDepth 10000
namespace Go.Proofs.YtmhbnkjajkcmkaaGreat
open Go.Hz Go.Sort
section
variable {h:Hp} {F:List Asr} {G:List AV → Prop} {lt:List AV → List AV → Bool}
theorem ins_L {fc:Nat} {caps:List AV} (hf : okFn Tryz.prog fc = true) (hc:CmpT Tryz.prog true G lt fc caps) (E:GoodE 3 true G) {d:Array (List AV)} {a bb b cap : Nat} (hs : sat h (pto b (.row 3 d.toList cap) :: F)) (hg:GA G d) (ha : a ≤ bb) (hb : bb ≤ d.size) (hsz : d.size ≤ 1000000000000) :
  Triple Tryz.prog 219 [.arr b 3 0 d.size cap,.int .i64 a,.int .i64 bb,.fn fc caps] h (fun r h => GA G (insertionSort lt d a bb)∧(insertionSort lt d a bb).size = d.size∧sat h (pto b (.row 3 (insertionSort lt d a bb).toList cap) :: F)):=by
 refine t219 (Nat.le_of_ble_eq_true rfl) ?_
 simp (disch:=omega) only [F219,go_sem,simprocAttr]
 refine run_loopN (fun n e h => ∃ (i:Nat) (d' : Array (List AV)),n = bb + 1 - i∧a + 1 ≤ i∧i ≤ bb + 1∧insOuter lt a bb i d' = insertionSort lt d a bb∧GA G d'∧d'.size = d.size∧sat h (pto b (.row 3 d'.toList cap) :: F) ∧
  (e 0 = .arr b 3 0 d.size cap∧e 1 = .int .i64 a∧e 2 = .int .i64 bb∧e 3 = .fn fc caps∧e 8 = .int .i64 i)) (bb + 1 - (a + 1)) ⟨a + 1,d,rfl,Nat.le_refl _,by omega,rfl,hg,rfl,hs,rfl,rfl,rfl,rfl,rfl⟩ ?_
 rintro n e h ⟨i,d',rfl,hi1,hi2,hI,hg',hz',hs,he⟩
 simp (disch:=omega) only [go_sem,simprocAttr,he]
 refine cnd_dec (fun hlt => ?_) (fun hge => ?_)
 ·simp (disch:=omega) only [go_sem,simprocAttr,he]
  refine blk_join (Q:=fun e h => ∃ d2 : Array (List AV),d2 = insInner lt a i d'∧GA G d2∧d2.size = d.size∧sat h (pto b (.row 3 d2.toList cap) :: F) ∧
   (e 0 = .arr b 3 0 d.size cap∧e 1 = .int .i64 a∧e 2 = .int .i64 bb∧e 3 = .fn fc caps∧e 8 = .int .i64 i)) ?_ ?_
  ·refine run_loopN (fun n e h => ∃ (j:Nat) (d2:Array (List AV)),n = j∧j ≤ i∧insInner lt a j d2 = insInner lt a i d'∧GA G d2∧d2.size = d.size∧sat h (pto b (.row 3 d2.toList cap) :: F) ∧
    (e 0 = .arr b 3 0 d.size cap∧e 1 = .int .i64 a∧e 2 = .int .i64 bb∧e 3 = .fn fc caps∧e 8 = .int .i64 i∧e 9 = .int .i64 j)) i ⟨i,d',rfl,Nat.le_refl _,rfl,hg',hz',hs,?_⟩ ?_
   ·simp only [Env.upd_apply,he,and_self,reduceIte,Nat.reduceEqDiff]
   ·rintro j e h ⟨_,d2,rfl,hj,hJ,hg2,hz2,hs,he⟩
    simp (disch:=omega) only [go_sem,simprocAttr,he]
    refine cnd_dec (fun hgt => ?_) (fun hle => ?_)
    ·obtain ⟨j,rfl⟩ : ∃ k,j = k + 1:=⟨j - 1,by omega⟩
     have hm : ((j + 1 : Nat) : Int) - 1 = (j:Int):=by omega
     have r1:=rd_c E hg2 (i:=j + 1) (by omega)
     have r2:=rd_c E hg2 (i:=j) (by omega)
     simp (disch:=omega) only [go_sem,simprocAttr,he,hm,hs.at,r1,r2]
     refine callv_use hf (hc _ _ _ _ (hg2 _ (by omega)) (hg2 _ (by omega)) hs) ?_
     rintro r h ⟨c,hr,hcl,hs⟩
     subst hr
     simp (disch:=omega) only [go_sem,simprocAttr,he,hm,hgt,hcl]
     have hst : insInner lt a (j + 1) d2 = if lt d2[j + 1]! d2[j]! = true then insInner lt a j (swp d2 (j + 1) j) else d2:=by
      rw [insInner]; simp only [show (j + 1 > a) from by omega,decide_true,Bool.true_and]
     cases hq : lt d2[j + 1]! d2[j]!
     ·simp (disch:=omega) only [go_sem,simprocAttr,he]
      refine ⟨d2,?_,hg2,hz2,hs⟩
      rw [← hJ,hst,hq]; rfl
     ·simp (disch:=omega) only [go_sem,simprocAttr,he]
      obtain ⟨k1,k2,k3,k4,k5,k6,k7,k8,k9,k10,k11,⟨ky,y1,y2,y3,y4⟩,hw⟩:=sw_c E hg2 (i:=j + 1) (j:=j) (by omega) (by omega)
      simp (disch:=omega) only [go_sem,simprocAttr,he,hm,hs.at,k1,k2,k3,k4,k5,k6,k7,k8,k9,k10,k11,y1,y2,y3,y4,hw]
      refine ⟨j,by omega,j,swp d2 (j + 1) j,rfl,by omega,?_,hg2.swp (by omega) (by omega),by rw [Go.Sort.swp_size]; exact hz2,hs.set,rfl⟩
      rw [← hJ,hst,hq]; rfl
    ·simp (disch:=omega) only [go_sem,simprocAttr,he,hle]
     refine ⟨d2,?_,hg2,hz2,hs⟩
     rw [← hJ]
     cases j with
     | zero => rw [insInner]
     | succ j => rw [insInner,if_neg]; simp; omega
  ·rintro e h ⟨d2,hd2,hg2,hz2,hs,he⟩
   simp (disch:=omega) only [go_sem,simprocAttr,he]
   refine ⟨_,?_,i + 1,d2,rfl,by omega,by omega,?_,hg2,hz2,hs,rfl⟩
   ·omega
   ·rw [← hI,insOuter.eq_1 lt a bb i,if_pos (by omega),hd2]
 ·simp (disch:=omega) only [go_sem,simprocAttr,he]
  rw [insOuter,if_neg (by omega)] at hI
  subst hI
  exact ⟨hg',hz',hs⟩
theorem ins_S (hc:LessT Tryz.prog false G lt 256) (E:GoodE 1 false G) {d:Array (List AV)} {a bb b cap : Nat} (hs : sat h (pto b (.row 1 d.toList cap) :: F)) (hg:GA G d) (ha : a ≤ bb) (hb : bb ≤ d.size) (hsz : d.size ≤ 1000000000000) :
  Triple Tryz.prog 250 [.arr b 1 0 d.size cap,.int .i64 a,.int .i64 bb] h (fun r h => GA G (insertionSort lt d a bb)∧(insertionSort lt d a bb).size = d.size∧sat h (pto b (.row 1 (insertionSort lt d a bb).toList cap) :: F)):=by
 refine t250 (Nat.le_of_ble_eq_true rfl) ?_
 simp (disch:=omega) only [F250,go_sem,simprocAttr]
 refine run_loopN (fun n e h => ∃ (i:Nat) (d' : Array (List AV)),n = bb + 1 - i∧a + 1 ≤ i∧i ≤ bb + 1∧insOuter lt a bb i d' = insertionSort lt d a bb∧GA G d'∧d'.size = d.size∧sat h (pto b (.row 1 d'.toList cap) :: F) ∧
  (e 0 = .arr b 1 0 d.size cap∧e 1 = .int .i64 a∧e 2 = .int .i64 bb∧e 6 = .int .i64 i)) (bb + 1 - (a + 1)) ⟨a + 1,d,rfl,Nat.le_refl _,by omega,rfl,hg,rfl,hs,rfl,rfl,rfl,rfl⟩ ?_
 rintro n e h ⟨i,d',rfl,hi1,hi2,hI,hg',hz',hs,he⟩
 simp (disch:=omega) only [go_sem,simprocAttr,he]
 refine cnd_dec (fun hlt => ?_) (fun hge => ?_)
 ·simp (disch:=omega) only [go_sem,simprocAttr,he]
  refine blk_join (Q:=fun e h => ∃ d2 : Array (List AV),d2 = insInner lt a i d'∧GA G d2∧d2.size = d.size∧sat h (pto b (.row 1 d2.toList cap) :: F) ∧
   (e 0 = .arr b 1 0 d.size cap∧e 1 = .int .i64 a∧e 2 = .int .i64 bb∧e 6 = .int .i64 i)) ?_ ?_
  ·refine run_loopN (fun n e h => ∃ (j:Nat) (d2:Array (List AV)),n = j∧j ≤ i∧insInner lt a j d2 = insInner lt a i d'∧GA G d2∧d2.size = d.size∧sat h (pto b (.row 1 d2.toList cap) :: F) ∧
    (e 0 = .arr b 1 0 d.size cap∧e 1 = .int .i64 a∧e 2 = .int .i64 bb∧e 6 = .int .i64 i∧e 7 = .int .i64 j)) i ⟨i,d',rfl,Nat.le_refl _,rfl,hg',hz',hs,?_⟩ ?_
   ·simp only [Env.upd_apply,he,and_self,reduceIte,Nat.reduceEqDiff]
   ·rintro j e h ⟨_,d2,rfl,hj,hJ,hg2,hz2,hs,he⟩
    simp (disch:=omega) only [go_sem,simprocAttr,he]
    refine cnd_dec (fun hgt => ?_) (fun hle => ?_)
    ·obtain ⟨j,rfl⟩ : ∃ k,j = k + 1:=⟨j - 1,by omega⟩
     have hm : ((j + 1 : Nat) : Int) - 1 = (j:Int):=by omega
     have r1:=rd_o E hg2 (i:=j + 1) (by omega)
     have r2:=rd_o E hg2 (i:=j) (by omega)
     simp (disch:=omega) only [go_sem,simprocAttr,he,hm,hs.at,r1,r2]
     refine call_use (hc _ _ _ _ (hg2 _ (by omega)) (hg2 _ (by omega)) hs) ?_
     rintro r h ⟨hr,hs⟩
     subst hr
     simp (disch:=omega) only [go_sem,simprocAttr,he,hm,hgt]
     have hst : insInner lt a (j + 1) d2 = if lt d2[j + 1]! d2[j]! = true then insInner lt a j (swp d2 (j + 1) j) else d2:=by
      rw [insInner]; simp only [show (j + 1 > a) from by omega,decide_true,Bool.true_and]
     cases hq : lt d2[j + 1]! d2[j]!
     ·simp (disch:=omega) only [go_sem,simprocAttr,he]
      refine ⟨d2,?_,hg2,hz2,hs⟩
      rw [← hJ,hst,hq]; rfl
     ·simp (disch:=omega) only [go_sem,simprocAttr,he]
      obtain ⟨k1,k2,k3,k4,k5,k6,k7,k8,k9,k10,k11,⟨ky,y1,y2,y3,y4⟩,hw⟩:=sw_o E hg2 (i:=j + 1) (j:=j) (by omega) (by omega)
      simp (disch:=omega) only [go_sem,simprocAttr,he,hm,hs.at,k1,k2,k3,k4,k5,k6,k7,k8,k9,k10,k11,y1,y2,y3,y4,hw]
      refine ⟨j,by omega,j,swp d2 (j + 1) j,rfl,by omega,?_,hg2.swp (by omega) (by omega),by rw [Go.Sort.swp_size]; exact hz2,hs.set,rfl⟩
      rw [← hJ,hst,hq]; rfl
    ·simp (disch:=omega) only [go_sem,simprocAttr,he,hle]
     refine ⟨d2,?_,hg2,hz2,hs⟩
     rw [← hJ]
     cases j with
     | zero => rw [insInner]
     | succ j => rw [insInner,if_neg]; simp; omega
  ·rintro e h ⟨d2,hd2,hg2,hz2,hs,he⟩
   simp (disch:=omega) only [go_sem,simprocAttr,he]
   refine ⟨_,?_,i + 1,d2,rfl,by omega,by omega,?_,hg2,hz2,hs,rfl⟩
   ·omega
   ·rw [← hI,insOuter.eq_1 lt a bb i,if_pos (by omega),hd2]
 ·simp (disch:=omega) only [go_sem,simprocAttr,he]
  rw [insOuter,if_neg (by omega)] at hI
  subst hI
  exact ⟨hg',hz',hs⟩
theorem sift_step {α:Type} [Inhabited α] {lt : α → α → Bool} {hi first root : Nat} {d:Array α} (h : 2 * root + 1 < hi) {w:Bool} (hw : w = (decide (2 * root + 1 + 1 < hi) && lt d[first + (2 * root + 1)]! d[first + (2 * root + 1) + 1]!)) {c:Nat} (hc : c = if w = true then 2 * root + 2 else 2 * root + 1) :
  siftDown lt hi first root d = if lt d[first + root]! d[first + c]! = true then siftDown lt hi first c (swp d (first + root) (first + c)) else d:=by
 rw [siftDown,dif_neg (by omega)]
 cases w with
 | true =>
  simp only [if_true] at hc
  rw [← hw,if_pos rfl,← hc,dif_pos (by have:=hw; simp at this; omega)]
  cases lt d[first + root]! d[first + c]! <;> rfl
 | false =>
  simp only [Bool.false_eq_true,if_false] at hc
  rw [← hw,if_neg (by simp),← hc]
  cases lt d[first + root]! d[first + c]! <;> rfl
theorem sift_L {fc:Nat} {caps:List AV} (hf : okFn Tryz.prog fc = true) (hc:CmpT Tryz.prog true G lt fc caps) (E:GoodE 3 true G) {d:Array (List AV)} {root hi first b cap : Nat} (hs : sat h (pto b (.row 3 d.toList cap) :: F)) (hg:GA G d) (hr : root ≤ hi) (hb : first + hi ≤ d.size) (hsz : d.size ≤ 1000000000000) :
  Triple Tryz.prog 242 [.arr b 3 0 d.size cap,.int .i64 root,.int .i64 hi,.int .i64 first,.fn fc caps] h (fun r h => GA G (siftDown lt hi first root d)∧(siftDown lt hi first root d).size = d.size∧sat h (pto b (.row 3 (siftDown lt hi first root d).toList cap) :: F)):=by
 refine t242 (Nat.le_of_ble_eq_true rfl) ?_
 simp (disch:=omega) only [F242,go_sem,simprocAttr]
 refine run_loopN (fun n e h => ∃ (i:Nat) (d' : Array (List AV)),n = hi - i∧i ≤ hi∧siftDown lt hi first i d' = siftDown lt hi first root d∧GA G d'∧d'.size = d.size∧sat h (pto b (.row 3 d'.toList cap) :: F) ∧
  (e 0 = .arr b 3 0 d.size cap∧e 2 = .int .i64 hi∧e 3 = .int .i64 first∧e 4 = .fn fc caps∧e 10 = .int .i64 i)) (hi - root) ⟨root,d,rfl,hr,rfl,hg,rfl,hs,rfl,rfl,rfl,rfl,rfl⟩ ?_
 rintro n e h ⟨i,d',rfl,hi1,hI,hg',hz',hs,he⟩
 have n1 : (2:Int) * i + 1 = ((2 * i + 1 : Nat) : Int):=by omega
 simp (disch:=omega) only [go_sem,simprocAttr,he,n1]
 refine cnd_dec (fun hge => ?_) (fun hlt => ?_)
 ·simp (disch:=omega) only [go_sem,simprocAttr,he]
  rw [siftDown,dif_pos (by omega)] at hI
  subst hI
  exact ⟨hg',hz',hs⟩
 ·have n2 : ((2 * i + 1 : Nat) : Int) + 1 = ((2 * i + 2 : Nat) : Int):=by omega
  simp (disch:=omega) only [go_sem,simprocAttr,he,n1,n2]
  obtain ⟨w,hw⟩ : ∃ w,w = (decide (2 * i + 1 + 1 < hi) && lt d'[first + (2 * i + 1)]! d'[first + (2 * i + 1) + 1]!):=⟨_,rfl⟩
  obtain ⟨c',hc'⟩ : ∃ c',c' = if w = true then 2 * i + 2 else 2 * i + 1:=⟨_,rfl⟩
  refine cnd_join (Q:=fun e' h' => ∃ (q:Bool) (v:AV),(if q = true then v else AV.bool false) = .bool w∧sat h' (pto b (.row 3 d'.toList cap) :: F) ∧
   (e' 23 = .bool q∧e' 39 = v∧e' 0 = .arr b 3 0 d.size cap∧e' 2 = .int .i64 hi∧e' 3 = .int .i64 first∧e' 4 = .fn fc caps∧e' 10 = .int .i64 i∧e' 11 = .int .i64 (2 * i + 1 : Nat))) ?_ ?_
  ·refine cnd_dec (fun h1 => ?_) (fun h1 => ?_)
   ·have m1 : (first:Int) + ((2 * i + 1 : Nat) : Int) = ((first + (2 * i + 1) : Nat) : Int):=by omega
    have m2 : ((first + (2 * i + 1) : Nat) : Int) + 1 = ((first + (2 * i + 1) + 1 : Nat) : Int):=by omega
    have r1:=rd_c E hg' (i:=first + (2 * i + 1)) (by omega)
    have r2:=rd_c E hg' (i:=first + (2 * i + 1) + 1) (by omega)
    simp (disch:=omega) only [go_sem,simprocAttr,he,hs.at,r1,r2,m1,m2,h1,n1]
    refine callv_use hf (hc _ _ _ _ (hg' _ (by omega)) (hg' _ (by omega)) hs) ?_
    rintro r h ⟨c,hr,hcl,hs⟩
    subst hr
    simp (disch:=omega) only [go_sem,simprocAttr,he,h1,n1,hcl]
    refine ⟨_,_,?_,hs,rfl,rfl⟩
    rw [if_pos rfl,hw,decide_eq_true (show 2 * i + 1 + 1 < hi from by omega),Bool.true_and]
   ·simp (disch:=omega) only [go_sem,simprocAttr,he,h1,n1]
    refine ⟨_,_,?_,hs,rfl,rfl⟩
    rw [if_neg (by simp),hw,decide_eq_false (show ¬ 2 * i + 1 + 1 < hi from by omega),Bool.false_and]
  ·rintro e h ⟨q,v,hq,hs,he⟩
   simp (disch:=omega) only [go_sem,simprocAttr,he,hq]
   refine cnd_join (Q:=fun e' h' => sat h' (pto b (.row 3 d'.toList cap) :: F) ∧
    (e' 0 = .arr b 3 0 d.size cap∧e' 2 = .int .i64 hi∧e' 3 = .int .i64 first∧e' 4 = .fn fc caps∧e' 10 = .int .i64 i∧e' 11 = .int .i64 c')) ?_ ?_
   ·cases w with
    | true =>
     rw [if_pos rfl] at hc'
     have n2 : ((2 * i + 1 : Nat) : Int) + 1 = (c' : Int):=by omega
     have : c' < hi:=by simp at hw; omega
     simp (disch:=omega) only [go_sem,simprocAttr,he,n2]
     exact hs
    | false =>
     rw [if_neg (by simp)] at hc'
     subst hc'
     simp (disch:=omega) only [go_sem,simprocAttr,he]
     exact hs
   ·have hch : c' < hi:=by
     cases w with
     | true => rw [if_pos rfl] at hc'; simp at hw; omega
     | false => rw [if_neg (by simp)] at hc'; omega
    have hci : i < c':=by
     cases w with
     | true => rw [if_pos rfl] at hc'; omega
     | false => rw [if_neg (by simp)] at hc'; omega
    have hst:=sift_step (d:=d') (lt:=lt) (first:=first) (root:=i) (by omega) hw hc'
    rintro e h ⟨hs,he⟩
    have m1 : (first:Int) + (i:Int) = ((first + i : Nat) : Int):=by omega
    have m2 : (first:Int) + (c' : Int) = ((first + c' : Nat) : Int):=by omega
    have r1:=rd_c E hg' (i:=first + i) (by omega)
    have r2:=rd_c E hg' (i:=first + c') (by omega)
    simp (disch:=omega) only [go_sem,simprocAttr,he,hs.at,r1,r2,m1,m2]
    refine callv_use hf (hc _ _ _ _ (hg' _ (by omega)) (hg' _ (by omega)) hs) ?_
    rintro r h ⟨c,hr,hcl,hs⟩
    subst hr
    simp (disch:=omega) only [go_sem,simprocAttr,he,hcl]
    cases hq : lt d'[first + i]! d'[first + c']!
    ·simp (disch:=omega) only [go_sem,simprocAttr,he]
     rw [← hI,hst,hq]
     exact ⟨hg',hz',hs⟩
    ·simp (disch:=omega) only [go_sem,simprocAttr,he]
     obtain ⟨k1,k2,k3,k4,k5,k6,k7,k8,k9,k10,k11,⟨ky,y1,y2,y3,y4⟩,hw⟩:=sw_c E hg' (i:=first + i) (j:=first + c') (by omega) (by omega)
     simp (disch:=omega) only [go_sem,simprocAttr,he,m1,m2,hs.at,k1,k2,k3,k4,k5,k6,k7,k8,k9,k10,k11,y1,y2,y3,y4,hw]
     refine ⟨hi - c',by omega,c',swp d' (first + i) (first + c'),rfl,by omega,?_,hg'.swp (by omega) (by omega),by rw [Go.Sort.swp_size]; exact hz',hs.set,rfl⟩
     rw [← hI,hst,hq]; rfl
theorem sift_S (hc:LessT Tryz.prog false G lt 256) (E:GoodE 1 false G) {d:Array (List AV)} {root hi first b cap : Nat} (hs : sat h (pto b (.row 1 d.toList cap) :: F)) (hg:GA G d) (hr : root ≤ hi) (hb : first + hi ≤ d.size) (hsz : d.size ≤ 1000000000000) :
  Triple Tryz.prog 267 [.arr b 1 0 d.size cap,.int .i64 root,.int .i64 hi,.int .i64 first] h (fun r h => GA G (siftDown lt hi first root d)∧(siftDown lt hi first root d).size = d.size∧sat h (pto b (.row 1 (siftDown lt hi first root d).toList cap) :: F)):=by
 refine t267 (Nat.le_of_ble_eq_true rfl) ?_
 simp (disch:=omega) only [F267,go_sem,simprocAttr]
 refine run_loopN (fun n e h => ∃ (i:Nat) (d' : Array (List AV)),n = hi - i∧i ≤ hi∧siftDown lt hi first i d' = siftDown lt hi first root d∧GA G d'∧d'.size = d.size∧sat h (pto b (.row 1 d'.toList cap) :: F) ∧
  (e 0 = .arr b 1 0 d.size cap∧e 2 = .int .i64 hi∧e 3 = .int .i64 first∧e 8 = .int .i64 i)) (hi - root) ⟨root,d,rfl,hr,rfl,hg,rfl,hs,rfl,rfl,rfl,rfl⟩ ?_
 rintro n e h ⟨i,d',rfl,hi1,hI,hg',hz',hs,he⟩
 have n1 : (2:Int) * i + 1 = ((2 * i + 1 : Nat) : Int):=by omega
 simp (disch:=omega) only [go_sem,simprocAttr,he,n1]
 refine cnd_dec (fun hge => ?_) (fun hlt => ?_)
 ·simp (disch:=omega) only [go_sem,simprocAttr,he]
  rw [siftDown,dif_pos (by omega)] at hI
  subst hI
  exact ⟨hg',hz',hs⟩
 ·have n2 : ((2 * i + 1 : Nat) : Int) + 1 = ((2 * i + 2 : Nat) : Int):=by omega
  simp (disch:=omega) only [go_sem,simprocAttr,he,n1,n2]
  obtain ⟨w,hw⟩ : ∃ w,w = (decide (2 * i + 1 + 1 < hi) && lt d'[first + (2 * i + 1)]! d'[first + (2 * i + 1) + 1]!):=⟨_,rfl⟩
  obtain ⟨c',hc'⟩ : ∃ c',c' = if w = true then 2 * i + 2 else 2 * i + 1:=⟨_,rfl⟩
  refine cnd_join (Q:=fun e' h' => ∃ (q:Bool) (v:AV),(if q = true then v else AV.bool false) = .bool w∧sat h' (pto b (.row 1 d'.toList cap) :: F) ∧
   (e' 21 = .bool q∧e' 35 = v∧e' 0 = .arr b 1 0 d.size cap∧e' 2 = .int .i64 hi∧e' 3 = .int .i64 first∧e' 8 = .int .i64 i∧e' 9 = .int .i64 (2 * i + 1 : Nat))) ?_ ?_
  ·refine cnd_dec (fun h1 => ?_) (fun h1 => ?_)
   ·have m1 : (first:Int) + ((2 * i + 1 : Nat) : Int) = ((first + (2 * i + 1) : Nat) : Int):=by omega
    have m2 : ((first + (2 * i + 1) : Nat) : Int) + 1 = ((first + (2 * i + 1) + 1 : Nat) : Int):=by omega
    have r1:=rd_o E hg' (i:=first + (2 * i + 1)) (by omega)
    have r2:=rd_o E hg' (i:=first + (2 * i + 1) + 1) (by omega)
    simp (disch:=omega) only [go_sem,simprocAttr,he,hs.at,r1,r2,m1,m2,h1,n1]
    refine call_use (hc _ _ _ _ (hg' _ (by omega)) (hg' _ (by omega)) hs) ?_
    rintro r h ⟨hr,hs⟩
    subst hr
    simp (disch:=omega) only [go_sem,simprocAttr,he,h1,n1]
    refine ⟨_,_,?_,hs,rfl,rfl⟩
    rw [if_pos rfl,hw,decide_eq_true (show 2 * i + 1 + 1 < hi from by omega),Bool.true_and]
   ·simp (disch:=omega) only [go_sem,simprocAttr,he,h1,n1]
    refine ⟨_,_,?_,hs,rfl,rfl⟩
    rw [if_neg (by simp),hw,decide_eq_false (show ¬ 2 * i + 1 + 1 < hi from by omega),Bool.false_and]
  ·rintro e h ⟨q,v,hq,hs,he⟩
   simp (disch:=omega) only [go_sem,simprocAttr,he,hq]
   refine cnd_join (Q:=fun e' h' => sat h' (pto b (.row 1 d'.toList cap) :: F) ∧
    (e' 0 = .arr b 1 0 d.size cap∧e' 2 = .int .i64 hi∧e' 3 = .int .i64 first∧e' 8 = .int .i64 i∧e' 9 = .int .i64 c')) ?_ ?_
   ·cases w with
    | true =>
     rw [if_pos rfl] at hc'
     have n2 : ((2 * i + 1 : Nat) : Int) + 1 = (c' : Int):=by omega
     have : c' < hi:=by simp at hw; omega
     simp (disch:=omega) only [go_sem,simprocAttr,he,n2]
     exact hs
    | false =>
     rw [if_neg (by simp)] at hc'
     subst hc'
     simp (disch:=omega) only [go_sem,simprocAttr,he]
     exact hs
   ·have hch : c' < hi:=by
     cases w with
     | true => rw [if_pos rfl] at hc'; simp at hw; omega
     | false => rw [if_neg (by simp)] at hc'; omega
    have hci : i < c':=by
     cases w with
     | true => rw [if_pos rfl] at hc'; omega
     | false => rw [if_neg (by simp)] at hc'; omega
    have hst:=sift_step (d:=d') (lt:=lt) (first:=first) (root:=i) (by omega) hw hc'
    rintro e h ⟨hs,he⟩
    have m1 : (first:Int) + (i:Int) = ((first + i : Nat) : Int):=by omega
    have m2 : (first:Int) + (c' : Int) = ((first + c' : Nat) : Int):=by omega
    have r1:=rd_o E hg' (i:=first + i) (by omega)
    have r2:=rd_o E hg' (i:=first + c') (by omega)
    simp (disch:=omega) only [go_sem,simprocAttr,he,hs.at,r1,r2,m1,m2]
    refine call_use (hc _ _ _ _ (hg' _ (by omega)) (hg' _ (by omega)) hs) ?_
    rintro r h ⟨hr,hs⟩
    subst hr
    simp (disch:=omega) only [go_sem,simprocAttr,he]
    cases hq : lt d'[first + i]! d'[first + c']!
    ·simp (disch:=omega) only [go_sem,simprocAttr,he]
     rw [← hI,hst,hq]
     exact ⟨hg',hz',hs⟩
    ·simp (disch:=omega) only [go_sem,simprocAttr,he]
     obtain ⟨k1,k2,k3,k4,k5,k6,k7,k8,k9,k10,k11,⟨ky,y1,y2,y3,y4⟩,hw⟩:=sw_o E hg' (i:=first + i) (j:=first + c') (by omega) (by omega)
     simp (disch:=omega) only [go_sem,simprocAttr,he,m1,m2,hs.at,k1,k2,k3,k4,k5,k6,k7,k8,k9,k10,k11,y1,y2,y3,y4,hw]
     refine ⟨hi - c',by omega,c',swp d' (first + i) (first + c'),rfl,by omega,?_,hg'.swp (by omega) (by omega),by rw [Go.Sort.swp_size]; exact hz',hs.set,rfl⟩
     rw [← hI,hst,hq]; rfl
theorem heap_L {fc:Nat} {caps:List AV} (hf : okFn Tryz.prog fc = true) (hc:CmpT Tryz.prog true G lt fc caps) (E:GoodE 3 true G) {d:Array (List AV)} {a bb b cap : Nat} (hs : sat h (pto b (.row 3 d.toList cap) :: F)) (hg:GA G d) (ha : a ≤ bb) (hb : bb ≤ d.size) (hsz : d.size ≤ 1000000000000) :
  Triple Tryz.prog 220 [.arr b 3 0 d.size cap,.int .i64 a,.int .i64 bb,.fn fc caps] h (fun r h => GA G (heapSort lt d a bb)∧(heapSort lt d a bb).size = d.size∧sat h (pto b (.row 3 (heapSort lt d a bb).toList cap) :: F)):=by
 obtain ⟨hi,hhi⟩ : ∃ hi,hi = bb - a:=⟨_,rfl⟩
 have n1 : (bb:Int) - a = (hi:Int):=by omega
 have n2 : ((hi:Int) - 1).tdiv 2 = (((hi - 1) / 2 + 1 : Nat) : Int) - 1:=by
  rcases Nat.eq_zero_or_pos hi with h0 | h0
  ·subst h0; decide
  ·rw [Int.tdiv_eq_ediv_of_nonneg (by omega)]; omega
 refine t220 (Nat.le_of_ble_eq_true rfl) ?_
 simp (disch:=omega) only [F220,n1,n2,go_sem,simprocAttr]
 refine blk_join (Q:=fun e h => ∃ d2 : Array (List AV),d2 = heapBuild lt hi a ((hi - 1) / 2 + 1) d∧GA G d2∧d2.size = d.size∧sat h (pto b (.row 3 d2.toList cap) :: F) ∧
  (e 0 = .arr b 3 0 d.size cap∧e 3 = .fn fc caps∧e 8 = .int .i64 a∧e 9 = .int .i64 0∧e 10 = .int .i64 hi)) ?_ ?_
 ·refine run_loopN (fun n e h => ∃ (k:Nat) (d2:Array (List AV)),n = k∧k ≤ (hi - 1) / 2 + 1∧heapBuild lt hi a k d2 = heapBuild lt hi a ((hi - 1) / 2 + 1) d∧GA G d2∧d2.size = d.size∧sat h (pto b (.row 3 d2.toList cap) :: F) ∧
   (e 0 = .arr b 3 0 d.size cap∧e 3 = .fn fc caps∧e 8 = .int .i64 a∧e 9 = .int .i64 0∧e 10 = .int .i64 hi∧e 11 = .int .i64 ((k:Int) - 1))) ((hi - 1) / 2 + 1) ⟨_,d,rfl,Nat.le_refl _,rfl,hg,rfl,hs,rfl,rfl,rfl,rfl,rfl,rfl⟩ ?_
  rintro k e h ⟨_,d2,rfl,hk,hI,hg2,hz2,hs,he⟩
  simp (disch:=omega) only [go_sem,simprocAttr,he]
  refine cnd_dec (fun hge => ?_) (fun hlt => ?_)
  ·obtain ⟨k,rfl⟩ : ∃ j,k = j + 1:=⟨k - 1,by omega⟩
   have m1 : ((k + 1 : Nat) : Int) - 1 = (k:Int):=by omega
   simp (disch:=omega) only [go_sem,simprocAttr,he,m1]
   refine call_use (by rw [← hz2]; exact sift_L hf hc E hs hg2 (by omega) (by omega) (by omega)) ?_
   rintro r h ⟨hg3,hz3,hs⟩
   simp (disch:=omega) only [go_sem,simprocAttr,he,m1]
   refine ⟨k,by omega,k,_,rfl,by omega,?_,hg3,by rw [hz3]; exact hz2,hs,rfl⟩
   rw [← hI]; rfl
  ·obtain rfl : k = 0:=by omega
   simp (disch:=omega) only [go_sem,simprocAttr,he]
   exact ⟨d2,hI,hg2,hz2,hs⟩
 ·rintro e h ⟨d2,hd2,hg2,hz2,hs,he⟩
  simp (disch:=omega) only [go_sem,simprocAttr,he]
  refine run_loopN (fun n e h => ∃ (k:Nat) (d3:Array (List AV)),n = k∧k ≤ hi∧heapPop lt a k d3 = heapPop lt a hi d2∧GA G d3∧d3.size = d.size∧sat h (pto b (.row 3 d3.toList cap) :: F) ∧
   (e 0 = .arr b 3 0 d.size cap∧e 3 = .fn fc caps∧e 8 = .int .i64 a∧e 9 = .int .i64 0∧e 12 = .int .i64 ((k:Int) - 1))) hi ⟨_,d2,rfl,Nat.le_refl _,rfl,hg2,hz2,hs,?_⟩ ?_
  ·simp only [Env.upd_apply,he,and_self,reduceIte,Nat.reduceEqDiff]
  ·rintro k e h ⟨_,d3,rfl,hk,hI,hg3,hz3,hs,he⟩
   simp (disch:=omega) only [go_sem,simprocAttr,he]
   refine cnd_dec (fun hge => ?_) (fun hlt => ?_)
   ·obtain ⟨k,rfl⟩ : ∃ j,k = j + 1:=⟨k - 1,by omega⟩
    have m1 : ((k + 1 : Nat) : Int) - 1 = (k:Int):=by omega
    have m2 : (a:Int) + k = ((a + k : Nat) : Int):=by omega
    obtain ⟨k1,k2,k3,k4,k5,k6,k7,k8,k9,k10,k11,⟨ky,y1,y2,y3,y4⟩,hw⟩:=sw_c E hg3 (i:=a) (j:=a + k) (by omega) (by omega)
    simp (disch:=omega) only [go_sem,simprocAttr,he,m1,m2,hs.at,k1,k2,k3,k4,k5,k6,k7,k8,k9,k10,k11,y1,y2,y3,y4,hw]
    have hs2:=hs.set (o':=.row 3 (swp d3 a (a + k)).toList cap)
    refine call_use (by rw [← hz3,← Go.Sort.swp_size d3 a (a + k)]; exact sift_L (root:=0) hf hc E hs2 (hg3.swp (by omega) (by omega)) (Nat.zero_le _) (by rw [Go.Sort.swp_size]; omega) (by rw [Go.Sort.swp_size]; omega)) ?_
    rintro r h ⟨hg4,hz4,hs⟩
    simp (disch:=omega) only [go_sem,simprocAttr,he,m1]
    refine ⟨k,by omega,k,_,rfl,by omega,?_,hg4,by rw [hz4,Go.Sort.swp_size]; exact hz3,hs,rfl⟩
    rw [← hI]; rfl
   ·obtain rfl : k = 0:=by omega
    simp (disch:=omega) only [go_sem,simprocAttr,he]
    have : d3 = heapSort lt d a bb:=by
     rw [heapSort,← hhi,← hd2,← hI]; rfl
    subst this
    exact ⟨hg3,hz3,hs⟩
theorem heap_S (hc:LessT Tryz.prog false G lt 256) (E:GoodE 1 false G) {d:Array (List AV)} {a bb b cap : Nat} (hs : sat h (pto b (.row 1 d.toList cap) :: F)) (hg:GA G d) (ha : a ≤ bb) (hb : bb ≤ d.size) (hsz : d.size ≤ 1000000000000) :
  Triple Tryz.prog 251 [.arr b 1 0 d.size cap,.int .i64 a,.int .i64 bb] h (fun r h => GA G (heapSort lt d a bb)∧(heapSort lt d a bb).size = d.size∧sat h (pto b (.row 1 (heapSort lt d a bb).toList cap) :: F)):=by
 obtain ⟨hi,hhi⟩ : ∃ hi,hi = bb - a:=⟨_,rfl⟩
 have n1 : (bb:Int) - a = (hi:Int):=by omega
 have n2 : ((hi:Int) - 1).tdiv 2 = (((hi - 1) / 2 + 1 : Nat) : Int) - 1:=by
  rcases Nat.eq_zero_or_pos hi with h0 | h0
  ·subst h0; decide
  ·rw [Int.tdiv_eq_ediv_of_nonneg (by omega)]; omega
 refine t251 (Nat.le_of_ble_eq_true rfl) ?_
 simp (disch:=omega) only [F251,n1,n2,go_sem,simprocAttr]
 refine blk_join (Q:=fun e h => ∃ d2 : Array (List AV),d2 = heapBuild lt hi a ((hi - 1) / 2 + 1) d∧GA G d2∧d2.size = d.size∧sat h (pto b (.row 1 d2.toList cap) :: F) ∧
  (e 0 = .arr b 1 0 d.size cap∧e 6 = .int .i64 a∧e 7 = .int .i64 0∧e 8 = .int .i64 hi)) ?_ ?_
 ·refine run_loopN (fun n e h => ∃ (k:Nat) (d2:Array (List AV)),n = k∧k ≤ (hi - 1) / 2 + 1∧heapBuild lt hi a k d2 = heapBuild lt hi a ((hi - 1) / 2 + 1) d∧GA G d2∧d2.size = d.size∧sat h (pto b (.row 1 d2.toList cap) :: F) ∧
   (e 0 = .arr b 1 0 d.size cap∧e 6 = .int .i64 a∧e 7 = .int .i64 0∧e 8 = .int .i64 hi∧e 9 = .int .i64 ((k:Int) - 1))) ((hi - 1) / 2 + 1) ⟨_,d,rfl,Nat.le_refl _,rfl,hg,rfl,hs,rfl,rfl,rfl,rfl,rfl⟩ ?_
  rintro k e h ⟨_,d2,rfl,hk,hI,hg2,hz2,hs,he⟩
  simp (disch:=omega) only [go_sem,simprocAttr,he]
  refine cnd_dec (fun hge => ?_) (fun hlt => ?_)
  ·obtain ⟨k,rfl⟩ : ∃ j,k = j + 1:=⟨k - 1,by omega⟩
   have m1 : ((k + 1 : Nat) : Int) - 1 = (k:Int):=by omega
   simp (disch:=omega) only [go_sem,simprocAttr,he,m1]
   refine call_use (by rw [← hz2]; exact sift_S hc E hs hg2 (by omega) (by omega) (by omega)) ?_
   rintro r h ⟨hg3,hz3,hs⟩
   simp (disch:=omega) only [go_sem,simprocAttr,he,m1]
   refine ⟨k,by omega,k,_,rfl,by omega,?_,hg3,by rw [hz3]; exact hz2,hs,rfl⟩
   rw [← hI]; rfl
  ·obtain rfl : k = 0:=by omega
   simp (disch:=omega) only [go_sem,simprocAttr,he]
   exact ⟨d2,hI,hg2,hz2,hs⟩
 ·rintro e h ⟨d2,hd2,hg2,hz2,hs,he⟩
  simp (disch:=omega) only [go_sem,simprocAttr,he]
  refine run_loopN (fun n e h => ∃ (k:Nat) (d3:Array (List AV)),n = k∧k ≤ hi∧heapPop lt a k d3 = heapPop lt a hi d2∧GA G d3∧d3.size = d.size∧sat h (pto b (.row 1 d3.toList cap) :: F) ∧
   (e 0 = .arr b 1 0 d.size cap∧e 6 = .int .i64 a∧e 7 = .int .i64 0∧e 10 = .int .i64 ((k:Int) - 1))) hi ⟨_,d2,rfl,Nat.le_refl _,rfl,hg2,hz2,hs,?_⟩ ?_
  ·simp only [Env.upd_apply,he,and_self,reduceIte,Nat.reduceEqDiff]
  ·rintro k e h ⟨_,d3,rfl,hk,hI,hg3,hz3,hs,he⟩
   simp (disch:=omega) only [go_sem,simprocAttr,he]
   refine cnd_dec (fun hge => ?_) (fun hlt => ?_)
   ·obtain ⟨k,rfl⟩ : ∃ j,k = j + 1:=⟨k - 1,by omega⟩
    have m1 : ((k + 1 : Nat) : Int) - 1 = (k:Int):=by omega
    have m2 : (a:Int) + k = ((a + k : Nat) : Int):=by omega
    obtain ⟨k1,k2,k3,k4,k5,k6,k7,k8,k9,k10,k11,⟨ky,y1,y2,y3,y4⟩,hw⟩:=sw_o E hg3 (i:=a) (j:=a + k) (by omega) (by omega)
    simp (disch:=omega) only [go_sem,simprocAttr,he,m1,m2,hs.at,k1,k2,k3,k4,k5,k6,k7,k8,k9,k10,k11,y1,y2,y3,y4,hw]
    have hs2:=hs.set (o':=.row 1 (swp d3 a (a + k)).toList cap)
    refine call_use (by rw [← hz3,← Go.Sort.swp_size d3 a (a + k)]; exact sift_S (root:=0) hc E hs2 (hg3.swp (by omega) (by omega)) (Nat.zero_le _) (by rw [Go.Sort.swp_size]; omega) (by rw [Go.Sort.swp_size]; omega)) ?_
    rintro r h ⟨hg4,hz4,hs⟩
    simp (disch:=omega) only [go_sem,simprocAttr,he,m1]
    refine ⟨k,by omega,k,_,rfl,by omega,?_,hg4,by rw [hz4,Go.Sort.swp_size]; exact hz3,hs,rfl⟩
    rw [← hI]; rfl
   ·obtain rfl : k = 0:=by omega
    simp (disch:=omega) only [go_sem,simprocAttr,he]
    have : d3 = heapSort lt d a bb:=by
     rw [heapSort,← hhi,← hd2,← hI]; rfl
    subst this
    exact ⟨hg3,hz3,hs⟩
end
end Go.Proofs.YtmhbnkjajkcmkaaGreat
/- The machine: replies that are the same. -/
set_option maxRecDepth 10000
namespace Go.Proofs.YtmhbnkjajkcmkaaGreat
open Go.Hz
section
variable {h:Hp} {F:List Asr}
theorem kv_selfM (x:Kv) : eqsA [PK.s,PK.s,PK.i,PK.i,PK.i,PK.i] true (.agg (kvC x)) (.agg (kvC x)) = some (.bool false):=by
 simp [eqsA,eqCs,eqC,kvC]
theorem mEqKV (hs : sat h F) {l:List Kv} (hl : l.length ≤ 9223372036854775807) : Triple Tryz.prog 42 [kvsV l,kvsV l] h (fun r h => r = .bool true∧sat h F):=by
 have len2 : lenL (kvsV l) = some (.int .i64 l.length):=by simp [lenL]
 have nn : ((l.length : Int) != (l.length : Int)) = false:=by simp
 refine t42 (Nat.le_of_ble_eq_true rfl) ?_
 simp (disch:=omega) only [F42,len2,nn,go_sem,simprocAttr]
 refine run_up (N:=l.length) (fun i e h => sat h F∧(e 0 = kvsV l∧e 1 = kvsV l∧e 12 = .int .i64 l.length∧e 13 = .int .i64 i)) ⟨hs,by simp [Env.upd_apply,initE]⟩ ?_
 clear hs
 rintro i e h hi ⟨hs,he⟩
 have m1 : (i:Int) + 1 = ((i + 1 : Nat) : Int):=by omega
 by_cases hil : i < l.length
 ·have c1 : ((i:Int) < l.length) = True:=by simp; omega
  have ez:=ia_lst (f:=kvC) (l:=l) (i:=i) (s:=6) (k:=.i64) hil (fun _ => rfl)
  have ek:=kv_selfM l[i]
  simp only [kvC] at ek
  simp (disch:=omega) only [go_sem,simprocAttr,he,c1,ez,kvC,ek,m1]
  exact ⟨hil,hs⟩
 ·have c1 : ((i:Int) < l.length) = False:=by simp; omega
  simp (disch:=omega) only [go_sem,simprocAttr,he,c1]
  exact hs
theorem mEqRes (hs : sat h F) {q:Res} (hl : q.kvs.length ≤ 9223372036854775807) : Triple Tryz.prog 41 [.agg (resC q),.agg (resC q)] h (fun r h => r = .bool true∧sat h F):=by
 have ak : (kvsV q.kvs).isAtom = true:=rfl
 have zk : (kvsV q.kvs).cells = [kvsV q.kvs]:=rfl
 have nn : ((q.n : Int) == q.n) = true:=by simp
 refine t41 (Nat.le_of_ble_eq_true rfl) ?_
 simp (disch:=omega) only [F41,resC,go_sem,simprocAttr]
 refine new_opq hs fun a h hs => ?_
 simp (disch:=omega) only [go_sem,simprocAttr,resC]
 refine new_opq hs fun b h hs => ?_
 have hb:=hs.at
 have ha:=hs.p1.at
 simp (disch:=omega) only [go_sem,simprocAttr,ha,hb,nn]
 refine call_use (mEqKV hs hl) ?_
 rintro r h ⟨hr,hs⟩
 subst hr
 simp (disch:=omega) only [go_sem,simprocAttr]
 exact hs.drop.drop
theorem mEq_ok : okFn Tryz.prog 41 = true:=by kernel_rfl
theorem mEqF (hs : sat h F) {l:List Res} (h1 : l.length ≤ 9223372036854775807) (h2:∀ q ∈ l,q.kvs.length ≤ 9223372036854775807) :
  Triple Tryz.prog 40 [ressV l,ressV l,.fn 41 []] h (fun r h => r = .bool true∧sat h F):=by
 have len2 : lenL (ressV l) = some (.int .i64 l.length):=by simp [lenL]
 have nn : ((l.length : Int) != (l.length : Int)) = false:=by simp
 refine t40 (Nat.le_of_ble_eq_true rfl) ?_
 simp (disch:=omega) only [F40,len2,nn,go_sem,simprocAttr]
 refine run_up (N:=l.length) (fun i e h => sat h F∧(e 0 = ressV l∧e 1 = ressV l∧e 2 = .fn 41 []∧e 15 = ressV l∧e 16 = .int .i64 l.length∧e 17 = .int .i64 i)) ⟨hs,by simp [Env.upd_apply,initE]⟩ ?_
 clear hs
 rintro i e h hi ⟨hs,he⟩
 have m1 : (i:Int) + 1 = ((i + 1 : Nat) : Int):=by omega
 by_cases hil : i < l.length
 ·have c1 : ((i:Int) < l.length) = True:=by simp; omega
  have ez:=ia_lst (f:=resC) (l:=l) (i:=i) (s:=2) (k:=.i64) hil (fun _ => rfl)
  have hq:=h2 _ (List.getElem_mem hil)
  generalize l[i] = q at ez hq
  simp only [resC] at ez
  simp (disch:=omega) only [go_sem,simprocAttr,he,c1,ez]
  refine new_opq hs fun a h hs => ?_
  have ha:=hs.at
  have hs2:=hs.set (o':=.row 2 [resC q] 1)
  simp only [resC] at hs2
  have ha2:=hs2.at
  simp (disch:=omega) only [go_sem,simprocAttr,he,ha,ez]
  generalize Hp.set h a _ = h9 at hs2 ha2 ⊢
  refine new_opq hs2 fun b h hs => ?_
  have hb:=hs.at
  have hs3:=hs.set (o':=.row 2 [resC q] 1)
  simp only [resC] at hs3
  have hb3:=hs3.at
  have ha3:=hs3.p1.at
  simp (disch:=omega) only [go_sem,simprocAttr,he,hb,hb3,ha3]
  refine callv_use mEq_ok (mEqRes (q:=q) hs3 hq) ?_
  rintro r h ⟨hr,hs⟩
  subst hr
  simp (disch:=omega) only [go_sem,simprocAttr,he,m1]
  exact ⟨hil,hs.drop.drop⟩
 ·have c1 : ((i:Int) < l.length) = False:=by simp; omega
  simp (disch:=omega) only [go_sem,simprocAttr,he,c1]
  exact hs
theorem mSame (hs : sat h F) {x:Rp} (hx:RpOK x) : Triple Tryz.prog 19 [rpV x,rpV x] h (fun r h => r = .bool true∧sat h F):=by
 obtain ⟨h1,h2⟩:=hx
 refine t19 (Nat.le_of_ble_eq_true rfl) ?_
 simp (disch:=omega) only [F19,rpC,go_sem,simprocAttr]
 refine new_opq hs fun a h hs => ?_
 simp (disch:=omega) only [go_sem,simprocAttr,rpC]
 refine new_opq hs fun b h hs => ?_
 have hb:=hs.at
 have ha:=hs.p1.at
 have e1 : (x.err == x.err) = true:=by simp
 have e2 : (x.rev == x.rev) = true:=by simp
 have e3 : (x.time == x.time) = true:=by simp
 have e4 : (x.thn == x.thn) = true:=by simp
 simp (disch:=omega) only [go_sem,simprocAttr,ha,hb,e1,e2,e3,e4]
 refine call_use (mEqF hs (by omega) (fun q hq => by have:=h2 q hq; omega)) ?_
 rintro r h ⟨hr,hs⟩
 subst hr
 simp (disch:=omega) only [go_sem,simprocAttr]
 exact hs.drop.drop
end
end Go.Proofs.YtmhbnkjajkcmkaaGreat
/- sort.Search; what slices does with pointers: Reverse, rotateRight, Insert, Clone. -/
set_option maxRecDepth 10000
namespace Go.Proofs.YtmhbnkjajkcmkaaGreat
open Go.Hz
section
variable {h:Hp} {F:List Asr}
theorem half {i j : Nat} (h1 : i + j ≤ 4611686018427387904) : IntKind.i64.wrap ((IntKind.u64.wrap ((i:Int) + (j:Int))).fdiv (2 ^ min 1 64)) = (((i + j) / 2 : Nat) : Int):=by
 have e1 : IntKind.u64.wrap ((i:Int) + (j:Int)) = ((i + j : Nat) : Int):=by
  simp only [IntKind.wrap,IntKind.signed,IntKind.bits]
  simp
  omega
 rw [e1]
 have e2 : (((i + j : Nat) : Int)).fdiv (2 ^ min 1 64) = (((i + j) / 2 : Nat) : Int):=by
  simp [Int.fdiv_eq_ediv]
 rw [e2]
 exact wrap_i64_go (by omega) (by omega)
theorem search {N f : Nat} {caps:List AV} {pr:Nat → Bool} (hs : sat h F) (hN:N ≤ 1000000000000) (hf : okFn Tryz.prog f = true) (hm:∀ i j,i ≤ j → j < N → pr i = true → pr j = true)
  (hc:∀ i h,i < N → sat h F → Triple Tryz.prog f (.int .i64 i :: caps) h (fun r h => r = .bool (pr i)∧sat h F)) :
  Triple Tryz.prog 96 [.int .i64 N,.fn f caps] h (fun r h => ∃ k : Nat,r = .int .i64 k∧k ≤ N∧(∀ i,i < k → pr i = false)∧(∀ i,k ≤ i → i < N → pr i = true)∧sat h F):=by
 refine t96 (Nat.le_of_ble_eq_true rfl) ?_
 simp (disch:=omega) only [F96,go_sem,simprocAttr]
 refine run_loopN (fun n e h => ∃ i j : Nat,n = j - i∧i ≤ j∧j ≤ N∧(∀ a,a < i → pr a = false)∧(∀ a,j ≤ a → a < N → pr a = true)∧sat h F∧(e 1 = .fn f caps∧e 5 = .int .i64 i∧e 6 = .int .i64 j)) N
  ⟨0,N,rfl,Nat.zero_le _,Nat.le_refl _,fun a ha => by omega,fun a h1 h2 => by omega,hs,rfl,rfl,rfl⟩ ?_
 rintro n e h ⟨i,j,rfl,hij,hjN,h1,h2,hs,he⟩
 simp (disch:=omega) only [go_sem,simprocAttr,he]
 refine cnd_dec (fun hlt => ?_) (fun hge => ?_)
 ·have hlt : i < j:=by omega
  simp (disch:=omega) only [go_sem,simprocAttr,he]
  rw [half (by omega)]
  refine callv_use hf (hc ((i + j) / 2) _ (by omega) hs) ?_
  rintro r h ⟨hr,hs⟩
  subst hr
  simp (disch:=omega) only [go_sem,simprocAttr,he]
  cases hp : pr ((i + j) / 2)
  ·simp (disch:=omega) only [go_sem,simprocAttr,he]
   refine ⟨j - ((i + j) / 2 + 1),by omega,(i + j) / 2 + 1,j,rfl,by omega,hjN,fun a ha => ?_,h2,hs,rfl,rfl⟩
   cases hpa : pr a with
   | false => rfl
   | true => rw [hm a ((i + j) / 2) (by omega) (by omega) hpa] at hp; cases hp
  ·simp (disch:=omega) only [go_sem,simprocAttr,he]
   exact ⟨(i + j) / 2 - i,by omega,i,(i + j) / 2,rfl,by omega,by omega,h1,fun a ha hb => hm _ a ha hb hp,hs,rfl,rfl⟩
 ·have : j = i:=by omega
  subst this
  simp (disch:=omega) only [go_sem,simprocAttr,he]
  exact ⟨j,rfl,hjN,h1,h2,hs⟩
theorem pt_get {ps:List Nat} {k p : Nat} (h : ps[k]? = some p) : (ps.map pt)[k]? = some [.ptr p 2 0 0]:=by simp [h,pt]
theorem pt_set {ps:List Nat} {k p : Nat} : (ps.map pt).set k [.ptr p 2 0 0] = (ps.set k p).map pt:=by simp [List.map_set,pt]
theorem atoms_pt (l:List Nat) : AtomsL (l.map pt):=by
 intro e he v hv
 obtain ⟨k,_,rfl⟩:=List.mem_map.1 he
 simp only [pt,List.mem_cons,List.not_mem_nil,or_false] at hv
 subst hv; rfl
theorem reverse_item {b off len cap rc : Nat} {ps:List Nat} (hs : sat h (pto b (.row 1 (ps.map pt) rc) :: F)) (h1 : off + len ≤ ps.length) (h2 : ps.length ≤ 1000000) :
  Triple Tryz.prog 273 [.arr b 1 off len cap] h (fun r h => ∃ qs : List Nat,qs.length = ps.length∧(∀ k : Nat,qs[k]? = if off ≤ k∧k < off + len then ps[2 * off + len - 1 - k]? else ps[k]?)∧sat h (pto b (.row 1 (qs.map pt) rc) :: F)):=by
 refine t273 (Nat.le_of_ble_eq_true rfl) ?_
 simp (disch:=omega) only [F273,go_sem,simprocAttr]
 refine run_up (N:=len) (fun i e h => ∃ qs : List Nat,qs.length = ps.length∧(2 * i ≤ len + 1)∧(∀ k : Nat,qs[k]? = if off ≤ k∧k < off + i ∨ off + len ≤ k + i∧k < off + len then ps[2 * off + len - 1 - k]? else ps[k]?)∧sat h (pto b (.row 1 (qs.map pt) rc) :: F) ∧
  (e 0 = .arr b 1 off len cap∧e 2 = .int .i64 i∧e 3 = .int .i64 ((len:Int) - 1 - i))) ⟨ps,rfl,by omega,fun k => by rw [if_neg (by omega)],hs,rfl,rfl,by show AV.int .i64 ((len:Int) - 1) = _; simp⟩ ?_
 rintro i e h hi ⟨qs,hl,hi2,hq,hs,he⟩
 simp (disch:=omega) only [go_sem,simprocAttr,he]
 refine cnd_dec (fun hlt => ?_) (fun hge => ?_)
 ·have hj : ((len:Int) - 1 - i).toNat = len - 1 - i:=by omega
  obtain ⟨x,hx⟩ : ∃ x,qs[off + (len - 1 - i)]? = some x:=⟨_,List.getElem?_eq_getElem (by omega)⟩
  obtain ⟨y,hy⟩ : ∃ y,qs[off + i]? = some y:=⟨_,List.getElem?_eq_getElem (by omega)⟩
  have hx':=pt_get hx
  have hy':=pt_get hy
  have hz : ((qs.map pt).set (off + i) [.ptr x 2 0 0])[off + (len - 1 - i)]? = some [.ptr x 2 0 0]:=by
   rw [List.getElem?_set,if_neg (by omega)]; exact hx'
  have hy2 : (List.set (qs.map pt) (off + i) [.ptr x 2 0 0])[off + (len - 1 - i)]? = some [.ptr x 2 0 0]:=hz
  simp (disch:=omega) only [go_sem,simprocAttr,he,hj,hs.at,hx',hy',hy2,hz]
  refine ⟨by omega,(qs.set (off + i) x).set (off + (len - 1 - i)) y,by simpa using hl,by omega,fun k => ?_,?_,rfl,?_⟩
  ·rw [List.getElem?_set,List.getElem?_set]
   have hx2:=hq (off + (len - 1 - i))
   have hy3:=hq (off + i)
   rw [if_neg (by omega)] at hx2 hy3
   simp only [List.length_set]
   by_cases e1 : off + (len - 1 - i) = k
   ·subst e1
    rw [if_pos rfl,if_pos (by omega),if_pos (by omega),← hy,hy3]
    congr 1; omega
   ·rw [if_neg e1]
    by_cases e2 : off + i = k
    ·subst e2
     rw [if_pos rfl,if_pos (by omega),if_pos (by omega),← hx,hx2]
     congr 1; omega
    ·rw [if_neg e2,hq k]
     by_cases e3 : off ≤ k∧k < off + i ∨ off + len ≤ k + i∧k < off + len
     ·rw [if_pos e3,if_pos (by omega)]
     ·rw [if_neg e3,if_neg (by omega)]
  ·rw [← pt_set,← pt_set]
   exact hs.set
  ·congr 1; omega
 ·simp (disch:=omega) only [go_sem,simprocAttr,he]
  refine ⟨qs,hl,fun k => ?_,hs⟩
  rw [hq k]
  by_cases e3 : off ≤ k∧k < off + i ∨ off + len ≤ k + i∧k < off + len
  ·rw [if_pos e3,if_pos (by omega)]
  ·rw [if_neg e3]
   by_cases e4 : off ≤ k∧k < off + len
   ·rw [if_pos e4]; congr 1; omega
   ·rw [if_neg e4]
theorem rotate_item {b i n cap rc x : Nat} {ps:List Nat} (hs : sat h (pto b (.row 1 ((ps ++ [x]).map pt) rc) :: F)) (hn : n = ps.length) (hi : i ≤ n) (h2 : n ≤ 100000) (hc : n + 1 - i ≤ cap) :
  Triple Tryz.prog 260 [.arr b 1 i (n + 1 - i) cap,.int .i64 1] h (fun r h => sat h (pto b (.row 1 ((ps.take i ++ x :: ps.drop i).map pt) rc) :: F)):=by
 subst hn
 refine t260 (Nat.le_of_ble_eq_true rfl) ?_
 simp (disch:=omega) only [F260,go_sem,simprocAttr]
 have e1 : ((ps.length + 1 - i : Nat) : Int) - 1 = ((ps.length - i : Nat) : Int):=by omega
 simp (disch:=omega) only [go_sem,simprocAttr,e1]
 have key : Triple Tryz.prog 270 [.arr b 1 i (ps.length + 1 - i) cap,.int .i64 ((ps.length - i : Nat) : Int)] h (fun r h => sat h (pto b (.row 1 ((ps.take i ++ x :: ps.drop i).map pt) rc) :: F)):=by
  refine t270 (Nat.le_of_ble_eq_true rfl) ?_
  simp (disch:=omega) only [F270,go_sem,simprocAttr]
  simp (disch:=omega) only [go_sem,simprocAttr,slcL_hi]
  refine call_use (reverse_item hs (by simp; omega) (by simp; omega)) ?_
  rintro r h ⟨q1,l1,g1,hs⟩
  simp (disch:=omega) only [go_sem,simprocAttr,slcL_lo]
  refine call_use (reverse_item hs (by simp at l1 ⊢; omega) (by simp at l1; omega)) ?_
  rintro r h ⟨q2,l2,g2,hs⟩
  simp (disch:=omega) only [go_sem,simprocAttr]
  refine call_use (reverse_item hs (by simp at l1 l2 ⊢; omega) (by simp at l1 l2; omega)) ?_
  rintro r h ⟨q3,l3,g3,hs⟩
  simp (disch:=omega) only [go_sem,simprocAttr]
  have : q3 = ps.take i ++ x :: ps.drop i:=by
   apply List.ext_getElem?
   intro k
   simp only [List.length_append,List.length_cons,List.length_nil] at l1 l2 l3
   have e0 : ∀ k,k < ps.length → (ps ++ [x])[k]? = ps[k]?:=fun k hk => List.getElem?_append_left hk
   rw [g3 k]
   by_cases c1 : k < i
   ·rw [if_neg (by omega),g2 k,if_neg (by omega),g1 k,if_neg (by omega),e0 k (by omega),List.getElem?_append_left (by rw [List.length_take]; omega),List.getElem?_take,if_pos c1]
   ·have eR : (ps.take i ++ x :: ps.drop i)[k]? = (x :: ps.drop i)[k - i]?:=by
     rw [List.getElem?_append_right (by rw [List.length_take]; omega)]
     congr 1
     rw [List.length_take]; omega
    rw [eR]
    by_cases c2 : k = i
    ·subst c2
     rw [if_pos (by omega),Nat.sub_self,g2,if_pos (by omega),g1,if_neg (by omega)]
     have : 2 * (k + (ps.length - k)) + (ps.length + 1 - k - (ps.length - k)) - 1 - (2 * k + (ps.length + 1 - k) - 1 - k) = ps.length:=by omega
     rw [this]
     simp
    ·obtain ⟨k',hk'⟩ : ∃ k',k - i = k' + 1:=⟨k - i - 1,by omega⟩
     rw [hk',List.getElem?_cons_succ,List.getElem?_drop]
     by_cases c3 : k ≤ ps.length
     ·rw [if_pos (by omega),g2,if_neg (by omega),g1,if_pos (by omega),e0 _ (by omega)]
      congr 1; omega
     ·rw [if_neg (by omega),g2,if_neg (by omega),g1,if_neg (by omega)]
      rw [List.getElem?_eq_none (by simp; omega),List.getElem?_eq_none (by omega)]
  subst this
  exact hs
 refine call_use (key) ?_
 intro r h hs
 simp (disch:=omega) only [go_sem,simprocAttr]
 exact hs
theorem reverse_node {b off len cap rc : Nat} {ps:List Nat} (hs : sat h (pto b (.row 1 (ps.map pt) rc) :: F)) (h1 : off + len ≤ ps.length) (h2 : ps.length ≤ 1000000) :
  Triple Tryz.prog 274 [.arr b 1 off len cap] h (fun r h => ∃ qs : List Nat,qs.length = ps.length∧(∀ k : Nat,qs[k]? = if off ≤ k∧k < off + len then ps[2 * off + len - 1 - k]? else ps[k]?)∧sat h (pto b (.row 1 (qs.map pt) rc) :: F)):=by
 refine t274 (Nat.le_of_ble_eq_true rfl) ?_
 simp (disch:=omega) only [F274,go_sem,simprocAttr]
 refine run_up (N:=len) (fun i e h => ∃ qs : List Nat,qs.length = ps.length∧(2 * i ≤ len + 1)∧(∀ k : Nat,qs[k]? = if off ≤ k∧k < off + i ∨ off + len ≤ k + i∧k < off + len then ps[2 * off + len - 1 - k]? else ps[k]?)∧sat h (pto b (.row 1 (qs.map pt) rc) :: F) ∧
  (e 0 = .arr b 1 off len cap∧e 2 = .int .i64 i∧e 3 = .int .i64 ((len:Int) - 1 - i))) ⟨ps,rfl,by omega,fun k => by rw [if_neg (by omega)],hs,rfl,rfl,by show AV.int .i64 ((len:Int) - 1) = _; simp⟩ ?_
 rintro i e h hi ⟨qs,hl,hi2,hq,hs,he⟩
 simp (disch:=omega) only [go_sem,simprocAttr,he]
 refine cnd_dec (fun hlt => ?_) (fun hge => ?_)
 ·have hj : ((len:Int) - 1 - i).toNat = len - 1 - i:=by omega
  obtain ⟨x,hx⟩ : ∃ x,qs[off + (len - 1 - i)]? = some x:=⟨_,List.getElem?_eq_getElem (by omega)⟩
  obtain ⟨y,hy⟩ : ∃ y,qs[off + i]? = some y:=⟨_,List.getElem?_eq_getElem (by omega)⟩
  have hx':=pt_get hx
  have hy':=pt_get hy
  have hz : ((qs.map pt).set (off + i) [.ptr x 2 0 0])[off + (len - 1 - i)]? = some [.ptr x 2 0 0]:=by
   rw [List.getElem?_set,if_neg (by omega)]; exact hx'
  have hy2 : (List.set (qs.map pt) (off + i) [.ptr x 2 0 0])[off + (len - 1 - i)]? = some [.ptr x 2 0 0]:=hz
  simp (disch:=omega) only [go_sem,simprocAttr,he,hj,hs.at,hx',hy',hy2,hz]
  refine ⟨by omega,(qs.set (off + i) x).set (off + (len - 1 - i)) y,by simpa using hl,by omega,fun k => ?_,?_,rfl,?_⟩
  ·rw [List.getElem?_set,List.getElem?_set]
   have hx2:=hq (off + (len - 1 - i))
   have hy3:=hq (off + i)
   rw [if_neg (by omega)] at hx2 hy3
   simp only [List.length_set]
   by_cases e1 : off + (len - 1 - i) = k
   ·subst e1
    rw [if_pos rfl,if_pos (by omega),if_pos (by omega),← hy,hy3]
    congr 1; omega
   ·rw [if_neg e1]
    by_cases e2 : off + i = k
    ·subst e2
     rw [if_pos rfl,if_pos (by omega),if_pos (by omega),← hx,hx2]
     congr 1; omega
    ·rw [if_neg e2,hq k]
     by_cases e3 : off ≤ k∧k < off + i ∨ off + len ≤ k + i∧k < off + len
     ·rw [if_pos e3,if_pos (by omega)]
     ·rw [if_neg e3,if_neg (by omega)]
  ·rw [← pt_set,← pt_set]
   exact hs.set
  ·congr 1; omega
 ·simp (disch:=omega) only [go_sem,simprocAttr,he]
  refine ⟨qs,hl,fun k => ?_,hs⟩
  rw [hq k]
  by_cases e3 : off ≤ k∧k < off + i ∨ off + len ≤ k + i∧k < off + len
  ·rw [if_pos e3,if_pos (by omega)]
  ·rw [if_neg e3]
   by_cases e4 : off ≤ k∧k < off + len
   ·rw [if_pos e4]; congr 1; omega
   ·rw [if_neg e4]
theorem rotate_node {b i n cap rc x : Nat} {ps:List Nat} (hs : sat h (pto b (.row 1 ((ps ++ [x]).map pt) rc) :: F)) (hn : n = ps.length) (hi : i ≤ n) (h2 : n ≤ 100000) (hc : n + 1 - i ≤ cap) :
  Triple Tryz.prog 264 [.arr b 1 i (n + 1 - i) cap,.int .i64 1] h (fun r h => sat h (pto b (.row 1 ((ps.take i ++ x :: ps.drop i).map pt) rc) :: F)):=by
 subst hn
 refine t264 (Nat.le_of_ble_eq_true rfl) ?_
 simp (disch:=omega) only [F264,go_sem,simprocAttr]
 have e1 : ((ps.length + 1 - i : Nat) : Int) - 1 = ((ps.length - i : Nat) : Int):=by omega
 simp (disch:=omega) only [go_sem,simprocAttr,e1]
 have key : Triple Tryz.prog 271 [.arr b 1 i (ps.length + 1 - i) cap,.int .i64 ((ps.length - i : Nat) : Int)] h (fun r h => sat h (pto b (.row 1 ((ps.take i ++ x :: ps.drop i).map pt) rc) :: F)):=by
  refine t271 (Nat.le_of_ble_eq_true rfl) ?_
  simp (disch:=omega) only [F271,go_sem,simprocAttr]
  simp (disch:=omega) only [go_sem,simprocAttr,slcL_hi]
  refine call_use (reverse_node hs (by simp; omega) (by simp; omega)) ?_
  rintro r h ⟨q1,l1,g1,hs⟩
  simp (disch:=omega) only [go_sem,simprocAttr,slcL_lo]
  refine call_use (reverse_node hs (by simp at l1 ⊢; omega) (by simp at l1; omega)) ?_
  rintro r h ⟨q2,l2,g2,hs⟩
  simp (disch:=omega) only [go_sem,simprocAttr]
  refine call_use (reverse_node hs (by simp at l1 l2 ⊢; omega) (by simp at l1 l2; omega)) ?_
  rintro r h ⟨q3,l3,g3,hs⟩
  simp (disch:=omega) only [go_sem,simprocAttr]
  have : q3 = ps.take i ++ x :: ps.drop i:=by
   apply List.ext_getElem?
   intro k
   simp only [List.length_append,List.length_cons,List.length_nil] at l1 l2 l3
   have e0 : ∀ k,k < ps.length → (ps ++ [x])[k]? = ps[k]?:=fun k hk => List.getElem?_append_left hk
   rw [g3 k]
   by_cases c1 : k < i
   ·rw [if_neg (by omega),g2 k,if_neg (by omega),g1 k,if_neg (by omega),e0 k (by omega),List.getElem?_append_left (by rw [List.length_take]; omega),List.getElem?_take,if_pos c1]
   ·have eR : (ps.take i ++ x :: ps.drop i)[k]? = (x :: ps.drop i)[k - i]?:=by
     rw [List.getElem?_append_right (by rw [List.length_take]; omega)]
     congr 1
     rw [List.length_take]; omega
    rw [eR]
    by_cases c2 : k = i
    ·subst c2
     rw [if_pos (by omega),Nat.sub_self,g2,if_pos (by omega),g1,if_neg (by omega)]
     have : 2 * (k + (ps.length - k)) + (ps.length + 1 - k - (ps.length - k)) - 1 - (2 * k + (ps.length + 1 - k) - 1 - k) = ps.length:=by omega
     rw [this]
     simp
    ·obtain ⟨k',hk'⟩ : ∃ k',k - i = k' + 1:=⟨k - i - 1,by omega⟩
     rw [hk',List.getElem?_cons_succ,List.getElem?_drop]
     by_cases c3 : k ≤ ps.length
     ·rw [if_pos (by omega),g2,if_neg (by omega),g1,if_pos (by omega),e0 _ (by omega)]
      congr 1; omega
     ·rw [if_neg (by omega),g2,if_neg (by omega),g1,if_neg (by omega)]
      rw [List.getElem?_eq_none (by simp; omega),List.getElem?_eq_none (by omega)]
  subst this
  exact hs
 refine call_use (key) ?_
 intro r h hs
 simp (disch:=omega) only [go_sem,simprocAttr]
 exact hs
end
end Go.Proofs.YtmhbnkjajkcmkaaGreat
/- slices.Insert and slices.Clone of pointers. -/
set_option maxRecDepth 10000
namespace Go.Proofs.YtmhbnkjajkcmkaaGreat
open Go.Hz
section
variable {h:Hp} {F:List Asr}
theorem ins_row1 {α:Type} {M R : List α} {x : α} {i a n : Nat} (hi : i < M.length) (hR:R.length = M.length + 1 - i) (ha : a = i + 1) (hn : n = i + 1 + (M.length - i)) :
  (((M.take i ++ R).take i ++ [x] ++ (M.take i ++ R).drop a).take (i + 1) ++ M.drop i ++ ((M.take i ++ R).take i ++ [x] ++ (M.take i ++ R).drop a).drop n) = M.take i ++ x :: M.drop i:=by
 subst ha; subst hn
 have e1 : (M.take i ++ R).take i = M.take i:=by rw [List.take_append_of_le_length (by rw [List.length_take]; omega),List.take_take,Nat.min_self]
 have hz : (M.take i ++ R).length = M.length + 1:=by simp [hR]; omega
 generalize M.take i ++ R = Z at e1 hz ⊢
 rw [e1]
 have e2 : (M.take i ++ [x]).length = i + 1:=by simp; omega
 have e3 : (M.take i ++ [x] ++ Z.drop (i + 1)).take (i + 1) = M.take i ++ [x]:=by
  rw [List.take_append_of_le_length (by omega),List.take_of_length_le (by omega)]
 have e4 : (M.take i ++ [x] ++ Z.drop (i + 1)).drop (i + 1 + (M.length - i)) = []:=List.drop_eq_nil_of_le (by
  rw [List.length_append,e2,List.length_drop,hz]; omega)
 rw [e3,e4]
 simp
theorem ins_row2 {α:Type} {M:List α} {x : α} {i a n : Nat} (hi : i < M.length) (ha : a = i + 1) (hn : n = i + 1 + (M.length - i)) :
  ((M.take (i + 1) ++ M.drop i ++ M.drop n).take i ++ [x] ++ (M.take (i + 1) ++ M.drop i ++ M.drop n).drop a) = M.take i ++ x :: M.drop i:=by
 subst ha; subst hn
 have e0 : M.drop (i + 1 + (M.length - i)) = []:=List.drop_eq_nil_of_le (by omega)
 have e1 : (M.take (i + 1)).length = i + 1:=by rw [List.length_take]; omega
 rw [e0,List.append_nil,List.take_append_of_le_length (by omega),List.take_take,Nat.min_eq_left (by omega),List.drop_append_of_le_length (by omega),show (M.take (i + 1)).drop (i + 1) = [] from List.drop_eq_nil_of_le (by omega)]
 simp
theorem ins_item {v:AV} {bx c i x : Nat} {ps:List Nat} (hs : sat h (Ow 1 v (ps.map pt) :: pto bx (.row 1 [pt x] c) :: F)) (hi : i ≤ ps.length) (h2 : ps.length ≤ 10000) (hcx : 1 ≤ c) :
  Triple Tryz.prog 239 [v,.int .i64 i,.arr bx 1 0 1 1] h (fun r h => sat h (Ow 1 r ((ps.take i ++ x :: ps.drop i).map pt) :: F)):=by
 refine t239 (Nat.le_of_ble_eq_true rfl) ?_
 simp (disch:=omega) only [F239,go_sem,simprocAttr]
 rcases hs.cases with ⟨rfl,h0,g⟩ | ⟨b,cap,rfl,g,hcap⟩
 ·have h0 : ps = []:=by simpa using h0
  subst h0
  have hi0 : i = 0:=by simpa using hi
  subst hi0
  have e1 : slcL 1 .nils (some (.int .i64 (0:Nat))) none = some .nils:=rfl
  have e2 : ((0:Nat) : Int) = 0:=rfl
  simp (disch:=omega) only [go_sem,simprocAttr,e1,e2]
  have e3 : slcL 1 .nils (some (.int .i64 0)) none = some .nils:=rfl
  simp (disch:=omega) only [go_sem,simprocAttr,e3]
  have hy : srcA 1 h (.arr bx 1 0 1 1) = some [pt x]:=src_one hs.p1.at
  refine app_sat (es:=[]) (hs.drop.add ow_nil) hy (atoms_pt [x]) (by simp) fun v' h hs hc' ha' => ?_
  simp (disch:=omega) only [go_sem,simprocAttr]
  exact hs.d1
 ·rw [List.length_map] at hcap
  have hl : (ps.map pt).length = ps.length:=by simp
  have en : ((ps.length : Int) == 0) = false ∨ True:=.inr trivial
  simp (disch:=omega) only [go_sem,simprocAttr,slcL_lo,hl]
  by_cases hin : i = ps.length
  ·subst hin
   simp (disch:=omega) only [go_sem,simprocAttr]
   have hy : srcA 1 h (.arr bx 1 0 1 1) = some [pt x]:=src_one hs.p1.at
   have hs:=g.ow (by simpa using hcap)
   rw [hl] at hs
   refine app_sat hs hy (atoms_pt [x]) (by simp; omega) fun v' h hs hc' ha' => ?_
   simp (disch:=omega) only [go_sem,simprocAttr]
   have:=hs.d1
   rw [List.take_length,List.drop_length]
   simpa using this
  ·have hne : ((i:Int) == (ps.length : Int)) = false:=by rw [beq_eq_false_iff_ne]; omega
   simp (disch:=omega) only [go_sem,simprocAttr,hne]
   refine cnd_dec (fun hlt => ?_) (fun hge => ?_)
   ·have em : (ps.length : Int) + 1 - (i:Int) = ((ps.length + 1 - i : Nat) : Int):=by omega
    simp (disch:=omega) only [go_sem,simprocAttr,slcL_hi,em]
    refine appz_use g (by rw [hl]; exact hi) (by omega) (by omega) fun b2 c2 h hc2 hs => ?_
    have e3 : ((i:Int) + 1).toNat = i + 1:=by omega
    have e4 : i + (ps.length + 1 - i) = ps.length + 1:=by omega
    rw [e4] at hc2
    simp (disch:=omega) only [go_sem,simprocAttr,slcL_lo,e4]
    have hx : srcN 1 h (.arr bx 1 0 1 1) (min 1 (ps.length + 1 - i)) = some [pt x]:=by
     rw [Nat.min_eq_left (by omega)]
     exact srcN_part hs.p2 (by omega) (by simp)
    refine cp_use (n:=1) hs (by simp; omega) (by omega) (by omega) rfl hx (atoms_pt [x]) fun h hs => ?_
    simp (disch:=omega) only [go_sem,simprocAttr,slcL_lo,e3]
    have hy : srcN 1 h (.arr b 1 i (ps.length - i) (cap - i)) (min (ps.length - i) (ps.length + 1 - (i + 1))) = some ((ps.drop i).map pt):=by
     rw [Nat.min_eq_left (by omega)]
     have:=srcN_part (off:=i) (len:=ps.length - i) (c:=cap - i) (n:=ps.length - i) hs.p1 (by omega) (by simp; omega)
     rw [this,← List.map_drop,List.take_of_length_le (by simp)]
    rw [show ps.length + 1 - (i + 1) = ps.length - i by omega] at hy
    refine cp_use (n:=ps.length - i) hs (by simp; omega) (by omega) (by omega) rfl hy (atoms_pt _) fun h hs => ?_
    simp (disch:=omega) only [go_sem,simprocAttr]
    have eq:=ins_row1 (M:=ps.map pt) (R:=List.replicate (ps.length + 1 - i) [AV.nilp]) (x:=pt x) (i:=i) (by simp; omega) (by simp) rfl rfl
    rw [hl] at eq
    have g2:=hs.d1.d1
    rw [Nat.min_eq_left (show 1 ≤ ps.length + 1 - i by omega),Nat.min_self,List.map_drop,eq] at g2
    have e5 : (ps.take i ++ x :: ps.drop i).map pt = (ps.map pt).take i ++ pt x :: (ps.map pt).drop i:=by simp
    rw [← e5] at g2
    have e6 : ((ps.take i ++ x :: ps.drop i).map pt).length = ps.length + 1:=by simp; omega
    have g3:=g2.ow (by rw [e6]; omega)
    rw [e6] at g3
    exact g3
   ·have e3 : ((i:Int) + 1).toNat = i + 1:=by omega
    have e4 : ((ps.length : Int) + 1).toNat = ps.length + 1:=by omega
    simp (disch:=omega) only [go_sem,simprocAttr,slcL_hi,slcL_lo,e3,e4]
    have g0 : sat h (pto bx (.row 1 [pt x] c) :: pto b (.row 1 (ps.map pt) cap) :: F):=g.p1
    refine ovl_use g0 (by omega) (by omega) (by omega) fun q => ?_
    have e5 : (ps.take i ++ x :: ps.drop i).map pt = (ps.map pt).take i ++ pt x :: (ps.map pt).drop i:=by simp
    have e6 : ((ps.take i ++ x :: ps.drop i).map pt).length = ps.length + 1:=by simp; omega
    cases q
    ·simp (disch:=omega) only [go_sem,simprocAttr,slcL_lo,e3]
     have hy : srcN 1 h (.arr b 1 i (ps.length + 1 - i) (cap - i)) (min (ps.length + 1 - i) (ps.length + 1 - (i + 1))) = some ((ps.drop i).map pt):=by
      rw [Nat.min_eq_right (by omega)]
      have:=srcN_part (off:=i) (len:=ps.length + 1 - i) (c:=cap - i) (n:=ps.length + 1 - (i + 1)) g (by omega) (by simp; omega)
      rw [this,← List.map_drop,List.take_of_length_le (by simp)]
     rw [show ps.length + 1 - (i + 1) = ps.length - i by omega] at hy
     refine cp_use (n:=ps.length + 1 - i) g (by simp; omega) (by omega) (by omega) rfl hy (atoms_pt _) fun h hs => ?_
     simp (disch:=omega) only [go_sem,simprocAttr,slcL_lo]
     have hx : srcN 1 h (.arr bx 1 0 1 1) (min 1 (ps.length + 1 - i)) = some [pt x]:=by
      rw [Nat.min_eq_left (by omega)]
      exact srcN_part hs.p1 (by omega) (by simp)
     refine cp_use (n:=1) hs (by simp; omega) (by omega) (by omega) rfl hx (atoms_pt [x]) fun h hs => ?_
     simp (disch:=omega) only [go_sem,simprocAttr]
     have eq:=ins_row2 (M:=ps.map pt) (x:=pt x) (i:=i) (by simp; omega) rfl rfl
     rw [hl] at eq
     have g2:=hs.d1
     rw [Nat.min_eq_left (show 1 ≤ ps.length + 1 - i by omega),show min (ps.length + 1 - i) (ps.length - i) = ps.length - i by omega,List.map_drop,eq,← e5] at g2
     have g3:=g2.ow (by rw [e6]; omega)
     rw [e6] at g3
     exact g3
    ·simp (disch:=omega) only [go_sem,simprocAttr,slcL_lo]
     have hx : srcN 1 h (.arr bx 1 0 1 1) (min 1 (ps.length + 1 - ps.length)) = some [pt x]:=by
      rw [Nat.min_eq_left (by omega)]
      exact srcN_part g.p1 (by omega) (by simp)
     refine cp_use (n:=1) g (by simp) (by omega) (by omega) rfl hx (atoms_pt [x]) fun h hs => ?_
     simp (disch:=omega) only [go_sem,simprocAttr,slcL_lo]
     have g2:=hs.d1
     rw [List.take_of_length_le (by simp),List.drop_eq_nil_of_le (by simp),List.append_nil,show ps.map pt ++ [pt x] = (ps ++ [x]).map pt by simp] at g2
     refine call_use (rotate_item (n:=ps.length) g2 rfl (by omega) (by omega) (by omega)) ?_
     intro r h hs
     simp (disch:=omega) only [go_sem,simprocAttr]
     have g3:=hs.ow (by rw [e6]; omega)
     rw [e6] at g3
     exact g3
theorem ins_node {v:AV} {bx c i x : Nat} {ps:List Nat} (hs : sat h (Ow 1 v (ps.map pt) :: pto bx (.row 1 [pt x] c) :: F)) (hi : i ≤ ps.length) (h2 : ps.length ≤ 10000) (hcx : 1 ≤ c) :
  Triple Tryz.prog 241 [v,.int .i64 i,.arr bx 1 0 1 1] h (fun r h => sat h (Ow 1 r ((ps.take i ++ x :: ps.drop i).map pt) :: F)):=by
 refine t241 (Nat.le_of_ble_eq_true rfl) ?_
 simp (disch:=omega) only [F241,go_sem,simprocAttr]
 rcases hs.cases with ⟨rfl,h0,g⟩ | ⟨b,cap,rfl,g,hcap⟩
 ·have h0 : ps = []:=by simpa using h0
  subst h0
  have hi0 : i = 0:=by simpa using hi
  subst hi0
  have e1 : slcL 1 .nils (some (.int .i64 (0:Nat))) none = some .nils:=rfl
  have e2 : ((0:Nat) : Int) = 0:=rfl
  simp (disch:=omega) only [go_sem,simprocAttr,e1,e2]
  have e3 : slcL 1 .nils (some (.int .i64 0)) none = some .nils:=rfl
  simp (disch:=omega) only [go_sem,simprocAttr,e3]
  have hy : srcA 1 h (.arr bx 1 0 1 1) = some [pt x]:=src_one hs.p1.at
  refine app_sat (es:=[]) (hs.drop.add ow_nil) hy (atoms_pt [x]) (by simp) fun v' h hs hc' ha' => ?_
  simp (disch:=omega) only [go_sem,simprocAttr]
  exact hs.d1
 ·rw [List.length_map] at hcap
  have hl : (ps.map pt).length = ps.length:=by simp
  have en : ((ps.length : Int) == 0) = false ∨ True:=.inr trivial
  simp (disch:=omega) only [go_sem,simprocAttr,slcL_lo,hl]
  by_cases hin : i = ps.length
  ·subst hin
   simp (disch:=omega) only [go_sem,simprocAttr]
   have hy : srcA 1 h (.arr bx 1 0 1 1) = some [pt x]:=src_one hs.p1.at
   have hs:=g.ow (by simpa using hcap)
   rw [hl] at hs
   refine app_sat hs hy (atoms_pt [x]) (by simp; omega) fun v' h hs hc' ha' => ?_
   simp (disch:=omega) only [go_sem,simprocAttr]
   have:=hs.d1
   rw [List.take_length,List.drop_length]
   simpa using this
  ·have hne : ((i:Int) == (ps.length : Int)) = false:=by rw [beq_eq_false_iff_ne]; omega
   simp (disch:=omega) only [go_sem,simprocAttr,hne]
   refine cnd_dec (fun hlt => ?_) (fun hge => ?_)
   ·have em : (ps.length : Int) + 1 - (i:Int) = ((ps.length + 1 - i : Nat) : Int):=by omega
    simp (disch:=omega) only [go_sem,simprocAttr,slcL_hi,em]
    refine appz_use g (by rw [hl]; exact hi) (by omega) (by omega) fun b2 c2 h hc2 hs => ?_
    have e3 : ((i:Int) + 1).toNat = i + 1:=by omega
    have e4 : i + (ps.length + 1 - i) = ps.length + 1:=by omega
    rw [e4] at hc2
    simp (disch:=omega) only [go_sem,simprocAttr,slcL_lo,e4]
    have hx : srcN 1 h (.arr bx 1 0 1 1) (min 1 (ps.length + 1 - i)) = some [pt x]:=by
     rw [Nat.min_eq_left (by omega)]
     exact srcN_part hs.p2 (by omega) (by simp)
    refine cp_use (n:=1) hs (by simp; omega) (by omega) (by omega) rfl hx (atoms_pt [x]) fun h hs => ?_
    simp (disch:=omega) only [go_sem,simprocAttr,slcL_lo,e3]
    have hy : srcN 1 h (.arr b 1 i (ps.length - i) (cap - i)) (min (ps.length - i) (ps.length + 1 - (i + 1))) = some ((ps.drop i).map pt):=by
     rw [Nat.min_eq_left (by omega)]
     have:=srcN_part (off:=i) (len:=ps.length - i) (c:=cap - i) (n:=ps.length - i) hs.p1 (by omega) (by simp; omega)
     rw [this,← List.map_drop,List.take_of_length_le (by simp)]
    rw [show ps.length + 1 - (i + 1) = ps.length - i by omega] at hy
    refine cp_use (n:=ps.length - i) hs (by simp; omega) (by omega) (by omega) rfl hy (atoms_pt _) fun h hs => ?_
    simp (disch:=omega) only [go_sem,simprocAttr]
    have eq:=ins_row1 (M:=ps.map pt) (R:=List.replicate (ps.length + 1 - i) [AV.nilp]) (x:=pt x) (i:=i) (by simp; omega) (by simp) rfl rfl
    rw [hl] at eq
    have g2:=hs.d1.d1
    rw [Nat.min_eq_left (show 1 ≤ ps.length + 1 - i by omega),Nat.min_self,List.map_drop,eq] at g2
    have e5 : (ps.take i ++ x :: ps.drop i).map pt = (ps.map pt).take i ++ pt x :: (ps.map pt).drop i:=by simp
    rw [← e5] at g2
    have e6 : ((ps.take i ++ x :: ps.drop i).map pt).length = ps.length + 1:=by simp; omega
    have g3:=g2.ow (by rw [e6]; omega)
    rw [e6] at g3
    exact g3
   ·have e3 : ((i:Int) + 1).toNat = i + 1:=by omega
    have e4 : ((ps.length : Int) + 1).toNat = ps.length + 1:=by omega
    simp (disch:=omega) only [go_sem,simprocAttr,slcL_hi,slcL_lo,e3,e4]
    have g0 : sat h (pto bx (.row 1 [pt x] c) :: pto b (.row 1 (ps.map pt) cap) :: F):=g.p1
    refine ovl_use g0 (by omega) (by omega) (by omega) fun q => ?_
    have e5 : (ps.take i ++ x :: ps.drop i).map pt = (ps.map pt).take i ++ pt x :: (ps.map pt).drop i:=by simp
    have e6 : ((ps.take i ++ x :: ps.drop i).map pt).length = ps.length + 1:=by simp; omega
    cases q
    ·simp (disch:=omega) only [go_sem,simprocAttr,slcL_lo,e3]
     have hy : srcN 1 h (.arr b 1 i (ps.length + 1 - i) (cap - i)) (min (ps.length + 1 - i) (ps.length + 1 - (i + 1))) = some ((ps.drop i).map pt):=by
      rw [Nat.min_eq_right (by omega)]
      have:=srcN_part (off:=i) (len:=ps.length + 1 - i) (c:=cap - i) (n:=ps.length + 1 - (i + 1)) g (by omega) (by simp; omega)
      rw [this,← List.map_drop,List.take_of_length_le (by simp)]
     rw [show ps.length + 1 - (i + 1) = ps.length - i by omega] at hy
     refine cp_use (n:=ps.length + 1 - i) g (by simp; omega) (by omega) (by omega) rfl hy (atoms_pt _) fun h hs => ?_
     simp (disch:=omega) only [go_sem,simprocAttr,slcL_lo]
     have hx : srcN 1 h (.arr bx 1 0 1 1) (min 1 (ps.length + 1 - i)) = some [pt x]:=by
      rw [Nat.min_eq_left (by omega)]
      exact srcN_part hs.p1 (by omega) (by simp)
     refine cp_use (n:=1) hs (by simp; omega) (by omega) (by omega) rfl hx (atoms_pt [x]) fun h hs => ?_
     simp (disch:=omega) only [go_sem,simprocAttr]
     have eq:=ins_row2 (M:=ps.map pt) (x:=pt x) (i:=i) (by simp; omega) rfl rfl
     rw [hl] at eq
     have g2:=hs.d1
     rw [Nat.min_eq_left (show 1 ≤ ps.length + 1 - i by omega),show min (ps.length + 1 - i) (ps.length - i) = ps.length - i by omega,List.map_drop,eq,← e5] at g2
     have g3:=g2.ow (by rw [e6]; omega)
     rw [e6] at g3
     exact g3
    ·simp (disch:=omega) only [go_sem,simprocAttr,slcL_lo]
     have hx : srcN 1 h (.arr bx 1 0 1 1) (min 1 (ps.length + 1 - ps.length)) = some [pt x]:=by
      rw [Nat.min_eq_left (by omega)]
      exact srcN_part g.p1 (by omega) (by simp)
     refine cp_use (n:=1) g (by simp) (by omega) (by omega) rfl hx (atoms_pt [x]) fun h hs => ?_
     simp (disch:=omega) only [go_sem,simprocAttr,slcL_lo]
     have g2:=hs.d1
     rw [List.take_of_length_le (by simp),List.drop_eq_nil_of_le (by simp),List.append_nil,show ps.map pt ++ [pt x] = (ps ++ [x]).map pt by simp] at g2
     refine call_use (rotate_node (n:=ps.length) g2 rfl (by omega) (by omega) (by omega)) ?_
     intro r h hs
     simp (disch:=omega) only [go_sem,simprocAttr]
     have g3:=hs.ow (by rw [e6]; omega)
     rw [e6] at g3
     exact g3
end
end Go.Proofs.YtmhbnkjajkcmkaaGreat
/- Clone of pointers; place, find. -/
set_option maxRecDepth 10000
namespace Go.Proofs.YtmhbnkjajkcmkaaGreat
open Go.Hz
section
variable {h:Hp} {F:List Asr}
theorem clone_item {b off len cap rc : Nat} {ps:List Nat} (hs : sat h (pto b (.row 1 (ps.map pt) rc) :: F)) (h1 : off + len ≤ ps.length) (h2 : ps.length ≤ 1000000) :
  Triple Tryz.prog 261 [.arr b 1 off len cap] h (fun r h => sat h (Ow 1 r (((ps.drop off).take len).map pt) :: pto b (.row 1 (ps.map pt) rc) :: F)):=by
 refine t261 (Nat.le_of_ble_eq_true rfl) ?_
 simp (disch:=omega) only [F261,go_sem,simprocAttr]
 refine new_opq hs fun n h hs => ?_
 simp (disch:=omega) only [go_sem,simprocAttr,hs.at]
 have hy : srcA 1 h (.arr b 1 off len cap) = some (((ps.drop off).take len).map pt):=by
  have:=src_part (c:=cap) hs.p1 (off:=off) (len:=len) (by simpa using h1)
  rw [this]; simp
 refine app_sat (hs.ow (by simp)) hy (atoms_pt _) (by simp; omega) fun v' h hs hc' ha' => ?_
 simp (disch:=omega) only [go_sem,simprocAttr]
 simpa using hs
theorem clone_node {b off len cap rc : Nat} {ps:List Nat} (hs : sat h (pto b (.row 1 (ps.map pt) rc) :: F)) (h1 : off + len ≤ ps.length) (h2 : ps.length ≤ 1000000) :
  Triple Tryz.prog 262 [.arr b 1 off len cap] h (fun r h => sat h (Ow 1 r (((ps.drop off).take len).map pt) :: pto b (.row 1 (ps.map pt) rc) :: F)):=by
 refine t262 (Nat.le_of_ble_eq_true rfl) ?_
 simp (disch:=omega) only [F262,go_sem,simprocAttr]
 refine new_opq hs fun n h hs => ?_
 simp (disch:=omega) only [go_sem,simprocAttr,hs.at]
 have hy : srcA 1 h (.arr b 1 off len cap) = some (((ps.drop off).take len).map pt):=by
  have:=src_part (c:=cap) hs.p1 (off:=off) (len:=len) (by simpa using h1)
  rw [this]; simp
 refine app_sat (hs.ow (by simp)) hy (atoms_pt _) (by simp; omega) fun v' h hs hc' ha' => ?_
 simp (disch:=omega) only [go_sem,simprocAttr]
 simpa using hs
def geAt (is:List Kp) (key:Key) (i:Nat) : Bool:=match is[i]? with
 | some x => !ltK x.2 key
 | none => true
theorem place1 {bn bk p i : Nat} {iv kv : AV} {is:List Kp} {key:Key} (hs : sat h F) (hN:∀ h,sat h F → NR p iv kv is h∧h bn = some (.row 1 [[.ptr p 2 0 0]] 1)∧h bk = some (.row 1 [[.str key]] 1)) (hi : i < is.length) :
  Triple Tryz.prog 218 [.int .i64 i,.ptr bn 1 0 0,.ptr bk 1 0 0] h (fun r h => r = .bool (geAt is key i)∧sat h F):=by
 refine t218 (Nat.le_of_ble_eq_true rfl) ?_
 simp (disch:=omega) only [F218,go_sem,simprocAttr]
 obtain ⟨hn,h1,h2⟩:=hN h hs
 have hx:=List.getElem?_eq_getElem hi
 obtain ⟨b,cap,rfl,hb⟩:=hn.arr hx
 obtain ⟨mv,hm⟩:=hn.ks _ (List.getElem_mem hi)
 simp (disch:=omega) only [go_sem,simprocAttr,h1,h2,hn.nd,ia_go hi,hb,kpt_get hx,hm]
 refine ⟨?_,hs⟩
 simp [geAt,hx,ltK]
theorem place {p:Nat} {iv kv : AV} {is:List Kp} {key:Key} (hs : sat h F) (hN:∀ h,sat h F → NR p iv kv is h) (hsrt:Srt is) (hl : is.length ≤ 1000000) :
  Triple Tryz.prog 201 [.ptr p 2 0 0,.str key] h (fun r h => ∃ j q,r = .tup [.int .i64 (j:Nat),.bool q]∧PlaceR is key j q∧sat h F):=by
 refine t201 (Nat.le_of_ble_eq_true rfl) ?_
 simp (disch:=omega) only [F201,go_sem,simprocAttr]
 refine new_opq hs fun bn h hs => ?_
 simp (disch:=omega) only [go_sem,simprocAttr,hs.at]
 refine new_opq hs fun bk h hs => ?_
 simp (disch:=omega) only [go_sem,simprocAttr,hs.at]
 have hq : ∀ h,sat h (pto bk (.row 1 [[.str key]] 1) :: pto bn (.row 1 [[.ptr p 2 0 0]] 1) :: F) → NR p iv kv is h∧h bn = some (.row 1 [[.ptr p 2 0 0]] 1)∧h bk = some (.row 1 [[.str key]] 1):=fun h hs => ⟨hN h hs.drop.drop,hs.p1.at,hs.at⟩
 have hn:=(hq h hs).1
 simp (disch:=omega) only [go_sem,simprocAttr,hs.at,hs.p1.at,hn.nd,hn.len]
 refine call_use (search (pr:=geAt is key) hs (by omega) rfl (fun i j hij hj hp => ?_) (fun i h hi hs => place1 hs hq hi)) ?_
 ·have hx:=List.getElem?_eq_getElem hj
  have hy:=List.getElem?_eq_getElem (Nat.lt_of_le_of_lt hij hj)
  simp only [geAt,hx,hy,Bool.not_eq_true'] at hp ⊢
  by_cases hij' : i = j
  ·subst hij'; exact hp
  ·have:=List.pairwise_iff_getElem.1 hsrt i j (by omega) hj (by omega)
   cases hjk : ltK is[j].2 key with
   | false => rfl
   | true => rw [ltK_trans this hjk] at hp; cases hp
 ·rintro r h ⟨j,hr,hj,hlo,hhi,hs⟩
  subst hr
  have lo' : ∀ i x,is[i]? = some x → i < j → ltK x.2 key = true:=fun i x hx hij => by
   have:=hlo i hij
   simpa [geAt,hx] using this
  have hi' : ∀ i x,is[i]? = some x → j ≤ i → ltK x.2 key = false:=fun i x hx hij => by
   have:=hhi i hij (List.getElem?_eq_some_iff.1 hx).1
   simpa [geAt,hx] using this
  have hn:=(hq h hs).1
  simp (disch:=omega) only [go_sem,simprocAttr,hs.at,hs.p1.at,hn.nd,hn.len]
  refine cnd_dec (fun hlt => ?_) (fun hge => ?_)
  ·have hlt : j < is.length:=by omega
   have hx:=List.getElem?_eq_getElem hlt
   obtain ⟨b,cap,rfl,hb⟩:=hn.arr hx
   obtain ⟨mv,hm⟩:=hn.ks _ (List.getElem_mem hlt)
   have dt : decide ((j:Int) < is.length) = true:=by simpa using hlt
   simp (disch:=omega) only [go_sem,simprocAttr,hs.at,hs.p1.at,hn.nd,ia_go hlt,hb,kpt_get hx,hm,dt]
   refine ⟨j,_,rfl,⟨hj,lo',hi',fun hq => ⟨is[j].1,?_⟩,fun hq x hx' => ?_⟩,hs.drop.drop⟩
   ·have : is[j].2 = key:=by simpa using hq
    rw [hx,← this]
   ·rw [hx] at hx'
    cases hx'
    have h1:=hi' j _ hx (Nat.le_refl _)
    cases h2 : ltK key is[j].2 with
    | true => rfl
    | false =>
     have:=ltK_total h1 h2
     simp [this] at hq
  ·have df : decide ((j:Int) < is.length) = false:=by simpa using hge
   simp (disch:=omega) only [go_sem,simprocAttr,df]
   have hje : j = is.length:=by omega
   refine ⟨j,_,rfl,⟨hj,lo',hi',fun hq => (by cases hq),fun _ x hx => ?_⟩,hs.drop.drop⟩
   subst hje
   simp at hx
end
end Go.Proofs.YtmhbnkjajkcmkaaGreat
/- find. -/
set_option maxRecDepth 10000
namespace Go.Proofs.YtmhbnkjajkcmkaaGreat
open Go.Hz
section
variable {h:Hp} {F:List Asr}
theorem pt_get' {ks:List Tr} {i:Nat} {k:Tr} (hi : ks[i]? = some k) : (ks.map fun k => pt k.root)[i]? = some [.ptr k.root 2 0 0]:=by simp [hi,pt]
def findV (l:List Kp) (key:Key) : AV:=match findKp key l with
 | some x => .ptr x.1 2 0 0
 | none => .nilp
theorem find {ix:Nat} {rv:AV} {n:Int} {l:List Kp} {key:Key} (hs : sat h F) (hx:∀ h,sat h F → h ix = some (.row 2 [[rv,.int .i64 n]] 1))
  (hr:(rv = .nilp∧l = []) ∨ ∃ d t,rv = .ptr t.root 2 0 0∧t.flat = l∧OKd d t∧∀ h,sat h F → RT d t h) (hl:Srt l) :
  Triple Tryz.prog 200 [.ptr ix 2 0 0,.str key] h (fun r h => r = findV l key∧sat h F):=by
 refine t200 (Nat.le_of_ble_eq_true rfl) ?_
 simp (disch:=omega) only [F200,go_sem,simprocAttr]
 simp (disch:=omega) only [go_sem,simprocAttr,hx h hs]
 have h0 : ∃ m : Nat,(m = 0∧rv = .nilp∧findKp key l = none) ∨ ∃ d t,m = d + 1∧rv = .ptr t.root 2 0 0∧(∀ h,sat h F → RT d t h)∧OKd d t∧Srt t.flat∧findKp key t.flat = findKp key l:=by
  rcases hr with ⟨rfl,rfl⟩ | ⟨d,t,rfl,rfl,h1,h2⟩
  ·exact ⟨0,.inl ⟨rfl,rfl,rfl⟩⟩
  ·exact ⟨d + 1,.inr ⟨d,t,rfl,rfl,h2,h1,hl,rfl⟩⟩
 obtain ⟨m0,h0⟩:=h0
 refine run_loopN (fun m e h => sat h F∧e 1 = .str key∧((m = 0∧e 5 = .nilp∧findKp key l = none) ∨ ∃ d t,m = d + 1∧e 5 = .ptr t.root 2 0 0∧(∀ h,sat h F → RT d t h)∧OKd d t∧Srt t.flat∧findKp key t.flat = findKp key l))
  m0 ⟨hs,rfl,by simp only [Env.upd_apply,↓reduceIte]; exact h0⟩ ?_
 rintro m e h ⟨hs,he,hr⟩
 rcases hr with ⟨rfl,he5,hn⟩ | ⟨d,t,rfl,he5,hR,ok,hS,hf⟩
 ·simp (disch:=omega) only [go_sem,simprocAttr,he,he5]
  simp only [findV,hn]
  exact ⟨trivial,hs⟩
 ·obtain ⟨p,iv,kv,is,ks⟩:=t
  replace he5 : e 5 = .ptr p 2 0 0:=he5
  have hN:=fun h hs => (hR h hs).nr
  rw [Tr.flat_nd] at hf hS
  have hlen : is.length ≤ 5:=by
   cases d with
   | zero => exact ok.1
   | succ d => exact ok.2.1
  simp (disch:=omega) only [go_sem,simprocAttr,he,he5]
  refine call_use (place hs hN (weave_srt _ _ hS) (by omega)) ?_
  rintro r h ⟨j,q,hr,hp,hs⟩
  subst hr
  have hn:=hN h hs
  simp (disch:=omega) only [go_sem,simprocAttr,he,he5]
  cases q
  ·simp (disch:=omega) only [go_sem,simprocAttr,he,he5,hn.nd,(hR h hs).kv.len]
   cases d with
   | zero =>
    obtain ⟨o1,rfl⟩:=ok
    simp (disch:=omega) only [go_sem,simprocAttr,he,he5]
    refine ⟨?_,hs⟩
    have : findKp key l = none:=by
     rw [← hf]
     refine findKp_none fun x hx hxk => ?_
     exact hp.none rfl (by simpa [weave] using hS) x hx hxk
    simp only [findV,this]
   | succ d =>
    obtain ⟨o0,o1,o2,o3⟩:=ok
    have hjk : j < ks.length:=by have:=hp.le; omega
    have hk:=List.getElem?_eq_getElem hjk
    obtain ⟨b,cap,hkv,hb,_⟩:=(hR h hs).kv.row (pt_get' hk)
    have hz : ((ks.length : Int) == 0) = false:=by rw [beq_eq_false_iff_ne]; omega
    have hlk : (ks.map fun k => pt k.root).length = ks.length:=by simp
    rw [hlk] at hkv
    simp (disch:=omega) only [go_sem,simprocAttr,he,he5,hz,hn.nd,hkv,ia_go hjk,hb,pt_get' hk]
    refine ⟨d + 1,by omega,hs,.inr ⟨d,ks[j],rfl,rfl,fun h hs => (hR h hs).2.2 _ (List.getElem_mem hjk),(o3 _ (List.getElem_mem hjk)).1,?_,?_⟩⟩
    ·exact weave_srt2 _ _ _ (by simpa using o2) (List.mem_map_of_mem (List.getElem_mem hjk)) hS
    ·rw [← hf]
     obtain ⟨A,C,h1,_,_,h2,_,h3,_⟩:=hp.cut (by simpa using o2) hS
     rw [h1,findKp_mid h2 (h3 rfl)]
     simp [hk]
  ·obtain ⟨a,ha⟩:=hp.yes rfl
   have hj:=(List.getElem?_eq_some_iff.1 ha).1
   obtain ⟨b,cap,rfl,hb⟩:=hn.arr ha
   simp (disch:=omega) only [go_sem,simprocAttr,he,he5,hn.nd,ia_go hj,hb,kpt_get ha]
   refine ⟨?_,hs⟩
   have : findKp key l = some (a,key):=by
    rw [← hf]
    exact findKp_mem (x:=(a,key)) hS (mem_weave _ _ (List.mem_of_getElem? ha))
   simp only [findV,this]
end
end Go.Proofs.YtmhbnkjajkcmkaaGreat
/- walk. -/
set_option maxRecDepth 10000
namespace Go.Proofs.YtmhbnkjajkcmkaaGreat
open Go.Hz
section
theorem walk0 {h:Hp} {F:List Asr} (hs : sat h F) (lo hi : Key) (f:AV) : Triple Tryz.prog 160 [.nilp,.str lo,.str hi,f] h (fun r h => sat h F):=by
 refine t160 (Nat.le_of_ble_eq_true rfl) ?_
 simp (disch:=omega) only [F160,go_sem,simprocAttr]
 exact hs
theorem walkN {F:List Asr} {f:Nat} {caps:List AV} {lo hi : Key} {full:List Kp} {A:List Kp → Asr} (hf : okFn Tryz.prog f = true)
  (hc:∀ done x h,(done ++ [x]) <+: full → sat h (A done :: F) → Triple Tryz.prog f (.ptr x.1 2 0 0 :: caps) h fun r h => sat h (A (done ++ [x]) :: F))
  {p:Nat} {iv kv : AV} {is:List Kp} {ks:List Tr} {pre:List Kp} {h:Hp} (h5 : is.length ≤ 5) (hl : ks.map Tr.flat = [] ∨ (ks.map Tr.flat).length = is.length + 1) (hS:Srt (weave (ks.map Tr.flat) is))
  (hN:∀ h,sat h F → NR p iv kv is h) (hK:∀ h,sat h F → Ow 1 kv (ks.map fun k => pt k.root) h) (hpre:(pre ++ (weave (ks.map Tr.flat) is).filter (rngK lo hi)) <+: full) (hs : sat h (A pre :: F))
  (ih:∀ k ∈ ks,∀ pre h,Srt k.flat → (pre ++ k.flat.filter (rngK lo hi)) <+: full → sat h (A pre :: F) → Triple Tryz.prog 160 [.ptr k.root 2 0 0,.str lo,.str hi,.fn f caps] h (fun r h => sat h (A (pre ++ k.flat.filter (rngK lo hi)) :: F))) :
  Triple Tryz.prog 160 [.ptr p 2 0 0,.str lo,.str hi,.fn f caps] h (fun r h => sat h (A (pre ++ (weave (ks.map Tr.flat) is).filter (rngK lo hi)) :: F)):=by
 refine t160 (Nat.le_of_ble_eq_true rfl) ?_
 simp (disch:=omega) only [F160,go_sem,simprocAttr]
 refine call_use (place hs (fun h hs => hN h hs.drop) (weave_srt _ _ hS) (by omega)) ?_
 rintro r h ⟨j,q,hr,hp,hs⟩
 subst hr
 have hlo:=ahd_lo hp hl hS hi
 simp (disch:=omega) only [go_sem,simprocAttr]
 refine run_loopN (fun m e h => ∃ i : Nat,j ≤ i∧i ≤ is.length∧m = is.length - i∧sat h (A (pre ++ (ahd (ks.map Tr.flat) is i).filter (rngK lo hi)) :: F) ∧
  (e 0 = .ptr p 2 0 0∧e 1 = .str lo∧e 2 = .str hi∧e 3 = .fn f caps∧e 8 = .int .i64 i)) (is.length - j) ⟨j,Nat.le_refl _,hp.le,rfl,by rw [hlo]; simpa using hs,rfl,rfl,rfl,rfl,rfl⟩ ?_
 rintro m e h ⟨i,hji,hi2,rfl,hs,he⟩
 obtain ⟨C,hw,hC⟩:=ahd_cut hl hi2
 rw [hw] at hS hpre ⊢
 simp (disch:=omega) only [go_sem,simprocAttr,he,(hN h hs.drop).nd,(hK h hs.drop).len]
 refine cnd_join (Q:=fun e h => sat h (A (pre ++ (ahd (ks.map Tr.flat) is i ++ (ks.map Tr.flat).getD i []).filter (rngK lo hi)) :: F)∧(e 0 = .ptr p 2 0 0∧e 1 = .str lo∧e 2 = .str hi∧e 3 = .fn f caps∧e 8 = .int .i64 i)) ?_ ?_
 ·refine cnd_dec (fun hlt => ?_) (fun hge => ?_)
  ·have hjk : i < ks.length:=by
    rcases hl with hl | hl
    ·simp at hl; subst hl; simp at hlt
    ·simp at hl; omega
   have hk:=List.getElem?_eq_getElem hjk
   have hlk : (ks.map fun k => pt k.root).length = ks.length:=by simp
   obtain ⟨b,cap,hkv,hb,_⟩:=(hK h hs.drop).row (pt_get' hk)
   rw [hlk] at hkv
   simp (disch:=omega) only [go_sem,simprocAttr,he,(hN h hs.drop).nd,hkv,ia_go hjk,hb,pt_get' hk]
   have eg : (ks.map Tr.flat).getD i [] = ks[i].flat:=by simp [hk]
   rw [eg] at hS hpre ⊢
   refine call_use (ih ks[i] (List.getElem_mem hjk) _ _ (Srt.app.1 (Srt.app.1 hS).1).2.1 ?_ hs) ?_
   ·refine List.IsPrefix.trans ⟨C.filter (rngK lo hi),?_⟩ hpre
    simp
   ·intro r h hs
    simp (disch:=omega) only [go_sem,simprocAttr,he]
    simpa using hs
  ·have hk0 : ks = []:=by
    cases ks with
    | nil => rfl
    | cons k ks => simp at hge
   subst hk0
   simp (disch:=omega) only [go_sem,simprocAttr,he]
   simpa using hs
 ·rintro e h ⟨hs,he⟩
  simp (disch:=omega) only [go_sem,simprocAttr,he,(hN h hs.drop).nd,(hN h hs.drop).len]
  by_cases hin : i = is.length
  ·have hb : ((i:Int) == (is.length : Int)) = true:=by simp [hin]
   simp (disch:=omega) only [go_sem,simprocAttr,he,hb]
   have : C = []:=by
    rw [hin] at hC; simpa using hC
   subst this
   simpa using hs
  ·have hb : ((i:Int) == (is.length : Int)) = false:=by rw [beq_eq_false_iff_ne]; omega
   have hi3 : i < is.length:=by omega
   have hx:=List.getElem?_eq_getElem hi3
   have hrr : ∀ h,(∀ y : Kp,y = is[i] → rngK lo hi y = true) → sat h (A (pre ++ (ahd (ks.map Tr.flat) is i ++ (ks.map Tr.flat).getD i []).filter (rngK lo hi) ++ [is[i]]) :: F) → sat h (A (pre ++ (ahd (ks.map Tr.flat) is (i + 1)).filter (rngK lo hi)) :: F):=by
    intro h hr hs
    simp only [ahd,hx,Option.toList_some]
    rw [List.filter_append _ [is[i]],List.filter_cons_of_pos (hr _ rfl)]
    simpa using hs
   obtain ⟨C',rfl⟩ : ∃ C',C = is[i] :: C':=by
    rw [hx] at hC
    cases C with
    | nil => cases hC
    | cons c C => cases hC; exact ⟨_,rfl⟩
   have hnlo : ltK is[i].2 lo = false:=hp.hi i _ hx hji
   have hpr : rngK lo hi is[i] = true → (pre ++ (ahd (ks.map Tr.flat) is i ++ (ks.map Tr.flat).getD i []).filter (rngK lo hi) ++ [is[i]]) <+: full:=fun hr => by
    refine List.IsPrefix.trans ⟨C'.filter (rngK lo hi),?_⟩ hpre
    rw [List.filter_append _ (is[i] :: C'),List.filter_cons_of_pos hr]
    simp
   by_cases hh : hi = []
   ·subst hh
    have hr : rngK lo [] is[i] = true:=by simp [rngK,hnlo]
    obtain ⟨b,cap,hiv,hbb⟩:=(hN h hs.drop).arr hx
    have hbn : (([] : Key) != []) = false:=rfl
    simp (disch:=omega) only [go_sem,simprocAttr,he,hb,hbn,(hN h hs.drop).nd,hiv,ia_go hi3,hbb,kpt_get hx]
    refine callv_use hf (hc _ _ _ (hpr hr) hs) ?_
    intro r h hs
    simp (disch:=omega) only [go_sem,simprocAttr,he]
    exact ⟨is.length - (i + 1),by omega,i + 1,by omega,by omega,rfl,hrr h (fun y hy => by rw [hy]; exact hr) hs,rfl⟩
   ·have hbn : (hi != []) = true:=by simpa using hh
    obtain ⟨b,cap,hiv,hbb⟩:=(hN h hs.drop).arr hx
    obtain ⟨mv,hm⟩:=(hN h hs.drop).ks _ (List.getElem_mem hi3)
    simp (disch:=omega) only [go_sem,simprocAttr,he,hb,hbn,(hN h hs.drop).nd,hiv,ia_go hi3,hbb,kpt_get hx,hm]
    cases hlt : Op.bytesLess is[i].2 hi
    ·simp (disch:=omega) only [go_sem,simprocAttr,he]
     have:=rng_hi (lo:=lo) (Srt.app.1 hS).2.1 rfl hh hlt
     rw [List.filter_append _ (is[i] :: C'),this]
     simpa using hs
    ·have hlt2 : ltK is[i].2 hi = true:=hlt
     have hr : rngK lo hi is[i] = true:=by simp [rngK,hnlo,hlt2]
     simp (disch:=omega) only [go_sem,simprocAttr,he,hb,hbn,(hN h hs.drop).nd,hiv,ia_go hi3,hbb,kpt_get hx]
     refine callv_use hf (hc _ _ _ (hpr hr) hs) ?_
     intro r h hs
     simp (disch:=omega) only [go_sem,simprocAttr,he]
     exact ⟨is.length - (i + 1),by omega,i + 1,by omega,by omega,rfl,hrr h (fun y hy => by rw [hy]; exact hr) hs,rfl⟩
theorem walk {F:List Asr} {f:Nat} {caps:List AV} {lo hi : Key} {full:List Kp} {A:List Kp → Asr} (hf : okFn Tryz.prog f = true)
  (hc:∀ done x h,(done ++ [x]) <+: full → sat h (A done :: F) → Triple Tryz.prog f (.ptr x.1 2 0 0 :: caps) h fun r h => sat h (A (done ++ [x]) :: F)) :
  ∀ (d:Nat) (t:Tr) (pre:List Kp) (h:Hp),OKd d t → Srt t.flat → (∀ h,sat h F → RT d t h) → (pre ++ t.flat.filter (rngK lo hi)) <+: full → sat h (A pre :: F) →
   Triple Tryz.prog 160 [.ptr t.root 2 0 0,.str lo,.str hi,.fn f caps] h (fun r h => sat h (A (pre ++ t.flat.filter (rngK lo hi)) :: F)):=by
 intro d
 induction d with
 | zero =>
  rintro ⟨p,iv,kv,is,ks⟩ pre h ⟨ok,rfl⟩ hS hR hpre hs
  rw [Tr.flat_nd] at hS hpre ⊢
  exact walkN hf hc ok (.inl rfl) hS (fun h hs => (hR h hs).nr) (fun h hs => (hR h hs).kv) hpre hs (fun k hk => by cases hk)
 | succ d ih =>
  rintro ⟨p,iv,kv,is,ks⟩ pre h ok hS hR hpre hs
  obtain ⟨o0,o1,o2,o3⟩:=ok
  rw [Tr.flat_nd] at hS hpre ⊢
  exact walkN hf hc o1 (.inr (by simpa using o2)) hS (fun h hs => (hR h hs).nr) (fun h hs => (hR h hs).kv) hpre hs
   (fun k hk pre h hS hpre hs => ih k pre h (o3 k hk).1 hS (fun h hs => (hR h hs).2.2 k hk) hpre hs)
end
end Go.Proofs.YtmhbnkjajkcmkaaGreat
/- split, insert. -/
set_option maxRecDepth 10000
namespace Go.Proofs.YtmhbnkjajkcmkaaGreat
open Go.Hz
section
variable {h:Hp} {F:List Asr}
theorem split_no {p:Nat} {iv kv : AV} {es:List (List AV)} (hs : sat h (pto p (.row 2 [[iv,kv]] 1) :: Ow 1 iv es :: F)) (h5 : es.length ≤ 5) :
  Triple Tryz.prog 240 [.ptr p 2 0 0] h (fun r h => r = .tup [.nilp,.nilp]∧sat h (pto p (.row 2 [[iv,kv]] 1) :: Ow 1 iv es :: F)):=by
 refine t240 (Nat.le_of_ble_eq_true rfl) ?_
 simp (disch:=omega) only [F240,go_sem,simprocAttr]
 have hl:=hs.drop.owr.len
 have hd : decide ((es.length : Int) ≤ 5) = true:=by simp; omega
 simp (disch:=omega) only [go_sem,simprocAttr,hs.at,hl,hd]
 exact hs
theorem split_yes {p:Nat} {iv kv : AV} {ps qs : List Nat} (hs : sat h (pto p (.row 2 [[iv,kv]] 1) :: Ow 1 iv (ps.map pt) :: Ow 1 kv (qs.map pt) :: F)) (h6 : ps.length = 6) (h7 : qs = [] ∨ qs.length = 7) {x:Nat} (hx : ps[3]? = some x) :
  Triple Tryz.prog 240 [.ptr p 2 0 0] h (fun r h => ∃ p2 iv1 kv1 iv2 kv2,r = .tup [.ptr x 2 0 0,.ptr p2 2 0 0] ∧
   sat h (pto p (.row 2 [[iv1,kv1]] 1) :: Ow 1 iv1 ((ps.take 3).map pt) :: Ow 1 kv1 ((qs.take 4).map pt) :: pto p2 (.row 2 [[iv2,kv2]] 1) :: Ow 1 iv2 ((ps.drop 4).map pt) :: Ow 1 kv2 ((qs.drop 4).map pt) :: F)):=by
 refine Triple.view ?_
 refine t240 (Nat.le_of_ble_eq_true rfl) ?_
 simp (disch:=omega) only [F240,go_sem,simprocAttr]
 obtain ⟨b,cap,hiv,hb,hcap⟩:=hs.drop.owr.row (pt_get hx)
 rw [List.length_map,h6] at hiv hcap
 subst hiv
 have hl:=hs.drop.drop.owr.len
 rw [List.length_map] at hl
 have g1:=(hs.p1.arr).1
 have e1 : (6:Int).tdiv 2 = 3:=rfl
 have e2 : ((6:Nat) : Int) = 6:=rfl
 have e3 : decide ((6:Int) ≤ 5) = false:=rfl
 have hia : iaA 1 (.arr b 1 0 6 cap) (.int .i64 3) = some (.ptr b 1 3 0):=by rw [iaA_go (by omega) (by omega)]; rfl
 have hw : IntKind.i64.wrap 3 = 3:=rfl
 have hw4 : IntKind.i64.wrap 4 = 4:=rfl
 have e5 : (3:Int) + 1 = 4:=rfl
 simp (disch:=omega) only [go_sem,simprocAttr,hs.at,e1,e2,e3,hia,hb,pt_get hx,slcL_lo,hw,hw4,e5]
 refine call_use (clone_item g1 (by omega) (by omega)) ?_
 intro iv2 h hs
 have ht : ((ps.drop (0 + 4)).take (6 - 4)) = ps.drop 4:=by rw [List.take_of_length_le (by simp; omega)]
 rw [ht] at hs
 have hc:=hs.owr.len
 have hcl : iv2.cells = [iv2]:=hs.els.cells
 have hca : iv2.isAtom = true:=hs.els.atom
 simp (disch:=omega) only [go_sem,simprocAttr,hcl,hca]
 refine new_opq hs fun p2 h hs => ?_
 simp (disch:=omega) only [go_sem,simprocAttr,hs.at,hcl,hca]
 have hp:=hs.p3.at
 have hia3 : slcL 1 (.arr b 1 0 6 cap) none (some (.int .i64 3)) = some (.arr b 1 0 3 cap):=by rw [slcL_hi (by omega) (by omega) (by omega)]; rfl
 rcases h7 with rfl | h7
 ·have hl : lenL kv = some (.int .i64 0):=hl
  simp (disch:=omega) only [go_sem,simprocAttr,hp,hl,hia3]
  have g:=hs.p3.set (o':=.row 2 [[.arr b 1 0 3 cap,kv]] 1)
  have gb:=g.p3
  refine ⟨_,_,GV.trim _ 3 gb.at,⟨p2,.arr b 1 0 3 cap,kv,iv2,.nils,rfl,?_⟩⟩
  have g2:=(gb.set (o':=.row 1 ((ps.map pt).take 3) cap))
  have g3:=g2.ow (by simp; omega)
  have e6 : ((ps.map pt).take 3).length = 3:=by simp; omega
  rw [e6] at g3
  rw [show (ps.take 3).map pt = (ps.map pt).take 3 by simp]
  have g4:=(g3.add (A:=Ow 1 .nils ((([] : List Nat).drop 4).map pt)) ow_nil)
  exact g4.p4.p4.p5.p4.p5
 ·obtain ⟨y,hy⟩ : ∃ y,qs[0]? = some y:=⟨_,List.getElem?_eq_getElem (by omega)⟩
  have g5:=hs.p3.p3.p3.p3.p4
  obtain ⟨bk,ck,hkv,hbk,hck⟩:=g5.owr.row (pt_get hy)
  rw [List.length_map,h7] at hkv hck
  subst hkv
  have gk:=(g5.arr).1
  have hp:=gk.p3.p3.p3.p4.at
  have hl7 : decide ((0:Int) < ((7:Nat) : Int)) = true:=rfl
  have hk3 : slcL 1 (.arr bk 1 0 7 ck) (some (.int .i64 4)) none = some (.arr bk 1 4 3 (ck - 4)):=by rw [slcL_lo (by omega) (by omega) (by omega)]; rfl
  have hk4 : slcL 1 (.arr bk 1 0 7 ck) none (some (.int .i64 4)) = some (.arr bk 1 0 4 ck):=by rw [slcL_hi (by omega) (by omega) (by omega)]; rfl
  simp (disch:=omega) only [go_sem,simprocAttr,hp,hl7,hk3,hw4,e5]
  refine call_use (clone_node gk (by omega) (by omega)) ?_
  intro kv2 h hs
  have ht : ((qs.drop 4).take 3) = qs.drop 4:=by rw [List.take_of_length_le (by simp; omega)]
  rw [ht] at hs
  have hcl2 : kv2.cells = [kv2]:=hs.els.cells
  have hca2 : kv2.isAtom = true:=hs.els.atom
  have g6:=hs.p5.p5.p5.p4.p4.p5
  have g7:=(g6.set (o':=.row 2 [[iv2,kv2]] 1))
  have hp:=g7.drop.p1.drop.p1.drop.p1.drop.p1.at
  simp (disch:=omega) only [go_sem,simprocAttr,g6.at,hcl2,hca2,hp,hk4,hw4,e5]
  have g8:=(g7.p4.p4.p4.p4.p4.p5).set (o':=.row 2 [[.arr b 1 0 6 cap,.arr bk 1 0 4 ck]] 1)
  simp (disch:=omega) only [go_sem,simprocAttr,g8.at,hia3]
  have g9:=(g7.p4.p4.p4.p4.p4.p5).set (o':=.row 2 [[.arr b 1 0 3 cap,.arr bk 1 0 4 ck]] 1)
  have gb:=g9.p4.p4.p4.p4.p4.p5
  have gk2:=(gb.set (o':=.row 1 ((ps.map pt).take 3) cap)).p5.p4.p4.p4.p4.p5
  refine ⟨_,_,(GV.trim _ 3 gb.at).trans (GV.trim _ 4 gk2.at),⟨p2,.arr b 1 0 3 cap,.arr bk 1 0 4 ck,iv2,kv2,rfl,?_⟩⟩
  have ga:=(gk2.set (o':=.row 1 ((qs.map pt).take 4) ck)).ow (by simp; omega)
  have gc:=(ga.p5.p5.p5.p5.p4.p5).ow (by simp; omega)
  have e6 : ((ps.map pt).take 3).length = 3:=by simp; omega
  have e7 : ((qs.map pt).take 4).length = 4:=by simp; omega
  rw [e6,e7] at gc
  rw [show (ps.take 3).map pt = (ps.map pt).take 3 by simp,show (qs.take 4).map pt = (qs.map pt).take 4 by simp]
  exact gc.p4.p5.p5.p4.p4.p5
def InsR (d:Nat) (root:Nat) (l:List Kp) (F:List Asr) (r:AV) (h:Hp) : Prop :=
 (∃ t',r = .tup [.nilp,.nilp]∧OKd d t'∧t'.root = root∧t'.flat = l∧sat h (t'.asr :: F)) ∨
 ∃ t1 m t2,r = .tup [.ptr (m:Kp).1 2 0 0,.ptr (Tr.root t2) 2 0 0]∧OKd d t1∧OKd d t2∧Tr.root t1 = root∧t1.flat ++ m :: t2.flat = l∧t1.flat ≠ []∧t2.flat ≠ []∧sat h (t1.asr :: t2.asr :: F)
theorem finish {d p : Nat} {iv kv : AV} {is:List Kp} {ks:List Tr} (h6 : is.length ≤ 6) (ok:OKs d is ks) (hs : sat h (Tr.parts p iv kv is ks ++ F)) :
  Triple Tryz.prog 240 [.ptr p 2 0 0] h (InsR d p (weave (ks.map Tr.flat) is) F):=by
 by_cases h5 : is.length ≤ 5
 ·refine (split_no (iv:=iv) (kv:=kv) (es:=is.map kpt) hs (by simpa using h5)).mono ?_
  rintro r h ⟨rfl,hs⟩
  exact .inl ⟨.nd p iv kv is ks,rfl,okd_nd.2 ⟨h5,ok⟩,rfl,Tr.flat_nd,sat_nd.2 hs⟩
 ·have h6 : is.length = 6:=by omega
  have hx:=List.getElem?_eq_getElem (l:=is) (i:=3) (by omega)
  have h7 : ks.map Tr.root = [] ∨ (ks.map Tr.root).length = 7:=by
   cases d with
   | zero => left; rw [show ks = [] from ok]; rfl
   | succ d => right; rw [List.length_map,ok.2.1,h6]
  unfold Tr.parts at hs
  rw [kpt_pt,rt_pt] at hs
  refine (split_yes (x:=is[3].1) hs (by simpa using h6) h7 (by simp [hx])).mono ?_
  rintro r h ⟨p2,iv1,kv1,iv2,kv2,rfl,hs⟩
  have hks : ks.map Tr.asr ++ F = (ks.take 4).map Tr.asr ++ ((ks.drop 4).map Tr.asr ++ F):=by
   rw [← List.append_assoc,← List.map_append,List.take_append_drop]
  have e3 : is = is.take 3 ++ is[3] :: is.drop 4:=by
   rw [← List.drop_eq_getElem_cons,List.take_append_drop]
  refine .inr ⟨.nd p iv1 kv1 (is.take 3) (ks.take 4),is[3],.nd p2 iv2 kv2 (is.drop 4) (ks.drop 4),rfl,?_,?_,rfl,?_,?_,?_,?_⟩
  ·refine okd_nd.2 ⟨by simp; omega,?_⟩
   cases d with
   | zero => simp only [OKs] at ok ⊢; simp [ok]
   | succ d => exact ⟨by simp; omega,by have:=ok.2.1; simp; omega,fun k hk => ok.2.2 k (List.mem_of_mem_take hk)⟩
  ·refine okd_nd.2 ⟨by simp; omega,?_⟩
   cases d with
   | zero => simp only [OKs] at ok ⊢; simp [ok]
   | succ d => exact ⟨by simp; omega,by have:=ok.2.1; simp; omega,fun k hk => ok.2.2 k (List.mem_of_mem_drop hk)⟩
  ·rw [Tr.flat_nd,Tr.flat_nd]
   cases d with
   | zero =>
    have hk : ks = []:=ok
    subst hk
    simp only [List.take_nil,List.drop_nil,List.map_nil,weave_nil]
    exact e3.symm
   | succ d =>
    have:=weave_cut ((ks.take 4).map Tr.flat) ((ks.drop 4).map Tr.flat) (is.take 3) (is.drop 4) is[3] (by have:=ok.2.1; simp; omega)
    rw [← this,← List.map_append,List.take_append_drop,← e3]
  ·rw [Tr.flat_nd]; exact weave_ne (by simp; omega)
  ·rw [Tr.flat_nd]; exact weave_ne (by simp; omega)
  ·refine sat_nd.2 ?_
   have hq : sat h ([pto p (.row 2 [[iv1,kv1]] 1),Ow 1 iv1 ((is.take 3).map kpt),Ow 1 kv1 ((ks.take 4).map fun k => pt k.root)] ++ ((ks.take 4).map Tr.asr ++ (Tr.parts p2 iv2 kv2 (is.drop 4) (ks.drop 4) ++ F))):=by
    have g:=hs
    rw [show (((is.map fun x => x.1).take 3).map pt) = (is.take 3).map kpt by rw [kpt_pt]; simp,show (((is.map fun x => x.1).drop 4).map pt) = (is.drop 4).map kpt by rw [kpt_pt]; simp,
     show (((ks.map Tr.root).take 4).map pt) = (ks.take 4).map (fun k => pt k.root) by rw [rt_pt]; simp,show (((ks.map Tr.root).drop 4).map pt) = (ks.drop 4).map (fun k => pt k.root) by rw [rt_pt]; simp] at g
    refine sat.tls (l1:=[pto p (.row 2 [[iv1,kv1]] 1),Ow 1 iv1 ((is.take 3).map kpt),Ow 1 kv1 ((ks.take 4).map fun k => pt k.root)]) g fun h g => ?_
    have g2 : sat h ([pto p2 (.row 2 [[iv2,kv2]] 1),Ow 1 iv2 ((is.drop 4).map kpt),Ow 1 kv2 ((ks.drop 4).map fun k => pt k.root)] ++ ((ks.take 4).map Tr.asr ++ ((ks.drop 4).map Tr.asr ++ F))):=by
     rw [← hks]; exact g
    exact g2.swapl
   have hq2 : sat h (Tr.parts p iv1 kv1 (is.take 3) (ks.take 4) ++ (Tr.parts p2 iv2 kv2 (is.drop 4) (ks.drop 4) ++ F)):=by
    exact hq
   exact hq2.tls fun h g => sat_nd.2 g
end
end Go.Proofs.YtmhbnkjajkcmkaaGreat
/- insert. -/
set_option maxRecDepth 10000
namespace Go.Proofs.YtmhbnkjajkcmkaaGreat
open Go.Hz
section
variable {h:Hp} {F:List Asr}
theorem insK_place {is:List Kp} {x:Kp} {j:Nat} {q:Bool} (hp:PlaceR is x.2 j q) : is.take j ++ x :: is.drop j = insK x is:=by
 have:=insK_split (x:=x) (A:=is.take j) (C:=is.drop j) (fun y hy => ?_) (fun y hy => ?_)
 ·rw [List.take_append_drop] at this; exact this.symm
 ·obtain ⟨i,hi⟩:=List.getElem?_of_mem hy
  rw [List.getElem?_take] at hi
  split at hi
  ·exact hp.lo i y hi (by assumption)
  ·cases hi
 ·rw [List.head?_drop] at hy
  exact hp.hi j y hy (Nat.le_refl _)
theorem insert : ∀ (d:Nat) (t:Tr) (x:Kp) {h:Hp} {F:List Asr},OKd d t → Srt t.flat → sat h (t.asr :: F) → (∀ h,sat h F → IR t.flat h) → (∀ h,sat h F → ∃ mv,h x.1 = some (.row 2 [[.str x.2,mv]] 1)) →
  Triple Tryz.prog 217 [.ptr t.root 2 0 0,.ptr x.1 2 0 0] h (InsR d t.root (insK x t.flat) F):=by
 intro d
 induction d with
 | zero =>
  rintro ⟨p,iv,kv,is,ks⟩ x h F ⟨h5,rfl⟩ hS hs hI hX
  rw [Tr.flat_nd] at hS hI ⊢
  have hs:=sat_nd.1 hs
  have hN : ∀ h,sat h (Tr.parts p iv kv is [] ++ F) → NR p iv kv is h:=fun h hs => ⟨hs.at,hs.drop.owr,fun y hy => hI h hs.right y (mem_weave _ _ hy)⟩
  obtain ⟨mv,hx⟩:=hX h hs.right
  refine t217 (Nat.le_of_ble_eq_true rfl) ?_
  simp (disch:=omega) only [F217,Tr.root,go_sem,simprocAttr]
  simp (disch:=omega) only [go_sem,simprocAttr,hx]
  refine call_use (place hs hN (weave_srt _ _ hS) (by omega)) ?_
  rintro r h ⟨j,q,hr,hp,hs⟩
  subst hr
  have hkl:=hs.drop.drop.owr.len
  simp (disch:=omega) only [go_sem,simprocAttr,(hN h hs).nd,hkl]
  refine new_opq hs fun bx h hs => ?_
  simp (disch:=omega) only [go_sem,simprocAttr,hs.at]
  have hs' : sat h (pto bx (.row 1 [pt x.1] 1) :: pto p (.row 2 [[iv,kv]] 1) :: Ow 1 iv (is.map kpt) :: Ow 1 kv ([] : List (List AV)) :: F):=hs
  rw [kpt_pt] at hs'
  refine call_use (ins_item (x:=x.1) (i:=j) (hs'.p3.p2.p2.p3) (by simpa using hp.le) (by simp; omega) (Nat.le_refl _)) ?_
  intro iv' h hs
  have hc:=hs.els.cells
  have ha:=hs.els.atom
  have g:=hs.p1
  simp (disch:=omega) only [go_sem,simprocAttr,g.at,hc,ha]
  have g2:=g.set (o':=.row 2 [[iv',kv]] 1)
  have e1 : ((is.map fun x => x.1).take j ++ x.1 :: (is.map fun x => x.1).drop j).map pt = (insK x is).map kpt:=by
   rw [← insK_place hp,kpt_pt]; simp
  rw [e1] at g2
  refine call_use (finish (d:=0) (is:=insK x is) (ks:=[]) (by rw [insK_len]; omega) rfl g2) ?_
  intro r h hr
  rcases hr with ⟨t',rfl,hr⟩ | ⟨t1,m,t2,rfl,hr⟩
  ·simp (disch:=omega) only [go_sem,simprocAttr]
   exact .inl ⟨t',rfl,hr⟩
  ·simp (disch:=omega) only [go_sem,simprocAttr]
   exact .inr ⟨t1,m,t2,rfl,hr⟩
 | succ d ih =>
  rintro ⟨p,iv,kv,is,ks⟩ x h F ⟨o0,o1,o2,o3⟩ hS hs hI hX
  rw [Tr.flat_nd] at hS hI ⊢
  have hs:=sat_nd.1 hs
  have hN : ∀ h,sat h (Tr.parts p iv kv is ks ++ F) → NR p iv kv is h:=fun h hs => ⟨hs.at,hs.drop.owr,fun y hy => hI h hs.right y (mem_weave _ _ hy)⟩
  obtain ⟨mv,hx⟩:=hX h hs.right
  refine t217 (Nat.le_of_ble_eq_true rfl) ?_
  simp (disch:=omega) only [F217,Tr.root,go_sem,simprocAttr]
  simp (disch:=omega) only [go_sem,simprocAttr,hx]
  refine call_use (place hs hN (weave_srt _ _ hS) (by omega)) ?_
  rintro r h ⟨j,q,hr,hp,hs⟩
  subst hr
  have hjk : j < ks.length:=by have:=hp.le; omega
  have hk:=List.getElem?_eq_getElem hjk
  have hlk : (ks.map fun k => pt k.root).length = ks.length:=by simp
  obtain ⟨b,cap,hkv,hb,_⟩:=hs.drop.drop.owr.row (pt_get' hk)
  rw [hlk] at hkv
  have hz : ((ks.length : Int) == 0) = false:=by rw [beq_eq_false_iff_ne]; omega
  simp (disch:=omega) only [go_sem,simprocAttr,(hN h hs).nd,hkv,hz,ia_go hjk,hb,pt_get' hk]
  obtain ⟨A,C,w1,w2,w3,cA,cC,_,hC⟩:=hp.cut (by simpa using o2) hS
  have hkf : (ks.map Tr.flat).getD j [] = ks[j].flat:=by simp [hk]
  rw [hkf] at w1
  have hins : insK x (weave (ks.map Tr.flat) is) = A ++ insK x ks[j].flat ++ C:=by
   rw [w1]; exact insK_mid cA fun y hy => cC y (List.mem_of_mem_head? hy)
  have eks : ks = ks.take j ++ ks[j] :: ks.drop (j + 1):=by rw [← List.drop_eq_getElem_cons,List.take_append_drop]
  have hq : sat h (ks[j].asr :: ([pto p (.row 2 [[iv,kv]] 1),Ow 1 iv (is.map kpt),Ow 1 kv (ks.map fun k => pt k.root)] ++ ((ks.take j).map Tr.asr ++ ((ks.drop (j + 1)).map Tr.asr ++ F)))):=by
   have g : sat h (([pto p (.row 2 [[iv,kv]] 1),Ow 1 iv (is.map kpt),Ow 1 kv (ks.map fun k => pt k.root)] ++ (ks.take j).map Tr.asr) ++ ks[j].asr :: ((ks.drop (j + 1)).map Tr.asr ++ F)):=by
    have e : Tr.parts p iv kv is ks ++ F = ([pto p (.row 2 [[iv,kv]] 1),Ow 1 iv (is.map kpt),Ow 1 kv (ks.map fun k => pt k.root)] ++ (ks.take j).map Tr.asr) ++ ks[j].asr :: ((ks.drop (j + 1)).map Tr.asr ++ F):=by
     have em : ks.map Tr.asr = (ks.take j).map Tr.asr ++ ks[j].asr :: (ks.drop (j + 1)).map Tr.asr:=by
      conv => lhs; rw [eks]
      rw [List.map_append,List.map_cons]
     unfold Tr.parts
     rw [em]
     simp only [List.cons_append,List.nil_append,List.append_assoc]
    rw [← e]; exact hs
   have:=g.mid
   rw [List.append_assoc] at this
   exact this
  have hnm:=List.getElem_mem hjk
  have back : ∀ (t' : Tr) h,t'.root = ks[j].root → sat h (t'.asr :: ([pto p (.row 2 [[iv,kv]] 1),Ow 1 iv (is.map kpt),Ow 1 kv (ks.map fun k => pt k.root)] ++ ((ks.take j).map Tr.asr ++ ((ks.drop (j + 1)).map Tr.asr ++ F)))) →
    sat h (Tr.parts p iv kv is (ks.set j t') ++ F):=by
   intro t' h hroot g
   rw [← List.append_assoc] at g
   have g2:=g.unmid
   have er : (ks.set j t').map (fun k => pt k.root) = ks.map fun k => pt k.root:=by
    rw [List.map_set,hroot]
    apply List.ext_getElem (by simp)
    intro i h1 h2
    rw [List.getElem_set]
    split
    ·rename_i hij; subst hij; simp
    ·rfl
   unfold Tr.parts
   rw [er,List.set_eq_take_append_cons_drop,if_pos hjk]
   simpa using g2
  refine call_use (ih ks[j] x (o3 _ hnm).1 (weave_srt2 _ _ _ (by simpa using o2) (List.mem_map_of_mem hnm) hS) hq (fun h hs => fun y hy => ?_) (fun h hs => ?_)) ?_
  ·have:=hs.right.right.right
   exact hI h this y (mem_weave2 _ _ ks[j].flat (by simpa using o2) (List.mem_map_of_mem hnm) hy)
  ·exact hX h hs.right.right.right
  ·intro r h hr
   rcases hr with ⟨t',rfl,okt,hroot,hfl,hs⟩ | ⟨t1,m,t2,rfl,ok1,ok2,hroot,hfl,hne1,hne2,hs⟩
   ·have g:=back t' h hroot hs
    simp (disch:=omega) only [go_sem,simprocAttr]
    have hwf : weave ((ks.set j t').map Tr.flat) is = insK x (weave (ks.map Tr.flat) is):=by
     rw [hins,List.map_set,w2,hfl]
    rw [← hwf]
    refine call_use (finish (d:=d + 1) (ks:=ks.set j t') (by omega) ⟨o0,by simpa using o2,fun k hk' => ?_⟩ g) ?_
    ·rcases List.mem_or_eq_of_mem_set hk' with h1 | h1
     ·exact o3 k h1
     ·subst h1
      refine ⟨okt,?_⟩
      rw [hfl]; intro h0
      have:=congrArg List.length h0
      rw [insK_len] at this; simp at this
    ·intro r h hr
     rcases hr with ⟨t',rfl,hr⟩ | ⟨t1,m,t2,rfl,hr⟩
     ·simp (disch:=omega) only [go_sem,simprocAttr]
      exact .inl ⟨t',rfl,hr⟩
     ·simp (disch:=omega) only [go_sem,simprocAttr]
      exact .inr ⟨t1,m,t2,rfl,hr⟩
   ·have g0 : sat h (pto p (.row 2 [[iv,kv]] 1) :: Ow 1 iv (is.map kpt) :: Ow 1 kv (ks.map fun k => pt k.root) :: t1.asr :: t2.asr :: ((ks.take j).map Tr.asr ++ ((ks.drop (j + 1)).map Tr.asr ++ F))) :=
     hs.p1.p1.p4.p4.p4
    simp (disch:=omega) only [go_sem,simprocAttr,g0.at]
    have hs:=g0
    refine new_opq hs fun bx h hs => ?_
    simp (disch:=omega) only [go_sem,simprocAttr,hs.at]
    rw [kpt_pt] at hs
    refine call_use (ins_item (x:=m.1) (i:=j) (hs.p3.p2.p2.p3) (by simpa using hp.le) (by simp; omega) (Nat.le_refl _)) ?_
    intro iv' h hs
    have hc:=hs.els.cells
    have ha:=hs.els.atom
    have g:=hs.p1
    simp (disch:=omega) only [go_sem,simprocAttr,g.at,hc,ha]
    have hj1 : (j:Int) + 1 = ((j + 1 : Nat) : Int):=rfl
    have hs:=g.set (o':=.row 2 [[iv',kv]] 1)
    simp (disch:=omega) only [go_sem,simprocAttr,hs.at,hj1]
    refine new_opq hs fun b2 h hs => ?_
    simp (disch:=omega) only [go_sem,simprocAttr,hs.at]
    rw [rt_pt] at hs
    refine call_use (ins_node (x:=t2.root) (i:=j + 1) (hs.p2.p2.p2.p3) (by simp; omega) (by simp; omega) (Nat.le_refl _)) ?_
    intro kv' h hs
    have hc:=hs.els.cells
    have ha:=hs.els.atom
    have g:=hs.p1
    simp (disch:=omega) only [go_sem,simprocAttr,g.at,hc,ha]
    have g2:=g.set (o':=.row 2 [[iv',kv']] 1)
    have e1 : ((is.map fun x => x.1).take j ++ m.1 :: (is.map fun x => x.1).drop j).map pt = (is.take j ++ m :: is.drop j).map kpt:=by
     rw [kpt_pt]; simp
    have e2 : ((ks.map Tr.root).take (j + 1) ++ t2.root :: (ks.map Tr.root).drop (j + 1)).map pt = (ks.take j ++ t1 :: t2 :: ks.drop (j + 1)).map fun k => pt k.root:=by
     have : (ks.map Tr.root).take (j + 1) = (ks.take j).map Tr.root ++ [t1.root]:=by
      rw [List.take_succ_eq_append_getElem (by simpa using hjk),hroot]; simp
     rw [this,rt_pt]; simp
    rw [e1,e2] at g2
    generalize h.set p (.row 2 [[iv',kv']] 1) = hh at g2 ⊢
    have g3 : sat hh (Tr.parts p iv' kv' (is.take j ++ m :: is.drop j) (ks.take j ++ t1 :: t2 :: ks.drop (j + 1)) ++ F):=by
     have e3 : Tr.parts p iv' kv' (is.take j ++ m :: is.drop j) (ks.take j ++ t1 :: t2 :: ks.drop (j + 1)) ++ F =
       [pto p (.row 2 [[iv',kv']] 1),Ow 1 iv' ((is.take j ++ m :: is.drop j).map kpt),Ow 1 kv' ((ks.take j ++ t1 :: t2 :: ks.drop (j + 1)).map fun k => pt k.root)] ++ ((ks.take j).map Tr.asr ++ ([t1.asr,t2.asr] ++ ((ks.drop (j + 1)).map Tr.asr ++ F))):=by
      unfold Tr.parts
      simp only [List.map_append,List.map_cons,List.cons_append,List.nil_append,List.append_assoc]
     rw [e3]
     refine sat.tls (l:=[t1.asr,t2.asr] ++ ((ks.take j).map Tr.asr ++ ((ks.drop (j + 1)).map Tr.asr ++ F))) (g2.p4.p4.p3.p4.p4) fun h g => g.swapl
    have hwf : weave ((ks.take j ++ t1 :: t2 :: ks.drop (j + 1)).map Tr.flat) (is.take j ++ m :: is.drop j) = insK x (weave (ks.map Tr.flat) is):=by
     have:=w3 t1.flat m t2.flat
     rw [hins,← hfl]
     simp only [List.map_append,List.map_cons,List.map_take,List.map_drop]
     rw [this]; simp
    rw [← hwf]
    refine call_use (finish (d:=d + 1) (by simp; have:=hp.le; omega) ⟨by simp; omega,by simp; have:=hp.le; omega,fun k hk' => ?_⟩ g3) ?_
    ·rcases List.mem_append.1 hk' with h1 | h1
     ·exact o3 k (List.mem_of_mem_take h1)
     ·rcases List.mem_cons.1 h1 with h1 | h1
      ·subst h1; exact ⟨ok1,hne1⟩
      ·rcases List.mem_cons.1 h1 with h1 | h1
       ·subst h1; exact ⟨ok2,hne2⟩
       ·exact o3 k (List.mem_of_mem_drop h1)
    ·intro r h hr
     rcases hr with ⟨t',rfl,hr⟩ | ⟨t1,m,t2,rfl,hr⟩
     ·simp (disch:=omega) only [go_sem,simprocAttr]
      exact .inl ⟨t',rfl,hr⟩
     ·simp (disch:=omega) only [go_sem,simprocAttr]
      exact .inr ⟨t1,m,t2,rfl,hr⟩
end
end Go.Proofs.YtmhbnkjajkcmkaaGreat
/- add, New, Len, Height. -/
set_option maxRecDepth 10000
namespace Go.Proofs.YtmhbnkjajkcmkaaGreat
open Go.Hz
section
variable {h:Hp} {F:List Asr}
theorem ixNew (hs : sat h F) : Triple Tryz.prog 86 [] h (fun r h => ∃ b,r = .ptr b 2 0 0∧sat h (IxQ b [] :: F)):=by
 refine t86 (Nat.le_of_ble_eq_true rfl) ?_
 simp (disch:=omega) only [F86,go_sem,simprocAttr]
 refine new_opq hs fun b h hs => ?_
 simp (disch:=omega) only [go_sem,simprocAttr,hs.at]
 exact ⟨b,rfl,sat_ixq.2 ⟨none,rfl,hs.tl fun _ g => g.add trivial⟩⟩
theorem eqN_root (r:Option (Nat × Tr)) : eqN .ptr (rootV r) .nilp = some r.isNone:=by
 cases r <;> rfl
theorem ixAdd {b:Nat} {its:List Ixt} {x:Ixt} (hs : sat h (IxQ b its :: x.p :: F)) (hS:SrtI its) (hx:∀ y ∈ its,y.key ≠ x.key) (hl : its.length ≤ 1000000000) :
  Triple Tryz.prog 199 [.ptr b 2 0 0,.ptr x.a 2 0 0] h (fun r h => sat h (IxQ b (insIt x its) :: F)):=by
 obtain ⟨r,hok,g⟩:=sat_ixq.1 hs
 refine t199 (Nat.le_of_ble_eq_true rfl) ?_
 simp (disch:=omega) only [F199,go_sem,simprocAttr]
 have h1:=g.at
 have en : ((its.length : Int) + 1) = ((its.length + 1 : Nat) : Int):=rfl
 have g1:=g.set (o':=.row 2 [[rootV r,.int .i64 ((its.length + 1 : Nat) : Int)]] 1)
 have hw : IntKind.i64.wrap ((its.length + 1 : Nat) : Int) = ((its.length + 1 : Nat) : Int):=wrap_i64_go (by omega) (by omega)
 simp (disch:=omega) only [go_sem,simprocAttr,h1,en,hw,eqN_root]
 refine cnd_join (Q:=fun e h => ∃ d t,OKd d t∧t.flat = its.map Ixt.kp∧sat h (pto b (.row 2 [[.ptr t.root 2 0 0,.int .i64 ((its.length + 1 : Nat) : Int)]] 1) :: t.asr :: (its.map Ixt.p ++ x.p :: F))∧(e 0 = .ptr b 2 0 0∧e 1 = .ptr x.a 2 0 0)) ?_ ?_
 ·cases r with
  | none =>
   have hi0 : its.map Ixt.kp = []:=hok
   simp only [rootV] at g1 ⊢
   simp (disch:=omega) only [go_sem,simprocAttr,Option.isNone_none]
   have hs:=g1
   refine new_opq hs fun p h hs => ?_
   simp (disch:=omega) only [go_sem,simprocAttr,hs.at]
   have g2:=hs.p1.set (o':=.row 2 [[.ptr p 2 0 0,.int .i64 ((its.length + 1 : Nat) : Int)]] 1)
   simp (disch:=omega) only [go_sem,simprocAttr,hs.p1.at]
   refine ⟨0,.nd p .nils .nils [] [],⟨by simp,rfl⟩,by rw [hi0,Tr.flat_nd]; rfl,?_⟩
   refine g2.tl fun h g => sat_nd.2 ?_
   refine g.tl fun h g => ?_
   exact (g.drop.add ow_nil).add ow_nil
  | some dt =>
   obtain ⟨d,t⟩:=dt
   simp (disch:=omega) only [go_sem,simprocAttr,Option.isNone_some]
   exact ⟨d,t,hok.1,hok.2,g1⟩
 ·rintro e h ⟨d,t,ok,hfl,hs,he⟩
  simp (disch:=omega) only [go_sem,simprocAttr,he,hs.at]
  have hS' : Srt t.flat:=by rw [hfl]; exact hS
  refine call_use (insert d t x.kp ok hS' (hs.p1) (fun h hs => ?_) (fun h hs => ⟨x.mv,?_⟩)) ?_
  ·rw [hfl]; exact IR.of hs.drop
  ·exact ItP.k hs.drop.mid
  ·rintro r h (⟨t',rfl,ok',hroot,hfl',hs⟩ | ⟨t1,m,t2,rfl,ok1,ok2,hroot,hfl',hne1,hne2,hs⟩)
   ·simp (disch:=omega) only [go_sem,simprocAttr,he]
    refine sat_ixq.2 ⟨some (d,t'),⟨ok',?_⟩,?_⟩
    ·rw [hfl',insIt_kp,hfl]
    ·rw [insIt_len]
     simp only [rootV,rootA,hroot]
     refine hs.p1.tl fun h g => g.tl fun h g => ?_
     have g2:=g.mid
     exact sat.permMap (l:=x :: its) (insIt_perm x its).symm g2
   ·simp (disch:=omega) only [go_sem,simprocAttr,he]
    refine new_opq hs fun bi h hs => ?_
    simp (disch:=omega) only [go_sem,simprocAttr,hs.at]
    have hb:=hs.p2.p2.p2.p3.at
    simp (disch:=omega) only [go_sem,simprocAttr,he,hb]
    refine new_opq hs fun bk h hs => ?_
    simp (disch:=omega) only [go_sem,simprocAttr,hs.at]
    refine new_opq hs fun p h hs => ?_
    simp (disch:=omega) only [go_sem,simprocAttr,hs.at]
    have g2:=(hs.p4.p4.p4.p4.p4.p5).set (o':=.row 2 [[.ptr p 2 0 0,.int .i64 ((its.length + 1 : Nat) : Int)]] 1)
    simp (disch:=omega) only [go_sem,simprocAttr,hs.p4.p4.p4.p4.p4.p5.at]
    refine sat_ixq.2 ⟨some (d + 1,.nd p (.arr bi 1 0 1 1) (.arr bk 1 0 2 2) [m] [t1,t2]),⟨⟨by simp,by simp,by simp,?_⟩,?_⟩,?_⟩
    ·intro k hk
     rcases List.mem_cons.1 hk with rfl | hk
     ·exact ⟨ok1,hne1⟩
     ·simp at hk; subst hk; exact ⟨ok2,hne2⟩
    ·rw [Tr.flat_nd,insIt_kp,← hfl,← hfl']; simp [weave]
    ·rw [insIt_len]
     refine g2.tl fun h g => ?_
     refine sat_nd.2 ?_
     have g3 : sat h ([pto p (.row 2 [[.arr bi 1 0 1 1,.arr bk 1 0 2 2]] 1),pto bi (.row 1 ([m].map kpt) 1),pto bk (.row 1 ([t1,t2].map fun k => pt k.root) 2),t1.asr,t2.asr] ++ (its.map Ixt.p ++ x.p :: F)):=by
      rw [hroot.symm] at g
      exact g.p4.p4.p3.p4.p4
     have g4:=g3.tls fun h g => sat.permMap (l:=x :: its) (insIt_perm x its).symm g.mid
     exact g4.tl fun h g => (g.ow (cap:=1) (by simp)).tl fun h g => g.ow (cap:=2) (by simp)
end
end Go.Proofs.YtmhbnkjajkcmkaaGreat
