/- The functions of this seat's program in the form of the logic; each is shown to be what the model's code comes to. -/
import Derived.Test.YtaioncbpfckhaaaR4WatchApartLawPC
import Derived.Test.YtaioncbpfckhaaaChecked
import Derived.Eval
import Derived.KernelRfl
set_option maxRecDepth 100000
namespace Go.Proofs.Ytaioncbpfckhaaa
open Go.Hz

theorem mixed : Try.prog.follows .mixedOrders = true := Try.checked.mixed
/-- A function in the logic's form, at work. -/
def TT (f : Nat) (F : AFun) : Prop := ∀ {args : List AV} {h : Hp} {post : AV → Hp → Prop}, args.length ≤ F.n → run Try.prog F.code [] (initE args) h ⟨fun e h' => resK F.res e h' post, fun e h' => resK F.res e h' post, fun _ _ _ => False⟩ → Triple Try.prog f args h post
theorem tt {f : Nat} {fn : Func} {F : AFun} (h1 : Try.prog.funcs[f]? = some fn) (h2 : compF Try.prog fn = some F) : TT f F := fun hn hh => triple_of mixed h1 h2 hn hh

/-- "horologe/horologelaw13.WatchApart" -/
def F3 : AFun := .mk 100 (.seq (.reg [Z 4 (.mv (.cs (.bool false)))]) (.seq (.seq (.reg [Z 16 (.call 7 []), Z 17 (.un .not (T 16))]) (.cond (T 17) (.seq (.reg [Z 4 (.mv (.cs (.bool false)))]) .ret) .skip)) (.seq (.reg [Z 18 (.call 8 []), Zm 5 18]) (.seq (.reg [Zm 19 5, Z 20 (.call 9 [T 19]), Zm 21 5, Z 22 (.call 9 [T 21]), Zm 6 20, Zm 7 22]) (.seq (.reg [Zm 23 6, Z 24 (.call 10 [T 23, .cs (.str [97]), .cs (.str []), I 1]), Zm 25 6, Z 26 (.call 10 [T 25, .cs (.str [98]), .cs (.str [100]), I 1]), Zm 8 24, Zm 9 26]) (.seq (.reg [Zm 27 7, Z 28 (.call 10 [T 27, .cs (.str [98]), .cs (.str [100]), I 1]), Zm 10 28]) (.seq (.seq (.reg [Z 11 (.mv (I 0))]) (.block 0 (.loop (.seq (.seq (.seq (.reg [Zm 29 11, Zm 30 0, Z 31 (.lenL (T 30)), Z 32 (.bin .lss (T 29) (T 31)), Zm 33 32]) (.seq (.cond (T 33) (.reg [Zm 34 11, Z 35 (.bin .lss (T 34) (I 40))]) (ZP 34 2)) (.reg [Z 36 (.pick (T 33) (T 35) (.cs (.bool false)))]))) (.cond (T 36) .skip (.exit 0))) (.seq (.block 1 (.seq (.reg [Zm 39 5, Zm 40 0, Zm 41 11, Z 42 (.ia 1 (T 40) (T 41)), Z 43 (.ld 1 false (T 42)), Z 44 (.call 12 [T 43, I 4]), Z 45 (.bin .add (I 97) (T 44)), Z 46 (.cvi .u8 (T 45)), Z 47 (.bsl [.int .u8 0] 1 [(0, T 46)]), Z 48 (.bstr (T 47)), Z 49 (.call 11 [T 39, T 48])]) (.seq (.reg [Zm 50 6, Z 51 (.call 13 [T 50])]) (.seq (.reg [Zm 52 7, Z 53 (.call 13 [T 52])]) (.seq (.reg [Zm 54 11, Zm 55 1, Z 56 (.lenL (T 55)), Z 57 (.bin .lss (T 54) (T 56))]) (.cond (T 57) (.seq (.reg [Zm 58 6, Zm 59 8, Zm 60 1, Zm 61 11, Z 62 (.ia 1 (T 60) (T 61)), Z 63 (.ld 1 false (T 62)), Z 64 (.call 12 [T 63, I 3]), Z 65 (.bin .add (I 1) (T 64)), Z 66 (.call 14 [T 58, T 59, T 65])]) (.seq (.reg [Zm 68 6, Zm 69 9, Zm 70 1, Zm 71 11, Z 72 (.ia 1 (T 70) (T 71)), Z 73 (.ld 1 false (T 72)), Z 74 (.call 12 [T 73, I 5]), Z 75 (.bin .add (I 1) (T 74)), Z 76 (.call 14 [T 68, T 69, T 75]), Zm 67 76, Z 77 (.ext 0 (T 67)), Z 78 (.ext 1 (T 67)), Zm 12 77, Zm 13 78]) (.seq (.reg [Zm 80 7, Zm 81 10, Zm 82 1, Zm 83 11, Z 84 (.ia 1 (T 82) (T 83)), Z 85 (.ld 1 false (T 84)), Z 86 (.call 12 [T 85, I 5]), Z 87 (.bin .add (I 1) (T 86)), Z 88 (.call 14 [T 80, T 81, T 87]), Zm 79 88, Z 89 (.ext 0 (T 79)), Z 90 (.ext 1 (T 79)), Zm 14 89, Zm 15 90]) (.seq (.seq (.reg [Zm 91 13, Zm 92 15, Z 93 (.bin .neq (T 91) (T 92)), Zm 94 93]) (.seq (.cond (T 94) (ZP 95 4) (.reg [Zm 95 12, Zm 96 14, Z 97 (.call 15 [T 95, T 96]), Z 98 (.un .not (T 97))])) (.reg [Z 99 (.pick (T 94) (.cs (.bool true)) (T 98))]))) (.cond (T 99) (.seq (.reg [Z 4 (.mv (.cs (.bool false)))]) .ret) .skip))))) .skip)))))) (.reg [Zm 37 11, Z 38 (.bin .add (T 37) (I 1)), Zm 11 38])))))) (.seq (.reg [Z 4 (.mv (.cs (.bool true)))]) .ret)))))))) [.tmp 4]
theorem c3 : compF Try.prog Try.f3 = some F3 := by kernel_rfl
theorem t3 : TT 3 F3 := tt Try.func3 c3

/-- "horologe/horologelaw13.WatchOver" -/
def F4 : AFun := .mk 113 (.seq (.reg [Z 4 (.mv (.cs (.bool false)))]) (.seq (.seq (.reg [Z 16 (.call 7 []), Z 17 (.un .not (T 16))]) (.cond (T 17) (.seq (.reg [Z 4 (.mv (.cs (.bool false)))]) .ret) .skip)) (.seq (.reg [Z 18 (.call 8 []), Zm 5 18]) (.seq (.reg [Zm 19 5, Z 20 (.call 9 [T 19]), Zm 6 20]) (.seq (.reg [Zm 21 6, Z 22 (.call 10 [T 21, .cs (.str [107]), .cs (.str []), I 1]), Zm 7 22]) (.seq (.reg [Zm 24 6, Zm 25 7, Z 26 (.call 14 [T 24, T 25, I 5]), Zm 23 26, Z 27 (.ext 0 (T 23)), Z 28 (.ext 1 (T 23)), Zm 8 27, Zm 9 28]) (.seq (.seq (.seq (.reg [Zm 29 9, Z 30 (.bin .neq (T 29) (I 0)), Zm 31 30]) (.seq (.cond (T 31) (ZP 32 3) (.reg [Zm 32 8, Z 33 (.lenL (T 32)), Z 34 (.bin .neq (T 33) (I 0))])) (.reg [Z 35 (.pick (T 31) (.cs (.bool true)) (T 34))]))) (.cond (T 35) (.seq (.reg [Z 4 (.mv (.cs (.bool false)))]) .ret) .skip)) (.seq (.reg [Zm 36 0, Z 37 (.call 12 [T 36, I 40]), Zm 38 1, Z 39 (.call 12 [T 38, I 20]), Z 40 (.bin .add (I 1) (T 39)), Zm 0 37, Zm 1 40]) (.seq (.seq (.reg [Z 10 (.mv (I 0))]) (.block 0 (.loop (.seq (.seq (.reg [Zm 41 10, Zm 42 0, Z 43 (.bin .lss (T 41) (T 42))]) (.cond (T 43) .skip (.exit 0))) (.seq (.block 1 (.seq (.reg [Zm 46 5, Z 47 (.call 11 [T 46, .cs (.str [107])])]) (.reg [Zm 48 6, Z 49 (.call 13 [T 48])]))) (.reg [Zm 44 10, Z 45 (.bin .add (T 44) (I 1)), Zm 10 45])))))) (.seq (.reg [Z 11 (.mv (I 0))]) (.seq (.seq (.reg [Z 12 (.mv (I 0))]) (.block 2 (.loop (.seq (.seq (.reg [Zm 50 12, Z 51 (.bin .lss (T 50) (I 60))]) (.cond (T 51) .skip (.exit 2))) (.seq (.block 3 (.seq (.reg [Zm 55 6, Zm 56 7, Zm 57 1, Z 58 (.call 14 [T 55, T 56, T 57]), Zm 54 58, Z 59 (.ext 0 (T 54)), Z 60 (.ext 1 (T 54)), Zm 8 59, Zm 9 60]) (.seq (.seq (.seq (.reg [Zm 61 9, Z 62 (.bin .neq (T 61) (I 0)), Zm 63 62]) (.seq (.cond (T 63) (ZP 64 3) (.reg [Zm 64 8, Z 65 (.lenL (T 64)), Z 66 (.bin .eql (T 65) (I 0))])) (.reg [Z 67 (.pick (T 63) (.cs (.bool true)) (T 66))]))) (.cond (T 67) (.exit 2) .skip)) (.seq (.reg [Z 13 (.mv (I 0))]) (.block 4 (.loop (.seq (.seq (.reg [Zm 68 13, Zm 69 8, Z 70 (.lenL (T 69)), Z 71 (.bin .lss (T 68) (T 70))]) (.cond (T 71) .skip (.exit 4))) (.seq (.block 5 (.seq (.reg [Zm 74 11, Z 75 (.bin .add (T 74) (I 1)), Zm 11 75]) (.seq (.reg [Zm 76 8, Zm 77 13, Z 78 (.ia 8 (T 76) (T 77)), Z 79 (.fa 0 (T 78)), Z 80 (.ld 1 false (T 79)), Zm 81 11, Z 82 (.bin .neq (T 80) (T 81))]) (.cond (T 82) (.seq (.reg [Z 4 (.mv (.cs (.bool false)))]) .ret) .skip)))) (.reg [Zm 72 13, Z 73 (.bin .add (T 72) (I 1)), Zm 13 73]))))))))) (.reg [Zm 52 12, Z 53 (.bin .add (T 52) (I 1)), Zm 12 53])))))) (.seq (.seq (.reg [Zm 83 11, Zm 84 0, Z 85 (.mm false (T 84) (I 16)), Z 86 (.bin .neq (T 83) (T 85))]) (.cond (T 86) (.seq (.reg [Z 4 (.mv (.cs (.bool false)))]) .ret) .skip)) (.seq (.seq (.reg [Zm 87 0, Z 88 (.bin .leq (T 87) (I 16))]) (.cond (T 88) (.seq (.seq (.reg [Zm 89 9, Z 90 (.bin .eql (T 89) (I 0)), Zm 91 90]) (.seq (.cond (T 91) (.reg [Zm 92 6, Z 93 (.call 16 [T 92]), Z 94 (.bin .eql (T 93) (I 1))]) (ZP 92 3)) (.reg [Z 95 (.pick (T 91) (T 94) (.cs (.bool false))), Zm 4 95]))) .ret) .skip)) (.seq (.reg [Zm 97 6, Zm 98 7, Z 99 (.call 14 [T 97, T 98, I 1]), Zm 96 99, Z 100 (.ext 0 (T 96)), Z 101 (.ext 1 (T 96)), Zm 14 100, Zm 15 101]) (.seq (.seq (.reg [Zm 102 9, Z 103 (.bin .eql (T 102) (I 14)), Zm 104 103]) (.seq (.cond (T 104) (.reg [Zm 105 15, Z 106 (.bin .eql (T 105) (I 2))]) (ZP 105 2)) (.seq (.reg [Z 107 (.pick (T 104) (T 106) (.cs (.bool false))), Zm 108 107]) (.seq (.cond (T 108) (.reg [Zm 109 6, Z 110 (.call 16 [T 109]), Z 111 (.bin .eql (T 110) (I 0))]) (ZP 109 3)) (.reg [Z 112 (.pick (T 108) (T 111) (.cs (.bool false))), Zm 4 112]))))) .ret))))))))))))))) [.tmp 4]
theorem c4 : compF Try.prog Try.f4 = some F4 := by kernel_rfl
/-- "horologe/horologelaw13.WatchBehind" -/
def F5 : AFun := .mk 107 (.seq (.reg [Z 8 (.mv (.cs (.bool false)))]) (.seq (.seq (.reg [Z 18 (.call 7 []), Z 19 (.un .not (T 18))]) (.cond (T 19) (.seq (.reg [Z 8 (.mv (.cs (.bool false)))]) .ret) .skip)) (.seq (.reg [Z 20 (.call 8 []), Zm 9 20]) (.seq (.reg [Zm 21 9, Z 22 (.call 9 [T 21]), Zm 10 22]) (.seq (.reg [Zm 23 0, Z 24 (.call 12 [T 23, I 40]), Z 25 (.bin .add (I 1) (T 24)), Zm 0 25]) (.seq (.seq (.reg [Z 11 (.mv (I 0))]) (.block 0 (.loop (.seq (.seq (.reg [Zm 26 11, Zm 27 0, Z 28 (.bin .lss (T 26) (T 27))]) (.cond (T 28) .skip (.exit 0))) (.seq (.block 1 (.reg [Zm 31 9, Z 32 (.call 11 [T 31, .cs (.str [107])])])) (.reg [Zm 29 11, Z 30 (.bin .add (T 29) (I 1)), Zm 11 30])))))) (.seq (.reg [Zm 33 2, Zm 34 0, Z 35 (.bin .add (T 34) (I 1)), Z 36 (.call 12 [T 33, T 35]), Zm 2 36]) (.seq (.seq (.seq (.reg [Zm 37 2, Z 38 (.bin .gtr (T 37) (I 0)), Zm 39 38]) (.seq (.cond (T 39) (.reg [Zm 40 9, Zm 41 2, Z 42 (.call 17 [T 40, T 41]), Z 43 (.bin .neq (T 42) (I 0))]) (ZP 40 4)) (.reg [Z 44 (.pick (T 39) (T 43) (.cs (.bool false)))]))) (.cond (T 44) (.seq (.reg [Z 8 (.mv (.cs (.bool false)))]) .ret) .skip)) (.seq (.reg [Zm 45 1, Zm 46 0, Z 47 (.call 12 [T 45, T 46]), Z 48 (.bin .add (I 1) (T 47)), Zm 49 3, Z 50 (.call 12 [T 49, I 9]), Z 51 (.bin .add (I 1) (T 50)), Zm 1 48, Zm 3 51]) (.seq (.reg [Zm 52 10, Zm 53 1, Z 54 (.call 10 [T 52, .cs (.str [107]), .cs (.str []), T 53]), Zm 12 54]) (.seq (.reg [Zm 55 1, Zm 13 55]) (.seq (.seq (.reg [Z 14 (.mv (I 0))]) (.block 2 (.loop (.seq (.seq (.reg [Zm 56 14, Z 57 (.bin .lss (T 56) (I 60))]) (.cond (T 57) .skip (.exit 2))) (.seq (.block 3 (.seq (.reg [Zm 61 10, Zm 62 12, Zm 63 3, Z 64 (.call 14 [T 61, T 62, T 63]), Zm 60 64, Z 65 (.ext 0 (T 60)), Z 66 (.ext 1 (T 60)), Zm 15 65, Zm 16 66]) (.seq (.seq (.reg [Zm 67 1, Zm 68 2, Z 69 (.bin .leq (T 67) (T 68))]) (.cond (T 69) (.seq (.seq (.reg [Zm 70 16, Z 71 (.bin .eql (T 70) (I 16)), Zm 72 71]) (.seq (.cond (T 72) (.reg [Zm 73 10, Z 74 (.call 16 [T 73]), Z 75 (.bin .eql (T 74) (I 0))]) (ZP 73 3)) (.reg [Z 76 (.pick (T 72) (T 75) (.cs (.bool false))), Zm 8 76]))) .ret) .skip)) (.seq (.seq (.seq (.reg [Zm 77 16, Z 78 (.bin .neq (T 77) (I 0)), Zm 79 78]) (.seq (.cond (T 79) (ZP 80 4) (.reg [Zm 80 15, Z 81 (.lenL (T 80)), Zm 82 3, Z 83 (.bin .gtr (T 81) (T 82))])) (.reg [Z 84 (.pick (T 79) (.cs (.bool true)) (T 83))]))) (.cond (T 84) (.seq (.reg [Z 8 (.mv (.cs (.bool false)))]) .ret) .skip)) (.seq (.seq (.reg [Zm 85 15, Z 86 (.lenL (T 85)), Z 87 (.bin .eql (T 86) (I 0))]) (.cond (T 87) (.exit 2) .skip)) (.seq (.reg [Z 17 (.mv (I 0))]) (.block 4 (.loop (.seq (.seq (.reg [Zm 88 17, Zm 89 15, Z 90 (.lenL (T 89)), Z 91 (.bin .lss (T 88) (T 90))]) (.cond (T 91) .skip (.exit 4))) (.seq (.block 5 (.seq (.seq (.reg [Zm 94 15, Zm 95 17, Z 96 (.ia 8 (T 94) (T 95)), Z 97 (.fa 0 (T 96)), Z 98 (.ld 1 false (T 97)), Zm 99 13, Z 100 (.bin .neq (T 98) (T 99))]) (.cond (T 100) (.seq (.reg [Z 8 (.mv (.cs (.bool false)))]) .ret) .skip)) (.reg [Zm 101 13, Z 102 (.bin .add (T 101) (I 1)), Zm 13 102]))) (.reg [Zm 92 17, Z 93 (.bin .add (T 92) (I 1)), Zm 17 93]))))))))))) (.reg [Zm 58 14, Z 59 (.bin .add (T 58) (I 1)), Zm 14 59])))))) (.seq (.reg [Zm 103 13, Zm 104 0, Z 105 (.bin .add (T 104) (I 1)), Z 106 (.bin .eql (T 103) (T 105)), Zm 8 106]) .ret))))))))))))) [.tmp 8]
theorem c5 : compF Try.prog Try.f5 = some F5 := by kernel_rfl
/-- "horologe/horologelaw13.known" -/
def F7 : AFun := .mk 51 (.seq (.reg [Z 0 (.mv (.cs (.bool false)))]) (.seq (.reg [Z 8 (.call 8 []), Zm 1 8]) (.seq (.seq (.reg [Zm 9 1, Z 10 (.eqn .ptr false (T 9) (.cs .nilp))]) (.cond (T 10) (.seq (.reg [Z 0 (.mv (.cs (.bool false)))]) .ret) .skip)) (.seq (.reg [Zm 11 1, Z 12 (.call 9 [T 11]), Zm 2 12]) (.seq (.seq (.reg [Z 3 (.mv (I 0))]) (.block 0 (.loop (.seq (.seq (.reg [Zm 13 3, Z 14 (.bin .lss (T 13) (I 2))]) (.cond (T 14) .skip (.exit 0))) (.seq (.block 1 (.seq (.reg [Zm 17 1, Z 18 (.call 19 [T 17]), Zm 4 18]) (.seq (.reg [Zm 19 4, Z 20 (.call 21 [T 19, .cs (.str [97]), .cs (.str [120]), I 0])]) (.reg [Zm 21 4, Z 22 (.call 23 [T 21])])))) (.reg [Zm 15 3, Z 16 (.bin .add (T 15) (I 1)), Zm 3 16])))))) (.seq (.seq (.reg [Zm 23 2, Z 24 (.eqn .ptr false (T 23) (.cs .nilp))]) (.cond (T 24) (.seq (.reg [Z 0 (.mv (.cs (.bool false)))]) .ret) .skip)) (.seq (.reg [Zm 25 2, Z 26 (.call 10 [T 25, .cs (.str [97]), .cs (.str []), I 1]), Zm 5 26]) (.seq (.reg [Zm 28 2, Zm 29 5, Z 30 (.call 14 [T 28, T 29, I 10]), Zm 27 30, Z 31 (.ext 0 (T 27)), Z 32 (.ext 1 (T 27)), Zm 6 31, Zm 7 32]) (.seq (.seq (.reg [Zm 33 5, Z 34 (.bin .eql (T 33) (I 1)), Zm 35 34]) (.seq (.cond (T 35) (.reg [Zm 36 7, Z 37 (.bin .eql (T 36) (I 0))]) (ZP 36 2)) (.seq (.reg [Z 38 (.pick (T 35) (T 37) (.cs (.bool false))), Zm 39 38]) (.seq (.cond (T 39) (.reg [Zm 40 6, Z 41 (.lenL (T 40)), Z 42 (.bin .eql (T 41) (I 2))]) (ZP 40 3)) (.seq (.reg [Z 43 (.pick (T 39) (T 42) (.cs (.bool false))), Zm 44 43]) (.seq (.cond (T 44) (.reg [Zm 45 6, Z 46 (.ia 8 (T 45) (I 1)), Z 47 (.fa 0 (T 46)), Z 48 (.ld 1 false (T 47)), Z 49 (.bin .eql (T 48) (I 2))]) (ZP 45 5)) (.reg [Z 50 (.pick (T 44) (T 49) (.cs (.bool false))), Zm 0 50]))))))) .ret))))))))) [.tmp 0]
theorem c7 : compF Try.prog Try.f7 = some F7 := by kernel_rfl
theorem t7 : TT 7 F7 := tt Try.func7 c7

/-- "horologe/mvcc.New" -/
def F8 : AFun := .mk 5 (.seq (.reg [Z 0 (.mv (.cs .nilp))]) (.seq (.reg [Z 1 (.call 26 []), Z 2 .mkm, Z 3 (.bld [.int .i64 0, .int .i64 0, .int .i64 0, .nilp, .nilm, .nils, .nilp] [(3, (1, T 1)), (4, (1, T 2))]), Z 4 (.box (T 3)), Zm 0 4]) .ret)) [.tmp 0]
theorem c8 : compF Try.prog Try.f8 = some F8 := by kernel_rfl
theorem t8 : TT 8 F8 := tt Try.func8 c8

/-- "horologe/watch.New" -/
def F9 : AFun := .mk 7 (.seq (.reg [Z 2 (.mv (.cs .nilp))]) (.seq (.reg [Zm 3 0, Z 4 .mkm, Z 5 (.bld [.nilp, .nilm, .int .i64 0] [(0, (1, T 3)), (1, (1, T 4))]), Z 6 (.box (T 5)), Zm 2 6]) .ret)) [.tmp 2]
theorem c9 : compF Try.prog Try.f9 = some F9 := by kernel_rfl
theorem t9 : TT 9 F9 := tt Try.func9 c9

/-- "(*horologe/watch.Hub).Watch" -/
def F10 : AFun := .mk 36 (.seq (.reg [Z 8 (.mv (I 0))]) (.seq (.reg [Zm 9 0, Z 10 (.nilck (T 9)), Z 11 (.fa 2 (T 10)), Z 12 (.ld 1 false (T 11)), Z 13 (.bin .add (T 12) (I 1)), Z 14 (.nilck (T 9)), Z 15 (.fa 2 (T 14)), (.mk none (.st 1 (T 15) (T 13)) none, [])]) (.seq (.reg [Zm 16 0, Z 17 (.nilck (T 16)), Z 18 (.fa 1 (T 17)), Z 19 (.ld 1 false (T 18)), Zm 20 0, Z 21 (.nilck (T 20)), Z 22 (.fa 2 (T 21)), Z 23 (.ld 1 false (T 22)), Zm 24 1, Zm 25 2, Zm 26 3, Z 27 (.mm true (T 26) (I 1)), Z 28 (.bld [] []), Z 29 (.mkif 69 (T 28)), Z 30 (.bld [.str [], .str [], .int .i64 0, .nili] [(0, (1, T 24)), (1, (1, T 25)), (2, (1, T 27)), (3, (1, T 29))]), Z 31 (.box (T 30)), (.mk none (.mup false (T 19) (T 23) (T 31)) none, [])]) (.seq (.reg [Zm 32 0, Z 33 (.nilck (T 32)), Z 34 (.fa 2 (T 33)), Z 35 (.ld 1 false (T 34)), Zm 8 35]) .ret)))) [.tmp 8]
theorem c10 : compF Try.prog Try.f10 = some F10 := by kernel_rfl
theorem t10 : TT 10 F10 := tt Try.func10 c10

/-- "horologe/horologelaw13.put" -/
def F11 : AFun := .mk 12 (.seq (.reg [Zm 5 0, Z 6 (.call 19 [T 5]), Zm 4 6]) (.seq (.reg [Zm 7 4, Zm 8 1, Z 9 (.call 21 [T 7, T 8, .cs (.str [118]), I 0])]) (.reg [Zm 10 4, Z 11 (.call 23 [T 10])]))) []
theorem c11 : compF Try.prog Try.f11 = some F11 := by kernel_rfl
theorem t11 : TT 11 F11 := tt Try.func11 c11

/-- "horologe/horologelaw13.within" -/
def F12 : AFun := .mk 15 (.seq (.reg [Z 4 (.mv (I 0))]) (.seq (.reg [Zm 6 0, Zm 7 1, Z 8 (.bin .rem (T 6) (T 7)), Zm 5 8]) (.seq (.seq (.reg [Zm 9 5, Z 10 (.bin .lss (T 9) (I 0))]) (.cond (T 10) (.reg [Zm 11 5, Zm 12 1, Z 13 (.bin .add (T 11) (T 12)), Zm 5 13]) .skip)) (.seq (.reg [Zm 14 5, Zm 4 14]) .ret)))) [.tmp 4]
theorem c12 : compF Try.prog Try.f12 = some F12 := by kernel_rfl
theorem t12 : TT 12 F12 := tt Try.func12 c12

/-- "(*horologe/watch.Hub).Feed" -/
def F13 : AFun := .mk 85 (.seq (.reg [Zm 8 0, Z 9 (.nilck (T 8)), Z 10 (.fa 1 (T 9)), Z 11 (.ld 1 false (T 10)), Z 12 (.rng (T 11))]) (.block 0 (.loop (.seq (.reg [Z 13 (.nxt (T 12)), Z 14 (.ext 0 (T 13))]) (.seq (.cond (T 14) .skip (.exit 0)) (.block 1 (.seq (.reg [Z 15 (.ent (T 12)), Z 16 (.ext 1 (T 15)), Zm 3 16]) (.seq (.reg [Zm 18 3, Z 19 (.nilck (T 18)), Z 20 (.fa 3 (T 19)), Z 21 (.ld 1 false (T 20)), Z 22 (.ta 75 true (.agg [.nils]) (T 21)), Zm 17 22, Z 23 (.ext 0 (T 17)), Z 24 (.ext 1 (T 17)), Z 4 (.alloc [.nils]), (.mk none (.st 1 (T 4) (T 23)) none, []), Zm 5 24]) (.seq (.seq (.reg [Zm 25 5, Z 26 (.un .not (T 25))]) (.cond (T 26) (.exit 1) .skip)) (.seq (.reg [Zm 28 3, Zm 29 0, Z 30 (.nilck (T 29)), Z 31 (.fa 0 (T 30)), Z 32 (.ld 1 false (T 31)), Z 33 (.call 27 [T 28, T 32]), Zm 27 33, Z 34 (.ext 0 (T 27)), Z 35 (.ext 1 (T 27)), Zm 6 34, Zm 7 35]) (.block 2 (.seq (.reg [Zm 61 7, Z 62 (.bin .neq (T 61) (I 0)), Zm 60 62]) (.cond (T 60) (.reg [Zm 63 3, Z 64 (.fa 0 (T 4)), Z 65 (.ld 1 false (T 64)), Z 66 (.bld [.nils, .int .i64 0] [(0, (1, T 65)), (1, (1, I 16))]), Z 67 (.mkif 79 (T 66)), Z 68 (.nilck (T 63)), Z 69 (.fa 3 (T 68)), (.mk none (.st 1 (T 69) (T 67)) none, [])]) (.seq (.reg [Z 71 (.fa 0 (T 4)), Z 72 (.ld 1 false (T 71)), Z 73 (.lenL (T 72)), Zm 74 6, Z 75 (.lenL (T 74)), Z 76 (.bin .add (T 73) (T 75)), Z 77 (.bin .gtr (T 76) (I 16)), Zm 70 77]) (.cond (T 70) (.reg [Zm 78 3, Z 79 (.fa 0 (T 4)), Z 80 (.ld 1 false (T 79)), Z 81 (.bld [.nils, .int .i64 0] [(0, (1, T 80)), (1, (1, I 14))]), Z 82 (.mkif 79 (T 81)), Z 83 (.nilck (T 78)), Z 84 (.fa 3 (T 83)), (.mk none (.st 1 (T 84) (T 82)) none, [])]) (.seq (.reg [Zm 36 3, Z 37 (.fa 0 (T 4)), Z 38 (.ld 1 false (T 37)), Z 39 (.call 28 [T 38]), Zm 40 6, Z 41 (.app 8 80 (T 39) (T 40)), Z 42 (.bld [.nils] [(0, (1, T 41))]), Z 43 (.mkif 75 (T 42)), Z 44 (.nilck (T 36)), Z 45 (.fa 3 (T 44)), (.mk none (.st 1 (T 45) (T 43)) none, [])]) (.reg [Zm 46 3, Zm 47 3, Z 48 (.nilck (T 47)), Z 49 (.fa 2 (T 48)), Z 50 (.ld 1 false (T 49)), Zm 51 0, Z 52 (.nilck (T 51)), Z 53 (.fa 0 (T 52)), Z 54 (.ld 1 false (T 53)), (.mk (.some 55) (.call 22 [T 54]) none, [.mk (.some 50) (.ld 1 false (T 49)) none]), Z 56 (.bin .add (T 55) (I 1)), Z 57 (.mm true (T 50) (T 56)), Z 58 (.nilck (T 46)), Z 59 (.fa 2 (T 58)), (.mk none (.st 1 (T 59) (T 57)) none, [])]))))))))))))))))) []
theorem c13 : compF Try.prog Try.f13 = some F13 := by kernel_rfl
theorem t13 : TT 13 F13 := tt Try.func13 c13

/-- "(*horologe/watch.Hub).Poll" -/
def F14 : AFun := .mk 102 (.seq (.reg [Z 6 (.mv (.cs .nils)), Z 7 (.mv (I 0))]) (.seq (.reg [Zm 19 0, Z 20 (.nilck (T 19)), Z 21 (.fa 1 (T 20)), Z 22 (.ld 1 false (T 21)), Zm 23 1, Z 24 (.lkp false true .nilp (T 22) (T 23)), Zm 18 24, Z 25 (.ext 0 (T 18)), Z 26 (.ext 1 (T 18)), Zm 8 25, Zm 9 26]) (.seq (.seq (.reg [Zm 27 9, Z 28 (.un .not (T 27))]) (.cond (T 28) (.seq (.reg [Z 6 (.mv (.cs .nils)), Z 7 (.mv (I 2))]) .ret) .skip)) (.seq (.reg [Zm 29 2, Z 30 (.mm true (T 29) (I 1)), Zm 2 30]) (.seq (.seq (.reg [Zm 32 8, Z 33 (.nilck (T 32)), Z 34 (.fa 3 (T 33)), Z 35 (.ld 1 false (T 34)), Z 36 (.ta 69 true (.agg []) (T 35)), Zm 31 36, Z 37 (.ext 0 (T 31)), Z 38 (.ext 1 (T 31)), Z 10 (.alloc []), (.mk none (.st 0 (T 10) (T 37)) none, []), Zm 11 38]) (.seq (.reg [Zm 39 11]) (.cond (T 39) (.seq (.reg [Zm 40 0, Zm 41 1, Zm 42 8, Zm 43 2, Z 44 (.call 29 [T 40, T 41, T 42, T 43]), Z 45 (.ext 0 (T 44)), Z 46 (.ext 1 (T 44)), Zm 6 45, Zm 7 46]) .ret) .skip))) (.seq (.reg [Zm 47 8, Z 48 (.nilck (T 47)), Z 49 (.fa 3 (T 48)), Z 50 (.ld 1 false (T 49)), Z 51 (.inv "horologe/watch.kept" (T 50) []), Zm 12 51]) (.seq (.reg [Zm 52 2, Zm 53 12, Z 54 (.lenL (T 53)), Z 55 (.mm false (T 52) (T 54)), Zm 13 55]) (.seq (.reg [Zm 56 12, Zm 57 13, Z 58 (.slcL 8 (T 56) none (.some (T 57))), Zm 60 12, Zm 61 13, Z 62 (.slcL 8 (T 60) (.some (T 61)) none), Z 59 (.call 28 [T 58]), Z 63 (.call 28 [T 62]), Zm 14 59, Zm 15 63]) (.seq (.reg [Zm 65 8, Z 66 (.nilck (T 65)), Z 67 (.fa 3 (T 66)), Z 68 (.ld 1 false (T 67)), Z 69 (.ta 79 true (.agg [.nils, .int .i64 0]) (T 68)), Zm 64 69, Z 70 (.ext 0 (T 64)), Z 71 (.ext 1 (T 64)), Z 16 (.alloc [.nils, .int .i64 0]), (.mk none (.st 2 (T 16) (T 70)) none, []), Zm 17 71]) (.seq (.block 0 (.seq (.seq (.reg [Zm 79 17, Zm 80 79]) (.seq (.cond (T 80) (.reg [Zm 81 13, Z 82 (.bin .eql (T 81) (I 0))]) (ZP 81 2)) (.reg [Z 83 (.pick (T 80) (T 82) (.cs (.bool false))), Zm 78 83]))) (.cond (T 78) (.seq (.reg [Zm 84 0, Z 85 (.nilck (T 84)), Z 86 (.fa 1 (T 85)), Z 87 (.ld 1 false (T 86)), Zm 88 1, (.mk none (.del false (T 87) (T 88)) none, [])]) (.seq (.reg [Z 89 (.fa 1 (T 16)), Z 90 (.ld 1 false (T 89)), Z 6 (.mv (.cs .nils)), Zm 7 90]) .ret)) (.seq (.reg [Zm 92 17, Zm 91 92]) (.cond (T 91) (.reg [Zm 93 8, Zm 94 15, Z 95 (.fa 1 (T 16)), Z 96 (.ld 1 false (T 95)), Z 97 (.bld [.nils, .int .i64 0] [(0, (1, T 94)), (1, (1, T 96))]), Z 98 (.mkif 79 (T 97)), Z 99 (.nilck (T 93)), Z 100 (.fa 3 (T 99)), (.mk none (.st 1 (T 100) (T 98)) none, [])]) (.reg [Zm 72 8, Zm 73 15, Z 74 (.bld [.nils] [(0, (1, T 73))]), Z 75 (.mkif 75 (T 74)), Z 76 (.nilck (T 72)), Z 77 (.fa 3 (T 76)), (.mk none (.st 1 (T 77) (T 75)) none, [])])))))) (.seq (.reg [Zm 101 14, Zm 6 101, Z 7 (.mv (I 0))]) .ret))))))))))) [.tmp 6, .tmp 7]
theorem c14 : compF Try.prog Try.f14 = some F14 := by kernel_rfl
theorem t14 : TT 14 F14 := tt Try.func14 c14

/-- "horologe/horologelaw8.SameEvents" -/
def F15 : AFun := .mk 26 (.seq (.reg [Z 4 (.mv (.cs (.bool false)))]) (.seq (.seq (.reg [Zm 6 0, Z 7 (.lenL (T 6)), Zm 8 1, Z 9 (.lenL (T 8)), Z 10 (.bin .neq (T 7) (T 9))]) (.cond (T 10) (.seq (.reg [Z 4 (.mv (.cs (.bool false)))]) .ret) .skip)) (.seq (.seq (.reg [Z 5 (.mv (I 0))]) (.block 0 (.loop (.seq (.seq (.reg [Zm 11 5, Zm 12 0, Z 13 (.lenL (T 12)), Z 14 (.bin .lss (T 11) (T 13))]) (.cond (T 14) .skip (.exit 0))) (.seq (.block 1 (.seq (.reg [Zm 17 0, Zm 18 5, Z 19 (.ia 8 (T 17) (T 18)), Z 20 (.ld 8 true (T 19)), Zm 21 1, Zm 22 5, Z 23 (.ia 8 (T 21) (T 22)), Z 24 (.ld 8 true (T 23)), Z 25 (.eqs [.i, .b, .s, .s, .i, .i, .i, .i] true (T 20) (T 24))]) (.cond (T 25) (.seq (.reg [Z 4 (.mv (.cs (.bool false)))]) .ret) .skip))) (.reg [Zm 15 5, Z 16 (.bin .add (T 15) (I 1)), Zm 5 16])))))) (.seq (.reg [Z 4 (.mv (.cs (.bool true)))]) .ret)))) [.tmp 4]
theorem c15 : compF Try.prog Try.f15 = some F15 := by kernel_rfl
theorem t15 : TT 15 F15 := tt Try.func15 c15

/-- "(*horologe/mvcc.Store).Write" -/
def F19 : AFun := .mk 18 (.seq (.reg [Z 2 (.mv (.cs .nilp))]) (.seq (.reg [Zm 3 0, Zm 4 0, Z 5 .mkm, Zm 6 0, Z 7 (.nilck (T 6)), Z 8 (.fa 2 (T 7)), Z 9 (.ld 1 false (T 8)), Z 10 (.bld [.nilp, .nils, .nilm, .int .i64 0] [(0, (1, T 4)), (2, (1, T 5)), (3, (1, T 9))]), Z 11 (.box (T 10)), Z 12 (.nilck (T 3)), Z 13 (.fa 6 (T 12)), (.mk none (.st 1 (T 13) (T 11)) none, [])]) (.seq (.reg [Zm 14 0, Z 15 (.nilck (T 14)), Z 16 (.fa 6 (T 15)), Z 17 (.ld 1 false (T 16)), Zm 2 17]) .ret))) [.tmp 2]
theorem c19 : compF Try.prog Try.f19 = some F19 := by kernel_rfl
theorem t19 : TT 19 F19 := tt Try.func19 c19

/-- "(*horologe/mvcc.Write).Put" -/
def F21 : AFun := .mk 95 (.seq (.reg [Z 8 (.mv (I 0))]) (.seq (.reg [Zm 15 0, Z 16 (.nilck (T 15)), Z 17 (.fa 2 (T 16)), Z 18 (.ld 1 false (T 17)), Zm 19 1, Z 20 (.lkp true true .nili (T 18) (T 19)), Zm 14 20, Z 21 (.ext 0 (T 14)), Z 22 (.ext 1 (T 14)), Zm 9 21, Zm 10 22]) (.seq (.reg [Zm 24 0, Zm 25 1, Z 26 (.call 37 [T 24, T 25]), Zm 23 26, Z 27 (.ext 0 (T 23)), Z 28 (.ext 1 (T 23)), Z 11 (.alloc [.str [], .str [], .int .i64 0, .int .i64 0, .int .i64 0, .int .i64 0]), (.mk none (.st 6 (T 11) (T 27)) none, []), Zm 12 28]) (.seq (.block 0 (.seq (.seq (.reg [Zm 30 1, Z 31 (.bin .eql (T 30) (.cs (.str []))), Zm 32 31]) (.seq (.cond (T 32) (ZP 33 3) (.reg [Zm 33 1, Z 34 (.lenS (T 33)), Z 35 (.bin .gtr (T 34) (I 100))])) (.seq (.reg [Z 36 (.pick (T 32) (.cs (.bool true)) (T 35)), Zm 37 36]) (.seq (.cond (T 37) (ZP 38 2) (.reg [Zm 38 3, Z 39 (.bin .lss (T 38) (I 0))])) (.reg [Z 40 (.pick (T 37) (.cs (.bool true)) (T 39)), Zm 29 40]))))) (.cond (T 29) (.seq (.reg [Z 8 (.mv (I 1))]) .ret) (.seq (.reg [Zm 42 2, Z 43 (.lenS (T 42)), Z 44 (.bin .gtr (T 43) (I 4096)), Zm 41 44]) (.cond (T 41) (.seq (.reg [Z 8 (.mv (I 5))]) .ret) (.seq (.reg [Zm 46 10, Zm 45 46]) (.cond (T 45) (.seq (.reg [Z 8 (.mv (I 18))]) .ret) (.seq (.seq (.reg [Zm 48 12, Z 49 (.un .not (T 48)), Zm 50 49]) (.seq (.cond (T 50) (.reg [Zm 51 0, Z 52 (.nilck (T 51)), Z 53 (.fa 3 (T 52)), Z 54 (.ld 1 false (T 53)), Z 55 (.bin .geq (T 54) (I 4096))]) (ZP 51 5)) (.reg [Z 56 (.pick (T 50) (T 55) (.cs (.bool false))), Zm 47 56]))) (.cond (T 47) (.seq (.reg [Z 8 (.mv (I 14))]) .ret) (.seq (.reg [Zm 58 0, Z 59 (.call 35 [T 58]), Zm 57 59]) (.cond (T 57) (.seq (.reg [Z 8 (.mv (I 1))]) .ret) .skip))))))))))) (.seq (.reg [Zm 60 0, Z 61 (.nilck (T 60)), Z 62 (.fa 0 (T 61)), Z 63 (.ld 1 false (T 62)), Z 64 (.nilck (T 63)), Z 65 (.fa 0 (T 64)), Z 66 (.ld 1 false (T 65)), Z 67 (.bin .add (T 66) (I 1)), Zm 13 67]) (.seq (.seq (.reg [Zm 68 12, Z 69 (.un .not (T 68))]) (.cond (T 69) (.seq (.reg [Zm 70 1, Zm 71 13, Z 72 (.bld [.str [], .str [], .int .i64 0, .int .i64 0, .int .i64 0, .int .i64 0] [(0, (1, T 70)), (2, (1, T 71))]), (.mk none (.st 6 (T 11) (T 72)) none, [])]) (.reg [Zm 73 0, Z 74 (.nilck (T 73)), Z 75 (.fa 3 (T 74)), Z 76 (.ld 1 false (T 75)), Z 77 (.bin .add (T 76) (I 1)), Z 78 (.nilck (T 73)), Z 79 (.fa 3 (T 78)), (.mk none (.st 1 (T 79) (T 77)) none, [])])) .skip)) (.seq (.reg [Zm 80 2, Zm 81 3, Zm 82 13, Z 83 (.fa 1 (T 11)), (.mk none (.st 1 (T 83) (T 80)) none, []), Z 84 (.fa 5 (T 11)), (.mk none (.st 1 (T 84) (T 81)) none, []), Z 85 (.fa 3 (T 11)), (.mk none (.st 1 (T 85) (T 82)) none, [])]) (.seq (.reg [Z 86 (.fa 4 (T 11)), Z 87 (.ld 1 false (T 86)), Z 88 (.bin .add (T 87) (I 1)), Z 89 (.fa 4 (T 11)), (.mk none (.st 1 (T 89) (T 88)) none, [])]) (.seq (.reg [Zm 90 0, Z 91 (.ld 6 true (T 11)), Z 92 (.bld [.str [], .str [], .int .i64 0, .int .i64 0, .int .i64 0, .int .i64 0] [(0, (6, T 91))]), Z 93 (.mkif 108 (T 92)), Z 94 (.call 38 [T 90, T 93])]) (.seq (.reg [Z 8 (.mv (I 0))]) .ret)))))))))) [.tmp 8]
theorem c21 : compF Try.prog Try.f21 = some F21 := by kernel_rfl
theorem t21 : TT 21 F21 := tt Try.func21 c21

/-- "(*horologe/mvcc.Store).Rev" -/
def F22 : AFun := .mk 7 (.seq (.reg [Z 2 (.mv (I 0))]) (.seq (.reg [Zm 3 0, Z 4 (.nilck (T 3)), Z 5 (.fa 0 (T 4)), Z 6 (.ld 1 false (T 5)), Zm 2 6]) .ret)) [.tmp 2]
theorem c22 : compF Try.prog Try.f22 = some F22 := by kernel_rfl
theorem t22 : TT 22 F22 := tt Try.func22 c22

/-- "(*horologe/mvcc.Write).Done" -/
def F23 : AFun := .mk 65 (.seq (.reg [Z 2 (.mv (I 0))]) (.seq (.reg [Zm 6 0, Z 7 (.nilck (T 6)), Z 8 (.fa 0 (T 7)), Z 9 (.ld 1 false (T 8)), Zm 3 9]) (.seq (.seq (.reg [Zm 10 0, Z 11 (.call 35 [T 10])]) (.cond (T 11) (.seq (.reg [Zm 12 3, Z 13 (.nilck (T 12)), Z 14 (.fa 0 (T 13)), Z 15 (.ld 1 false (T 14)), Zm 2 15]) .ret) .skip)) (.seq (.reg [Zm 16 3, Z 17 (.nilck (T 16)), Z 18 (.fa 6 (T 17)), (.mk none (.st 1 (T 18) (.cs .nilp)) none, [])]) (.seq (.seq (.reg [Zm 19 0, Z 20 (.nilck (T 19)), Z 21 (.fa 1 (T 20)), Z 22 (.ld 1 false (T 21)), Z 23 (.lenL (T 22)), Z 24 (.bin .eql (T 23) (I 0))]) (.cond (T 24) (.seq (.reg [Zm 25 3, Z 26 (.nilck (T 25)), Z 27 (.fa 0 (T 26)), Z 28 (.ld 1 false (T 27)), Zm 2 28]) .ret) .skip)) (.seq (.reg [Zm 29 3, Z 30 (.nilck (T 29)), Z 31 (.fa 0 (T 30)), Z 32 (.ld 1 false (T 31)), Z 33 (.bin .add (T 32) (I 1)), Z 34 (.nilck (T 29)), Z 35 (.fa 0 (T 34)), (.mk none (.st 1 (T 35) (T 33)) none, [])]) (.seq (.reg [Zm 36 3, Zm 37 0, Z 38 (.nilck (T 37)), Z 39 (.fa 3 (T 38)), Z 40 (.ld 1 false (T 39)), Z 41 (.nilck (T 36)), Z 42 (.fa 2 (T 41)), (.mk none (.st 1 (T 42) (T 40)) none, [])]) (.seq (.seq (.reg [Zm 43 0, Z 44 (.nilck (T 43)), Z 45 (.fa 1 (T 44)), Z 46 (.ld 1 false (T 45)), Z 47 (.lenL (T 46)), Z 48 (.mv (I 0))]) (.block 0 (.loop (.seq (.reg [Z 49 (.bin .lss (T 48) (T 47))]) (.seq (.cond (T 49) .skip (.exit 0)) (.seq (.block 1 (.seq (.reg [Z 50 (.ia 1 (T 46) (T 48)), Z 51 (.ld 1 false (T 50)), Zm 5 51]) (.reg [Zm 52 3, Zm 53 3, Z 54 (.nilck (T 53)), Z 55 (.fa 0 (T 54)), Z 56 (.ld 1 false (T 55)), Zm 57 5, Z 58 (.bld [.int .i64 0, .nili] [(0, (1, T 56)), (1, (1, T 57))]), Z 59 (.call 39 [T 52, T 58])]))) (.reg [Z 60 (.bin .add (T 48) (I 1)), Zm 48 60]))))))) (.seq (.reg [Zm 61 3, Z 62 (.nilck (T 61)), Z 63 (.fa 0 (T 62)), Z 64 (.ld 1 false (T 63)), Zm 2 64]) .ret))))))))) [.tmp 2]
theorem c23 : compF Try.prog Try.f23 = some F23 := by kernel_rfl
theorem t23 : TT 23 F23 := tt Try.func23 c23

/-- "(*horologe/mvcc.Store).Since" -/
def F24 : AFun := .mk 45 (.seq (.reg [Z 2 (.box (T 0)), Z 3 (.box (T 1)), Z 4 (.mv (.cs .nils)), Z 5 (.mv (I 0))]) (.seq (.block 0 (.seq (.reg [Z 11 (.ld 1 false (T 3)), Z 12 (.bin .lss (T 11) (I 1)), Zm 10 12]) (.cond (T 10) (.seq (.reg [Z 4 (.mv (.cs .nils)), Z 5 (.mv (I 1))]) .ret) (.seq (.reg [Z 14 (.ld 1 false (T 3)), Z 15 (.ld 1 false (T 2)), Z 16 (.nilck (T 15)), Z 17 (.fa 1 (T 16)), Z 18 (.ld 1 false (T 17)), Z 19 (.bin .leq (T 14) (T 18)), Zm 13 19]) (.cond (T 13) (.seq (.reg [Z 4 (.mv (.cs .nils)), Z 5 (.mv (I 16))]) .ret) .skip))))) (.seq (.reg [Z 20 (.ld 1 false (T 2)), Z 21 (.nilck (T 20)), Z 22 (.fa 5 (T 21)), Z 23 (.ld 1 false (T 22)), Z 24 (.lenL (T 23)), Z 25 (.mkfn 40 [T 2, T 3]), Z 26 (.call 30 [T 24, T 25]), Zm 6 26]) (.seq (.reg [Z 7 (.mv (.cs .nils))]) (.seq (.seq (.reg [Z 27 (.ld 1 false (T 2)), Z 28 (.nilck (T 27)), Z 29 (.fa 5 (T 28)), Z 30 (.ld 1 false (T 29)), Zm 31 6, Z 32 (.slcL 2 (T 30) (.some (T 31)) none), Z 33 (.lenL (T 32)), Z 34 (.mv (I 0))]) (.block 1 (.loop (.seq (.reg [Z 35 (.bin .lss (T 34) (T 33))]) (.seq (.cond (T 35) .skip (.exit 1)) (.seq (.block 2 (.seq (.reg [Z 36 (.ia 2 (T 32) (T 34)), Z 37 (.ld 2 true (T 36)), Z 9 (.alloc [.int .i64 0, .nili]), (.mk none (.st 2 (T 9) (T 37)) none, [])]) (.reg [Zm 38 7, Z 39 (.ld 2 true (T 9)), Z 40 (.call 41 [T 39]), Z 41 (.bsl [.int .i64 0, .bool false, .str [], .str [], .int .i64 0, .int .i64 0, .int .i64 0, .int .i64 0] 1 [(0, T 40)]), Z 42 (.app 8 80 (T 38) (T 41)), Zm 7 42]))) (.reg [Z 43 (.bin .add (T 34) (I 1)), Zm 34 43]))))))) (.seq (.reg [Zm 44 7, Zm 4 44, Z 5 (.mv (I 0))]) .ret)))))) [.tmp 4, .tmp 5]
theorem c24 : compF Try.prog Try.f24 = some F24 := by kernel_rfl
theorem t24 : TT 24 F24 := tt Try.func24 c24

/-- "horologe/index.New" -/
def F26 : AFun := .mk 3 (.seq (.reg [Z 0 (.mv (.cs .nilp))]) (.seq (.reg [Z 1 (.bld [.nilp, .int .i64 0] []), Z 2 (.box (T 1)), Zm 0 2]) .ret)) [.tmp 0]
theorem c26 : compF Try.prog Try.f26 = some F26 := by kernel_rfl
theorem t26 : TT 26 F26 := tt Try.func26 c26

/-- "(*horologe/watch.watcher).changes" -/
def F27 : AFun := .mk 28 (.seq (.reg [Z 2 (.box (T 0)), Z 4 (.mv (.cs .nils)), Z 5 (.mv (I 0))]) (.seq (.seq (.reg [Z 8 (.ld 1 false (T 2)), Z 9 (.nilck (T 8)), Z 10 (.fa 2 (T 9)), Z 11 (.ld 1 false (T 10)), Zm 12 1, (.mk (.some 13) (.call 22 [T 12]) none, [.mk (.some 8) (.ld 1 false (T 2)) none, .mk (.some 11) (.ld 1 false (T 10)) none]), Z 14 (.bin .gtr (T 11) (T 13))]) (.cond (T 14) (.seq (.reg [Z 4 (.mv (.cs .nils)), Z 5 (.mv (I 0))]) .ret) .skip)) (.seq (.reg [Zm 16 1, Z 17 (.ld 1 false (T 2)), Z 18 (.nilck (T 17)), Z 19 (.fa 2 (T 18)), Z 20 (.ld 1 false (T 19)), Z 21 (.call 24 [T 16, T 20]), Zm 15 21, Z 22 (.ext 0 (T 15)), Z 23 (.ext 1 (T 15)), Zm 6 22, Zm 7 23]) (.seq (.reg [Zm 24 6, Z 25 (.mkfn 43 [T 2]), Z 26 (.call 42 [T 24, T 25]), Zm 27 7, Zm 4 26, Zm 5 27]) .ret)))) [.tmp 4, .tmp 5]
theorem c27 : compF Try.prog Try.f27 = some F27 := by kernel_rfl
theorem t27 : TT 27 F27 := tt Try.func27 c27

/-- "slices.Clone[[]horologe/api.Event,horologe/api.Event]" -/
def F28 : AFun := .mk 8 (.seq (.reg [Z 2 (.mv (.cs .nils))]) (.seq (.seq (.reg [Zm 3 0, Z 4 (.eqn .sl false (T 3) (.cs .nils))]) (.cond (T 4) (.seq (.reg [Z 2 (.mv (.cs .nils))]) .ret) .skip)) (.seq (.reg [Z 5 (.bsl [.int .i64 0, .bool false, .str [], .str [], .int .i64 0, .int .i64 0, .int .i64 0, .int .i64 0] 0 []), Zm 6 0, Z 7 (.app 8 80 (T 5) (T 6)), Zm 2 7]) .ret))) [.tmp 2]
theorem c28 : compF Try.prog Try.f28 = some F28 := by kernel_rfl
theorem t28 : TT 28 F28 := tt Try.func28 c28

/-- "(*horologe/watch.Hub).late" -/
def F29 : AFun := .mk 76 (.seq (.reg [Z 8 (.mv (.cs .nils)), Z 9 (.mv (I 0))]) (.seq (.seq (.reg [Zm 13 2, Z 14 (.nilck (T 13)), Z 15 (.fa 2 (T 14)), Z 16 (.ld 1 false (T 15)), Zm 17 0, Z 18 (.nilck (T 17)), Z 19 (.fa 0 (T 18)), Z 20 (.ld 1 false (T 19)), (.mk (.some 21) (.call 45 [T 20]) none, [.mk (.some 16) (.ld 1 false (T 15)) none]), Z 22 (.bin .leq (T 16) (T 21))]) (.cond (T 22) (.seq (.reg [Zm 23 0, Z 24 (.nilck (T 23)), Z 25 (.fa 1 (T 24)), Z 26 (.ld 1 false (T 25)), Zm 27 1, (.mk none (.del false (T 26) (T 27)) none, [])]) (.seq (.reg [Z 8 (.mv (.cs .nils)), Z 9 (.mv (I 16))]) .ret)) .skip)) (.seq (.reg [Zm 29 2, Zm 30 0, Z 31 (.nilck (T 30)), Z 32 (.fa 0 (T 31)), Z 33 (.ld 1 false (T 32)), Z 34 (.call 27 [T 29, T 33]), Zm 28 34, Z 35 (.ext 0 (T 28)), Z 36 (.ext 1 (T 28)), Zm 10 35, Zm 11 36]) (.seq (.reg [Zm 38 10, Zm 39 3, Z 40 (.call 46 [T 38, T 39]), Zm 37 40, Z 41 (.ext 0 (T 37)), Z 42 (.ext 1 (T 37)), Zm 10 41, Zm 12 42]) (.seq (.seq (.reg [Zm 43 12]) (.cond (T 43) (.seq (.reg [Zm 44 2, Zm 45 10, Zm 46 10, Z 47 (.lenL (T 46)), Z 48 (.bin .sub (T 47) (I 1)), Z 49 (.ia 8 (T 45) (T 48)), Z 50 (.fa 0 (T 49)), Z 51 (.ld 1 false (T 50)), Z 52 (.bin .add (T 51) (I 1)), Z 53 (.nilck (T 44)), Z 54 (.fa 2 (T 53)), (.mk none (.st 1 (T 54) (T 52)) none, [])]) (.seq (.reg [Zm 55 10, Zm 8 55, Z 9 (.mv (I 0))]) .ret)) .skip)) (.seq (.reg [Zm 56 2, Zm 57 2, Z 58 (.nilck (T 57)), Z 59 (.fa 2 (T 58)), Z 60 (.ld 1 false (T 59)), Zm 61 0, Z 62 (.nilck (T 61)), Z 63 (.fa 0 (T 62)), Z 64 (.ld 1 false (T 63)), (.mk (.some 65) (.call 22 [T 64]) none, [.mk (.some 60) (.ld 1 false (T 59)) none]), Z 66 (.bin .add (T 65) (I 1)), Z 67 (.mm true (T 60) (T 66)), Z 68 (.nilck (T 56)), Z 69 (.fa 2 (T 68)), (.mk none (.st 1 (T 69) (T 67)) none, [])]) (.seq (.reg [Zm 70 2, Z 71 (.bld [.nils] []), Z 72 (.mkif 75 (T 71)), Z 73 (.nilck (T 70)), Z 74 (.fa 3 (T 73)), (.mk none (.st 1 (T 74) (T 72)) none, [])]) (.seq (.reg [Zm 75 10, Zm 8 75, Z 9 (.mv (I 0))]) .ret)))))))) [.tmp 8, .tmp 9]
theorem c29 : compF Try.prog Try.f29 = some F29 := by kernel_rfl
theorem t29 : TT 29 F29 := tt Try.func29 c29

/-- "sort.Search" -/
def F30 : AFun := .mk 26 (.seq (.reg [Z 4 (.mv (I 0))]) (.seq (.reg [Zm 8 0, Z 5 (.mv (I 0)), Zm 6 8]) (.seq (.block 0 (.loop (.seq (.seq (.reg [Zm 9 5, Zm 10 6, Z 11 (.bin .lss (T 9) (T 10))]) (.cond (T 11) .skip (.exit 0))) (.block 1 (.seq (.reg [Zm 12 5, Zm 13 6, Z 14 (.bin .add (T 12) (T 13)), Z 15 (.cvi .u64 (T 14)), Z 16 (.bin .shr (T 15) (.cs (.int .u64 1))), Z 17 (.cvi .i64 (T 16)), Zm 7 17]) (.seq (.reg [Zm 18 1, Zm 19 7, Z 20 (.callv (T 18) [T 19]), Z 21 (.un .not (T 20))]) (.cond (T 21) (.reg [Zm 22 7, Z 23 (.bin .add (T 22) (I 1)), Zm 5 23]) (.reg [Zm 24 7, Zm 6 24])))))))) (.seq (.reg [Zm 25 5, Zm 4 25]) .ret)))) [.tmp 4]
theorem c30 : compF Try.prog Try.f30 = some F30 := by kernel_rfl
theorem t30 : TT 30 F30 := tt Try.func30 c30

/-- "(*horologe/mvcc.Write).closed" -/
def F35 : AFun := .mk 12 (.seq (.reg [Z 2 (.mv (.cs (.bool false)))]) (.seq (.reg [Zm 3 0, Z 4 (.nilck (T 3)), Z 5 (.fa 0 (T 4)), Z 6 (.ld 1 false (T 5)), Z 7 (.nilck (T 6)), Z 8 (.fa 6 (T 7)), Z 9 (.ld 1 false (T 8)), Zm 10 0, Z 11 (.eqn .ptr true (T 9) (T 10)), Zm 2 11]) .ret)) [.tmp 2]
theorem c35 : compF Try.prog Try.f35 = some F35 := by kernel_rfl
theorem t35 : TT 35 F35 := tt Try.func35 c35

/-- "(*horologe/mvcc.Write).now" -/
def F37 : AFun := .mk 44 (.seq (.reg [Z 4 (.alloc [.str [], .str [], .int .i64 0, .int .i64 0, .int .i64 0, .int .i64 0]), Z 5 (.mv (.cs (.bool false)))]) (.seq (.reg [Zm 11 0, Z 12 (.nilck (T 11)), Z 13 (.fa 2 (T 12)), Z 14 (.ld 1 false (T 13)), Zm 15 1, Z 16 (.lkp true true .nili (T 14) (T 15)), Zm 10 16, Z 17 (.ext 0 (T 10)), Z 18 (.ext 1 (T 10)), Zm 6 17, Zm 7 18]) (.seq (.seq (.reg [Zm 19 7, Z 20 (.un .not (T 19))]) (.cond (T 20) (.seq (.reg [Zm 21 0, Z 22 (.nilck (T 21)), Z 23 (.fa 0 (T 22)), Z 24 (.ld 1 false (T 23)), Zm 25 1, Zm 26 0, Z 27 (.nilck (T 26)), Z 28 (.fa 0 (T 27)), Z 29 (.ld 1 false (T 28)), Z 30 (.nilck (T 29)), Z 31 (.fa 0 (T 30)), Z 32 (.ld 1 false (T 31)), Z 33 (.call 55 [T 24, T 25, T 32]), Z 34 (.ext 0 (T 33)), Z 35 (.ext 1 (T 33)), (.mk none (.st 6 (T 4) (T 34)) none, []), Zm 5 35]) .ret) .skip)) (.seq (.reg [Zm 37 6, Z 38 (.ta 108 true (.agg [.str [], .str [], .int .i64 0, .int .i64 0, .int .i64 0, .int .i64 0]) (T 37)), Zm 36 38, Z 39 (.ext 0 (T 36)), Z 40 (.ext 1 (T 36)), Z 8 (.alloc [.str [], .str [], .int .i64 0, .int .i64 0, .int .i64 0, .int .i64 0]), (.mk none (.st 6 (T 8) (T 39)) none, []), Zm 9 40]) (.seq (.reg [Z 41 (.fa 0 (T 8)), Z 42 (.ld 6 true (T 41)), Zm 43 9, (.mk none (.st 6 (T 4) (T 42)) none, []), Zm 5 43]) .ret))))) [.cell 4 6 true, .tmp 5]
theorem c37 : compF Try.prog Try.f37 = some F37 := by kernel_rfl
theorem t37 : TT 37 F37 := tt Try.func37 c37

/-- "(*horologe/mvcc.Write).lay" -/
def F38 : AFun := .mk 21 (.seq (.reg [Zm 4 0, Zm 5 0, Z 6 (.nilck (T 5)), Z 7 (.fa 1 (T 6)), Z 8 (.ld 1 false (T 7)), Zm 9 1, Z 10 (.bsl [.nili] 1 [(0, T 9)]), Z 11 (.app 1 16 (T 8) (T 10)), Z 12 (.nilck (T 4)), Z 13 (.fa 1 (T 12)), (.mk none (.st 1 (T 13) (T 11)) none, [])]) (.reg [Zm 14 0, Z 15 (.nilck (T 14)), Z 16 (.fa 2 (T 15)), Z 17 (.ld 1 false (T 16)), Zm 18 1, Zm 20 1, (.mk (.some 19) (.inv "horologe/mvcc.key" (T 18) []) none, [.mk (.some 17) (.ld 1 false (T 16)) none]), (.mk none (.mup true (T 17) (T 19) (T 20)) none, [])])) []
theorem c38 : compF Try.prog Try.f38 = some F38 := by kernel_rfl
theorem t38 : TT 38 F38 := tt Try.func38 c38

/-- "(*horologe/mvcc.Store).note" -/
def F39 : AFun := .mk 53 (.seq (.reg [Z 3 (.box (T 1))]) (.seq (.reg [Z 7 (.fa 1 (T 3)), Z 8 (.ld 1 false (T 7)), Z 9 (.ta 108 true (.agg [.str [], .str [], .int .i64 0, .int .i64 0, .int .i64 0, .int .i64 0]) (T 8)), Zm 6 9, Z 10 (.ext 0 (T 6)), Z 11 (.ext 1 (T 6)), Z 4 (.alloc [.str [], .str [], .int .i64 0, .int .i64 0, .int .i64 0, .int .i64 0]), (.mk none (.st 6 (T 4) (T 10)) none, []), Zm 5 11]) (.seq (.reg [Zm 12 0, Z 13 (.nilck (T 12)), Z 14 (.fa 3 (T 13)), Z 15 (.ld 1 false (T 14)), Z 16 (.fa 1 (T 3)), Z 17 (.ld 1 false (T 16)), Z 19 (.fa 0 (T 3)), Z 20 (.ld 1 false (T 19)), Zm 21 5, Z 22 (.un .not (T 21)), Z 23 (.bld [.int .i64 0, .bool false] [(0, (1, T 20)), (1, (1, T 22))]), (.mk (.some 18) (.inv "horologe/mvcc.key" (T 17) []) none, [.mk (.some 15) (.ld 1 false (T 14)) none, .mk (.some 20) (.ld 1 false (T 19)) none]), Z 24 (.call 56 [T 15, T 18, T 23])]) (.seq (.reg [Zm 25 0, Z 26 (.nilck (T 25)), Z 27 (.fa 4 (T 26)), Z 28 (.ld 1 false (T 27)), Z 29 (.fa 1 (T 3)), Z 30 (.ld 1 false (T 29)), Zm 32 0, Z 33 (.nilck (T 32)), Z 34 (.fa 4 (T 33)), Z 35 (.ld 1 false (T 34)), Z 36 (.fa 1 (T 3)), Z 37 (.ld 1 false (T 36)), Z 40 (.ld 2 true (T 3)), (.mk (.some 31) (.inv "horologe/mvcc.key" (T 30) []) none, [.mk (.some 28) (.ld 1 false (T 27)) none, .mk (.some 35) (.ld 1 false (T 34)) none, .mk (.some 37) (.ld 1 false (T 36)) none, .mk (.some 40) (.ld 2 true (T 3)) none]), (.mk (.some 38) (.inv "horologe/mvcc.key" (T 37) []) none, [.mk (.some 28) (.ld 1 false (T 27)) none, .mk (.some 35) (.ld 1 false (T 34)) none, .mk (.some 40) (.ld 2 true (T 3)) none]), Z 39 (.lkp true false .nils (T 35) (T 38)), Z 41 (.bsl [.int .i64 0, .nili] 1 [(0, T 40)]), (.mk (.some 42) (.app 2 24 (T 39) (T 41)) none, [.mk (.some 28) (.ld 1 false (T 27)) none]), (.mk none (.mup true (T 28) (T 31) (T 42)) none, [])]) (.reg [Zm 43 0, Zm 44 0, Z 45 (.nilck (T 44)), Z 46 (.fa 5 (T 45)), Z 47 (.ld 1 false (T 46)), Z 48 (.ld 2 true (T 3)), Z 49 (.bsl [.int .i64 0, .nili] 1 [(0, T 48)]), Z 50 (.app 2 24 (T 47) (T 49)), Z 51 (.nilck (T 43)), Z 52 (.fa 5 (T 51)), (.mk none (.st 1 (T 52) (T 50)) none, [])]))))) []
theorem c39 : compF Try.prog Try.f39 = some F39 := by kernel_rfl
theorem t39 : TT 39 F39 := tt Try.func39 c39

/-- "(*horologe/mvcc.Store).Since$1" -/
def F40 : AFun := .mk 15 (.seq (.reg [Z 4 (.mv (.cs (.bool false)))]) (.seq (.reg [Z 5 (.ld 1 false (T 1)), Z 6 (.nilck (T 5)), Z 7 (.fa 5 (T 6)), Z 8 (.ld 1 false (T 7)), Zm 9 0, Z 10 (.ia 2 (T 8) (T 9)), Z 11 (.fa 0 (T 10)), Z 12 (.ld 1 false (T 11)), Z 13 (.ld 1 false (T 2)), Z 14 (.bin .geq (T 12) (T 13)), Zm 4 14]) .ret)) [.tmp 4]
theorem c40 : compF Try.prog Try.f40 = some F40 := by kernel_rfl
theorem t40 : TT 40 F40 := tt Try.func40 c40

/-- "(horologe/mvcc.version).event" -/
def F41 : AFun := .mk 26 (.seq (.reg [Z 1 (.box (T 0)), Z 2 (.alloc [.int .i64 0, .bool false, .str [], .str [], .int .i64 0, .int .i64 0, .int .i64 0, .int .i64 0])]) (.seq (.seq (.reg [Z 6 (.fa 1 (T 1)), Z 7 (.ld 1 false (T 6)), Z 8 (.ta 108 true (.agg [.str [], .str [], .int .i64 0, .int .i64 0, .int .i64 0, .int .i64 0]) (T 7)), Zm 5 8, Z 9 (.ext 0 (T 5)), Z 10 (.ext 1 (T 5)), Z 3 (.alloc [.str [], .str [], .int .i64 0, .int .i64 0, .int .i64 0, .int .i64 0]), (.mk none (.st 6 (T 3) (T 9)) none, []), Zm 4 10]) (.seq (.reg [Zm 11 4]) (.cond (T 11) (.seq (.reg [Z 12 (.fa 0 (T 1)), Z 13 (.ld 1 false (T 12)), Z 14 (.fa 0 (T 3)), Z 15 (.ld 6 true (T 14)), Z 16 (.bld [.int .i64 0, .bool false, .str [], .str [], .int .i64 0, .int .i64 0, .int .i64 0, .int .i64 0] [(0, (1, T 13)), (2, (6, T 15))]), (.mk none (.st 8 (T 2) (T 16)) none, [])]) .ret) .skip))) (.seq (.reg [Z 17 (.fa 0 (T 1)), Z 18 (.ld 1 false (T 17)), Z 19 (.fa 1 (T 1)), Z 20 (.ld 1 false (T 19)), Z 22 (.fa 0 (T 1)), Z 23 (.ld 1 false (T 22)), (.mk (.some 21) (.inv "horologe/mvcc.key" (T 20) []) none, [.mk (.some 18) (.ld 1 false (T 17)) none, .mk (.some 23) (.ld 1 false (T 22)) none]), Z 24 (.bld [.str [], .str [], .int .i64 0, .int .i64 0, .int .i64 0, .int .i64 0] [(0, (1, T 21)), (3, (1, T 23))]), Z 25 (.bld [.int .i64 0, .bool false, .str [], .str [], .int .i64 0, .int .i64 0, .int .i64 0, .int .i64 0] [(0, (1, T 18)), (1, (1, .cs (.bool true))), (2, (6, T 24))]), (.mk none (.st 8 (T 2) (T 25)) none, [])]) .ret))) [.cell 2 8 true]
theorem c41 : compF Try.prog Try.f41 = some F41 := by kernel_rfl
theorem t41 : TT 41 F41 := tt Try.func41 c41

/-- "slices.DeleteFunc[[]horologe/api.Event,horologe/api.Event]" -/
def F42 : AFun := .mk 42 (.seq (.reg [Z 4 (.mv (.cs .nils))]) (.seq (.reg [Zm 8 0, Zm 9 1, Z 10 (.call 57 [T 8, T 9]), Zm 5 10]) (.seq (.seq (.reg [Zm 11 5, Z 12 (.bin .eql (T 11) (I (-1)))]) (.cond (T 12) (.seq (.reg [Zm 13 0, Zm 4 13]) .ret) .skip)) (.seq (.seq (.reg [Zm 14 5, Z 15 (.bin .add (T 14) (I 1)), Zm 6 15]) (.block 0 (.loop (.seq (.seq (.reg [Zm 16 6, Zm 17 0, Z 18 (.lenL (T 17)), Z 19 (.bin .lss (T 16) (T 18))]) (.cond (T 19) .skip (.exit 0))) (.seq (.block 1 (.seq (.reg [Zm 22 0, Zm 23 6, Z 24 (.ia 8 (T 22) (T 23)), Z 25 (.ld 8 true (T 24)), Z 7 (.alloc [.int .i64 0, .bool false, .str [], .str [], .int .i64 0, .int .i64 0, .int .i64 0, .int .i64 0]), (.mk none (.st 8 (T 7) (T 25)) none, [])]) (.seq (.reg [Zm 26 1, Z 27 (.ld 8 true (T 7)), Z 28 (.callv (T 26) [T 27]), Z 29 (.un .not (T 28))]) (.cond (T 29) (.seq (.reg [Zm 30 0, Zm 31 5, Z 32 (.ld 8 true (T 7)), Z 33 (.ia 8 (T 30) (T 31)), (.mk none (.st 8 (T 33) (T 32)) none, [])]) (.reg [Zm 34 5, Z 35 (.bin .add (T 34) (I 1)), Zm 5 35])) .skip)))) (.reg [Zm 20 6, Z 21 (.bin .add (T 20) (I 1)), Zm 6 21])))))) (.seq (.reg [Zm 36 0, Zm 37 5, Z 38 (.slcL 8 (T 36) (.some (T 37)) none), (.mk none (.clr 8 [.int .i64 0, .bool false, .str [], .str [], .int .i64 0, .int .i64 0, .int .i64 0, .int .i64 0] (T 38)) none, [])]) (.seq (.reg [Zm 39 0, Zm 40 5, Z 41 (.slcL 8 (T 39) none (.some (T 40))), Zm 4 41]) .ret)))))) [.tmp 4]
theorem c42 : compF Try.prog Try.f42 = some F42 := by kernel_rfl
theorem t42 : TT 42 F42 := tt Try.func42 c42

/-- "(*horologe/watch.watcher).changes$1" -/
def F43 : AFun := .mk 10 (.seq (.reg [Z 2 (.box (T 0)), Z 3 (.mv (.cs (.bool false)))]) (.seq (.reg [Z 4 (.ld 1 false (T 1)), Z 5 (.fa 2 (T 2)), Z 6 (.fa 0 (T 5)), Z 7 (.ld 1 false (T 6)), Z 8 (.call 44 [T 4, T 7]), Z 9 (.un .not (T 8)), Zm 3 9]) .ret)) [.tmp 3]
theorem c43 : compF Try.prog Try.f43 = some F43 := by kernel_rfl
theorem t43 : TT 43 F43 := tt Try.func43 c43

/-- "(*horologe/watch.watcher).inside" -/
def F44 : AFun := .mk 41 (.seq (.reg [Z 4 (.mv (.cs (.bool false)))]) (.seq (.seq (.reg [Zm 5 1, Zm 6 0, Z 7 (.nilck (T 6)), Z 8 (.fa 0 (T 7)), Z 9 (.ld 1 false (T 8)), Z 10 (.bin .eql (T 5) (T 9)), Zm 11 10]) (.seq (.cond (T 11) (.reg [Zm 12 0, Z 13 (.nilck (T 12)), Z 14 (.fa 1 (T 13)), Z 15 (.ld 1 false (T 14)), Z 16 (.bin .eql (T 15) (.cs (.str [])))]) (ZP 12 5)) (.seq (.reg [Z 17 (.pick (T 11) (T 16) (.cs (.bool false))), Zm 18 17]) (.seq (.cond (T 18) (ZP 19 21) (.seq (.reg [Zm 19 0, Z 20 (.nilck (T 19)), Z 21 (.fa 1 (T 20)), Z 22 (.ld 1 false (T 21)), Z 23 (.bin .neq (T 22) (.cs (.str []))), Zm 24 23]) (.seq (.cond (T 24) (.reg [Zm 25 1, Zm 26 0, Z 27 (.nilck (T 26)), Z 28 (.fa 0 (T 27)), Z 29 (.ld 1 false (T 28)), Z 30 (.bin .geq (T 25) (T 29))]) (ZP 25 6)) (.seq (.reg [Z 31 (.pick (T 24) (T 30) (.cs (.bool false))), Zm 32 31]) (.seq (.cond (T 32) (.reg [Zm 33 1, Zm 34 0, Z 35 (.nilck (T 34)), Z 36 (.fa 1 (T 35)), Z 37 (.ld 1 false (T 36)), Z 38 (.bin .lss (T 33) (T 37))]) (ZP 33 6)) (.reg [Z 39 (.pick (T 32) (T 38) (.cs (.bool false)))])))))) (.reg [Z 40 (.pick (T 18) (.cs (.bool true)) (T 39)), Zm 4 40]))))) .ret)) [.tmp 4]
theorem c44 : compF Try.prog Try.f44 = some F44 := by kernel_rfl
theorem t44 : TT 44 F44 := tt Try.func44 c44

/-- "(*horologe/mvcc.Store).Compacted" -/
def F45 : AFun := .mk 7 (.seq (.reg [Z 2 (.mv (I 0))]) (.seq (.reg [Zm 3 0, Z 4 (.nilck (T 3)), Z 5 (.fa 1 (T 4)), Z 6 (.ld 1 false (T 5)), Zm 2 6]) .ret)) [.tmp 2]
theorem c45 : compF Try.prog Try.f45 = some F45 := by kernel_rfl
theorem t45 : TT 45 F45 := tt Try.func45 c45

/-- "horologe/watch.some" -/
def F46 : AFun := .mk 47 (.seq (.reg [Z 4 (.mv (.cs .nils)), Z 5 (.mv (.cs (.bool false)))]) (.seq (.reg [Z 6 (.mv (I 0))]) (.seq (.block 0 (.loop (.seq (.seq (.reg [Zm 8 6, Zm 9 0, Z 10 (.lenL (T 9)), Z 11 (.bin .lss (T 8) (T 10))]) (.cond (T 11) .skip (.exit 0))) (.block 1 (.seq (.reg [Zm 12 6, Zm 7 12]) (.seq (.block 2 (.loop (.seq (.seq (.seq (.reg [Zm 13 7, Zm 14 0, Z 15 (.lenL (T 14)), Z 16 (.bin .lss (T 13) (T 15)), Zm 17 16]) (.seq (.cond (T 17) (.reg [Zm 18 0, Zm 19 7, Z 20 (.ia 8 (T 18) (T 19)), Z 21 (.fa 0 (T 20)), Z 22 (.ld 1 false (T 21)), Zm 23 0, Zm 24 6, Z 25 (.ia 8 (T 23) (T 24)), Z 26 (.fa 0 (T 25)), Z 27 (.ld 1 false (T 26)), Z 28 (.bin .eql (T 22) (T 27))]) (ZP 18 11)) (.reg [Z 29 (.pick (T 17) (T 28) (.cs (.bool false)))]))) (.cond (T 29) .skip (.exit 2))) (.block 3 (.reg [Zm 30 7, Z 31 (.bin .add (T 30) (I 1)), Zm 7 31]))))) (.seq (.seq (.seq (.reg [Zm 32 6, Z 33 (.bin .gtr (T 32) (I 0)), Zm 34 33]) (.seq (.cond (T 34) (.reg [Zm 35 7, Zm 36 1, Z 37 (.bin .gtr (T 35) (T 36))]) (ZP 35 3)) (.reg [Z 38 (.pick (T 34) (T 37) (.cs (.bool false)))]))) (.cond (T 38) (.exit 0) .skip)) (.reg [Zm 39 7, Zm 6 39])))))))) (.seq (.reg [Zm 40 0, Zm 41 6, Z 42 (.slcL 8 (T 40) none (.some (T 41))), Zm 43 6, Zm 44 0, Z 45 (.lenL (T 44)), Z 46 (.bin .lss (T 43) (T 45)), Zm 4 42, Zm 5 46]) .ret)))) [.tmp 4, .tmp 5]
theorem c46 : compF Try.prog Try.f46 = some F46 := by kernel_rfl
theorem t46 : TT 46 F46 := tt Try.func46 c46

/-- "(*horologe/index.node).walk" -/
def F47 : AFun := .mk 71 (.seq (.seq (.reg [Zm 10 0, Z 11 (.eqn .ptr false (T 10) (.cs .nilp))]) (.cond (T 11) .ret .skip)) (.seq (.reg [Zm 13 0, Zm 14 1, Z 15 (.call 58 [T 13, T 14]), Zm 12 15, Z 16 (.ext 0 (T 12)), Z 17 (.ext 1 (T 12)), Zm 8 16, Zm 9 17]) (.block 0 (.loop (.seq (.block 1 (.seq (.seq (.reg [Zm 20 0, Z 21 (.nilck (T 20)), Z 22 (.fa 1 (T 21)), Z 23 (.ld 1 false (T 22)), Z 24 (.lenL (T 23)), Z 25 (.bin .gtr (T 24) (I 0))]) (.cond (T 25) (.reg [Zm 26 0, Z 27 (.nilck (T 26)), Z 28 (.fa 1 (T 27)), Z 29 (.ld 1 false (T 28)), Zm 30 8, Z 31 (.ia 1 (T 29) (T 30)), Z 32 (.ld 1 false (T 31)), Zm 33 1, Zm 34 2, Zm 35 3, Z 36 (.call 47 [T 32, T 33, T 34, T 35])]) .skip)) (.seq (.seq (.seq (.reg [Zm 37 8, Zm 38 0, Z 39 (.nilck (T 38)), Z 40 (.fa 0 (T 39)), Z 41 (.ld 1 false (T 40)), Z 42 (.lenL (T 41)), Z 43 (.bin .eql (T 37) (T 42)), Zm 44 43]) (.seq (.cond (T 44) (ZP 45 16) (.seq (.reg [Zm 45 2, Z 46 (.bin .neq (T 45) (.cs (.str []))), Zm 47 46]) (.seq (.cond (T 47) (.reg [Zm 48 0, Z 49 (.nilck (T 48)), Z 50 (.fa 0 (T 49)), Z 51 (.ld 1 false (T 50)), Zm 52 8, Z 53 (.ia 1 (T 51) (T 52)), Z 54 (.ld 1 false (T 53)), Z 55 (.nilck (T 54)), Z 56 (.fa 0 (T 55)), Z 57 (.ld 1 false (T 56)), Zm 58 2, Z 59 (.bin .geq (T 57) (T 58))]) (ZP 48 12)) (.reg [Z 60 (.pick (T 47) (T 59) (.cs (.bool false)))])))) (.reg [Z 61 (.pick (T 44) (.cs (.bool true)) (T 60))]))) (.cond (T 61) .ret .skip)) (.reg [Zm 62 3, Zm 63 0, Z 64 (.nilck (T 63)), Z 65 (.fa 0 (T 64)), Z 66 (.ld 1 false (T 65)), Zm 67 8, Z 68 (.ia 1 (T 66) (T 67)), Z 69 (.ld 1 false (T 68)), Z 70 (.callv (T 62) [T 69])])))) (.reg [Zm 18 8, Z 19 (.bin .add (T 18) (I 1)), Zm 8 19])))))) []
theorem c47 : compF Try.prog Try.f47 = some F47 := by kernel_rfl
theorem t47 : TT 47 F47 := tt Try.func47 c47

/-- "horologe/index.trimmed" -/
def F49 : AFun := .mk 25 (.seq (.reg [Z 2 (.box (T 0)), Z 3 (.box (T 1)), Z 4 (.mv (.cs .nils))]) (.seq (.reg [Z 6 (.ld 1 false (T 2)), Z 7 (.lenL (T 6)), Z 8 (.mkfn 59 [T 2, T 3]), Z 9 (.call 30 [T 7, T 8]), Z 10 (.bin .sub (T 9) (I 1)), Zm 5 10]) (.seq (.seq (.reg [Zm 11 5, Z 12 (.bin .lss (T 11) (I 0))]) (.cond (T 12) (.seq (.reg [Z 13 (.ld 1 false (T 2)), Zm 4 13]) .ret) .skip)) (.seq (.seq (.reg [Z 14 (.ld 1 false (T 2)), Zm 15 5, Z 16 (.ia 2 (T 14) (T 15)), Z 17 (.fa 1 (T 16)), Z 18 (.ld 1 false (T 17))]) (.cond (T 18) (.reg [Zm 19 5, Z 20 (.bin .add (T 19) (I 1)), Zm 5 20]) .skip)) (.seq (.reg [Z 21 (.ld 1 false (T 2)), Zm 22 5, Z 23 (.slcL 2 (T 21) (.some (T 22)) none), Z 24 (.call 60 [T 23]), Zm 4 24]) .ret))))) [.tmp 4]
theorem c49 : compF Try.prog Try.f49 = some F49 := by kernel_rfl
theorem t49 : TT 49 F49 := tt Try.func49 c49

/-- "(*horologe/index.Index).add" -/
def F50 : AFun := .mk 47 (.seq (.reg [Zm 6 0, Z 7 (.nilck (T 6)), Z 8 (.fa 1 (T 7)), Z 9 (.ld 1 false (T 8)), Z 10 (.bin .add (T 9) (I 1)), Z 11 (.nilck (T 6)), Z 12 (.fa 1 (T 11)), (.mk none (.st 1 (T 12) (T 10)) none, [])]) (.seq (.seq (.reg [Zm 13 0, Z 14 (.nilck (T 13)), Z 15 (.fa 0 (T 14)), Z 16 (.ld 1 false (T 15)), Z 17 (.eqn .ptr false (T 16) (.cs .nilp))]) (.cond (T 17) (.reg [Zm 18 0, Z 19 (.bld [.nils, .nils] []), Z 20 (.box (T 19)), Z 21 (.nilck (T 18)), Z 22 (.fa 0 (T 21)), (.mk none (.st 1 (T 22) (T 20)) none, [])]) .skip)) (.seq (.reg [Zm 24 0, Z 25 (.nilck (T 24)), Z 26 (.fa 0 (T 25)), Z 27 (.ld 1 false (T 26)), Zm 28 1, Z 29 (.call 61 [T 27, T 28]), Zm 23 29, Z 30 (.ext 0 (T 23)), Z 31 (.ext 1 (T 23)), Zm 4 30, Zm 5 31]) (.seq (.reg [Zm 32 5, Z 33 (.eqn .ptr true (T 32) (.cs .nilp))]) (.cond (T 33) (.reg [Zm 34 0, Zm 35 4, Z 36 (.bsl [.nilp] 1 [(0, T 35)]), Zm 37 0, Z 38 (.nilck (T 37)), Z 39 (.fa 0 (T 38)), Z 40 (.ld 1 false (T 39)), Zm 41 5, Z 42 (.bsl [.nilp] 2 [(0, T 40), (1, T 41)]), Z 43 (.bld [.nils, .nils] [(0, (1, T 36)), (1, (1, T 42))]), Z 44 (.box (T 43)), Z 45 (.nilck (T 34)), Z 46 (.fa 0 (T 45)), (.mk none (.st 1 (T 46) (T 44)) none, [])]) .skip))))) []
theorem c50 : compF Try.prog Try.f50 = some F50 := by kernel_rfl
theorem t50 : TT 50 F50 := tt Try.func50 c50

/-- "(*horologe/index.Index).find" -/
def F51 : AFun := .mk 41 (.seq (.reg [Z 4 (.mv (.cs .nilp))]) (.seq (.seq (.reg [Zm 8 0, Z 9 (.nilck (T 8)), Z 10 (.fa 0 (T 9)), Z 11 (.ld 1 false (T 10)), Zm 5 11]) (.block 0 (.loop (.seq (.seq (.reg [Zm 12 5, Z 13 (.eqn .ptr true (T 12) (.cs .nilp))]) (.cond (T 13) .skip (.exit 0))) (.block 1 (.seq (.reg [Zm 15 5, Zm 16 1, Z 17 (.call 58 [T 15, T 16]), Zm 14 17, Z 18 (.ext 0 (T 14)), Z 19 (.ext 1 (T 14)), Zm 6 18, Zm 7 19]) (.seq (.seq (.reg [Zm 20 7]) (.cond (T 20) (.seq (.reg [Zm 21 5, Z 22 (.nilck (T 21)), Z 23 (.fa 0 (T 22)), Z 24 (.ld 1 false (T 23)), Zm 25 6, Z 26 (.ia 1 (T 24) (T 25)), Z 27 (.ld 1 false (T 26)), Zm 4 27]) .ret) .skip)) (.seq (.seq (.reg [Zm 28 5, Z 29 (.nilck (T 28)), Z 30 (.fa 1 (T 29)), Z 31 (.ld 1 false (T 30)), Z 32 (.lenL (T 31)), Z 33 (.bin .eql (T 32) (I 0))]) (.cond (T 33) (.exit 0) .skip)) (.reg [Zm 34 5, Z 35 (.nilck (T 34)), Z 36 (.fa 1 (T 35)), Z 37 (.ld 1 false (T 36)), Zm 38 6, Z 39 (.ia 1 (T 37) (T 38)), Z 40 (.ld 1 false (T 39)), Zm 5 40]))))))))) (.seq (.reg [Z 4 (.mv (.cs .nilp))]) .ret))) [.tmp 4]
theorem c51 : compF Try.prog Try.f51 = some F51 := by kernel_rfl
theorem t51 : TT 51 F51 := tt Try.func51 c51

/-- "(*horologe/mvcc.Store).at" -/
def F55 : AFun := .mk 38 (.seq (.reg [Z 5 (.box (T 2)), Z 6 (.alloc [.str [], .str [], .int .i64 0, .int .i64 0, .int .i64 0, .int .i64 0]), Z 7 (.mv (.cs (.bool false)))]) (.seq (.reg [Zm 12 0, Z 13 (.nilck (T 12)), Z 14 (.fa 4 (T 13)), Z 15 (.ld 1 false (T 14)), Zm 16 1, Z 17 (.lkp true false .nils (T 15) (T 16)), Z 8 (.alloc [.nils]), (.mk none (.st 1 (T 8) (T 17)) none, [])]) (.seq (.reg [Z 18 (.ld 1 false (T 8)), Z 19 (.lenL (T 18)), Z 20 (.mkfn 65 [T 8, T 5]), Z 21 (.call 30 [T 19, T 20]), Zm 9 21]) (.seq (.seq (.reg [Zm 22 9, Z 23 (.bin .eql (T 22) (I 0))]) (.cond (T 23) (.seq (.reg [Z 24 (.bld [.str [], .str [], .int .i64 0, .int .i64 0, .int .i64 0, .int .i64 0] []), (.mk none (.st 6 (T 6) (T 24)) none, []), Z 7 (.mv (.cs (.bool false)))]) .ret) .skip)) (.seq (.reg [Z 26 (.ld 1 false (T 8)), Zm 27 9, Z 28 (.bin .sub (T 27) (I 1)), Z 29 (.ia 2 (T 26) (T 28)), Z 30 (.fa 1 (T 29)), Z 31 (.ld 1 false (T 30)), Z 32 (.ta 108 true (.agg [.str [], .str [], .int .i64 0, .int .i64 0, .int .i64 0, .int .i64 0]) (T 31)), Zm 25 32, Z 33 (.ext 0 (T 25)), Z 34 (.ext 1 (T 25)), Z 10 (.alloc [.str [], .str [], .int .i64 0, .int .i64 0, .int .i64 0, .int .i64 0]), (.mk none (.st 6 (T 10) (T 33)) none, []), Zm 11 34]) (.seq (.reg [Z 35 (.fa 0 (T 10)), Z 36 (.ld 6 true (T 35)), Zm 37 11, (.mk none (.st 6 (T 6) (T 36)) none, []), Zm 7 37]) .ret)))))) [.cell 6 6 true, .tmp 7]
theorem c55 : compF Try.prog Try.f55 = some F55 := by kernel_rfl
theorem t55 : TT 55 F55 := tt Try.func55 c55

/-- "(*horologe/index.Index).Put" -/
def F56 : AFun := .mk 72 (.seq (.reg [Z 5 (.box (T 2)), Z 6 (.mv (I 0))]) (.seq (.seq (.seq (.reg [Zm 9 1, Z 10 (.bin .eql (T 9) (.cs (.str []))), Zm 11 10]) (.seq (.cond (T 11) (ZP 12 3) (.reg [Zm 12 1, Z 13 (.lenS (T 12)), Z 14 (.bin .gtr (T 13) (I 100))])) (.seq (.reg [Z 15 (.pick (T 11) (.cs (.bool true)) (T 14)), Zm 16 15]) (.seq (.cond (T 16) (ZP 17 3) (.reg [Z 17 (.fa 0 (T 5)), Z 18 (.ld 1 false (T 17)), Z 19 (.bin .lss (T 18) (I 1))])) (.reg [Z 20 (.pick (T 16) (.cs (.bool true)) (T 19))]))))) (.cond (T 20) (.seq (.reg [Z 6 (.mv (I 1))]) .ret) .skip)) (.seq (.reg [Zm 21 0, Zm 22 1, Z 23 (.call 51 [T 21, T 22]), Zm 7 23]) (.seq (.reg [Z 24 (.bld [.int .i64 0, .bool false] [(1, (1, .cs (.bool true)))]), Z 8 (.alloc [.int .i64 0, .bool false]), (.mk none (.st 2 (T 8) (T 24)) none, [])]) (.seq (.seq (.reg [Zm 25 7, Z 26 (.eqn .ptr true (T 25) (.cs .nilp))]) (.cond (T 26) (.reg [Zm 27 7, Z 28 (.nilck (T 27)), Z 29 (.fa 1 (T 28)), Z 30 (.ld 1 false (T 29)), Zm 31 7, Z 32 (.nilck (T 31)), Z 33 (.fa 1 (T 32)), Z 34 (.ld 1 false (T 33)), Z 35 (.lenL (T 34)), Z 36 (.bin .sub (T 35) (I 1)), Z 37 (.ia 2 (T 30) (T 36)), Z 38 (.ld 2 true (T 37)), (.mk none (.st 2 (T 8) (T 38)) none, [])]) .skip)) (.seq (.block 0 (.seq (.reg [Z 50 (.fa 0 (T 8)), Z 51 (.ld 1 false (T 50)), Z 52 (.fa 0 (T 5)), Z 53 (.ld 1 false (T 52)), Z 54 (.bin .geq (T 51) (T 53)), Zm 49 54]) (.cond (T 49) (.seq (.reg [Z 6 (.mv (I 15))]) .ret) (.seq (.seq (.reg [Z 56 (.fa 1 (T 5)), Z 57 (.ld 1 false (T 56)), Zm 58 57]) (.seq (.cond (T 58) (.reg [Z 59 (.fa 1 (T 8)), Z 60 (.ld 1 false (T 59))]) (ZP 59 2)) (.reg [Z 61 (.pick (T 58) (T 60) (.cs (.bool false))), Zm 55 61]))) (.cond (T 55) (.seq (.reg [Z 6 (.mv (I 2))]) .ret) (.seq (.reg [Zm 63 7, Z 64 (.eqn .ptr false (T 63) (.cs .nilp)), Zm 62 64]) (.cond (T 62) (.reg [Zm 65 0, Zm 66 1, Z 67 (.ld 2 true (T 5)), Z 68 (.bsl [.int .i64 0, .bool false] 1 [(0, T 67)]), Z 69 (.bld [.str [], .nils] [(0, (1, T 66)), (1, (1, T 68))]), Z 70 (.box (T 69)), Z 71 (.call 50 [T 65, T 70])]) (.reg [Zm 39 7, Zm 40 7, Z 41 (.nilck (T 40)), Z 42 (.fa 1 (T 41)), Z 43 (.ld 1 false (T 42)), Z 44 (.ld 2 true (T 5)), Z 45 (.bsl [.int .i64 0, .bool false] 1 [(0, T 44)]), Z 46 (.app 2 16 (T 43) (T 45)), Z 47 (.nilck (T 39)), Z 48 (.fa 1 (T 47)), (.mk none (.st 1 (T 48) (T 46)) none, [])])))))))) (.seq (.reg [Z 6 (.mv (I 0))]) .ret))))))) [.tmp 6]
theorem c56 : compF Try.prog Try.f56 = some F56 := by kernel_rfl
theorem t56 : TT 56 F56 := tt Try.func56 c56

/-- "slices.IndexFunc[[]horologe/api.Event,horologe/api.Event]" -/
def F57 : AFun := .mk 19 (.seq (.reg [Z 4 (.mv (I 0))]) (.seq (.seq (.reg [Zm 6 0, Z 7 (.lenL (T 6)), Z 8 (.mv (I 0))]) (.block 0 (.loop (.seq (.reg [Z 9 (.bin .lss (T 8) (T 7))]) (.seq (.cond (T 9) .skip (.exit 0)) (.seq (.block 1 (.seq (.reg [Zm 10 8, Zm 5 10]) (.seq (.reg [Zm 11 1, Zm 12 0, Zm 13 5, Z 14 (.ia 8 (T 12) (T 13)), Z 15 (.ld 8 true (T 14)), Z 16 (.callv (T 11) [T 15])]) (.cond (T 16) (.seq (.reg [Zm 17 5, Zm 4 17]) .ret) .skip)))) (.reg [Z 18 (.bin .add (T 8) (I 1)), Zm 8 18]))))))) (.seq (.reg [Z 4 (.mv (I (-1)))]) .ret))) [.tmp 4]
theorem c57 : compF Try.prog Try.f57 = some F57 := by kernel_rfl
theorem t57 : TT 57 F57 := tt Try.func57 c57

/-- "(*horologe/index.node).place" -/
def F58 : AFun := .mk 36 (.seq (.reg [Z 2 (.box (T 0)), Z 3 (.box (T 1)), Z 4 (.mv (I 0)), Z 5 (.mv (.cs (.bool false)))]) (.seq (.reg [Z 7 (.ld 1 false (T 2)), Z 8 (.nilck (T 7)), Z 9 (.fa 0 (T 8)), Z 10 (.ld 1 false (T 9)), Z 11 (.lenL (T 10)), Z 12 (.mkfn 66 [T 2, T 3]), Z 13 (.call 30 [T 11, T 12]), Zm 6 13]) (.seq (.seq (.reg [Zm 14 6, Zm 15 6, Z 16 (.ld 1 false (T 2)), Z 17 (.nilck (T 16)), Z 18 (.fa 0 (T 17)), Z 19 (.ld 1 false (T 18)), Z 20 (.lenL (T 19)), Z 21 (.bin .lss (T 15) (T 20)), Zm 22 21]) (.seq (.cond (T 22) (.reg [Z 23 (.ld 1 false (T 2)), Z 24 (.nilck (T 23)), Z 25 (.fa 0 (T 24)), Z 26 (.ld 1 false (T 25)), Zm 27 6, Z 28 (.ia 1 (T 26) (T 27)), Z 29 (.ld 1 false (T 28)), Z 30 (.nilck (T 29)), Z 31 (.fa 0 (T 30)), Z 32 (.ld 1 false (T 31)), Z 33 (.ld 1 false (T 3)), Z 34 (.bin .eql (T 32) (T 33))]) (ZP 23 12)) (.reg [Z 35 (.pick (T 22) (T 34) (.cs (.bool false))), Zm 4 14, Zm 5 35]))) .ret))) [.tmp 4, .tmp 5]
theorem c58 : compF Try.prog Try.f58 = some F58 := by kernel_rfl
theorem t58 : TT 58 F58 := tt Try.func58 c58

/-- "horologe/index.trimmed$1" -/
def F59 : AFun := .mk 12 (.seq (.reg [Z 4 (.mv (.cs (.bool false)))]) (.seq (.reg [Z 5 (.ld 1 false (T 1)), Zm 6 0, Z 7 (.ia 2 (T 5) (T 6)), Z 8 (.fa 0 (T 7)), Z 9 (.ld 1 false (T 8)), Z 10 (.ld 1 false (T 2)), Z 11 (.bin .gtr (T 9) (T 10)), Zm 4 11]) .ret)) [.tmp 4]
theorem c59 : compF Try.prog Try.f59 = some F59 := by kernel_rfl
theorem t59 : TT 59 F59 := tt Try.func59 c59

/-- "slices.Clone[[]horologe/index.Mark,horologe/index.Mark]" -/
def F60 : AFun := .mk 8 (.seq (.reg [Z 2 (.mv (.cs .nils))]) (.seq (.seq (.reg [Zm 3 0, Z 4 (.eqn .sl false (T 3) (.cs .nils))]) (.cond (T 4) (.seq (.reg [Z 2 (.mv (.cs .nils))]) .ret) .skip)) (.seq (.reg [Z 5 (.bsl [.int .i64 0, .bool false] 0 []), Zm 6 0, Z 7 (.app 2 16 (T 5) (T 6)), Zm 2 7]) .ret))) [.tmp 2]
theorem c60 : compF Try.prog Try.f60 = some F60 := by kernel_rfl
theorem t60 : TT 60 F60 := tt Try.func60 c60

/-- "(*horologe/index.node).insert" -/
def F61 : AFun := .mk 81 (.seq (.reg [Z 4 (.mv (.cs .nilp)), Z 5 (.mv (.cs .nilp))]) (.seq (.reg [Zm 11 0, Zm 12 1, Z 13 (.nilck (T 12)), Z 14 (.fa 0 (T 13)), Z 15 (.ld 1 false (T 14)), Z 16 (.call 58 [T 11, T 15]), Zm 10 16, Z 17 (.ext 0 (T 10)), Z 18 (.ext 1 (T 10)), Zm 6 17, Zm 7 18]) (.seq (.seq (.reg [Zm 19 0, Z 20 (.nilck (T 19)), Z 21 (.fa 1 (T 20)), Z 22 (.ld 1 false (T 21)), Z 23 (.lenL (T 22)), Z 24 (.bin .eql (T 23) (I 0))]) (.cond (T 24) (.seq (.reg [Zm 25 0, Zm 26 0, Z 27 (.nilck (T 26)), Z 28 (.fa 0 (T 27)), Z 29 (.ld 1 false (T 28)), Zm 30 6, Zm 31 1, Z 32 (.bsl [.nilp] 1 [(0, T 31)]), Z 33 (.call 67 [T 29, T 30, T 32]), Z 34 (.nilck (T 25)), Z 35 (.fa 0 (T 34)), (.mk none (.st 1 (T 35) (T 33)) none, [])]) (.seq (.reg [Zm 36 0, Z 37 (.call 68 [T 36]), Z 38 (.ext 0 (T 37)), Z 39 (.ext 1 (T 37)), Zm 4 38, Zm 5 39]) .ret)) .skip)) (.seq (.seq (.reg [Zm 41 0, Z 42 (.nilck (T 41)), Z 43 (.fa 1 (T 42)), Z 44 (.ld 1 false (T 43)), Zm 45 6, Z 46 (.ia 1 (T 44) (T 45)), Z 47 (.ld 1 false (T 46)), Zm 48 1, Z 49 (.call 61 [T 47, T 48]), Zm 40 49, Z 50 (.ext 0 (T 40)), Z 51 (.ext 1 (T 40)), Zm 8 50, Zm 9 51]) (.seq (.reg [Zm 52 9, Z 53 (.eqn .ptr true (T 52) (.cs .nilp))]) (.cond (T 53) (.seq (.reg [Zm 54 0, Zm 55 0, Z 56 (.nilck (T 55)), Z 57 (.fa 0 (T 56)), Z 58 (.ld 1 false (T 57)), Zm 59 6, Zm 60 8, Z 61 (.bsl [.nilp] 1 [(0, T 60)]), Z 62 (.call 67 [T 58, T 59, T 61]), Z 63 (.nilck (T 54)), Z 64 (.fa 0 (T 63)), (.mk none (.st 1 (T 64) (T 62)) none, [])]) (.reg [Zm 65 0, Zm 66 0, Z 67 (.nilck (T 66)), Z 68 (.fa 1 (T 67)), Z 69 (.ld 1 false (T 68)), Zm 70 6, Z 71 (.bin .add (T 70) (I 1)), Zm 72 9, Z 73 (.bsl [.nilp] 1 [(0, T 72)]), Z 74 (.call 69 [T 69, T 71, T 73]), Z 75 (.nilck (T 65)), Z 76 (.fa 1 (T 75)), (.mk none (.st 1 (T 76) (T 74)) none, [])])) .skip))) (.seq (.reg [Zm 77 0, Z 78 (.call 68 [T 77]), Z 79 (.ext 0 (T 78)), Z 80 (.ext 1 (T 78)), Zm 4 79, Zm 5 80]) .ret))))) [.tmp 4, .tmp 5]
theorem c61 : compF Try.prog Try.f61 = some F61 := by kernel_rfl
theorem t61 : TT 61 F61 := tt Try.func61 c61

/-- "(*horologe/mvcc.Store).at$1" -/
def F65 : AFun := .mk 12 (.seq (.reg [Z 4 (.mv (.cs (.bool false)))]) (.seq (.reg [Z 5 (.ld 1 false (T 1)), Zm 6 0, Z 7 (.ia 2 (T 5) (T 6)), Z 8 (.fa 0 (T 7)), Z 9 (.ld 1 false (T 8)), Z 10 (.ld 1 false (T 2)), Z 11 (.bin .gtr (T 9) (T 10)), Zm 4 11]) .ret)) [.tmp 4]
theorem c65 : compF Try.prog Try.f65 = some F65 := by kernel_rfl
theorem t65 : TT 65 F65 := tt Try.func65 c65

/-- "(*horologe/index.node).place$1" -/
def F66 : AFun := .mk 17 (.seq (.reg [Z 4 (.mv (.cs (.bool false)))]) (.seq (.reg [Z 5 (.ld 1 false (T 1)), Z 6 (.nilck (T 5)), Z 7 (.fa 0 (T 6)), Z 8 (.ld 1 false (T 7)), Zm 9 0, Z 10 (.ia 1 (T 8) (T 9)), Z 11 (.ld 1 false (T 10)), Z 12 (.nilck (T 11)), Z 13 (.fa 0 (T 12)), Z 14 (.ld 1 false (T 13)), Z 15 (.ld 1 false (T 2)), Z 16 (.bin .geq (T 14) (T 15)), Zm 4 16]) .ret)) [.tmp 4]
theorem c66 : compF Try.prog Try.f66 = some F66 := by kernel_rfl
theorem t66 : TT 66 F66 := tt Try.func66 c66

/-- "slices.Insert[[]*horologe/index.item,*horologe/index.item]" -/
def F67 : AFun := .mk 95 (.seq (.reg [Z 6 (.mv (.cs .nils))]) (.seq (.reg [Zm 10 0, Zm 11 1, Z 12 (.slcL 1 (T 10) (.some (T 11)) none)]) (.seq (.reg [Zm 13 2, Z 14 (.lenL (T 13)), Zm 7 14]) (.seq (.seq (.reg [Zm 15 7, Z 16 (.bin .eql (T 15) (I 0))]) (.cond (T 16) (.seq (.reg [Zm 17 0, Zm 6 17]) .ret) .skip)) (.seq (.reg [Zm 18 0, Z 19 (.lenL (T 18)), Zm 8 19]) (.seq (.seq (.reg [Zm 20 1, Zm 21 8, Z 22 (.bin .eql (T 20) (T 21))]) (.cond (T 22) (.seq (.reg [Zm 23 0, Zm 24 2, Z 25 (.app 1 8 (T 23) (T 24)), Zm 6 25]) .ret) .skip)) (.seq (.seq (.reg [Zm 26 8, Zm 27 7, Z 28 (.bin .add (T 26) (T 27)), Zm 29 0, Z 30 (.capL (T 29)), Z 31 (.bin .gtr (T 28) (T 30))]) (.cond (T 31) (.seq (.reg [Zm 32 0, Zm 33 1, Z 34 (.slcL 1 (T 32) none (.some (T 33))), Zm 35 8, Zm 36 7, Z 37 (.bin .add (T 35) (T 36)), Zm 38 1, Z 39 (.bin .sub (T 37) (T 38)), Z 40 (.appz 1 8 [.nilp] (T 34) (T 39)), Zm 9 40]) (.seq (.reg [Zm 41 9, Zm 42 1, Z 43 (.slcL 1 (T 41) (.some (T 42)) none), Zm 44 2, Z 45 (.cp 1 (T 43) (T 44))]) (.seq (.reg [Zm 46 9, Zm 47 1, Zm 48 7, Z 49 (.bin .add (T 47) (T 48)), Z 50 (.slcL 1 (T 46) (.some (T 49)) none), Zm 51 0, Zm 52 1, Z 53 (.slcL 1 (T 51) (.some (T 52)) none), Z 54 (.cp 1 (T 50) (T 53))]) (.seq (.reg [Zm 55 9, Zm 6 55]) .ret)))) .skip)) (.seq (.reg [Zm 56 0, Zm 57 8, Zm 58 7, Z 59 (.bin .add (T 57) (T 58)), Z 60 (.slcL 1 (T 56) none (.some (T 59))), Zm 0 60]) (.seq (.seq (.reg [Zm 61 2, Zm 62 0, Zm 63 1, Zm 64 7, Z 65 (.bin .add (T 63) (T 64)), Z 66 (.slcL 1 (T 62) (.some (T 65)) none), Z 67 (.ovl 1 (T 61) (T 66)), Z 68 (.un .not (T 67))]) (.cond (T 68) (.seq (.reg [Zm 69 0, Zm 70 1, Zm 71 7, Z 72 (.bin .add (T 70) (T 71)), Z 73 (.slcL 1 (T 69) (.some (T 72)) none), Zm 74 0, Zm 75 1, Z 76 (.slcL 1 (T 74) (.some (T 75)) none), Z 77 (.cp 1 (T 73) (T 76))]) (.seq (.reg [Zm 78 0, Zm 79 1, Z 80 (.slcL 1 (T 78) (.some (T 79)) none), Zm 81 2, Z 82 (.cp 1 (T 80) (T 81))]) (.seq (.reg [Zm 83 0, Zm 6 83]) .ret))) .skip)) (.seq (.reg [Zm 84 0, Zm 85 8, Z 86 (.slcL 1 (T 84) (.some (T 85)) none), Zm 87 2, Z 88 (.cp 1 (T 86) (T 87))]) (.seq (.reg [Zm 89 0, Zm 90 1, Z 91 (.slcL 1 (T 89) (.some (T 90)) none), Zm 92 7, Z 93 (.call 83 [T 91, T 92])]) (.seq (.reg [Zm 94 0, Zm 6 94]) .ret)))))))))))) [.tmp 6]
theorem c67 : compF Try.prog Try.f67 = some F67 := by kernel_rfl
theorem t67 : TT 67 F67 := tt Try.func67 c67

/-- "(*horologe/index.node).split" -/
def F68 : AFun := .mk 74 (.seq (.reg [Z 2 (.mv (.cs .nilp)), Z 3 (.mv (.cs .nilp))]) (.seq (.seq (.reg [Zm 7 0, Z 8 (.nilck (T 7)), Z 9 (.fa 0 (T 8)), Z 10 (.ld 1 false (T 9)), Z 11 (.lenL (T 10)), Z 12 (.bin .leq (T 11) (I 5))]) (.cond (T 12) (.seq (.reg [Z 2 (.mv (.cs .nilp)), Z 3 (.mv (.cs .nilp))]) .ret) .skip)) (.seq (.reg [Zm 13 0, Z 14 (.nilck (T 13)), Z 15 (.fa 0 (T 14)), Z 16 (.ld 1 false (T 15)), Z 17 (.lenL (T 16)), Z 18 (.bin .quo (T 17) (I 2)), Zm 4 18]) (.seq (.reg [Zm 19 0, Z 20 (.nilck (T 19)), Z 21 (.fa 0 (T 20)), Z 22 (.ld 1 false (T 21)), Zm 23 4, Z 24 (.ia 1 (T 22) (T 23)), Z 25 (.ld 1 false (T 24)), Zm 5 25]) (.seq (.reg [Zm 26 0, Z 27 (.nilck (T 26)), Z 28 (.fa 0 (T 27)), Z 29 (.ld 1 false (T 28)), Zm 30 4, Z 31 (.bin .add (T 30) (I 1)), Z 32 (.slcL 1 (T 29) (.some (T 31)) none), Z 33 (.call 84 [T 32]), Z 34 (.bld [.nils, .nils] [(0, (1, T 33))]), Z 35 (.box (T 34)), Zm 6 35]) (.seq (.seq (.reg [Zm 36 0, Z 37 (.nilck (T 36)), Z 38 (.fa 1 (T 37)), Z 39 (.ld 1 false (T 38)), Z 40 (.lenL (T 39)), Z 41 (.bin .gtr (T 40) (I 0))]) (.cond (T 41) (.seq (.reg [Zm 42 6, Zm 43 0, Z 44 (.nilck (T 43)), Z 45 (.fa 1 (T 44)), Z 46 (.ld 1 false (T 45)), Zm 47 4, Z 48 (.bin .add (T 47) (I 1)), Z 49 (.slcL 1 (T 46) (.some (T 48)) none), Z 50 (.call 85 [T 49]), Z 51 (.nilck (T 42)), Z 52 (.fa 1 (T 51)), (.mk none (.st 1 (T 52) (T 50)) none, [])]) (.reg [Zm 53 0, Zm 54 0, Z 55 (.nilck (T 54)), Z 56 (.fa 1 (T 55)), Z 57 (.ld 1 false (T 56)), Zm 58 4, Z 59 (.bin .add (T 58) (I 1)), Z 60 (.slcL 1 (T 57) none (.some (T 59))), Z 61 (.nilck (T 53)), Z 62 (.fa 1 (T 61)), (.mk none (.st 1 (T 62) (T 60)) none, [])])) .skip)) (.seq (.reg [Zm 63 0, Zm 64 0, Z 65 (.nilck (T 64)), Z 66 (.fa 0 (T 65)), Z 67 (.ld 1 false (T 66)), Zm 68 4, Z 69 (.slcL 1 (T 67) none (.some (T 68))), Z 70 (.nilck (T 63)), Z 71 (.fa 0 (T 70)), (.mk none (.st 1 (T 71) (T 69)) none, [])]) (.seq (.reg [Zm 72 5, Zm 73 6, Zm 2 72, Zm 3 73]) .ret)))))))) [.tmp 2, .tmp 3]
theorem c68 : compF Try.prog Try.f68 = some F68 := by kernel_rfl
theorem t68 : TT 68 F68 := tt Try.func68 c68

/-- "slices.Insert[[]*horologe/index.node,*horologe/index.node]" -/
def F69 : AFun := .mk 95 (.seq (.reg [Z 6 (.mv (.cs .nils))]) (.seq (.reg [Zm 10 0, Zm 11 1, Z 12 (.slcL 1 (T 10) (.some (T 11)) none)]) (.seq (.reg [Zm 13 2, Z 14 (.lenL (T 13)), Zm 7 14]) (.seq (.seq (.reg [Zm 15 7, Z 16 (.bin .eql (T 15) (I 0))]) (.cond (T 16) (.seq (.reg [Zm 17 0, Zm 6 17]) .ret) .skip)) (.seq (.reg [Zm 18 0, Z 19 (.lenL (T 18)), Zm 8 19]) (.seq (.seq (.reg [Zm 20 1, Zm 21 8, Z 22 (.bin .eql (T 20) (T 21))]) (.cond (T 22) (.seq (.reg [Zm 23 0, Zm 24 2, Z 25 (.app 1 8 (T 23) (T 24)), Zm 6 25]) .ret) .skip)) (.seq (.seq (.reg [Zm 26 8, Zm 27 7, Z 28 (.bin .add (T 26) (T 27)), Zm 29 0, Z 30 (.capL (T 29)), Z 31 (.bin .gtr (T 28) (T 30))]) (.cond (T 31) (.seq (.reg [Zm 32 0, Zm 33 1, Z 34 (.slcL 1 (T 32) none (.some (T 33))), Zm 35 8, Zm 36 7, Z 37 (.bin .add (T 35) (T 36)), Zm 38 1, Z 39 (.bin .sub (T 37) (T 38)), Z 40 (.appz 1 8 [.nilp] (T 34) (T 39)), Zm 9 40]) (.seq (.reg [Zm 41 9, Zm 42 1, Z 43 (.slcL 1 (T 41) (.some (T 42)) none), Zm 44 2, Z 45 (.cp 1 (T 43) (T 44))]) (.seq (.reg [Zm 46 9, Zm 47 1, Zm 48 7, Z 49 (.bin .add (T 47) (T 48)), Z 50 (.slcL 1 (T 46) (.some (T 49)) none), Zm 51 0, Zm 52 1, Z 53 (.slcL 1 (T 51) (.some (T 52)) none), Z 54 (.cp 1 (T 50) (T 53))]) (.seq (.reg [Zm 55 9, Zm 6 55]) .ret)))) .skip)) (.seq (.reg [Zm 56 0, Zm 57 8, Zm 58 7, Z 59 (.bin .add (T 57) (T 58)), Z 60 (.slcL 1 (T 56) none (.some (T 59))), Zm 0 60]) (.seq (.seq (.reg [Zm 61 2, Zm 62 0, Zm 63 1, Zm 64 7, Z 65 (.bin .add (T 63) (T 64)), Z 66 (.slcL 1 (T 62) (.some (T 65)) none), Z 67 (.ovl 1 (T 61) (T 66)), Z 68 (.un .not (T 67))]) (.cond (T 68) (.seq (.reg [Zm 69 0, Zm 70 1, Zm 71 7, Z 72 (.bin .add (T 70) (T 71)), Z 73 (.slcL 1 (T 69) (.some (T 72)) none), Zm 74 0, Zm 75 1, Z 76 (.slcL 1 (T 74) (.some (T 75)) none), Z 77 (.cp 1 (T 73) (T 76))]) (.seq (.reg [Zm 78 0, Zm 79 1, Z 80 (.slcL 1 (T 78) (.some (T 79)) none), Zm 81 2, Z 82 (.cp 1 (T 80) (T 81))]) (.seq (.reg [Zm 83 0, Zm 6 83]) .ret))) .skip)) (.seq (.reg [Zm 84 0, Zm 85 8, Z 86 (.slcL 1 (T 84) (.some (T 85)) none), Zm 87 2, Z 88 (.cp 1 (T 86) (T 87))]) (.seq (.reg [Zm 89 0, Zm 90 1, Z 91 (.slcL 1 (T 89) (.some (T 90)) none), Zm 92 7, Z 93 (.call 87 [T 91, T 92])]) (.seq (.reg [Zm 94 0, Zm 6 94]) .ret)))))))))))) [.tmp 6]
theorem c69 : compF Try.prog Try.f69 = some F69 := by kernel_rfl
theorem t69 : TT 69 F69 := tt Try.func69 c69

/-- "slices.rotateRight[*horologe/index.item]" -/
def F83 : AFun := .mk 10 (.reg [Zm 4 0, Zm 5 0, Z 6 (.lenL (T 5)), Zm 7 1, Z 8 (.bin .sub (T 6) (T 7)), Z 9 (.call 94 [T 4, T 8])]) []
theorem c83 : compF Try.prog Try.f83 = some F83 := by kernel_rfl
theorem t83 : TT 83 F83 := tt Try.func83 c83

/-- "slices.Clone[[]*horologe/index.item,*horologe/index.item]" -/
def F84 : AFun := .mk 8 (.seq (.reg [Z 2 (.mv (.cs .nils))]) (.seq (.seq (.reg [Zm 3 0, Z 4 (.eqn .sl false (T 3) (.cs .nils))]) (.cond (T 4) (.seq (.reg [Z 2 (.mv (.cs .nils))]) .ret) .skip)) (.seq (.reg [Z 5 (.bsl [.nilp] 0 []), Zm 6 0, Z 7 (.app 1 8 (T 5) (T 6)), Zm 2 7]) .ret))) [.tmp 2]
theorem c84 : compF Try.prog Try.f84 = some F84 := by kernel_rfl
theorem t84 : TT 84 F84 := tt Try.func84 c84

/-- "slices.Clone[[]*horologe/index.node,*horologe/index.node]" -/
def F85 : AFun := .mk 8 (.seq (.reg [Z 2 (.mv (.cs .nils))]) (.seq (.seq (.reg [Zm 3 0, Z 4 (.eqn .sl false (T 3) (.cs .nils))]) (.cond (T 4) (.seq (.reg [Z 2 (.mv (.cs .nils))]) .ret) .skip)) (.seq (.reg [Z 5 (.bsl [.nilp] 0 []), Zm 6 0, Z 7 (.app 1 8 (T 5) (T 6)), Zm 2 7]) .ret))) [.tmp 2]
theorem c85 : compF Try.prog Try.f85 = some F85 := by kernel_rfl
theorem t85 : TT 85 F85 := tt Try.func85 c85

/-- "slices.rotateRight[*horologe/index.node]" -/
def F87 : AFun := .mk 10 (.reg [Zm 4 0, Zm 5 0, Z 6 (.lenL (T 5)), Zm 7 1, Z 8 (.bin .sub (T 6) (T 7)), Z 9 (.call 95 [T 4, T 8])]) []
theorem c87 : compF Try.prog Try.f87 = some F87 := by kernel_rfl
theorem t87 : TT 87 F87 := tt Try.func87 c87

/-- "slices.rotateLeft[*horologe/index.item]" -/
def F94 : AFun := .mk 14 (.seq (.reg [Zm 4 0, Zm 5 1, Z 6 (.slcL 1 (T 4) none (.some (T 5))), Z 7 (.call 97 [T 6])]) (.seq (.reg [Zm 8 0, Zm 9 1, Z 10 (.slcL 1 (T 8) (.some (T 9)) none), Z 11 (.call 97 [T 10])]) (.reg [Zm 12 0, Z 13 (.call 97 [T 12])]))) []
theorem c94 : compF Try.prog Try.f94 = some F94 := by kernel_rfl
theorem t94 : TT 94 F94 := tt Try.func94 c94

/-- "slices.rotateLeft[*horologe/index.node]" -/
def F95 : AFun := .mk 14 (.seq (.reg [Zm 4 0, Zm 5 1, Z 6 (.slcL 1 (T 4) none (.some (T 5))), Z 7 (.call 98 [T 6])]) (.seq (.reg [Zm 8 0, Zm 9 1, Z 10 (.slcL 1 (T 8) (.some (T 9)) none), Z 11 (.call 98 [T 10])]) (.reg [Zm 12 0, Z 13 (.call 98 [T 12])]))) []
theorem c95 : compF Try.prog Try.f95 = some F95 := by kernel_rfl
theorem t95 : TT 95 F95 := tt Try.func95 c95

/-- "slices.Reverse[[]*horologe/index.item,*horologe/index.item]" -/
def F97 : AFun := .mk 28 (.seq (.reg [Zm 4 0, Z 5 (.lenL (T 4)), Z 6 (.bin .sub (T 5) (I 1)), Z 2 (.mv (I 0)), Zm 3 6]) (.block 0 (.loop (.seq (.seq (.reg [Zm 7 2, Zm 8 3, Z 9 (.bin .lss (T 7) (T 8))]) (.cond (T 9) .skip (.exit 0))) (.seq (.block 1 (.reg [Zm 14 0, Zm 15 2, Zm 16 0, Zm 17 3, Zm 18 0, Zm 19 3, Z 20 (.ia 1 (T 18) (T 19)), Z 21 (.ld 1 false (T 20)), Zm 22 0, Zm 23 2, Z 24 (.ia 1 (T 22) (T 23)), Z 25 (.ld 1 false (T 24)), Z 26 (.ia 1 (T 14) (T 15)), (.mk none (.st 1 (T 26) (T 21)) none, []), Z 27 (.ia 1 (T 16) (T 17)), (.mk none (.st 1 (T 27) (T 25)) none, [])])) (.reg [Zm 10 2, Z 11 (.bin .add (T 10) (I 1)), Zm 12 3, Z 13 (.bin .sub (T 12) (I 1)), Zm 2 11, Zm 3 13])))))) []
theorem c97 : compF Try.prog Try.f97 = some F97 := by kernel_rfl
theorem t97 : TT 97 F97 := tt Try.func97 c97

/-- "slices.Reverse[[]*horologe/index.node,*horologe/index.node]" -/
def F98 : AFun := .mk 28 (.seq (.reg [Zm 4 0, Z 5 (.lenL (T 4)), Z 6 (.bin .sub (T 5) (I 1)), Z 2 (.mv (I 0)), Zm 3 6]) (.block 0 (.loop (.seq (.seq (.reg [Zm 7 2, Zm 8 3, Z 9 (.bin .lss (T 7) (T 8))]) (.cond (T 9) .skip (.exit 0))) (.seq (.block 1 (.reg [Zm 14 0, Zm 15 2, Zm 16 0, Zm 17 3, Zm 18 0, Zm 19 3, Z 20 (.ia 1 (T 18) (T 19)), Z 21 (.ld 1 false (T 20)), Zm 22 0, Zm 23 2, Z 24 (.ia 1 (T 22) (T 23)), Z 25 (.ld 1 false (T 24)), Z 26 (.ia 1 (T 14) (T 15)), (.mk none (.st 1 (T 26) (T 21)) none, []), Z 27 (.ia 1 (T 16) (T 17)), (.mk none (.st 1 (T 27) (T 25)) none, [])])) (.reg [Zm 10 2, Z 11 (.bin .add (T 10) (I 1)), Zm 12 3, Z 13 (.bin .sub (T 12) (I 1)), Zm 2 11, Zm 3 13])))))) []
theorem c98 : compF Try.prog Try.f98 = some F98 := by kernel_rfl
theorem t98 : TT 98 F98 := tt Try.func98 c98

/-- "(horologe/watch.hears).kept" -/
def F117 : AFun := .mk 5 (.seq (.reg [Z 1 (.box (T 0)), Z 2 (.mv (.cs .nils))]) (.seq (.reg [Z 3 (.fa 0 (T 1)), Z 4 (.ld 1 false (T 3)), Zm 2 4]) .ret)) [.tmp 2]
theorem c117 : compF Try.prog Try.f117 = some F117 := by kernel_rfl
theorem t117 : TT 117 F117 := tt Try.func117 c117

/-- "(horologe/watch.ended).kept" -/
def F118 : AFun := .mk 5 (.seq (.reg [Z 1 (.box (T 0)), Z 2 (.mv (.cs .nils))]) (.seq (.reg [Z 3 (.fa 0 (T 1)), Z 4 (.ld 1 false (T 3)), Zm 2 4]) .ret)) [.tmp 2]
theorem c118 : compF Try.prog Try.f118 = some F118 := by kernel_rfl
theorem t118 : TT 118 F118 := tt Try.func118 c118

/-- "(horologe/mvcc.deletion).key" -/
def F119 : AFun := .mk 5 (.seq (.reg [Z 1 (.box (T 0)), Z 2 (.mv (.cs (.str [])))]) (.seq (.reg [Z 3 (.fa 0 (T 1)), Z 4 (.ld 1 false (T 3)), Zm 2 4]) .ret)) [.tmp 2]
theorem c119 : compF Try.prog Try.f119 = some F119 := by kernel_rfl
theorem t119 : TT 119 F119 := tt Try.func119 c119

/-- "(horologe/mvcc.put).key" -/
def F120 : AFun := .mk 6 (.seq (.reg [Z 1 (.box (T 0)), Z 2 (.mv (.cs (.str [])))]) (.seq (.reg [Z 3 (.fa 0 (T 1)), Z 4 (.fa 0 (T 3)), Z 5 (.ld 1 false (T 4)), Zm 2 5]) .ret)) [.tmp 2]
theorem c120 : compF Try.prog Try.f120 = some F120 := by kernel_rfl
theorem t120 : TT 120 F120 := tt Try.func120 c120

end Go.Proofs.Ytaioncbpfckhaaa
/- sort.Search; what slices does with pointers: Reverse, rotateRight, Insert, Clone. -/
set_option linter.unusedSimpArgs false
set_option linter.unusedVariables false
set_option maxRecDepth 10000
namespace Go.Proofs.Ytaioncbpfckhaaa
open Go.Hz

section
variable {h : Hp} {F : List Asr}

theorem half {i j : Nat} (h1 : i + j ≤ 4611686018427387904) : IntKind.i64.wrap ((IntKind.u64.wrap ((i : Int) + (j : Int))).fdiv (2 ^ min 1 64)) = (((i + j) / 2 : Nat) : Int) := by
  have e1 : IntKind.u64.wrap ((i : Int) + (j : Int)) = ((i + j : Nat) : Int) := by
    simp only [IntKind.wrap, IntKind.signed, IntKind.bits]
    simp
    omega
  rw [e1]
  have e2 : (((i + j : Nat) : Int)).fdiv (2 ^ min 1 64) = (((i + j) / 2 : Nat) : Int) := by
    simp [Int.fdiv_eq_ediv]
  rw [e2]
  exact wrap_i64_go (by omega) (by omega)

theorem search {N f : Nat} {caps : List AV} {pr : Nat → Bool} (hs : sat h F) (hN : N ≤ 1000000000000) (hf : okFn Try.prog f = true) (hm : ∀ i j, i ≤ j → j < N → pr i = true → pr j = true)
    (hc : ∀ i h, i < N → sat h F → Triple Try.prog f (.int .i64 i :: caps) h (fun r h => r = .bool (pr i) ∧ sat h F)) :
    Triple Try.prog 30 [.int .i64 N, .fn f caps] h (fun r h => ∃ k : Nat, r = .int .i64 k ∧ k ≤ N ∧ (∀ i, i < k → pr i = false) ∧ (∀ i, k ≤ i → i < N → pr i = true) ∧ sat h F) := by
  refine t30 (Nat.le_of_ble_eq_true rfl) ?_
  simp (disch := omega) only [F30, go_sem, simprocAttr]
  refine run_loopN (fun n e h => ∃ i j : Nat, n = j - i ∧ i ≤ j ∧ j ≤ N ∧ (∀ a, a < i → pr a = false) ∧ (∀ a, j ≤ a → a < N → pr a = true) ∧ sat h F ∧ (e 1 = .fn f caps ∧ e 5 = .int .i64 i ∧ e 6 = .int .i64 j)) N
    ⟨0, N, rfl, Nat.zero_le _, Nat.le_refl _, fun a ha => by omega, fun a h1 h2 => by omega, hs, rfl, rfl, rfl⟩ ?_
  rintro n e h ⟨i, j, rfl, hij, hjN, h1, h2, hs, he⟩
  simp (disch := omega) only [go_sem, simprocAttr, he]
  refine cnd_dec (fun hlt => ?_) (fun hge => ?_)
  · have hlt : i < j := by omega
    simp (disch := omega) only [go_sem, simprocAttr, he]
    rw [half (by omega)]
    refine callv_use hf (hc ((i + j) / 2) _ (by omega) hs) ?_
    rintro r h ⟨hr, hs⟩
    subst hr
    simp (disch := omega) only [go_sem, simprocAttr, he]
    cases hp : pr ((i + j) / 2)
    · simp (disch := omega) only [go_sem, simprocAttr, he]
      refine ⟨j - ((i + j) / 2 + 1), by omega, (i + j) / 2 + 1, j, rfl, by omega, hjN, fun a ha => ?_, h2, hs, rfl, rfl⟩
      cases hpa : pr a with
      | false => rfl
      | true => rw [hm a ((i + j) / 2) (by omega) (by omega) hpa] at hp; cases hp
    · simp (disch := omega) only [go_sem, simprocAttr, he]
      exact ⟨(i + j) / 2 - i, by omega, i, (i + j) / 2, rfl, by omega, by omega, h1, fun a ha hb => hm _ a ha hb hp, hs, rfl, rfl⟩
  · have : j = i := by omega
    subst this
    simp (disch := omega) only [go_sem, simprocAttr, he]
    exact ⟨j, rfl, hjN, h1, h2, hs⟩

theorem pt_get {ps : List Nat} {k p : Nat} (h : ps[k]? = some p) : (ps.map pt)[k]? = some [.ptr p 2 0 0] := by simp [h, pt]
theorem pt_set {ps : List Nat} {k p : Nat} : (ps.map pt).set k [.ptr p 2 0 0] = (ps.set k p).map pt := by simp [List.map_set, pt]
theorem atoms_pt (l : List Nat) : AtomsL (l.map pt) := by
  intro e he v hv
  obtain ⟨k, _, rfl⟩ := List.mem_map.1 he
  simp only [pt, List.mem_cons, List.not_mem_nil, or_false] at hv
  subst hv; rfl

theorem reverse_item {b off len cap rc : Nat} {ps : List Nat} (hs : sat h (pto b (.row 1 (ps.map pt) rc) :: F)) (h1 : off + len ≤ ps.length) (h2 : ps.length ≤ 1000000) :
    Triple Try.prog 97 [.arr b 1 off len cap] h (fun r h => ∃ qs : List Nat, qs.length = ps.length ∧ (∀ k : Nat, qs[k]? = if off ≤ k ∧ k < off + len then ps[2 * off + len - 1 - k]? else ps[k]?) ∧ sat h (pto b (.row 1 (qs.map pt) rc) :: F)) := by
  refine t97 (Nat.le_of_ble_eq_true rfl) ?_
  simp (disch := omega) only [F97, go_sem, simprocAttr]
  refine run_up (N := len) (fun i e h => ∃ qs : List Nat, qs.length = ps.length ∧ (2 * i ≤ len + 1) ∧ (∀ k : Nat, qs[k]? = if off ≤ k ∧ k < off + i ∨ off + len ≤ k + i ∧ k < off + len then ps[2 * off + len - 1 - k]? else ps[k]?) ∧ sat h (pto b (.row 1 (qs.map pt) rc) :: F) ∧
    (e 0 = .arr b 1 off len cap ∧ e 2 = .int .i64 i ∧ e 3 = .int .i64 ((len : Int) - 1 - i))) ⟨ps, rfl, by omega, fun k => by rw [if_neg (by omega)], hs, rfl, rfl, by show AV.int .i64 ((len : Int) - 1) = _; simp⟩ ?_
  rintro i e h hi ⟨qs, hl, hi2, hq, hs, he⟩
  simp (disch := omega) only [go_sem, simprocAttr, he]
  refine cnd_dec (fun hlt => ?_) (fun hge => ?_)
  · have hj : ((len : Int) - 1 - i).toNat = len - 1 - i := by omega
    obtain ⟨x, hx⟩ : ∃ x, qs[off + (len - 1 - i)]? = some x := ⟨_, List.getElem?_eq_getElem (by omega)⟩
    obtain ⟨y, hy⟩ : ∃ y, qs[off + i]? = some y := ⟨_, List.getElem?_eq_getElem (by omega)⟩
    have hx' := pt_get hx
    have hy' := pt_get hy
    have hz : ((qs.map pt).set (off + i) [.ptr x 2 0 0])[off + (len - 1 - i)]? = some [.ptr x 2 0 0] := by
      rw [List.getElem?_set, if_neg (by omega)]; exact hx'
    have hy2 : (List.set (qs.map pt) (off + i) [.ptr x 2 0 0])[off + (len - 1 - i)]? = some [.ptr x 2 0 0] := hz
    simp (disch := omega) only [go_sem, simprocAttr, he, hj, hs.at, hx', hy', hy2, hz]
    refine ⟨by omega, (qs.set (off + i) x).set (off + (len - 1 - i)) y, by simpa using hl, by omega, fun k => ?_, ?_, rfl, ?_⟩
    · rw [List.getElem?_set, List.getElem?_set]
      have hx2 := hq (off + (len - 1 - i))
      have hy3 := hq (off + i)
      rw [if_neg (by omega)] at hx2 hy3
      simp only [List.length_set]
      by_cases e1 : off + (len - 1 - i) = k
      · subst e1
        rw [if_pos rfl, if_pos (by omega), if_pos (by omega), ← hy, hy3]
        congr 1; omega
      · rw [if_neg e1]
        by_cases e2 : off + i = k
        · subst e2
          rw [if_pos rfl, if_pos (by omega), if_pos (by omega), ← hx, hx2]
          congr 1; omega
        · rw [if_neg e2, hq k]
          by_cases e3 : off ≤ k ∧ k < off + i ∨ off + len ≤ k + i ∧ k < off + len
          · rw [if_pos e3, if_pos (by omega)]
          · rw [if_neg e3, if_neg (by omega)]
    · rw [← pt_set, ← pt_set]
      exact hs.set
    · congr 1; omega
  · simp (disch := omega) only [go_sem, simprocAttr, he]
    refine ⟨qs, hl, fun k => ?_, hs⟩
    rw [hq k]
    by_cases e3 : off ≤ k ∧ k < off + i ∨ off + len ≤ k + i ∧ k < off + len
    · rw [if_pos e3, if_pos (by omega)]
    · rw [if_neg e3]
      by_cases e4 : off ≤ k ∧ k < off + len
      · rw [if_pos e4]; congr 1; omega
      · rw [if_neg e4]

theorem rotate_item {b i n cap rc x : Nat} {ps : List Nat} (hs : sat h (pto b (.row 1 ((ps ++ [x]).map pt) rc) :: F)) (hn : n = ps.length) (hi : i ≤ n) (h2 : n ≤ 100000) (hc : n + 1 - i ≤ cap) :
    Triple Try.prog 83 [.arr b 1 i (n + 1 - i) cap, .int .i64 1] h (fun r h => sat h (pto b (.row 1 ((ps.take i ++ x :: ps.drop i).map pt) rc) :: F)) := by
  subst hn
  refine t83 (Nat.le_of_ble_eq_true rfl) ?_
  simp (disch := omega) only [F83, go_sem, simprocAttr]
  have e1 : ((ps.length + 1 - i : Nat) : Int) - 1 = ((ps.length - i : Nat) : Int) := by omega
  simp (disch := omega) only [go_sem, simprocAttr, e1]
  have key : Triple Try.prog 94 [.arr b 1 i (ps.length + 1 - i) cap, .int .i64 ((ps.length - i : Nat) : Int)] h (fun r h => sat h (pto b (.row 1 ((ps.take i ++ x :: ps.drop i).map pt) rc) :: F)) := by
    refine t94 (Nat.le_of_ble_eq_true rfl) ?_
    simp (disch := omega) only [F94, go_sem, simprocAttr]
    simp (disch := omega) only [go_sem, simprocAttr, slcL_hi]
    refine call_use (reverse_item hs (by simp; omega) (by simp; omega)) ?_
    rintro r h ⟨q1, l1, g1, hs⟩
    simp (disch := omega) only [go_sem, simprocAttr, slcL_lo]
    refine call_use (reverse_item hs (by simp at l1 ⊢; omega) (by simp at l1; omega)) ?_
    rintro r h ⟨q2, l2, g2, hs⟩
    simp (disch := omega) only [go_sem, simprocAttr]
    refine call_use (reverse_item hs (by simp at l1 l2 ⊢; omega) (by simp at l1 l2; omega)) ?_
    rintro r h ⟨q3, l3, g3, hs⟩
    simp (disch := omega) only [go_sem, simprocAttr]
    have : q3 = ps.take i ++ x :: ps.drop i := by
      apply List.ext_getElem?
      intro k
      simp only [List.length_append, List.length_cons, List.length_nil] at l1 l2 l3
      have e0 : ∀ k, k < ps.length → (ps ++ [x])[k]? = ps[k]? := fun k hk => List.getElem?_append_left hk
      rw [g3 k]
      by_cases c1 : k < i
      · rw [if_neg (by omega), g2 k, if_neg (by omega), g1 k, if_neg (by omega), e0 k (by omega), List.getElem?_append_left (by rw [List.length_take]; omega), List.getElem?_take, if_pos c1]
      · have eR : (ps.take i ++ x :: ps.drop i)[k]? = (x :: ps.drop i)[k - i]? := by
          rw [List.getElem?_append_right (by rw [List.length_take]; omega)]
          congr 1
          rw [List.length_take]; omega
        rw [eR]
        by_cases c2 : k = i
        · subst c2
          rw [if_pos (by omega), Nat.sub_self, g2, if_pos (by omega), g1, if_neg (by omega)]
          have : 2 * (k + (ps.length - k)) + (ps.length + 1 - k - (ps.length - k)) - 1 - (2 * k + (ps.length + 1 - k) - 1 - k) = ps.length := by omega
          rw [this]
          simp
        · obtain ⟨k', hk'⟩ : ∃ k', k - i = k' + 1 := ⟨k - i - 1, by omega⟩
          rw [hk', List.getElem?_cons_succ, List.getElem?_drop]
          by_cases c3 : k ≤ ps.length
          · rw [if_pos (by omega), g2, if_neg (by omega), g1, if_pos (by omega), e0 _ (by omega)]
            congr 1; omega
          · rw [if_neg (by omega), g2, if_neg (by omega), g1, if_neg (by omega)]
            rw [List.getElem?_eq_none (by simp; omega), List.getElem?_eq_none (by omega)]
    subst this
    exact hs
  refine call_use (key) ?_
  intro r h hs
  simp (disch := omega) only [go_sem, simprocAttr]
  exact hs
theorem reverse_node {b off len cap rc : Nat} {ps : List Nat} (hs : sat h (pto b (.row 1 (ps.map pt) rc) :: F)) (h1 : off + len ≤ ps.length) (h2 : ps.length ≤ 1000000) :
    Triple Try.prog 98 [.arr b 1 off len cap] h (fun r h => ∃ qs : List Nat, qs.length = ps.length ∧ (∀ k : Nat, qs[k]? = if off ≤ k ∧ k < off + len then ps[2 * off + len - 1 - k]? else ps[k]?) ∧ sat h (pto b (.row 1 (qs.map pt) rc) :: F)) := by
  refine t98 (Nat.le_of_ble_eq_true rfl) ?_
  simp (disch := omega) only [F98, go_sem, simprocAttr]
  refine run_up (N := len) (fun i e h => ∃ qs : List Nat, qs.length = ps.length ∧ (2 * i ≤ len + 1) ∧ (∀ k : Nat, qs[k]? = if off ≤ k ∧ k < off + i ∨ off + len ≤ k + i ∧ k < off + len then ps[2 * off + len - 1 - k]? else ps[k]?) ∧ sat h (pto b (.row 1 (qs.map pt) rc) :: F) ∧
    (e 0 = .arr b 1 off len cap ∧ e 2 = .int .i64 i ∧ e 3 = .int .i64 ((len : Int) - 1 - i))) ⟨ps, rfl, by omega, fun k => by rw [if_neg (by omega)], hs, rfl, rfl, by show AV.int .i64 ((len : Int) - 1) = _; simp⟩ ?_
  rintro i e h hi ⟨qs, hl, hi2, hq, hs, he⟩
  simp (disch := omega) only [go_sem, simprocAttr, he]
  refine cnd_dec (fun hlt => ?_) (fun hge => ?_)
  · have hj : ((len : Int) - 1 - i).toNat = len - 1 - i := by omega
    obtain ⟨x, hx⟩ : ∃ x, qs[off + (len - 1 - i)]? = some x := ⟨_, List.getElem?_eq_getElem (by omega)⟩
    obtain ⟨y, hy⟩ : ∃ y, qs[off + i]? = some y := ⟨_, List.getElem?_eq_getElem (by omega)⟩
    have hx' := pt_get hx
    have hy' := pt_get hy
    have hz : ((qs.map pt).set (off + i) [.ptr x 2 0 0])[off + (len - 1 - i)]? = some [.ptr x 2 0 0] := by
      rw [List.getElem?_set, if_neg (by omega)]; exact hx'
    have hy2 : (List.set (qs.map pt) (off + i) [.ptr x 2 0 0])[off + (len - 1 - i)]? = some [.ptr x 2 0 0] := hz
    simp (disch := omega) only [go_sem, simprocAttr, he, hj, hs.at, hx', hy', hy2, hz]
    refine ⟨by omega, (qs.set (off + i) x).set (off + (len - 1 - i)) y, by simpa using hl, by omega, fun k => ?_, ?_, rfl, ?_⟩
    · rw [List.getElem?_set, List.getElem?_set]
      have hx2 := hq (off + (len - 1 - i))
      have hy3 := hq (off + i)
      rw [if_neg (by omega)] at hx2 hy3
      simp only [List.length_set]
      by_cases e1 : off + (len - 1 - i) = k
      · subst e1
        rw [if_pos rfl, if_pos (by omega), if_pos (by omega), ← hy, hy3]
        congr 1; omega
      · rw [if_neg e1]
        by_cases e2 : off + i = k
        · subst e2
          rw [if_pos rfl, if_pos (by omega), if_pos (by omega), ← hx, hx2]
          congr 1; omega
        · rw [if_neg e2, hq k]
          by_cases e3 : off ≤ k ∧ k < off + i ∨ off + len ≤ k + i ∧ k < off + len
          · rw [if_pos e3, if_pos (by omega)]
          · rw [if_neg e3, if_neg (by omega)]
    · rw [← pt_set, ← pt_set]
      exact hs.set
    · congr 1; omega
  · simp (disch := omega) only [go_sem, simprocAttr, he]
    refine ⟨qs, hl, fun k => ?_, hs⟩
    rw [hq k]
    by_cases e3 : off ≤ k ∧ k < off + i ∨ off + len ≤ k + i ∧ k < off + len
    · rw [if_pos e3, if_pos (by omega)]
    · rw [if_neg e3]
      by_cases e4 : off ≤ k ∧ k < off + len
      · rw [if_pos e4]; congr 1; omega
      · rw [if_neg e4]

theorem rotate_node {b i n cap rc x : Nat} {ps : List Nat} (hs : sat h (pto b (.row 1 ((ps ++ [x]).map pt) rc) :: F)) (hn : n = ps.length) (hi : i ≤ n) (h2 : n ≤ 100000) (hc : n + 1 - i ≤ cap) :
    Triple Try.prog 87 [.arr b 1 i (n + 1 - i) cap, .int .i64 1] h (fun r h => sat h (pto b (.row 1 ((ps.take i ++ x :: ps.drop i).map pt) rc) :: F)) := by
  subst hn
  refine t87 (Nat.le_of_ble_eq_true rfl) ?_
  simp (disch := omega) only [F87, go_sem, simprocAttr]
  have e1 : ((ps.length + 1 - i : Nat) : Int) - 1 = ((ps.length - i : Nat) : Int) := by omega
  simp (disch := omega) only [go_sem, simprocAttr, e1]
  have key : Triple Try.prog 95 [.arr b 1 i (ps.length + 1 - i) cap, .int .i64 ((ps.length - i : Nat) : Int)] h (fun r h => sat h (pto b (.row 1 ((ps.take i ++ x :: ps.drop i).map pt) rc) :: F)) := by
    refine t95 (Nat.le_of_ble_eq_true rfl) ?_
    simp (disch := omega) only [F95, go_sem, simprocAttr]
    simp (disch := omega) only [go_sem, simprocAttr, slcL_hi]
    refine call_use (reverse_node hs (by simp; omega) (by simp; omega)) ?_
    rintro r h ⟨q1, l1, g1, hs⟩
    simp (disch := omega) only [go_sem, simprocAttr, slcL_lo]
    refine call_use (reverse_node hs (by simp at l1 ⊢; omega) (by simp at l1; omega)) ?_
    rintro r h ⟨q2, l2, g2, hs⟩
    simp (disch := omega) only [go_sem, simprocAttr]
    refine call_use (reverse_node hs (by simp at l1 l2 ⊢; omega) (by simp at l1 l2; omega)) ?_
    rintro r h ⟨q3, l3, g3, hs⟩
    simp (disch := omega) only [go_sem, simprocAttr]
    have : q3 = ps.take i ++ x :: ps.drop i := by
      apply List.ext_getElem?
      intro k
      simp only [List.length_append, List.length_cons, List.length_nil] at l1 l2 l3
      have e0 : ∀ k, k < ps.length → (ps ++ [x])[k]? = ps[k]? := fun k hk => List.getElem?_append_left hk
      rw [g3 k]
      by_cases c1 : k < i
      · rw [if_neg (by omega), g2 k, if_neg (by omega), g1 k, if_neg (by omega), e0 k (by omega), List.getElem?_append_left (by rw [List.length_take]; omega), List.getElem?_take, if_pos c1]
      · have eR : (ps.take i ++ x :: ps.drop i)[k]? = (x :: ps.drop i)[k - i]? := by
          rw [List.getElem?_append_right (by rw [List.length_take]; omega)]
          congr 1
          rw [List.length_take]; omega
        rw [eR]
        by_cases c2 : k = i
        · subst c2
          rw [if_pos (by omega), Nat.sub_self, g2, if_pos (by omega), g1, if_neg (by omega)]
          have : 2 * (k + (ps.length - k)) + (ps.length + 1 - k - (ps.length - k)) - 1 - (2 * k + (ps.length + 1 - k) - 1 - k) = ps.length := by omega
          rw [this]
          simp
        · obtain ⟨k', hk'⟩ : ∃ k', k - i = k' + 1 := ⟨k - i - 1, by omega⟩
          rw [hk', List.getElem?_cons_succ, List.getElem?_drop]
          by_cases c3 : k ≤ ps.length
          · rw [if_pos (by omega), g2, if_neg (by omega), g1, if_pos (by omega), e0 _ (by omega)]
            congr 1; omega
          · rw [if_neg (by omega), g2, if_neg (by omega), g1, if_neg (by omega)]
            rw [List.getElem?_eq_none (by simp; omega), List.getElem?_eq_none (by omega)]
    subst this
    exact hs
  refine call_use (key) ?_
  intro r h hs
  simp (disch := omega) only [go_sem, simprocAttr]
  exact hs
end
end Go.Proofs.Ytaioncbpfckhaaa
/- slices.Insert and slices.Clone of pointers. -/
set_option linter.unusedSimpArgs false
set_option linter.unusedVariables false
set_option maxRecDepth 10000
namespace Go.Proofs.Ytaioncbpfckhaaa
open Go.Hz

section
variable {h : Hp} {F : List Asr}
theorem ins_row1 {α : Type} {M R : List α} {x : α} {i a n : Nat} (hi : i < M.length) (hR : R.length = M.length + 1 - i) (ha : a = i + 1) (hn : n = i + 1 + (M.length - i)) :
    (((M.take i ++ R).take i ++ [x] ++ (M.take i ++ R).drop a).take (i + 1) ++ M.drop i ++ ((M.take i ++ R).take i ++ [x] ++ (M.take i ++ R).drop a).drop n) = M.take i ++ x :: M.drop i := by
  subst ha; subst hn
  have e1 : (M.take i ++ R).take i = M.take i := by rw [List.take_append_of_le_length (by rw [List.length_take]; omega), List.take_take, Nat.min_self]
  have hz : (M.take i ++ R).length = M.length + 1 := by simp [hR]; omega
  generalize M.take i ++ R = Z at e1 hz ⊢
  rw [e1]
  have e2 : (M.take i ++ [x]).length = i + 1 := by simp; omega
  have e3 : (M.take i ++ [x] ++ Z.drop (i + 1)).take (i + 1) = M.take i ++ [x] := by
    rw [List.take_append_of_le_length (by omega), List.take_of_length_le (by omega)]
  have e4 : (M.take i ++ [x] ++ Z.drop (i + 1)).drop (i + 1 + (M.length - i)) = [] := List.drop_eq_nil_of_le (by
    rw [List.length_append, e2, List.length_drop, hz]; omega)
  rw [e3, e4]
  simp
theorem ins_row2 {α : Type} {M : List α} {x : α} {i a n : Nat} (hi : i < M.length) (ha : a = i + 1) (hn : n = i + 1 + (M.length - i)) :
    ((M.take (i + 1) ++ M.drop i ++ M.drop n).take i ++ [x] ++ (M.take (i + 1) ++ M.drop i ++ M.drop n).drop a) = M.take i ++ x :: M.drop i := by
  subst ha; subst hn
  have e0 : M.drop (i + 1 + (M.length - i)) = [] := List.drop_eq_nil_of_le (by omega)
  have e1 : (M.take (i + 1)).length = i + 1 := by rw [List.length_take]; omega
  rw [e0, List.append_nil, List.take_append_of_le_length (by omega), List.take_take, Nat.min_eq_left (by omega), List.drop_append_of_le_length (by omega), show (M.take (i + 1)).drop (i + 1) = [] from List.drop_eq_nil_of_le (by omega)]
  simp
theorem ins_item {v : AV} {bx c i x : Nat} {ps : List Nat} (hs : sat h (Ow 1 v (ps.map pt) :: pto bx (.row 1 [pt x] c) :: F)) (hi : i ≤ ps.length) (h2 : ps.length ≤ 10000) (hcx : 1 ≤ c) :
    Triple Try.prog 67 [v, .int .i64 i, .arr bx 1 0 1 1] h (fun r h => sat h (Ow 1 r ((ps.take i ++ x :: ps.drop i).map pt) :: F)) := by
  refine t67 (Nat.le_of_ble_eq_true rfl) ?_
  simp (disch := omega) only [F67, go_sem, simprocAttr]
  rcases hs.cases with ⟨rfl, h0, g⟩ | ⟨b, cap, rfl, g, hcap⟩
  · have h0 : ps = [] := by simpa using h0
    subst h0
    have hi0 : i = 0 := by simpa using hi
    subst hi0
    have e1 : slcL 1 .nils (some (.int .i64 (0 : Nat))) none = some .nils := rfl
    have e2 : ((0 : Nat) : Int) = 0 := rfl
    simp (disch := omega) only [go_sem, simprocAttr, e1, e2]
    have e3 : slcL 1 .nils (some (.int .i64 0)) none = some .nils := rfl
    simp (disch := omega) only [go_sem, simprocAttr, e3]
    have hy : srcA 1 h (.arr bx 1 0 1 1) = some [pt x] := src_one hs.p1.at
    refine app_sat (es := []) (hs.drop.add ow_nil) hy (atoms_pt [x]) (by simp) fun v' h hs hc' ha' => ?_
    simp (disch := omega) only [go_sem, simprocAttr]
    exact hs.d1
  · rw [List.length_map] at hcap
    have hl : (ps.map pt).length = ps.length := by simp
    have en : ((ps.length : Int) == 0) = false ∨ True := .inr trivial
    simp (disch := omega) only [go_sem, simprocAttr, slcL_lo, hl]
    by_cases hin : i = ps.length
    · subst hin
      simp (disch := omega) only [go_sem, simprocAttr]
      have hy : srcA 1 h (.arr bx 1 0 1 1) = some [pt x] := src_one hs.p1.at
      have hs := g.ow (by simpa using hcap)
      rw [hl] at hs
      refine app_sat hs hy (atoms_pt [x]) (by simp; omega) fun v' h hs hc' ha' => ?_
      simp (disch := omega) only [go_sem, simprocAttr]
      have := hs.d1
      rw [List.take_length, List.drop_length]
      simpa using this
    · have hne : ((i : Int) == (ps.length : Int)) = false := by rw [beq_eq_false_iff_ne]; omega
      simp (disch := omega) only [go_sem, simprocAttr, hne]
      refine cnd_dec (fun hlt => ?_) (fun hge => ?_)
      · have em : (ps.length : Int) + 1 - (i : Int) = ((ps.length + 1 - i : Nat) : Int) := by omega
        simp (disch := omega) only [go_sem, simprocAttr, slcL_hi, em]
        refine appz_use g (by rw [hl]; exact hi) (by omega) (by omega) fun b2 c2 h hc2 hs => ?_
        have e3 : ((i : Int) + 1).toNat = i + 1 := by omega
        have e4 : i + (ps.length + 1 - i) = ps.length + 1 := by omega
        rw [e4] at hc2
        simp (disch := omega) only [go_sem, simprocAttr, slcL_lo, e4]
        have hx : srcN 1 h (.arr bx 1 0 1 1) (min 1 (ps.length + 1 - i)) = some [pt x] := by
          rw [Nat.min_eq_left (by omega)]
          exact srcN_part hs.p2 (by omega) (by simp)
        refine cp_use (n := 1) hs (by simp; omega) (by omega) (by omega) rfl hx (atoms_pt [x]) fun h hs => ?_
        simp (disch := omega) only [go_sem, simprocAttr, slcL_lo, e3]
        have hy : srcN 1 h (.arr b 1 i (ps.length - i) (cap - i)) (min (ps.length - i) (ps.length + 1 - (i + 1))) = some ((ps.drop i).map pt) := by
          rw [Nat.min_eq_left (by omega)]
          have := srcN_part (off := i) (len := ps.length - i) (c := cap - i) (n := ps.length - i) hs.p1 (by omega) (by simp; omega)
          rw [this, ← List.map_drop, List.take_of_length_le (by simp)]
        rw [show ps.length + 1 - (i + 1) = ps.length - i by omega] at hy
        refine cp_use (n := ps.length - i) hs (by simp; omega) (by omega) (by omega) rfl hy (atoms_pt _) fun h hs => ?_
        simp (disch := omega) only [go_sem, simprocAttr]
        have eq := ins_row1 (M := ps.map pt) (R := List.replicate (ps.length + 1 - i) [AV.nilp]) (x := pt x) (i := i) (by simp; omega) (by simp) rfl rfl
        rw [hl] at eq
        have g2 := hs.d1.d1
        rw [Nat.min_eq_left (show 1 ≤ ps.length + 1 - i by omega), Nat.min_self, List.map_drop, eq] at g2
        have e5 : (ps.take i ++ x :: ps.drop i).map pt = (ps.map pt).take i ++ pt x :: (ps.map pt).drop i := by simp
        rw [← e5] at g2
        have e6 : ((ps.take i ++ x :: ps.drop i).map pt).length = ps.length + 1 := by simp; omega
        have g3 := g2.ow (by rw [e6]; omega)
        rw [e6] at g3
        exact g3
      · have e3 : ((i : Int) + 1).toNat = i + 1 := by omega
        have e4 : ((ps.length : Int) + 1).toNat = ps.length + 1 := by omega
        simp (disch := omega) only [go_sem, simprocAttr, slcL_hi, slcL_lo, e3, e4]
        have g0 : sat h (pto bx (.row 1 [pt x] c) :: pto b (.row 1 (ps.map pt) cap) :: F) := g.p1
        refine ovl_use g0 (by omega) (by omega) (by omega) fun q => ?_
        have e5 : (ps.take i ++ x :: ps.drop i).map pt = (ps.map pt).take i ++ pt x :: (ps.map pt).drop i := by simp
        have e6 : ((ps.take i ++ x :: ps.drop i).map pt).length = ps.length + 1 := by simp; omega
        cases q
        · simp (disch := omega) only [go_sem, simprocAttr, slcL_lo, e3]
          have hy : srcN 1 h (.arr b 1 i (ps.length + 1 - i) (cap - i)) (min (ps.length + 1 - i) (ps.length + 1 - (i + 1))) = some ((ps.drop i).map pt) := by
            rw [Nat.min_eq_right (by omega)]
            have := srcN_part (off := i) (len := ps.length + 1 - i) (c := cap - i) (n := ps.length + 1 - (i + 1)) g (by omega) (by simp; omega)
            rw [this, ← List.map_drop, List.take_of_length_le (by simp)]
          rw [show ps.length + 1 - (i + 1) = ps.length - i by omega] at hy
          refine cp_use (n := ps.length + 1 - i) g (by simp; omega) (by omega) (by omega) rfl hy (atoms_pt _) fun h hs => ?_
          simp (disch := omega) only [go_sem, simprocAttr, slcL_lo]
          have hx : srcN 1 h (.arr bx 1 0 1 1) (min 1 (ps.length + 1 - i)) = some [pt x] := by
            rw [Nat.min_eq_left (by omega)]
            exact srcN_part hs.p1 (by omega) (by simp)
          refine cp_use (n := 1) hs (by simp; omega) (by omega) (by omega) rfl hx (atoms_pt [x]) fun h hs => ?_
          simp (disch := omega) only [go_sem, simprocAttr]
          have eq := ins_row2 (M := ps.map pt) (x := pt x) (i := i) (by simp; omega) rfl rfl
          rw [hl] at eq
          have g2 := hs.d1
          rw [Nat.min_eq_left (show 1 ≤ ps.length + 1 - i by omega), show min (ps.length + 1 - i) (ps.length - i) = ps.length - i by omega, List.map_drop, eq, ← e5] at g2
          have g3 := g2.ow (by rw [e6]; omega)
          rw [e6] at g3
          exact g3
        · simp (disch := omega) only [go_sem, simprocAttr, slcL_lo]
          have hx : srcN 1 h (.arr bx 1 0 1 1) (min 1 (ps.length + 1 - ps.length)) = some [pt x] := by
            rw [Nat.min_eq_left (by omega)]
            exact srcN_part g.p1 (by omega) (by simp)
          refine cp_use (n := 1) g (by simp) (by omega) (by omega) rfl hx (atoms_pt [x]) fun h hs => ?_
          simp (disch := omega) only [go_sem, simprocAttr, slcL_lo]
          have g2 := hs.d1
          rw [List.take_of_length_le (by simp), List.drop_eq_nil_of_le (by simp), List.append_nil, show ps.map pt ++ [pt x] = (ps ++ [x]).map pt by simp] at g2
          refine call_use (rotate_item (n := ps.length) g2 rfl (by omega) (by omega) (by omega)) ?_
          intro r h hs
          simp (disch := omega) only [go_sem, simprocAttr]
          have g3 := hs.ow (by rw [e6]; omega)
          rw [e6] at g3
          exact g3
theorem ins_node {v : AV} {bx c i x : Nat} {ps : List Nat} (hs : sat h (Ow 1 v (ps.map pt) :: pto bx (.row 1 [pt x] c) :: F)) (hi : i ≤ ps.length) (h2 : ps.length ≤ 10000) (hcx : 1 ≤ c) :
    Triple Try.prog 69 [v, .int .i64 i, .arr bx 1 0 1 1] h (fun r h => sat h (Ow 1 r ((ps.take i ++ x :: ps.drop i).map pt) :: F)) := by
  refine t69 (Nat.le_of_ble_eq_true rfl) ?_
  simp (disch := omega) only [F69, go_sem, simprocAttr]
  rcases hs.cases with ⟨rfl, h0, g⟩ | ⟨b, cap, rfl, g, hcap⟩
  · have h0 : ps = [] := by simpa using h0
    subst h0
    have hi0 : i = 0 := by simpa using hi
    subst hi0
    have e1 : slcL 1 .nils (some (.int .i64 (0 : Nat))) none = some .nils := rfl
    have e2 : ((0 : Nat) : Int) = 0 := rfl
    simp (disch := omega) only [go_sem, simprocAttr, e1, e2]
    have e3 : slcL 1 .nils (some (.int .i64 0)) none = some .nils := rfl
    simp (disch := omega) only [go_sem, simprocAttr, e3]
    have hy : srcA 1 h (.arr bx 1 0 1 1) = some [pt x] := src_one hs.p1.at
    refine app_sat (es := []) (hs.drop.add ow_nil) hy (atoms_pt [x]) (by simp) fun v' h hs hc' ha' => ?_
    simp (disch := omega) only [go_sem, simprocAttr]
    exact hs.d1
  · rw [List.length_map] at hcap
    have hl : (ps.map pt).length = ps.length := by simp
    have en : ((ps.length : Int) == 0) = false ∨ True := .inr trivial
    simp (disch := omega) only [go_sem, simprocAttr, slcL_lo, hl]
    by_cases hin : i = ps.length
    · subst hin
      simp (disch := omega) only [go_sem, simprocAttr]
      have hy : srcA 1 h (.arr bx 1 0 1 1) = some [pt x] := src_one hs.p1.at
      have hs := g.ow (by simpa using hcap)
      rw [hl] at hs
      refine app_sat hs hy (atoms_pt [x]) (by simp; omega) fun v' h hs hc' ha' => ?_
      simp (disch := omega) only [go_sem, simprocAttr]
      have := hs.d1
      rw [List.take_length, List.drop_length]
      simpa using this
    · have hne : ((i : Int) == (ps.length : Int)) = false := by rw [beq_eq_false_iff_ne]; omega
      simp (disch := omega) only [go_sem, simprocAttr, hne]
      refine cnd_dec (fun hlt => ?_) (fun hge => ?_)
      · have em : (ps.length : Int) + 1 - (i : Int) = ((ps.length + 1 - i : Nat) : Int) := by omega
        simp (disch := omega) only [go_sem, simprocAttr, slcL_hi, em]
        refine appz_use g (by rw [hl]; exact hi) (by omega) (by omega) fun b2 c2 h hc2 hs => ?_
        have e3 : ((i : Int) + 1).toNat = i + 1 := by omega
        have e4 : i + (ps.length + 1 - i) = ps.length + 1 := by omega
        rw [e4] at hc2
        simp (disch := omega) only [go_sem, simprocAttr, slcL_lo, e4]
        have hx : srcN 1 h (.arr bx 1 0 1 1) (min 1 (ps.length + 1 - i)) = some [pt x] := by
          rw [Nat.min_eq_left (by omega)]
          exact srcN_part hs.p2 (by omega) (by simp)
        refine cp_use (n := 1) hs (by simp; omega) (by omega) (by omega) rfl hx (atoms_pt [x]) fun h hs => ?_
        simp (disch := omega) only [go_sem, simprocAttr, slcL_lo, e3]
        have hy : srcN 1 h (.arr b 1 i (ps.length - i) (cap - i)) (min (ps.length - i) (ps.length + 1 - (i + 1))) = some ((ps.drop i).map pt) := by
          rw [Nat.min_eq_left (by omega)]
          have := srcN_part (off := i) (len := ps.length - i) (c := cap - i) (n := ps.length - i) hs.p1 (by omega) (by simp; omega)
          rw [this, ← List.map_drop, List.take_of_length_le (by simp)]
        rw [show ps.length + 1 - (i + 1) = ps.length - i by omega] at hy
        refine cp_use (n := ps.length - i) hs (by simp; omega) (by omega) (by omega) rfl hy (atoms_pt _) fun h hs => ?_
        simp (disch := omega) only [go_sem, simprocAttr]
        have eq := ins_row1 (M := ps.map pt) (R := List.replicate (ps.length + 1 - i) [AV.nilp]) (x := pt x) (i := i) (by simp; omega) (by simp) rfl rfl
        rw [hl] at eq
        have g2 := hs.d1.d1
        rw [Nat.min_eq_left (show 1 ≤ ps.length + 1 - i by omega), Nat.min_self, List.map_drop, eq] at g2
        have e5 : (ps.take i ++ x :: ps.drop i).map pt = (ps.map pt).take i ++ pt x :: (ps.map pt).drop i := by simp
        rw [← e5] at g2
        have e6 : ((ps.take i ++ x :: ps.drop i).map pt).length = ps.length + 1 := by simp; omega
        have g3 := g2.ow (by rw [e6]; omega)
        rw [e6] at g3
        exact g3
      · have e3 : ((i : Int) + 1).toNat = i + 1 := by omega
        have e4 : ((ps.length : Int) + 1).toNat = ps.length + 1 := by omega
        simp (disch := omega) only [go_sem, simprocAttr, slcL_hi, slcL_lo, e3, e4]
        have g0 : sat h (pto bx (.row 1 [pt x] c) :: pto b (.row 1 (ps.map pt) cap) :: F) := g.p1
        refine ovl_use g0 (by omega) (by omega) (by omega) fun q => ?_
        have e5 : (ps.take i ++ x :: ps.drop i).map pt = (ps.map pt).take i ++ pt x :: (ps.map pt).drop i := by simp
        have e6 : ((ps.take i ++ x :: ps.drop i).map pt).length = ps.length + 1 := by simp; omega
        cases q
        · simp (disch := omega) only [go_sem, simprocAttr, slcL_lo, e3]
          have hy : srcN 1 h (.arr b 1 i (ps.length + 1 - i) (cap - i)) (min (ps.length + 1 - i) (ps.length + 1 - (i + 1))) = some ((ps.drop i).map pt) := by
            rw [Nat.min_eq_right (by omega)]
            have := srcN_part (off := i) (len := ps.length + 1 - i) (c := cap - i) (n := ps.length + 1 - (i + 1)) g (by omega) (by simp; omega)
            rw [this, ← List.map_drop, List.take_of_length_le (by simp)]
          rw [show ps.length + 1 - (i + 1) = ps.length - i by omega] at hy
          refine cp_use (n := ps.length + 1 - i) g (by simp; omega) (by omega) (by omega) rfl hy (atoms_pt _) fun h hs => ?_
          simp (disch := omega) only [go_sem, simprocAttr, slcL_lo]
          have hx : srcN 1 h (.arr bx 1 0 1 1) (min 1 (ps.length + 1 - i)) = some [pt x] := by
            rw [Nat.min_eq_left (by omega)]
            exact srcN_part hs.p1 (by omega) (by simp)
          refine cp_use (n := 1) hs (by simp; omega) (by omega) (by omega) rfl hx (atoms_pt [x]) fun h hs => ?_
          simp (disch := omega) only [go_sem, simprocAttr]
          have eq := ins_row2 (M := ps.map pt) (x := pt x) (i := i) (by simp; omega) rfl rfl
          rw [hl] at eq
          have g2 := hs.d1
          rw [Nat.min_eq_left (show 1 ≤ ps.length + 1 - i by omega), show min (ps.length + 1 - i) (ps.length - i) = ps.length - i by omega, List.map_drop, eq, ← e5] at g2
          have g3 := g2.ow (by rw [e6]; omega)
          rw [e6] at g3
          exact g3
        · simp (disch := omega) only [go_sem, simprocAttr, slcL_lo]
          have hx : srcN 1 h (.arr bx 1 0 1 1) (min 1 (ps.length + 1 - ps.length)) = some [pt x] := by
            rw [Nat.min_eq_left (by omega)]
            exact srcN_part g.p1 (by omega) (by simp)
          refine cp_use (n := 1) g (by simp) (by omega) (by omega) rfl hx (atoms_pt [x]) fun h hs => ?_
          simp (disch := omega) only [go_sem, simprocAttr, slcL_lo]
          have g2 := hs.d1
          rw [List.take_of_length_le (by simp), List.drop_eq_nil_of_le (by simp), List.append_nil, show ps.map pt ++ [pt x] = (ps ++ [x]).map pt by simp] at g2
          refine call_use (rotate_node (n := ps.length) g2 rfl (by omega) (by omega) (by omega)) ?_
          intro r h hs
          simp (disch := omega) only [go_sem, simprocAttr]
          have g3 := hs.ow (by rw [e6]; omega)
          rw [e6] at g3
          exact g3
end
end Go.Proofs.Ytaioncbpfckhaaa
/- Clone of pointers; place, find. -/
set_option linter.unusedSimpArgs false
set_option linter.unusedVariables false
set_option maxRecDepth 10000
namespace Go.Proofs.Ytaioncbpfckhaaa
open Go.Hz

section
variable {h : Hp} {F : List Asr}
theorem clone_item {b off len cap rc : Nat} {ps : List Nat} (hs : sat h (pto b (.row 1 (ps.map pt) rc) :: F)) (h1 : off + len ≤ ps.length) (h2 : ps.length ≤ 1000000) :
    Triple Try.prog 84 [.arr b 1 off len cap] h (fun r h => sat h (Ow 1 r (((ps.drop off).take len).map pt) :: pto b (.row 1 (ps.map pt) rc) :: F)) := by
  refine t84 (Nat.le_of_ble_eq_true rfl) ?_
  simp (disch := omega) only [F84, go_sem, simprocAttr]
  refine new_opq hs fun n h hs => ?_
  simp (disch := omega) only [go_sem, simprocAttr, hs.at]
  have hy : srcA 1 h (.arr b 1 off len cap) = some (((ps.drop off).take len).map pt) := by
    have := src_part (c := cap) hs.p1 (off := off) (len := len) (by simpa using h1)
    rw [this]; simp
  refine app_sat (hs.ow (by simp)) hy (atoms_pt _) (by simp; omega) fun v' h hs hc' ha' => ?_
  simp (disch := omega) only [go_sem, simprocAttr]
  simpa using hs
theorem clone_node {b off len cap rc : Nat} {ps : List Nat} (hs : sat h (pto b (.row 1 (ps.map pt) rc) :: F)) (h1 : off + len ≤ ps.length) (h2 : ps.length ≤ 1000000) :
    Triple Try.prog 85 [.arr b 1 off len cap] h (fun r h => sat h (Ow 1 r (((ps.drop off).take len).map pt) :: pto b (.row 1 (ps.map pt) rc) :: F)) := by
  refine t85 (Nat.le_of_ble_eq_true rfl) ?_
  simp (disch := omega) only [F85, go_sem, simprocAttr]
  refine new_opq hs fun n h hs => ?_
  simp (disch := omega) only [go_sem, simprocAttr, hs.at]
  have hy : srcA 1 h (.arr b 1 off len cap) = some (((ps.drop off).take len).map pt) := by
    have := src_part (c := cap) hs.p1 (off := off) (len := len) (by simpa using h1)
    rw [this]; simp
  refine app_sat (hs.ow (by simp)) hy (atoms_pt _) (by simp; omega) fun v' h hs hc' ha' => ?_
  simp (disch := omega) only [go_sem, simprocAttr]
  simpa using hs

def geAt (is : List Kp) (key : Key) (i : Nat) : Bool := match is[i]? with
  | some x => !ltK x.2 key
  | none => true

theorem place1 {bn bk p i : Nat} {iv kv : AV} {is : List Kp} {key : Key} (hs : sat h F) (hN : ∀ h, sat h F → NR p iv kv is h ∧ h bn = some (.row 1 [[.ptr p 2 0 0]] 1) ∧ h bk = some (.row 1 [[.str key]] 1)) (hi : i < is.length) :
    Triple Try.prog 66 [.int .i64 i, .ptr bn 1 0 0, .ptr bk 1 0 0] h (fun r h => r = .bool (geAt is key i) ∧ sat h F) := by
  refine t66 (Nat.le_of_ble_eq_true rfl) ?_
  simp (disch := omega) only [F66, go_sem, simprocAttr]
  obtain ⟨hn, h1, h2⟩ := hN h hs
  have hx := List.getElem?_eq_getElem hi
  obtain ⟨b, cap, rfl, hb⟩ := hn.arr hx
  obtain ⟨mv, hm⟩ := hn.ks _ (List.getElem_mem hi)
  simp (disch := omega) only [go_sem, simprocAttr, h1, h2, hn.nd, ia_go hi, hb, kpt_get hx, hm]
  refine ⟨?_, hs⟩
  simp [geAt, hx, ltK]

theorem place {p : Nat} {iv kv : AV} {is : List Kp} {key : Key} (hs : sat h F) (hN : ∀ h, sat h F → NR p iv kv is h) (hsrt : Srt is) (hl : is.length ≤ 1000000) :
    Triple Try.prog 58 [.ptr p 2 0 0, .str key] h (fun r h => ∃ j q, r = .tup [.int .i64 (j : Nat), .bool q] ∧ PlaceR is key j q ∧ sat h F) := by
  refine t58 (Nat.le_of_ble_eq_true rfl) ?_
  simp (disch := omega) only [F58, go_sem, simprocAttr]
  refine new_opq hs fun bn h hs => ?_
  simp (disch := omega) only [go_sem, simprocAttr, hs.at]
  refine new_opq hs fun bk h hs => ?_
  simp (disch := omega) only [go_sem, simprocAttr, hs.at]
  have hq : ∀ h, sat h (pto bk (.row 1 [[.str key]] 1) :: pto bn (.row 1 [[.ptr p 2 0 0]] 1) :: F) → NR p iv kv is h ∧ h bn = some (.row 1 [[.ptr p 2 0 0]] 1) ∧ h bk = some (.row 1 [[.str key]] 1) := fun h hs => ⟨hN h hs.drop.drop, hs.p1.at, hs.at⟩
  have hn := (hq h hs).1
  simp (disch := omega) only [go_sem, simprocAttr, hs.at, hs.p1.at, hn.nd, hn.len]
  refine call_use (search (pr := geAt is key) hs (by omega) rfl (fun i j hij hj hp => ?_) (fun i h hi hs => place1 hs hq hi)) ?_
  · have hx := List.getElem?_eq_getElem hj
    have hy := List.getElem?_eq_getElem (Nat.lt_of_le_of_lt hij hj)
    simp only [geAt, hx, hy, Bool.not_eq_true'] at hp ⊢
    by_cases hij' : i = j
    · subst hij'; exact hp
    · have := List.pairwise_iff_getElem.1 hsrt i j (by omega) hj (by omega)
      cases hjk : ltK is[j].2 key with
      | false => rfl
      | true => rw [ltK_trans this hjk] at hp; cases hp
  · rintro r h ⟨j, hr, hj, hlo, hhi, hs⟩
    subst hr
    have lo' : ∀ i x, is[i]? = some x → i < j → ltK x.2 key = true := fun i x hx hij => by
      have := hlo i hij
      simpa [geAt, hx] using this
    have hi' : ∀ i x, is[i]? = some x → j ≤ i → ltK x.2 key = false := fun i x hx hij => by
      have := hhi i hij (List.getElem?_eq_some_iff.1 hx).1
      simpa [geAt, hx] using this
    have hn := (hq h hs).1
    simp (disch := omega) only [go_sem, simprocAttr, hs.at, hs.p1.at, hn.nd, hn.len]
    refine cnd_dec (fun hlt => ?_) (fun hge => ?_)
    · have hlt : j < is.length := by omega
      have hx := List.getElem?_eq_getElem hlt
      obtain ⟨b, cap, rfl, hb⟩ := hn.arr hx
      obtain ⟨mv, hm⟩ := hn.ks _ (List.getElem_mem hlt)
      have dt : decide ((j : Int) < is.length) = true := by simpa using hlt
      simp (disch := omega) only [go_sem, simprocAttr, hs.at, hs.p1.at, hn.nd, ia_go hlt, hb, kpt_get hx, hm, dt]
      refine ⟨j, _, rfl, ⟨hj, lo', hi', fun hq => ⟨is[j].1, ?_⟩, fun hq x hx' => ?_⟩, hs.drop.drop⟩
      · have : is[j].2 = key := by simpa using hq
        rw [hx, ← this]
      · rw [hx] at hx'
        cases hx'
        have h1 := hi' j _ hx (Nat.le_refl _)
        cases h2 : ltK key is[j].2 with
        | true => rfl
        | false =>
          have := ltK_total h1 h2
          simp [this] at hq
    · have df : decide ((j : Int) < is.length) = false := by simpa using hge
      simp (disch := omega) only [go_sem, simprocAttr, df]
      have hje : j = is.length := by omega
      refine ⟨j, _, rfl, ⟨hj, lo', hi', fun hq => (by cases hq), fun _ x hx => ?_⟩, hs.drop.drop⟩
      subst hje
      simp at hx
end
end Go.Proofs.Ytaioncbpfckhaaa
/- find. -/
set_option linter.unusedSimpArgs false
set_option linter.unusedVariables false
set_option maxRecDepth 10000
namespace Go.Proofs.Ytaioncbpfckhaaa
open Go.Hz

section
variable {h : Hp} {F : List Asr}
theorem pt_get' {ks : List Tr} {i : Nat} {k : Tr} (hi : ks[i]? = some k) : (ks.map fun k => pt k.root)[i]? = some [.ptr k.root 2 0 0] := by simp [hi, pt]

def findV (l : List Kp) (key : Key) : AV := match findKp key l with
  | some x => .ptr x.1 2 0 0
  | none => .nilp

theorem find {ix : Nat} {rv : AV} {n : Int} {l : List Kp} {key : Key} (hs : sat h F) (hx : ∀ h, sat h F → h ix = some (.row 2 [[rv, .int .i64 n]] 1))
    (hr : (rv = .nilp ∧ l = []) ∨ ∃ d t, rv = .ptr t.root 2 0 0 ∧ t.flat = l ∧ OKd d t ∧ ∀ h, sat h F → RT d t h) (hl : Srt l) :
    Triple Try.prog 51 [.ptr ix 2 0 0, .str key] h (fun r h => r = findV l key ∧ sat h F) := by
  refine t51 (Nat.le_of_ble_eq_true rfl) ?_
  simp (disch := omega) only [F51, go_sem, simprocAttr]
  simp (disch := omega) only [go_sem, simprocAttr, hx h hs]
  have h0 : ∃ m : Nat, (m = 0 ∧ rv = .nilp ∧ findKp key l = none) ∨ ∃ d t, m = d + 1 ∧ rv = .ptr t.root 2 0 0 ∧ (∀ h, sat h F → RT d t h) ∧ OKd d t ∧ Srt t.flat ∧ findKp key t.flat = findKp key l := by
    rcases hr with ⟨rfl, rfl⟩ | ⟨d, t, rfl, rfl, h1, h2⟩
    · exact ⟨0, .inl ⟨rfl, rfl, rfl⟩⟩
    · exact ⟨d + 1, .inr ⟨d, t, rfl, rfl, h2, h1, hl, rfl⟩⟩
  obtain ⟨m0, h0⟩ := h0
  refine run_loopN (fun m e h => sat h F ∧ e 1 = .str key ∧ ((m = 0 ∧ e 5 = .nilp ∧ findKp key l = none) ∨ ∃ d t, m = d + 1 ∧ e 5 = .ptr t.root 2 0 0 ∧ (∀ h, sat h F → RT d t h) ∧ OKd d t ∧ Srt t.flat ∧ findKp key t.flat = findKp key l))
    m0 ⟨hs, rfl, by simp only [Env.upd_apply, ↓reduceIte]; exact h0⟩ ?_
  rintro m e h ⟨hs, he, hr⟩
  rcases hr with ⟨rfl, he5, hn⟩ | ⟨d, t, rfl, he5, hR, ok, hS, hf⟩
  · simp (disch := omega) only [go_sem, simprocAttr, he, he5]
    simp only [findV, hn]
    exact ⟨trivial, hs⟩
  · obtain ⟨p, iv, kv, is, ks⟩ := t
    replace he5 : e 5 = .ptr p 2 0 0 := he5
    have hN := fun h hs => (hR h hs).nr
    rw [Tr.flat_nd] at hf hS
    have hlen : is.length ≤ 5 := by
      cases d with
      | zero => exact ok.1
      | succ d => exact ok.2.1
    simp (disch := omega) only [go_sem, simprocAttr, he, he5]
    refine call_use (place hs hN (weave_srt _ _ hS) (by omega)) ?_
    rintro r h ⟨j, q, hr, hp, hs⟩
    subst hr
    have hn := hN h hs
    simp (disch := omega) only [go_sem, simprocAttr, he, he5]
    cases q
    · simp (disch := omega) only [go_sem, simprocAttr, he, he5, hn.nd, (hR h hs).kv.len]
      cases d with
      | zero =>
        obtain ⟨o1, rfl⟩ := ok
        simp (disch := omega) only [go_sem, simprocAttr, he, he5]
        refine ⟨?_, hs⟩
        have : findKp key l = none := by
          rw [← hf]
          refine findKp_none fun x hx hxk => ?_
          exact hp.none rfl (by simpa [weave] using hS) x hx hxk
        simp only [findV, this]
      | succ d =>
        obtain ⟨o0, o1, o2, o3⟩ := ok
        have hjk : j < ks.length := by have := hp.le; omega
        have hk := List.getElem?_eq_getElem hjk
        obtain ⟨b, cap, hkv, hb, _⟩ := (hR h hs).kv.row (pt_get' hk)
        have hz : ((ks.length : Int) == 0) = false := by rw [beq_eq_false_iff_ne]; omega
        have hlk : (ks.map fun k => pt k.root).length = ks.length := by simp
        rw [hlk] at hkv
        simp (disch := omega) only [go_sem, simprocAttr, he, he5, hz, hn.nd, hkv, ia_go hjk, hb, pt_get' hk]
        refine ⟨d + 1, by omega, hs, .inr ⟨d, ks[j], rfl, rfl, fun h hs => (hR h hs).2.2 _ (List.getElem_mem hjk), (o3 _ (List.getElem_mem hjk)).1, ?_, ?_⟩⟩
        · exact weave_srt2 _ _ _ (by simpa using o2) (List.mem_map_of_mem (List.getElem_mem hjk)) hS
        · rw [← hf]
          obtain ⟨A, C, h1, _, _, h2, _, h3, _⟩ := hp.cut (by simpa using o2) hS
          rw [h1, findKp_mid h2 (h3 rfl)]
          simp [hk]
    · obtain ⟨a, ha⟩ := hp.yes rfl
      have hj := (List.getElem?_eq_some_iff.1 ha).1
      obtain ⟨b, cap, rfl, hb⟩ := hn.arr ha
      simp (disch := omega) only [go_sem, simprocAttr, he, he5, hn.nd, ia_go hj, hb, kpt_get ha]
      refine ⟨?_, hs⟩
      have : findKp key l = some (a, key) := by
        rw [← hf]
        exact findKp_mem (x := (a, key)) hS (mem_weave _ _ (List.mem_of_getElem? ha))
      simp only [findV, this]
end
end Go.Proofs.Ytaioncbpfckhaaa
/- walk. -/
set_option linter.unusedSimpArgs false
set_option linter.unusedVariables false
set_option maxRecDepth 10000
namespace Go.Proofs.Ytaioncbpfckhaaa
open Go.Hz

section
theorem walkN {F : List Asr} {f : Nat} {caps : List AV} {lo hi : Key} {full : List Kp} {A : List Kp → Asr} (hf : okFn Try.prog f = true)
    (hc : ∀ done x h, (done ++ [x]) <+: full → sat h (A done :: F) → Triple Try.prog f (.ptr x.1 2 0 0 :: caps) h fun r h => sat h (A (done ++ [x]) :: F))
    {p : Nat} {iv kv : AV} {is : List Kp} {ks : List Tr} {pre : List Kp} {h : Hp} (h5 : is.length ≤ 5) (hl : ks.map Tr.flat = [] ∨ (ks.map Tr.flat).length = is.length + 1) (hS : Srt (weave (ks.map Tr.flat) is))
    (hN : ∀ h, sat h F → NR p iv kv is h) (hK : ∀ h, sat h F → Ow 1 kv (ks.map fun k => pt k.root) h) (hpre : (pre ++ (weave (ks.map Tr.flat) is).filter (rngK lo hi)) <+: full) (hs : sat h (A pre :: F))
    (ih : ∀ k ∈ ks, ∀ pre h, Srt k.flat → (pre ++ k.flat.filter (rngK lo hi)) <+: full → sat h (A pre :: F) → Triple Try.prog 47 [.ptr k.root 2 0 0, .str lo, .str hi, .fn f caps] h (fun r h => sat h (A (pre ++ k.flat.filter (rngK lo hi)) :: F))) :
    Triple Try.prog 47 [.ptr p 2 0 0, .str lo, .str hi, .fn f caps] h (fun r h => sat h (A (pre ++ (weave (ks.map Tr.flat) is).filter (rngK lo hi)) :: F)) := by
  refine t47 (Nat.le_of_ble_eq_true rfl) ?_
  simp (disch := omega) only [F47, go_sem, simprocAttr]
  refine call_use (place hs (fun h hs => hN h hs.drop) (weave_srt _ _ hS) (by omega)) ?_
  rintro r h ⟨j, q, hr, hp, hs⟩
  subst hr
  have hlo := ahd_lo hp hl hS hi
  simp (disch := omega) only [go_sem, simprocAttr]
  refine run_loopN (fun m e h => ∃ i : Nat, j ≤ i ∧ i ≤ is.length ∧ m = is.length - i ∧ sat h (A (pre ++ (ahd (ks.map Tr.flat) is i).filter (rngK lo hi)) :: F) ∧
    (e 0 = .ptr p 2 0 0 ∧ e 1 = .str lo ∧ e 2 = .str hi ∧ e 3 = .fn f caps ∧ e 8 = .int .i64 i)) (is.length - j) ⟨j, Nat.le_refl _, hp.le, rfl, by rw [hlo]; simpa using hs, rfl, rfl, rfl, rfl, rfl⟩ ?_
  rintro m e h ⟨i, hji, hi2, rfl, hs, he⟩
  obtain ⟨C, hw, hC⟩ := ahd_cut hl hi2
  rw [hw] at hS hpre ⊢
  simp (disch := omega) only [go_sem, simprocAttr, he, (hN h hs.drop).nd, (hK h hs.drop).len]
  refine cnd_join (Q := fun e h => sat h (A (pre ++ (ahd (ks.map Tr.flat) is i ++ (ks.map Tr.flat).getD i []).filter (rngK lo hi)) :: F) ∧ (e 0 = .ptr p 2 0 0 ∧ e 1 = .str lo ∧ e 2 = .str hi ∧ e 3 = .fn f caps ∧ e 8 = .int .i64 i)) ?_ ?_
  · refine cnd_dec (fun hlt => ?_) (fun hge => ?_)
    · have hjk : i < ks.length := by
        rcases hl with hl | hl
        · simp at hl; subst hl; simp at hlt
        · simp at hl; omega
      have hk := List.getElem?_eq_getElem hjk
      have hlk : (ks.map fun k => pt k.root).length = ks.length := by simp
      obtain ⟨b, cap, hkv, hb, _⟩ := (hK h hs.drop).row (pt_get' hk)
      rw [hlk] at hkv
      simp (disch := omega) only [go_sem, simprocAttr, he, (hN h hs.drop).nd, hkv, ia_go hjk, hb, pt_get' hk]
      have eg : (ks.map Tr.flat).getD i [] = ks[i].flat := by simp [hk]
      rw [eg] at hS hpre ⊢
      refine call_use (ih ks[i] (List.getElem_mem hjk) _ _ (Srt.app.1 (Srt.app.1 hS).1).2.1 ?_ hs) ?_
      · refine List.IsPrefix.trans ⟨C.filter (rngK lo hi), ?_⟩ hpre
        simp
      · intro r h hs
        simp (disch := omega) only [go_sem, simprocAttr, he]
        simpa using hs
    · have hk0 : ks = [] := by
        cases ks with
        | nil => rfl
        | cons k ks => simp at hge
      subst hk0
      simp (disch := omega) only [go_sem, simprocAttr, he]
      simpa using hs
  · rintro e h ⟨hs, he⟩
    simp (disch := omega) only [go_sem, simprocAttr, he, (hN h hs.drop).nd, (hN h hs.drop).len]
    by_cases hin : i = is.length
    · have hb : ((i : Int) == (is.length : Int)) = true := by simp [hin]
      simp (disch := omega) only [go_sem, simprocAttr, he, hb]
      have : C = [] := by
        rw [hin] at hC; simpa using hC
      subst this
      simpa using hs
    · have hb : ((i : Int) == (is.length : Int)) = false := by rw [beq_eq_false_iff_ne]; omega
      have hi3 : i < is.length := by omega
      have hx := List.getElem?_eq_getElem hi3
      have hrr : ∀ h, (∀ y : Kp, y = is[i] → rngK lo hi y = true) → sat h (A (pre ++ (ahd (ks.map Tr.flat) is i ++ (ks.map Tr.flat).getD i []).filter (rngK lo hi) ++ [is[i]]) :: F) → sat h (A (pre ++ (ahd (ks.map Tr.flat) is (i + 1)).filter (rngK lo hi)) :: F) := by
        intro h hr hs
        simp only [ahd, hx, Option.toList_some]
        rw [List.filter_append _ [is[i]], List.filter_cons_of_pos (hr _ rfl)]
        simpa using hs
      obtain ⟨C', rfl⟩ : ∃ C', C = is[i] :: C' := by
        rw [hx] at hC
        cases C with
        | nil => cases hC
        | cons c C => cases hC; exact ⟨_, rfl⟩
      have hnlo : ltK is[i].2 lo = false := hp.hi i _ hx hji
      have hpr : rngK lo hi is[i] = true → (pre ++ (ahd (ks.map Tr.flat) is i ++ (ks.map Tr.flat).getD i []).filter (rngK lo hi) ++ [is[i]]) <+: full := fun hr => by
        refine List.IsPrefix.trans ⟨C'.filter (rngK lo hi), ?_⟩ hpre
        rw [List.filter_append _ (is[i] :: C'), List.filter_cons_of_pos hr]
        simp
      by_cases hh : hi = []
      · subst hh
        have hr : rngK lo [] is[i] = true := by simp [rngK, hnlo]
        obtain ⟨b, cap, hiv, hbb⟩ := (hN h hs.drop).arr hx
        have hbn : (([] : Key) != []) = false := rfl
        simp (disch := omega) only [go_sem, simprocAttr, he, hb, hbn, (hN h hs.drop).nd, hiv, ia_go hi3, hbb, kpt_get hx]
        refine callv_use hf (hc _ _ _ (hpr hr) hs) ?_
        intro r h hs
        simp (disch := omega) only [go_sem, simprocAttr, he]
        exact ⟨is.length - (i + 1), by omega, i + 1, by omega, by omega, rfl, hrr h (fun y hy => by rw [hy]; exact hr) hs, rfl⟩
      · have hbn : (hi != []) = true := by simpa using hh
        obtain ⟨b, cap, hiv, hbb⟩ := (hN h hs.drop).arr hx
        obtain ⟨mv, hm⟩ := (hN h hs.drop).ks _ (List.getElem_mem hi3)
        simp (disch := omega) only [go_sem, simprocAttr, he, hb, hbn, (hN h hs.drop).nd, hiv, ia_go hi3, hbb, kpt_get hx, hm]
        cases hlt : Op.bytesLess is[i].2 hi
        · simp (disch := omega) only [go_sem, simprocAttr, he]
          have := rng_hi (lo := lo) (Srt.app.1 hS).2.1 rfl hh hlt
          rw [List.filter_append _ (is[i] :: C'), this]
          simpa using hs
        · have hlt2 : ltK is[i].2 hi = true := hlt
          have hr : rngK lo hi is[i] = true := by simp [rngK, hnlo, hlt2]
          simp (disch := omega) only [go_sem, simprocAttr, he, hb, hbn, (hN h hs.drop).nd, hiv, ia_go hi3, hbb, kpt_get hx]
          refine callv_use hf (hc _ _ _ (hpr hr) hs) ?_
          intro r h hs
          simp (disch := omega) only [go_sem, simprocAttr, he]
          exact ⟨is.length - (i + 1), by omega, i + 1, by omega, by omega, rfl, hrr h (fun y hy => by rw [hy]; exact hr) hs, rfl⟩

theorem walk {F : List Asr} {f : Nat} {caps : List AV} {lo hi : Key} {full : List Kp} {A : List Kp → Asr} (hf : okFn Try.prog f = true)
    (hc : ∀ done x h, (done ++ [x]) <+: full → sat h (A done :: F) → Triple Try.prog f (.ptr x.1 2 0 0 :: caps) h fun r h => sat h (A (done ++ [x]) :: F)) :
    ∀ (d : Nat) (t : Tr) (pre : List Kp) (h : Hp), OKd d t → Srt t.flat → (∀ h, sat h F → RT d t h) → (pre ++ t.flat.filter (rngK lo hi)) <+: full → sat h (A pre :: F) →
      Triple Try.prog 47 [.ptr t.root 2 0 0, .str lo, .str hi, .fn f caps] h (fun r h => sat h (A (pre ++ t.flat.filter (rngK lo hi)) :: F)) := by
  intro d
  induction d with
  | zero =>
    rintro ⟨p, iv, kv, is, ks⟩ pre h ⟨ok, rfl⟩ hS hR hpre hs
    rw [Tr.flat_nd] at hS hpre ⊢
    exact walkN hf hc ok (.inl rfl) hS (fun h hs => (hR h hs).nr) (fun h hs => (hR h hs).kv) hpre hs (fun k hk => by cases hk)
  | succ d ih =>
    rintro ⟨p, iv, kv, is, ks⟩ pre h ok hS hR hpre hs
    obtain ⟨o0, o1, o2, o3⟩ := ok
    rw [Tr.flat_nd] at hS hpre ⊢
    exact walkN hf hc o1 (.inr (by simpa using o2)) hS (fun h hs => (hR h hs).nr) (fun h hs => (hR h hs).kv) hpre hs
      (fun k hk pre h hS hpre hs => ih k pre h (o3 k hk).1 hS (fun h hs => (hR h hs).2.2 k hk) hpre hs)
end
end Go.Proofs.Ytaioncbpfckhaaa
/- split, insert. -/
set_option linter.unusedSimpArgs false
set_option linter.unusedVariables false
set_option maxRecDepth 10000
namespace Go.Proofs.Ytaioncbpfckhaaa
open Go.Hz

section
variable {h : Hp} {F : List Asr}
theorem split_no {p : Nat} {iv kv : AV} {es : List (List AV)} (hs : sat h (pto p (.row 2 [[iv, kv]] 1) :: Ow 1 iv es :: F)) (h5 : es.length ≤ 5) :
    Triple Try.prog 68 [.ptr p 2 0 0] h (fun r h => r = .tup [.nilp, .nilp] ∧ sat h (pto p (.row 2 [[iv, kv]] 1) :: Ow 1 iv es :: F)) := by
  refine t68 (Nat.le_of_ble_eq_true rfl) ?_
  simp (disch := omega) only [F68, go_sem, simprocAttr]
  have hl := hs.drop.owr.len
  have hd : decide ((es.length : Int) ≤ 5) = true := by simp; omega
  simp (disch := omega) only [go_sem, simprocAttr, hs.at, hl, hd]
  exact hs

theorem split_yes {p : Nat} {iv kv : AV} {ps qs : List Nat} (hs : sat h (pto p (.row 2 [[iv, kv]] 1) :: Ow 1 iv (ps.map pt) :: Ow 1 kv (qs.map pt) :: F)) (h6 : ps.length = 6) (h7 : qs = [] ∨ qs.length = 7) {x : Nat} (hx : ps[3]? = some x) :
    Triple Try.prog 68 [.ptr p 2 0 0] h (fun r h => ∃ p2 iv1 kv1 iv2 kv2, r = .tup [.ptr x 2 0 0, .ptr p2 2 0 0] ∧
      sat h (pto p (.row 2 [[iv1, kv1]] 1) :: Ow 1 iv1 ((ps.take 3).map pt) :: Ow 1 kv1 ((qs.take 4).map pt) :: pto p2 (.row 2 [[iv2, kv2]] 1) :: Ow 1 iv2 ((ps.drop 4).map pt) :: Ow 1 kv2 ((qs.drop 4).map pt) :: F)) := by
  refine Triple.view ?_
  refine t68 (Nat.le_of_ble_eq_true rfl) ?_
  simp (disch := omega) only [F68, go_sem, simprocAttr]
  obtain ⟨b, cap, hiv, hb, hcap⟩ := hs.drop.owr.row (pt_get hx)
  rw [List.length_map, h6] at hiv hcap
  subst hiv
  have hl := hs.drop.drop.owr.len
  rw [List.length_map] at hl
  have g1 := (hs.p1.arr).1
  have e1 : (6 : Int).tdiv 2 = 3 := rfl
  have e2 : ((6 : Nat) : Int) = 6 := rfl
  have e3 : decide ((6 : Int) ≤ 5) = false := rfl
  have hia : iaA 1 (.arr b 1 0 6 cap) (.int .i64 3) = some (.ptr b 1 3 0) := by rw [iaA_go (by omega) (by omega)]; rfl
  have hw : IntKind.i64.wrap 3 = 3 := rfl
  have hw4 : IntKind.i64.wrap 4 = 4 := rfl
  have e5 : (3 : Int) + 1 = 4 := rfl
  simp (disch := omega) only [go_sem, simprocAttr, hs.at, e1, e2, e3, hia, hb, pt_get hx, slcL_lo, hw, hw4, e5]
  refine call_use (clone_item g1 (by omega) (by omega)) ?_
  intro iv2 h hs
  have ht : ((ps.drop (0 + 4)).take (6 - 4)) = ps.drop 4 := by rw [List.take_of_length_le (by simp; omega)]
  rw [ht] at hs
  have hc := hs.owr.len
  have hcl : iv2.cells = [iv2] := hs.els.cells
  have hca : iv2.isAtom = true := hs.els.atom
  simp (disch := omega) only [go_sem, simprocAttr, hcl, hca]
  refine new_opq hs fun p2 h hs => ?_
  simp (disch := omega) only [go_sem, simprocAttr, hs.at, hcl, hca]
  have hp := hs.p3.at
  have hia3 : slcL 1 (.arr b 1 0 6 cap) none (some (.int .i64 3)) = some (.arr b 1 0 3 cap) := by rw [slcL_hi (by omega) (by omega) (by omega)]; rfl
  rcases h7 with rfl | h7
  · have hl : lenL kv = some (.int .i64 0) := hl
    simp (disch := omega) only [go_sem, simprocAttr, hp, hl, hia3]
    have g := hs.p3.set (o' := .row 2 [[.arr b 1 0 3 cap, kv]] 1)
    have gb := g.p3
    refine ⟨_, _, GV.trim _ 3 gb.at, ⟨p2, .arr b 1 0 3 cap, kv, iv2, .nils, rfl, ?_⟩⟩
    have g2 := (gb.set (o' := .row 1 ((ps.map pt).take 3) cap))
    have g3 := g2.ow (by simp; omega)
    have e6 : ((ps.map pt).take 3).length = 3 := by simp; omega
    rw [e6] at g3
    rw [show (ps.take 3).map pt = (ps.map pt).take 3 by simp]
    have g4 := (g3.add (A := Ow 1 .nils ((([] : List Nat).drop 4).map pt)) ow_nil)
    exact g4.p4.p4.p5.p4.p5
  · obtain ⟨y, hy⟩ : ∃ y, qs[0]? = some y := ⟨_, List.getElem?_eq_getElem (by omega)⟩
    have g5 := hs.p3.p3.p3.p3.p4
    obtain ⟨bk, ck, hkv, hbk, hck⟩ := g5.owr.row (pt_get hy)
    rw [List.length_map, h7] at hkv hck
    subst hkv
    have gk := (g5.arr).1
    have hp := gk.p3.p3.p3.p4.at
    have hl7 : decide ((0 : Int) < ((7 : Nat) : Int)) = true := rfl
    have hk3 : slcL 1 (.arr bk 1 0 7 ck) (some (.int .i64 4)) none = some (.arr bk 1 4 3 (ck - 4)) := by rw [slcL_lo (by omega) (by omega) (by omega)]; rfl
    have hk4 : slcL 1 (.arr bk 1 0 7 ck) none (some (.int .i64 4)) = some (.arr bk 1 0 4 ck) := by rw [slcL_hi (by omega) (by omega) (by omega)]; rfl
    simp (disch := omega) only [go_sem, simprocAttr, hp, hl7, hk3, hw4, e5]
    refine call_use (clone_node gk (by omega) (by omega)) ?_
    intro kv2 h hs
    have ht : ((qs.drop 4).take 3) = qs.drop 4 := by rw [List.take_of_length_le (by simp; omega)]
    rw [ht] at hs
    have hcl2 : kv2.cells = [kv2] := hs.els.cells
    have hca2 : kv2.isAtom = true := hs.els.atom
    have g6 := hs.p5.p5.p5.p4.p4.p5
    have g7 := (g6.set (o' := .row 2 [[iv2, kv2]] 1))
    have hp := g7.drop.p1.drop.p1.drop.p1.drop.p1.at
    simp (disch := omega) only [go_sem, simprocAttr, g6.at, hcl2, hca2, hp, hk4, hw4, e5]
    have g8 := (g7.p4.p4.p4.p4.p4.p5).set (o' := .row 2 [[.arr b 1 0 6 cap, .arr bk 1 0 4 ck]] 1)
    simp (disch := omega) only [go_sem, simprocAttr, g8.at, hia3]
    have g9 := (g7.p4.p4.p4.p4.p4.p5).set (o' := .row 2 [[.arr b 1 0 3 cap, .arr bk 1 0 4 ck]] 1)
    have gb := g9.p4.p4.p4.p4.p4.p5
    have gk2 := (gb.set (o' := .row 1 ((ps.map pt).take 3) cap)).p5.p4.p4.p4.p4.p5
    refine ⟨_, _, (GV.trim _ 3 gb.at).trans (GV.trim _ 4 gk2.at), ⟨p2, .arr b 1 0 3 cap, .arr bk 1 0 4 ck, iv2, kv2, rfl, ?_⟩⟩
    have ga := (gk2.set (o' := .row 1 ((qs.map pt).take 4) ck)).ow (by simp; omega)
    have gc := (ga.p5.p5.p5.p5.p4.p5).ow (by simp; omega)
    have e6 : ((ps.map pt).take 3).length = 3 := by simp; omega
    have e7 : ((qs.map pt).take 4).length = 4 := by simp; omega
    rw [e6, e7] at gc
    rw [show (ps.take 3).map pt = (ps.map pt).take 3 by simp, show (qs.take 4).map pt = (qs.map pt).take 4 by simp]
    exact gc.p4.p5.p5.p4.p4.p5

/-- How 'insert' answers for a tree that holds an item more. -/
def InsR (d : Nat) (root : Nat) (l : List Kp) (F : List Asr) (r : AV) (h : Hp) : Prop :=
  (∃ t', r = .tup [.nilp, .nilp] ∧ OKd d t' ∧ t'.root = root ∧ t'.flat = l ∧ sat h (t'.asr :: F)) ∨
  ∃ t1 m t2, r = .tup [.ptr (m : Kp).1 2 0 0, .ptr (Tr.root t2) 2 0 0] ∧ OKd d t1 ∧ OKd d t2 ∧ Tr.root t1 = root ∧ t1.flat ++ m :: t2.flat = l ∧ t1.flat ≠ [] ∧ t2.flat ≠ [] ∧ sat h (t1.asr :: t2.asr :: F)

theorem finish {d p : Nat} {iv kv : AV} {is : List Kp} {ks : List Tr} (h6 : is.length ≤ 6) (ok : OKs d is ks) (hs : sat h (Tr.parts p iv kv is ks ++ F)) :
    Triple Try.prog 68 [.ptr p 2 0 0] h (InsR d p (weave (ks.map Tr.flat) is) F) := by
  by_cases h5 : is.length ≤ 5
  · refine (split_no (iv := iv) (kv := kv) (es := is.map kpt) hs (by simpa using h5)).mono ?_
    rintro r h ⟨rfl, hs⟩
    exact .inl ⟨.nd p iv kv is ks, rfl, okd_nd.2 ⟨h5, ok⟩, rfl, Tr.flat_nd, sat_nd.2 hs⟩
  · have h6 : is.length = 6 := by omega
    have hx := List.getElem?_eq_getElem (l := is) (i := 3) (by omega)
    have h7 : ks.map Tr.root = [] ∨ (ks.map Tr.root).length = 7 := by
      cases d with
      | zero => left; rw [show ks = [] from ok]; rfl
      | succ d => right; rw [List.length_map, ok.2.1, h6]
    unfold Tr.parts at hs
    rw [kpt_pt, rt_pt] at hs
    refine (split_yes (x := is[3].1) hs (by simpa using h6) h7 (by simp [hx])).mono ?_
    rintro r h ⟨p2, iv1, kv1, iv2, kv2, rfl, hs⟩
    have hks : ks.map Tr.asr ++ F = (ks.take 4).map Tr.asr ++ ((ks.drop 4).map Tr.asr ++ F) := by
      rw [← List.append_assoc, ← List.map_append, List.take_append_drop]
    have e3 : is = is.take 3 ++ is[3] :: is.drop 4 := by
      rw [← List.drop_eq_getElem_cons, List.take_append_drop]
    refine .inr ⟨.nd p iv1 kv1 (is.take 3) (ks.take 4), is[3], .nd p2 iv2 kv2 (is.drop 4) (ks.drop 4), rfl, ?_, ?_, rfl, ?_, ?_, ?_, ?_⟩
    · refine okd_nd.2 ⟨by simp; omega, ?_⟩
      cases d with
      | zero => simp only [OKs] at ok ⊢; simp [ok]
      | succ d => exact ⟨by simp; omega, by have := ok.2.1; simp; omega, fun k hk => ok.2.2 k (List.mem_of_mem_take hk)⟩
    · refine okd_nd.2 ⟨by simp; omega, ?_⟩
      cases d with
      | zero => simp only [OKs] at ok ⊢; simp [ok]
      | succ d => exact ⟨by simp; omega, by have := ok.2.1; simp; omega, fun k hk => ok.2.2 k (List.mem_of_mem_drop hk)⟩
    · rw [Tr.flat_nd, Tr.flat_nd]
      cases d with
      | zero =>
        have hk : ks = [] := ok
        subst hk
        simp only [List.take_nil, List.drop_nil, List.map_nil, weave_nil]
        exact e3.symm
      | succ d =>
        have := weave_cut ((ks.take 4).map Tr.flat) ((ks.drop 4).map Tr.flat) (is.take 3) (is.drop 4) is[3] (by have := ok.2.1; simp; omega)
        rw [← this, ← List.map_append, List.take_append_drop, ← e3]
    · rw [Tr.flat_nd]; exact weave_ne (by simp; omega)
    · rw [Tr.flat_nd]; exact weave_ne (by simp; omega)
    · refine sat_nd.2 ?_
      have hq : sat h ([pto p (.row 2 [[iv1, kv1]] 1), Ow 1 iv1 ((is.take 3).map kpt), Ow 1 kv1 ((ks.take 4).map fun k => pt k.root)] ++ ((ks.take 4).map Tr.asr ++ (Tr.parts p2 iv2 kv2 (is.drop 4) (ks.drop 4) ++ F))) := by
        have g := hs
        rw [show (((is.map fun x => x.1).take 3).map pt) = (is.take 3).map kpt by rw [kpt_pt]; simp, show (((is.map fun x => x.1).drop 4).map pt) = (is.drop 4).map kpt by rw [kpt_pt]; simp,
          show (((ks.map Tr.root).take 4).map pt) = (ks.take 4).map (fun k => pt k.root) by rw [rt_pt]; simp, show (((ks.map Tr.root).drop 4).map pt) = (ks.drop 4).map (fun k => pt k.root) by rw [rt_pt]; simp] at g
        refine sat.tls (l1 := [pto p (.row 2 [[iv1, kv1]] 1), Ow 1 iv1 ((is.take 3).map kpt), Ow 1 kv1 ((ks.take 4).map fun k => pt k.root)]) g fun h g => ?_
        have g2 : sat h ([pto p2 (.row 2 [[iv2, kv2]] 1), Ow 1 iv2 ((is.drop 4).map kpt), Ow 1 kv2 ((ks.drop 4).map fun k => pt k.root)] ++ ((ks.take 4).map Tr.asr ++ ((ks.drop 4).map Tr.asr ++ F))) := by
          rw [← hks]; exact g
        exact g2.swapl
      have hq2 : sat h (Tr.parts p iv1 kv1 (is.take 3) (ks.take 4) ++ (Tr.parts p2 iv2 kv2 (is.drop 4) (ks.drop 4) ++ F)) := by
        exact hq
      exact hq2.tls fun h g => sat_nd.2 g
end
end Go.Proofs.Ytaioncbpfckhaaa
/- insert. -/
set_option linter.unusedSimpArgs false
set_option linter.unusedVariables false
set_option maxRecDepth 10000
namespace Go.Proofs.Ytaioncbpfckhaaa
open Go.Hz

section
variable {h : Hp} {F : List Asr}
theorem insK_place {is : List Kp} {x : Kp} {j : Nat} {q : Bool} (hp : PlaceR is x.2 j q) : is.take j ++ x :: is.drop j = insK x is := by
  have := insK_split (x := x) (A := is.take j) (C := is.drop j) (fun y hy => ?_) (fun y hy => ?_)
  · rw [List.take_append_drop] at this; exact this.symm
  · obtain ⟨i, hi⟩ := List.getElem?_of_mem hy
    rw [List.getElem?_take] at hi
    split at hi
    · exact hp.lo i y hi (by assumption)
    · cases hi
  · rw [List.head?_drop] at hy
    exact hp.hi j y hy (Nat.le_refl _)

theorem insert : ∀ (d : Nat) (t : Tr) (x : Kp) {h : Hp} {F : List Asr}, OKd d t → Srt t.flat → sat h (t.asr :: F) → (∀ h, sat h F → IR t.flat h) → (∀ h, sat h F → ∃ mv, h x.1 = some (.row 2 [[.str x.2, mv]] 1)) →
    Triple Try.prog 61 [.ptr t.root 2 0 0, .ptr x.1 2 0 0] h (InsR d t.root (insK x t.flat) F) := by
  intro d
  induction d with
  | zero =>
    rintro ⟨p, iv, kv, is, ks⟩ x h F ⟨h5, rfl⟩ hS hs hI hX
    rw [Tr.flat_nd] at hS hI ⊢
    have hs := sat_nd.1 hs
    have hN : ∀ h, sat h (Tr.parts p iv kv is [] ++ F) → NR p iv kv is h := fun h hs => ⟨hs.at, hs.drop.owr, fun y hy => hI h hs.right y (mem_weave _ _ hy)⟩
    obtain ⟨mv, hx⟩ := hX h hs.right
    refine t61 (Nat.le_of_ble_eq_true rfl) ?_
    simp (disch := omega) only [F61, Tr.root, go_sem, simprocAttr]
    simp (disch := omega) only [go_sem, simprocAttr, hx]
    refine call_use (place hs hN (weave_srt _ _ hS) (by omega)) ?_
    rintro r h ⟨j, q, hr, hp, hs⟩
    subst hr
    have hkl := hs.drop.drop.owr.len
    simp (disch := omega) only [go_sem, simprocAttr, (hN h hs).nd, hkl]
    refine new_opq hs fun bx h hs => ?_
    simp (disch := omega) only [go_sem, simprocAttr, hs.at]
    have hs' : sat h (pto bx (.row 1 [pt x.1] 1) :: pto p (.row 2 [[iv, kv]] 1) :: Ow 1 iv (is.map kpt) :: Ow 1 kv ([] : List (List AV)) :: F) := hs
    rw [kpt_pt] at hs'
    refine call_use (ins_item (x := x.1) (i := j) (hs'.p3.p2.p2.p3) (by simpa using hp.le) (by simp; omega) (Nat.le_refl _)) ?_
    intro iv' h hs
    have hc := hs.els.cells
    have ha := hs.els.atom
    have g := hs.p1
    simp (disch := omega) only [go_sem, simprocAttr, g.at, hc, ha]
    have g2 := g.set (o' := .row 2 [[iv', kv]] 1)
    have e1 : ((is.map fun x => x.1).take j ++ x.1 :: (is.map fun x => x.1).drop j).map pt = (insK x is).map kpt := by
      rw [← insK_place hp, kpt_pt]; simp
    rw [e1] at g2
    refine call_use (finish (d := 0) (is := insK x is) (ks := []) (by rw [insK_len]; omega) rfl g2) ?_
    intro r h hr
    rcases hr with ⟨t', rfl, hr⟩ | ⟨t1, m, t2, rfl, hr⟩
    · simp (disch := omega) only [go_sem, simprocAttr]
      exact .inl ⟨t', rfl, hr⟩
    · simp (disch := omega) only [go_sem, simprocAttr]
      exact .inr ⟨t1, m, t2, rfl, hr⟩
  | succ d ih =>
    rintro ⟨p, iv, kv, is, ks⟩ x h F ⟨o0, o1, o2, o3⟩ hS hs hI hX
    rw [Tr.flat_nd] at hS hI ⊢
    have hs := sat_nd.1 hs
    have hN : ∀ h, sat h (Tr.parts p iv kv is ks ++ F) → NR p iv kv is h := fun h hs => ⟨hs.at, hs.drop.owr, fun y hy => hI h hs.right y (mem_weave _ _ hy)⟩
    obtain ⟨mv, hx⟩ := hX h hs.right
    refine t61 (Nat.le_of_ble_eq_true rfl) ?_
    simp (disch := omega) only [F61, Tr.root, go_sem, simprocAttr]
    simp (disch := omega) only [go_sem, simprocAttr, hx]
    refine call_use (place hs hN (weave_srt _ _ hS) (by omega)) ?_
    rintro r h ⟨j, q, hr, hp, hs⟩
    subst hr
    have hjk : j < ks.length := by have := hp.le; omega
    have hk := List.getElem?_eq_getElem hjk
    have hlk : (ks.map fun k => pt k.root).length = ks.length := by simp
    obtain ⟨b, cap, hkv, hb, _⟩ := hs.drop.drop.owr.row (pt_get' hk)
    rw [hlk] at hkv
    have hz : ((ks.length : Int) == 0) = false := by rw [beq_eq_false_iff_ne]; omega
    simp (disch := omega) only [go_sem, simprocAttr, (hN h hs).nd, hkv, hz, ia_go hjk, hb, pt_get' hk]
    obtain ⟨A, C, w1, w2, w3, cA, cC, _, hC⟩ := hp.cut (by simpa using o2) hS
    have hkf : (ks.map Tr.flat).getD j [] = ks[j].flat := by simp [hk]
    rw [hkf] at w1
    have hins : insK x (weave (ks.map Tr.flat) is) = A ++ insK x ks[j].flat ++ C := by
      rw [w1]; exact insK_mid cA fun y hy => cC y (List.mem_of_mem_head? hy)
    have eks : ks = ks.take j ++ ks[j] :: ks.drop (j + 1) := by rw [← List.drop_eq_getElem_cons, List.take_append_drop]
    have hq : sat h (ks[j].asr :: ([pto p (.row 2 [[iv, kv]] 1), Ow 1 iv (is.map kpt), Ow 1 kv (ks.map fun k => pt k.root)] ++ ((ks.take j).map Tr.asr ++ ((ks.drop (j + 1)).map Tr.asr ++ F)))) := by
      have g : sat h (([pto p (.row 2 [[iv, kv]] 1), Ow 1 iv (is.map kpt), Ow 1 kv (ks.map fun k => pt k.root)] ++ (ks.take j).map Tr.asr) ++ ks[j].asr :: ((ks.drop (j + 1)).map Tr.asr ++ F)) := by
        have e : Tr.parts p iv kv is ks ++ F = ([pto p (.row 2 [[iv, kv]] 1), Ow 1 iv (is.map kpt), Ow 1 kv (ks.map fun k => pt k.root)] ++ (ks.take j).map Tr.asr) ++ ks[j].asr :: ((ks.drop (j + 1)).map Tr.asr ++ F) := by
          have em : ks.map Tr.asr = (ks.take j).map Tr.asr ++ ks[j].asr :: (ks.drop (j + 1)).map Tr.asr := by
            conv => lhs; rw [eks]
            rw [List.map_append, List.map_cons]
          unfold Tr.parts
          rw [em]
          simp only [List.cons_append, List.nil_append, List.append_assoc]
        rw [← e]; exact hs
      have := g.mid
      rw [List.append_assoc] at this
      exact this
    have hnm := List.getElem_mem hjk
    have back : ∀ (t' : Tr) h, t'.root = ks[j].root → sat h (t'.asr :: ([pto p (.row 2 [[iv, kv]] 1), Ow 1 iv (is.map kpt), Ow 1 kv (ks.map fun k => pt k.root)] ++ ((ks.take j).map Tr.asr ++ ((ks.drop (j + 1)).map Tr.asr ++ F)))) →
        sat h (Tr.parts p iv kv is (ks.set j t') ++ F) := by
      intro t' h hroot g
      rw [← List.append_assoc] at g
      have g2 := g.unmid
      have er : (ks.set j t').map (fun k => pt k.root) = ks.map fun k => pt k.root := by
        rw [List.map_set, hroot]
        apply List.ext_getElem (by simp)
        intro i h1 h2
        rw [List.getElem_set]
        split
        · rename_i hij; subst hij; simp
        · rfl
      unfold Tr.parts
      rw [er, List.set_eq_take_append_cons_drop, if_pos hjk]
      simpa using g2
    refine call_use (ih ks[j] x (o3 _ hnm).1 (weave_srt2 _ _ _ (by simpa using o2) (List.mem_map_of_mem hnm) hS) hq (fun h hs => fun y hy => ?_) (fun h hs => ?_)) ?_
    · have := hs.right.right.right
      exact hI h this y (mem_weave2 _ _ ks[j].flat (by simpa using o2) (List.mem_map_of_mem hnm) hy)
    · exact hX h hs.right.right.right
    · intro r h hr
      rcases hr with ⟨t', rfl, okt, hroot, hfl, hs⟩ | ⟨t1, m, t2, rfl, ok1, ok2, hroot, hfl, hne1, hne2, hs⟩
      · have g := back t' h hroot hs
        simp (disch := omega) only [go_sem, simprocAttr]
        have hwf : weave ((ks.set j t').map Tr.flat) is = insK x (weave (ks.map Tr.flat) is) := by
          rw [hins, List.map_set, w2, hfl]
        rw [← hwf]
        refine call_use (finish (d := d + 1) (ks := ks.set j t') (by omega) ⟨o0, by simpa using o2, fun k hk' => ?_⟩ g) ?_
        · rcases List.mem_or_eq_of_mem_set hk' with h1 | h1
          · exact o3 k h1
          · subst h1
            refine ⟨okt, ?_⟩
            rw [hfl]; intro h0
            have := congrArg List.length h0
            rw [insK_len] at this; simp at this
        · intro r h hr
          rcases hr with ⟨t', rfl, hr⟩ | ⟨t1, m, t2, rfl, hr⟩
          · simp (disch := omega) only [go_sem, simprocAttr]
            exact .inl ⟨t', rfl, hr⟩
          · simp (disch := omega) only [go_sem, simprocAttr]
            exact .inr ⟨t1, m, t2, rfl, hr⟩
      · have g0 : sat h (pto p (.row 2 [[iv, kv]] 1) :: Ow 1 iv (is.map kpt) :: Ow 1 kv (ks.map fun k => pt k.root) :: t1.asr :: t2.asr :: ((ks.take j).map Tr.asr ++ ((ks.drop (j + 1)).map Tr.asr ++ F))) :=
          hs.p1.p1.p4.p4.p4
        simp (disch := omega) only [go_sem, simprocAttr, g0.at]
        have hs := g0
        refine new_opq hs fun bx h hs => ?_
        simp (disch := omega) only [go_sem, simprocAttr, hs.at]
        rw [kpt_pt] at hs
        refine call_use (ins_item (x := m.1) (i := j) (hs.p3.p2.p2.p3) (by simpa using hp.le) (by simp; omega) (Nat.le_refl _)) ?_
        intro iv' h hs
        have hc := hs.els.cells
        have ha := hs.els.atom
        have g := hs.p1
        simp (disch := omega) only [go_sem, simprocAttr, g.at, hc, ha]
        have hj1 : (j : Int) + 1 = ((j + 1 : Nat) : Int) := rfl
        have hs := g.set (o' := .row 2 [[iv', kv]] 1)
        simp (disch := omega) only [go_sem, simprocAttr, hs.at, hj1]
        refine new_opq hs fun b2 h hs => ?_
        simp (disch := omega) only [go_sem, simprocAttr, hs.at]
        rw [rt_pt] at hs
        refine call_use (ins_node (x := t2.root) (i := j + 1) (hs.p2.p2.p2.p3) (by simp; omega) (by simp; omega) (Nat.le_refl _)) ?_
        intro kv' h hs
        have hc := hs.els.cells
        have ha := hs.els.atom
        have g := hs.p1
        simp (disch := omega) only [go_sem, simprocAttr, g.at, hc, ha]
        have g2 := g.set (o' := .row 2 [[iv', kv']] 1)
        have e1 : ((is.map fun x => x.1).take j ++ m.1 :: (is.map fun x => x.1).drop j).map pt = (is.take j ++ m :: is.drop j).map kpt := by
          rw [kpt_pt]; simp
        have e2 : ((ks.map Tr.root).take (j + 1) ++ t2.root :: (ks.map Tr.root).drop (j + 1)).map pt = (ks.take j ++ t1 :: t2 :: ks.drop (j + 1)).map fun k => pt k.root := by
          have : (ks.map Tr.root).take (j + 1) = (ks.take j).map Tr.root ++ [t1.root] := by
            rw [List.take_succ_eq_append_getElem (by simpa using hjk), hroot]; simp
          rw [this, rt_pt]; simp
        rw [e1, e2] at g2
        generalize h.set p (.row 2 [[iv', kv']] 1) = hh at g2 ⊢
        have g3 : sat hh (Tr.parts p iv' kv' (is.take j ++ m :: is.drop j) (ks.take j ++ t1 :: t2 :: ks.drop (j + 1)) ++ F) := by
          have e3 : Tr.parts p iv' kv' (is.take j ++ m :: is.drop j) (ks.take j ++ t1 :: t2 :: ks.drop (j + 1)) ++ F =
              [pto p (.row 2 [[iv', kv']] 1), Ow 1 iv' ((is.take j ++ m :: is.drop j).map kpt), Ow 1 kv' ((ks.take j ++ t1 :: t2 :: ks.drop (j + 1)).map fun k => pt k.root)] ++ ((ks.take j).map Tr.asr ++ ([t1.asr, t2.asr] ++ ((ks.drop (j + 1)).map Tr.asr ++ F))) := by
            unfold Tr.parts
            simp only [List.map_append, List.map_cons, List.cons_append, List.nil_append, List.append_assoc]
          rw [e3]
          refine sat.tls (l := [t1.asr, t2.asr] ++ ((ks.take j).map Tr.asr ++ ((ks.drop (j + 1)).map Tr.asr ++ F))) (g2.p4.p4.p3.p4.p4) fun h g => g.swapl
        have hwf : weave ((ks.take j ++ t1 :: t2 :: ks.drop (j + 1)).map Tr.flat) (is.take j ++ m :: is.drop j) = insK x (weave (ks.map Tr.flat) is) := by
          have := w3 t1.flat m t2.flat
          rw [hins, ← hfl]
          simp only [List.map_append, List.map_cons, List.map_take, List.map_drop]
          rw [this]; simp
        rw [← hwf]
        refine call_use (finish (d := d + 1) (by simp; have := hp.le; omega) ⟨by simp; omega, by simp; have := hp.le; omega, fun k hk' => ?_⟩ g3) ?_
        · rcases List.mem_append.1 hk' with h1 | h1
          · exact o3 k (List.mem_of_mem_take h1)
          · rcases List.mem_cons.1 h1 with h1 | h1
            · subst h1; exact ⟨ok1, hne1⟩
            · rcases List.mem_cons.1 h1 with h1 | h1
              · subst h1; exact ⟨ok2, hne2⟩
              · exact o3 k (List.mem_of_mem_drop h1)
        · intro r h hr
          rcases hr with ⟨t', rfl, hr⟩ | ⟨t1, m, t2, rfl, hr⟩
          · simp (disch := omega) only [go_sem, simprocAttr]
            exact .inl ⟨t', rfl, hr⟩
          · simp (disch := omega) only [go_sem, simprocAttr]
            exact .inr ⟨t1, m, t2, rfl, hr⟩
end
end Go.Proofs.Ytaioncbpfckhaaa
/- add, New, Len, Height. -/
set_option linter.unusedSimpArgs false
set_option linter.unusedVariables false
set_option maxRecDepth 10000
namespace Go.Proofs.Ytaioncbpfckhaaa
open Go.Hz

section
variable {h : Hp} {F : List Asr}
theorem ixNew (hs : sat h F) : Triple Try.prog 26 [] h (fun r h => ∃ b, r = .ptr b 2 0 0 ∧ sat h (IxQ b [] :: F)) := by
  refine t26 (Nat.le_of_ble_eq_true rfl) ?_
  simp (disch := omega) only [F26, go_sem, simprocAttr]
  refine new_opq hs fun b h hs => ?_
  simp (disch := omega) only [go_sem, simprocAttr, hs.at]
  exact ⟨b, rfl, sat_ixq.2 ⟨none, rfl, hs.tl fun _ g => g.add trivial⟩⟩

theorem eqN_root (r : Option (Nat × Tr)) : eqN .ptr (rootV r) .nilp = some r.isNone := by
  cases r <;> rfl
theorem ixAdd {b : Nat} {its : List Ixt} {x : Ixt} (hs : sat h (IxQ b its :: x.p :: F)) (hS : SrtI its) (hx : ∀ y ∈ its, y.key ≠ x.key) (hl : its.length ≤ 1000000000) :
    Triple Try.prog 50 [.ptr b 2 0 0, .ptr x.a 2 0 0] h (fun r h => sat h (IxQ b (insIt x its) :: F)) := by
  obtain ⟨r, hok, g⟩ := sat_ixq.1 hs
  refine t50 (Nat.le_of_ble_eq_true rfl) ?_
  simp (disch := omega) only [F50, go_sem, simprocAttr]
  have h1 := g.at
  have en : ((its.length : Int) + 1) = ((its.length + 1 : Nat) : Int) := rfl
  have g1 := g.set (o' := .row 2 [[rootV r, .int .i64 ((its.length + 1 : Nat) : Int)]] 1)
  have hw : IntKind.i64.wrap ((its.length + 1 : Nat) : Int) = ((its.length + 1 : Nat) : Int) := wrap_i64_go (by omega) (by omega)
  simp (disch := omega) only [go_sem, simprocAttr, h1, en, hw, eqN_root]
  refine cnd_join (Q := fun e h => ∃ d t, OKd d t ∧ t.flat = its.map Ixt.kp ∧ sat h (pto b (.row 2 [[.ptr t.root 2 0 0, .int .i64 ((its.length + 1 : Nat) : Int)]] 1) :: t.asr :: (its.map Ixt.p ++ x.p :: F)) ∧ (e 0 = .ptr b 2 0 0 ∧ e 1 = .ptr x.a 2 0 0)) ?_ ?_
  · cases r with
    | none =>
      have hi0 : its.map Ixt.kp = [] := hok
      simp only [rootV] at g1 ⊢
      simp (disch := omega) only [go_sem, simprocAttr, Option.isNone_none]
      have hs := g1
      refine new_opq hs fun p h hs => ?_
      simp (disch := omega) only [go_sem, simprocAttr, hs.at]
      have g2 := hs.p1.set (o' := .row 2 [[.ptr p 2 0 0, .int .i64 ((its.length + 1 : Nat) : Int)]] 1)
      simp (disch := omega) only [go_sem, simprocAttr, hs.p1.at]
      refine ⟨0, .nd p .nils .nils [] [], ⟨by simp, rfl⟩, by rw [hi0, Tr.flat_nd]; rfl, ?_⟩
      refine g2.tl fun h g => sat_nd.2 ?_
      refine g.tl fun h g => ?_
      exact (g.drop.add ow_nil).add ow_nil
    | some dt =>
      obtain ⟨d, t⟩ := dt
      simp (disch := omega) only [go_sem, simprocAttr, Option.isNone_some]
      exact ⟨d, t, hok.1, hok.2, g1⟩
  · rintro e h ⟨d, t, ok, hfl, hs, he⟩
    simp (disch := omega) only [go_sem, simprocAttr, he, hs.at]
    have hS' : Srt t.flat := by rw [hfl]; exact hS
    refine call_use (insert d t x.kp ok hS' (hs.p1) (fun h hs => ?_) (fun h hs => ⟨x.mv, ?_⟩)) ?_
    · rw [hfl]; exact IR.of hs.drop
    · exact ItP.k hs.drop.mid
    · rintro r h (⟨t', rfl, ok', hroot, hfl', hs⟩ | ⟨t1, m, t2, rfl, ok1, ok2, hroot, hfl', hne1, hne2, hs⟩)
      · simp (disch := omega) only [go_sem, simprocAttr, he]
        refine sat_ixq.2 ⟨some (d, t'), ⟨ok', ?_⟩, ?_⟩
        · rw [hfl', insIt_kp, hfl]
        · rw [insIt_len]
          simp only [rootV, rootA, hroot]
          refine hs.p1.tl fun h g => g.tl fun h g => ?_
          have g2 := g.mid
          exact sat.permMap (l := x :: its) (insIt_perm x its).symm g2
      · simp (disch := omega) only [go_sem, simprocAttr, he]
        refine new_opq hs fun bi h hs => ?_
        simp (disch := omega) only [go_sem, simprocAttr, hs.at]
        have hb := hs.p2.p2.p2.p3.at
        simp (disch := omega) only [go_sem, simprocAttr, he, hb]
        refine new_opq hs fun bk h hs => ?_
        simp (disch := omega) only [go_sem, simprocAttr, hs.at]
        refine new_opq hs fun p h hs => ?_
        simp (disch := omega) only [go_sem, simprocAttr, hs.at]
        have g2 := (hs.p4.p4.p4.p4.p4.p5).set (o' := .row 2 [[.ptr p 2 0 0, .int .i64 ((its.length + 1 : Nat) : Int)]] 1)
        simp (disch := omega) only [go_sem, simprocAttr, hs.p4.p4.p4.p4.p4.p5.at]
        refine sat_ixq.2 ⟨some (d + 1, .nd p (.arr bi 1 0 1 1) (.arr bk 1 0 2 2) [m] [t1, t2]), ⟨⟨by simp, by simp, by simp, ?_⟩, ?_⟩, ?_⟩
        · intro k hk
          rcases List.mem_cons.1 hk with rfl | hk
          · exact ⟨ok1, hne1⟩
          · simp at hk; subst hk; exact ⟨ok2, hne2⟩
        · rw [Tr.flat_nd, insIt_kp, ← hfl, ← hfl']; simp [weave]
        · rw [insIt_len]
          refine g2.tl fun h g => ?_
          refine sat_nd.2 ?_
          have g3 : sat h ([pto p (.row 2 [[.arr bi 1 0 1 1, .arr bk 1 0 2 2]] 1), pto bi (.row 1 ([m].map kpt) 1), pto bk (.row 1 ([t1, t2].map fun k => pt k.root) 2), t1.asr, t2.asr] ++ (its.map Ixt.p ++ x.p :: F)) := by
            rw [hroot.symm] at g
            exact g.p4.p4.p3.p4.p4
          have g4 := g3.tls fun h g => sat.permMap (l := x :: its) (insIt_perm x its).symm g.mid
          exact g4.tl fun h g => (g.ow (cap := 1) (by simp)).tl fun h g => g.ow (cap := 2) (by simp)
end
end Go.Proofs.Ytaioncbpfckhaaa
/- find, Marks, Put, by what the index says. -/
set_option linter.unusedSimpArgs false
set_option linter.unusedVariables false
set_option maxRecDepth 10000
namespace Go.Proofs.Ytaioncbpfckhaaa
open Go.Hz

section
variable {h : Hp} {F : List Asr}
theorem ixFind {b : Nat} {its : List Ixt} {key : Key} (hs : sat h (IxQ b its :: F)) (hS : SrtI its) :
    Triple Try.prog 51 [.ptr b 2 0 0, .str key] h (fun r h => r = findV (its.map Ixt.kp) key ∧ sat h (IxQ b its :: F)) := by
  obtain ⟨r, hok, g⟩ := sat_ixq.1 hs
  refine (find g (fun h hs => hs.at) (l := its.map Ixt.kp) ?_ hS).mono ?_
  · cases r with
    | none => exact .inl ⟨rfl, hok⟩
    | some dt =>
      obtain ⟨d, t⟩ := dt
      refine .inr ⟨d, t, rfl, hok.2, hok.1, fun h hs => RT.of d t hok.1 hs.drop ?_⟩
      rw [hok.2]; exact IR.of hs.drop.drop
  · rintro r' h ⟨hr, hs⟩
    exact ⟨hr, sat_ixq.2 ⟨r, hok, hs⟩⟩
theorem findV_mid {l1 l2 : List Ixt} {x : Ixt} (hS : SrtI (l1 ++ x :: l2)) : findV ((l1 ++ x :: l2).map Ixt.kp) x.key = .ptr x.a 2 0 0 := by
  unfold findV
  have := findKp_mem (x := x.kp) hS (by simp)
  have h2 : findKp x.key ((l1 ++ x :: l2).map Ixt.kp) = some x.kp := this
  rw [h2]; rfl
theorem findV_none {its : List Ixt} {key : Key} (h : ∀ y ∈ its, y.key ≠ key) : findV (its.map Ixt.kp) key = .nilp := by
  unfold findV
  rw [findKp_none fun x hx => by
    obtain ⟨y, hy, rfl⟩ := List.mem_map.1 hx
    exact h y hy]

theorem putE_in {L : IL} {key : Key} {m : Mk} (c1 : key ≠ []) (c2 : key.length ≤ 100) (c3 : 1 ≤ m.1) {l : Mk} (hg : lastM (getL L key) = l) :
    putE L key m = if m.1 ≤ l.1 then 15 else if m.2 = true ∧ l.2 = true then 2 else 0 := by
  unfold putE
  rw [if_neg (by rintro (h | h | h) <;> first | exact c1 h | omega), hg]

theorem ixPut {b : Nat} {L : IL} {key : Key} {m : Mk} (hs : sat h (IxP b L :: F)) (hw : WfL L) (hl : ∀ x ∈ L, x.2.length ≤ 1000000000) (hn : L.length ≤ 1000000000) (hm : inI m.1) :
    Triple Try.prog 56 [.ptr b 2 0 0, .str key, .agg [.int .i64 m.1, .bool m.2]] h (fun r h => r = .int .i64 (putE L key m) ∧ sat h (IxP b (putL L key m) :: F)) := by
  refine t56 (Nat.le_of_ble_eq_true rfl) ?_
  simp (disch := omega) only [F56, go_sem, simprocAttr]
  refine new_opq hs fun b5 h hs => ?_
  simp (disch := omega) only [go_sem, simprocAttr, hs.at]
  have fin1 : putE L key m ≠ 0 → putL L key m = L := fun h => by simp [putL, h]
  by_cases c1 : key = []
  · subst c1
    have e : putE L [] m = 1 := by simp [putE]
    simp (disch := omega) only [go_sem, simprocAttr]
    rw [e, fin1 (by rw [e]; decide)]
    exact ⟨rfl, hs.drop⟩
  have c1' : (key == ([] : List UInt8)) = false := by rw [beq_eq_false_iff_ne]; exact c1
  by_cases c2 : 100 < key.length
  · have e : putE L key m = 1 := by simp [putE, c2]
    have c2' : decide ((100 : Int) < (key.length : Int)) = true := by simp; omega
    simp (disch := omega) only [go_sem, simprocAttr, c1', c2']
    rw [e, fin1 (by rw [e]; decide)]
    exact ⟨rfl, hs.drop⟩
  have c2' : decide ((100 : Int) < (key.length : Int)) = false := by simp; omega
  by_cases c3 : m.1 < 1
  · have e : putE L key m = 1 := by simp [putE, c3]
    have c3' : decide (m.1 < 1) = true := by simpa using c3
    simp (disch := omega) only [go_sem, simprocAttr, c1', c2', c3', hs.at]
    rw [e, fin1 (by rw [e]; decide)]
    exact ⟨rfl, hs.drop⟩
  have c3' : decide (m.1 < 1) = false := by simpa using c3
  simp (disch := omega) only [go_sem, simprocAttr, c1', c2', c3', hs.at]
  obtain ⟨its, hL, hq⟩ := sat_ixp.1 hs.p1
  have hS := SrtI.kv.2 (hL ▸ hw.1)
  refine call_use (ixFind (key := key) hq hS) ?_
  rintro r h ⟨hr, hs⟩
  subst hr
  rcases kv_cut (its := its) key with ⟨l1, x, l2, rfl, rfl⟩ | hnk
  · rw [findV_mid hS]
    have hLe : L = l1.map Ixt.kv ++ (x.key, x.ms) :: l2.map Ixt.kv := by rw [← hL]; simp [Ixt.kv]
    have hg : getL L x.key = x.ms := by rw [hLe, getL_mid (by rw [← hLe]; exact hw.1)]
    have hne : x.ms ≠ [] := (hw.2 (x.key, x.ms) (by rw [hLe]; simp)).1
    have hxl : x.ms.length ≤ 1000000000 := hl (x.key, x.ms) (by rw [hLe]; simp)
    obtain ⟨R, g, back⟩ := ixq_open hs
    have hs := sat_it.1 g
    have hpos : 0 < x.ms.length := List.length_pos_iff.2 hne
    have hlast : (x.ms.map mkE)[x.ms.length - 1]? = some (mkE (x.ms.getLast hne)) := by
      rw [List.getElem?_map, List.getLast_eq_getElem, List.getElem?_eq_getElem (by omega)]; rfl
    have hlm : lastM (getL L x.key) = x.ms.getLast hne := by rw [hg, lastM, List.getLast?_eq_some_getLast hne]; rfl
    have hE := putE_in (m := m) c1 (by omega) (by omega) hlm
    generalize x.ms.getLast hne = la at hlast hlm hE
    obtain ⟨bm, cm, hmv, hbm, hcm⟩ := hs.drop.owr.row hlast
    rw [List.length_map] at hmv
    have hlen := hs.drop.owr.len
    rw [List.length_map] at hlen
    have e1 : ((x.ms.length : Int) - 1) = ((x.ms.length - 1 : Nat) : Int) := by omega
    have hia : iaA 2 (.arr bm 2 0 x.ms.length cm) (.int .i64 ((x.ms.length - 1 : Nat) : Int)) = some (.ptr bm 2 (x.ms.length - 1) 0) := by
      rw [iaA_go (by omega) (by omega)]; simp
    simp (disch := omega) only [go_sem, simprocAttr]
    refine new_opq hs fun b8 h hs => ?_
    simp (disch := omega) only [go_sem, simprocAttr, hs.at]
    have hsB := hs.set (o' := .row 2 [[.int .i64 la.1, .bool la.2]] 1)
    have hs := hs.set (o' := .row 2 [[.int .i64 0, .bool true]] 1)
    have hbm2 := (hs.p1.p1.p2)
    rw [show x.m = Ow 2 (.arr bm 2 0 x.ms.length cm) (x.ms.map mkE) by unfold Ixt.m; rw [hmv]] at hbm2
    have hbm3 := (hbm2.arr).1.at
    simp (disch := omega) only [go_sem, simprocAttr, hs.p1.at, hlen, hmv, e1, hia, hbm3, hlast, mkE, hs.at]
    have hb5 := (hsB.p3.p3.p3.p3.p4).at
    simp (disch := omega) only [go_sem, simprocAttr, hb5]
    by_cases t1 : m.1 ≤ la.1
    · have t1' : decide (m.1 ≤ la.1) = true := by simpa using t1
      have e : putE L x.key m = 15 := by rw [hE, if_pos t1]
      simp (disch := omega) only [go_sem, simprocAttr, t1']
      rw [e, fin1 (by rw [e]; decide)]
      refine ⟨rfl, ?_⟩
      have g := (hsB.drop.p3.p3.p3.p3).d3
      exact sat_ixp.2 ⟨_, hL, back x _ F rfl rfl (sat_it.2 g)⟩
    have t1' : decide (m.1 ≤ la.1) = false := by simpa using t1
    simp (disch := omega) only [go_sem, simprocAttr, t1', hb5]
    by_cases t2 : m.2 = true ∧ la.2 = true
    · have e : putE L x.key m = 2 := by rw [hE, if_neg t1, if_pos t2]
      simp (disch := omega) only [go_sem, simprocAttr, t2.1, t2.2, hsB.at]
      rw [e, fin1 (by rw [e]; decide)]
      refine ⟨rfl, ?_⟩
      have g := (hsB.drop.p3.p3.p3.p3).d3
      rw [t2.2] at g
      exact sat_ixp.2 ⟨_, hL, back x _ F rfl rfl (sat_it.2 g)⟩
    have e : putE L x.key m = 0 := by rw [hE, if_neg t1, if_neg t2]
    have hput : putL L x.key m = (l1 ++ ⟨x.a, x.key, x.mv, x.ms ++ [m]⟩ :: l2).map Ixt.kv := by
      rw [putL, if_pos e, hg, hLe, layL_mid (by rw [← hLe]; exact hw.1)]; simp [Ixt.kv]
    rw [e, hput]
    have hy2 : ∀ h bn, h bn = some (.row 2 [mkE m] 1) → srcA 2 h (.arr bn 2 0 1 1) = some [mkE m] := fun h bn hh => src_one hh
    have hxk : x.k = pto x.a (.row 2 [[.str x.key, x.mv]] 1) := rfl
    have hxm : x.m = Ow 2 x.mv (x.ms.map mkE) := rfl
    obtain ⟨mr, md⟩ := m
    obtain ⟨lr, ld⟩ := la
    have t3 : md = false ∨ (md = true ∧ ld = false) := by
      cases md
      · exact .inl rfl
      · right; refine ⟨rfl, ?_⟩
        cases ld
        · rfl
        · exact absurd ⟨rfl, rfl⟩ t2
    rcases t3 with rfl | ⟨rfl, rfl⟩
    · simp (disch := omega) only [go_sem, simprocAttr, hb5, hsB.p1.at, hsB.at]
      have hs := hsB.p3.p3.p3.p3.p4
      refine new_opq hs fun bn h hs => ?_
      simp (disch := omega) only [go_sem, simprocAttr, hs.at]
      refine app_sat (es := x.ms.map mkE) (s := 2) (v := x.mv) (F := x.k :: R :: F) (hs.drop.drop.drop.p2.p1.p2.imp fun _ g => g) (hy2 _ bn hs.at) (atoms_mkE [_]) (by simp; omega) fun v' h hs hc' ha' => ?_
      simp (disch := omega) only [go_sem, simprocAttr, hc', ha', hs.p1.at]
      have g := hs.p1.set (o' := .row 2 [[.str x.key, v']] 1)
      refine sat_ixp.2 ⟨l1 ++ ⟨x.a, x.key, v', x.ms ++ [(mr, false)]⟩ :: l2, by simp [Ixt.kv], back ⟨x.a, x.key, v', x.ms ++ [(mr, false)]⟩ _ F rfl rfl (sat_it.2 ?_)⟩
      simpa [Ixt.k, Ixt.m, mkE] using g
    · simp (disch := omega) only [go_sem, simprocAttr, hb5, hsB.p1.at, hsB.at]
      have hs := hsB.p3.p3.p3.p3.p4
      refine new_opq hs fun bn h hs => ?_
      simp (disch := omega) only [go_sem, simprocAttr, hs.at]
      refine app_sat (es := x.ms.map mkE) (s := 2) (v := x.mv) (F := x.k :: R :: F) (hs.drop.drop.drop.p2.p1.p2.imp fun _ g => g) (hy2 _ bn hs.at) (atoms_mkE [_]) (by simp; omega) fun v' h hs hc' ha' => ?_
      simp (disch := omega) only [go_sem, simprocAttr, hc', ha', hs.p1.at]
      have g := hs.p1.set (o' := .row 2 [[.str x.key, v']] 1)
      refine sat_ixp.2 ⟨l1 ++ ⟨x.a, x.key, v', x.ms ++ [(mr, true)]⟩ :: l2, by simp [Ixt.kv], back ⟨x.a, x.key, v', x.ms ++ [(mr, true)]⟩ _ F rfl rfl (sat_it.2 ?_)⟩
      simpa [Ixt.k, Ixt.m, mkE] using g
  · rw [findV_none hnk]
    have hLk : ∀ y ∈ L, y.1 ≠ key := fun y hy => by
      rw [← hL] at hy
      obtain ⟨z, hz, rfl⟩ := List.mem_map.1 hy
      exact hnk z hz
    have hg : getL L key = [] := getL_none hLk
    have hlm : lastM (getL L key) = (0, true) := by rw [hg]; rfl
    have hE := putE_in (m := m) c1 (by omega) (by omega) hlm
    obtain ⟨mr, md⟩ := m
    simp (disch := omega) only [go_sem, simprocAttr]
    refine new_opq hs fun b8 h hs => ?_
    simp (disch := omega) only [go_sem, simprocAttr, hs.at]
    have hsB := hs.set (o' := .row 2 [[.int .i64 0, .bool true]] 1)
    have hb5 := (hsB.p1.p1.p2).at
    have t1' : decide (mr ≤ 0) = false := by simp at c3 ⊢; omega
    simp (disch := omega) only [go_sem, simprocAttr, hb5, t1']
    have t1 : ¬ mr ≤ 0 := by simpa using t1'
    cases md
    · have e : putE L key (mr, false) = 0 := by rw [hE, if_neg t1, if_neg (by simp)]
      simp (disch := omega) only [go_sem, simprocAttr, hb5]
      have hs := hsB.p1.p1.p2
      refine new_opq hs fun bn h hs => ?_
      simp (disch := omega) only [go_sem, simprocAttr, hs.at]
      refine new_opq hs fun ba h hs => ?_
      simp (disch := omega) only [go_sem, simprocAttr, hs.at]
      have hs := hs.p2.drop.p2.drop.p1.p1.p2
      have hx : ∀ y ∈ its, y.key ≠ (Ixt.mk ba key (.arr bn 2 0 1 1) [(mr, false)]).key := hnk
      have hq : sat h (IxQ b its :: (Ixt.mk ba key (.arr bn 2 0 1 1) [(mr, false)]).p :: F) :=
        hs.tl fun h g => sat_it.2 (g.tl fun h g => g.ow (by simp))
      refine call_use (ixAdd hq hS hx (by rw [← hL, List.length_map] at hn; exact hn)) ?_
      intro r h hs
      simp (disch := omega) only [go_sem, simprocAttr]
      rw [e]
      refine ⟨rfl, sat_ixp.2 ⟨_, ?_, hs⟩⟩
      rw [putL, if_pos e, ← hL, ← layL_new hS hx, hL, hg]; rfl
    · have e : putE L key (mr, true) = 2 := by rw [hE, if_neg t1, if_pos ⟨rfl, rfl⟩]
      simp (disch := omega) only [go_sem, simprocAttr, hsB.at]
      rw [e, fin1 (by rw [e]; decide)]
      exact ⟨rfl, sat_ixp.2 ⟨_, hL, (hsB.p1).d1.d1⟩⟩
end
end Go.Proofs.Ytaioncbpfckhaaa
/- Keys; trimmed. -/
set_option linter.unusedSimpArgs false
set_option linter.unusedVariables false
set_option maxRecDepth 10000
namespace Go.Proofs.Ytaioncbpfckhaaa
open Go.Hz

section
variable {h : Hp} {F : List Asr}
theorem clone_mark {b off len cap rc : Nat} {ms : List Mk} (hs : sat h (pto b (.row 2 (ms.map mkE) rc) :: F)) (h1 : off + len ≤ ms.length) (h2 : ms.length ≤ 1000000000) :
    Triple Try.prog 60 [.arr b 2 off len cap] h (fun r h => sat h (Ow 2 r (((ms.drop off).take len).map mkE) :: pto b (.row 2 (ms.map mkE) rc) :: F)) := by
  refine t60 (Nat.le_of_ble_eq_true rfl) ?_
  simp (disch := omega) only [F60, go_sem, simprocAttr]
  refine new_opq hs fun n h hs => ?_
  simp (disch := omega) only [go_sem, simprocAttr, hs.at]
  have hy : srcA 2 h (.arr b 2 off len cap) = some (((ms.drop off).take len).map mkE) := by
    have := src_part (c := cap) hs.p1 (off := off) (len := len) (by simpa using h1)
    rw [this]; simp
  refine app_sat (hs.ow (by simp)) hy (atoms_mkE _) (by simp; omega) fun v' h hs hc' ha' => ?_
  simp (disch := omega) only [go_sem, simprocAttr]
  simpa using hs
end
end Go.Proofs.Ytaioncbpfckhaaa
/- trimmed, Trim, Height. -/
set_option linter.unusedSimpArgs false
set_option linter.unusedVariables false
set_option maxRecDepth 10000
namespace Go.Proofs.Ytaioncbpfckhaaa
open Go.Hz

section
variable {h : Hp} {F : List Asr}
theorem trimmed {mv : AV} {ms : List Mk} {rev : Int} (hs : sat h (Ow 2 mv (ms.map mkE) :: F)) (hne : ms ≠ []) (hr : RisM ms) (hl : ms.length ≤ 1000000000) :
    Triple Try.prog 49 [mv, .int .i64 rev] h (fun r h => sat h (Ow 2 r ((trimM ms rev).map mkE) :: F)) := by
  obtain ⟨m0, hm0⟩ : ∃ m, ms[0]? = some m := ⟨_, List.getElem?_eq_getElem (List.length_pos_iff.2 hne)⟩
  obtain ⟨b, cap, rfl, g, hc⟩ : ∃ b cap, mv = .arr b 2 0 ms.length cap ∧ sat h (pto b (.row 2 (ms.map mkE) cap) :: F) ∧ ms.length ≤ cap := by
    rcases hs.cases with ⟨_, h0, _⟩ | ⟨b, cap, hv, g, hc⟩
    · exact absurd (by simpa using h0) hne
    · rw [List.length_map] at hv hc; exact ⟨b, cap, hv, g, hc⟩
  clear hs
  refine t49 (Nat.le_of_ble_eq_true rfl) ?_
  simp (disch := omega) only [F49, go_sem, simprocAttr]
  have hs := g
  refine new_opq hs fun b2 h hs => ?_
  simp (disch := omega) only [go_sem, simprocAttr, hs.at]
  refine new_opq hs fun b3 h hs => ?_
  simp (disch := omega) only [go_sem, simprocAttr, hs.at]
  have hb2 := hs.p1.at
  simp (disch := omega) only [go_sem, simprocAttr, hb2]
  refine call_use (search (N := ms.length) (f := 59) (caps := [.ptr b2 1 0 0, .ptr b3 1 0 0]) (pr := fun i => match ms[i]? with | some m => decide (rev < m.1) | none => true) hs (by omega) rfl ?_ ?_) ?_
  · intro i j hij hj hp
    have hx := List.getElem?_eq_getElem hj
    have hy := List.getElem?_eq_getElem (Nat.lt_of_le_of_lt hij hj)
    simp only [hx, hy, decide_eq_true_eq] at hp ⊢
    by_cases hij' : i = j
    · subst hij'; exact hp
    · have := hr.mono (by omega) hy hx
      omega
  · intro i h hi hs
    have hx := List.getElem?_eq_getElem hi
    have hrow : (ms.map mkE)[i]? = some (mkE ms[i]) := by simp [hx]
    have hia : iaA 2 (.arr b 2 0 ms.length cap) (.int .i64 i) = some (.ptr b 2 i 0) := by rw [iaA_go (by omega) (by omega)]; simp
    refine t59 (Nat.le_of_ble_eq_true rfl) ?_
    simp (disch := omega) only [F59, go_sem, simprocAttr]
    have hb3 := hs.at
    have hb2 := hs.p1.at
    have hb := hs.p2.at
    simp (disch := omega) only [go_sem, simprocAttr, hb2, hb3, hia, hb, hrow, mkE]
    simp only [hx]
    exact ⟨trivial, hs⟩
  · rintro r h ⟨k, rfl, hk, hlo, hhi, hs⟩
    have hcnt : cntM ms rev = k := cntM_eq hk (fun i m hi hik => by
      have := hlo i hik
      simp only [hi, decide_eq_false_iff_not] at this; omega) (fun i m hi hik => by
      have := hhi i hik (List.getElem?_eq_some_iff.1 hi).1
      simpa [hi] using this)
    have hb2 := hs.p1.at
    simp (disch := omega) only [go_sem, simprocAttr, hb2]
    by_cases hk0 : k = 0
    · have c1 : decide ((k : Int) - 1 < 0) = true := by simp; omega
      simp (disch := omega) only [go_sem, simprocAttr, c1, hb2]
      rw [trimM, if_pos (by rw [hcnt, hk0])]
      have := (hs.drop.drop).ow (by simpa using hc)
      rw [List.length_map] at this
      exact this
    · have c1 : decide (((k - 1 : Nat) : Int) < 0) = false := by simp
      have e1 : ((k : Int) - 1) = ((k - 1 : Nat) : Int) := by omega
      have hx := List.getElem?_eq_getElem (l := ms) (i := k - 1) (by omega)
      have hrow : (ms.map mkE)[k - 1]? = some (mkE ms[k - 1]) := by simp [hx]
      have hia : iaA 2 (.arr b 2 0 ms.length cap) (.int .i64 ((k - 1 : Nat) : Int)) = some (.ptr b 2 (k - 1) 0) := by rw [iaA_go (by omega) (by omega)]; simp
      have hb := hs.p2.at
      simp (disch := omega) only [go_sem, simprocAttr, c1, hb2, e1, hia, hb, hrow, mkE]
      have ht : trimM ms rev = ms.drop (if ms[k - 1].2 = true then k else k - 1) := by
        rw [trimM, if_neg (by rw [hcnt]; exact hk0), hcnt, List.getD_eq_getElem?_getD, hx]; rfl
      generalize ha : (if ms[k - 1].2 = true then k else k - 1) = a at ht
      have hal : a ≤ ms.length := by subst ha; split <;> omega
      refine cnd_join (Q := fun e' h' => h' = h ∧ (e' 2 = .ptr b2 1 0 0 ∧ e' 5 = .int .i64 (a : Nat))) ?_ ?_
      · cases hd : ms[k - 1].2
        · rw [hd] at ha
          subst ha
          simp (disch := omega) only [go_sem, simprocAttr]
        · rw [hd] at ha
          subst ha
          have e2 : ((k - 1 : Nat) : Int) + 1 = (k : Int) := by omega
          simp (disch := omega) only [go_sem, simprocAttr, e2]
      · rintro e h' ⟨rfl, he⟩
        simp (disch := omega) only [go_sem, simprocAttr, he, hb2, slcL_lo]
        refine call_use (clone_mark (off := a) (len := ms.length - a) (hs.drop.drop) (by omega) hl) ?_
        intro r h hs
        simp (disch := omega) only [go_sem, simprocAttr]
        rw [ht]
        have := hs.d1
        rw [List.take_of_length_le (by simp)] at this
        exact this

end
end Go.Proofs.Ytaioncbpfckhaaa
/- Height. -/
set_option linter.unusedSimpArgs false
set_option linter.unusedVariables false
set_option maxRecDepth 10000
namespace Go.Proofs.Ytaioncbpfckhaaa
open Go.Hz

section
variable {h : Hp} {F : List Asr}
end
end Go.Proofs.Ytaioncbpfckhaaa
/- The store: a key at a revision. -/
set_option linter.unusedSimpArgs false
set_option linter.unusedVariables false
set_option maxRecDepth 10000
namespace Go.Proofs.Ytaioncbpfckhaaa
open Go.Hz

abbrev tp : Nat := 108
abbrev td : Nat := 106
abbrev StP (s : Nat) (A : Sto) (o : AV) : Asr := MvP tp td s A o

section
variable {h : Hp} {F : List Asr} {s : Nat} {A : Sto} {o : AV}

theorem putKey {kv : Kv} (hs : sat h F) : Triple Try.prog 120 [.agg (kvC kv)] h (fun r h => r = .str kv.key ∧ sat h F) := by
  refine t120 (Nat.le_of_ble_eq_true rfl) ?_
  simp (disch := omega) only [F120, kvC, go_sem, simprocAttr]
  refine new_opq hs fun a h hs => ?_
  have ha := hs.at
  simp (disch := omega) only [go_sem, simprocAttr, ha]
  exact hs.drop
theorem delKey {k : Key} (hs : sat h F) : Triple Try.prog 119 [.agg [.str k]] h (fun r h => r = .str k ∧ sat h F) := by
  refine t119 (Nat.le_of_ble_eq_true rfl) ?_
  simp (disch := omega) only [F119, go_sem, simprocAttr]
  refine new_opq hs fun a h hs => ?_
  have ha := hs.at
  simp (disch := omega) only [go_sem, simprocAttr, ha]
  exact hs.drop
theorem meth_put : methOf Try.prog tp "horologe/mvcc.key" = some 120 := by kernel_rfl
theorem meth_del : methOf Try.prog td "horologe/mvcc.key" = some 119 := by kernel_rfl
/-- A change's key. -/
theorem inv_key {st : List Fr} {e : Env} {k : Kt} {d : Option Nat} {r : List (AItem × List AItem)} {obl : List AItem} (hs : sat h F) (c : Ch)
    (hk : ∀ h', sat h' F → obls Try.prog obl (e.put d (.str c.key)) h' ∧ runS Try.prog r st (e.put d (.str c.key)) h' k) : effR Try.prog (invE Try.prog "horologe/mvcc.key" (chV tp td c) [] h) obl d r st e k := by
  unfold effR
  cases c with
  | put kv =>
    simp only [invE, chV, meth_put]
    exact ⟨okFn_ok rfl, (putKey hs).mono fun v h' ⟨h1, h2⟩ => by subst h1; exact hk h' h2⟩
  | del k =>
    simp only [invE, chV, meth_del]
    exact ⟨okFn_ok rfl, (delKey hs).mono fun v h' ⟨h1, h2⟩ => by subst h1; exact hk h' h2⟩
theorem mvRev (hs : sat h (StP s A o :: F)) : Triple Try.prog 22 [.ptr s 7 0 0] h (fun r h => r = .int .i64 A.rev ∧ sat h (StP s A o :: F)) := by
  obtain ⟨ix, vm, cv, L, X, hok, hs2⟩ := mvP.1 hs
  have hp := hs2.at
  refine t22 (Nat.le_of_ble_eq_true rfl) ?_
  simp (disch := omega) only [F22, hp, go_sem, simprocAttr]
  exact mvP.2 ⟨ix, vm, cv, L, X, hok, hs2⟩
theorem at1 {b c q : Nat} {vs : List Ver} {rev : Int} {cap : Nat} (hs : sat h (pto b (.row 1 [[.arr q 2 0 vs.length cap]] 1) :: pto c (.row 1 [[.int .i64 rev]] 1) :: pto q (.row 2 (vs.map (verC tp td)) cap) :: F)) {i : Nat} (hi : i < vs.length) :
    Triple Try.prog 65 [.int .i64 i, .ptr b 1 0 0, .ptr c 1 0 0] h (fun r h => r = .bool (decide (vs[i].rev > rev)) ∧ sat h (pto b (.row 1 [[.arr q 2 0 vs.length cap]] 1) :: pto c (.row 1 [[.int .i64 rev]] 1) :: pto q (.row 2 (vs.map (verC tp td)) cap) :: F)) := by
  have hb := hs.at
  have hc := hs.p1.at
  have hq := hs.p2.at
  have hrow : (vs.map (verC tp td))[i]? = some (verC tp td vs[i]) := by simp [hi]
  refine t65 (Nat.le_of_ble_eq_true rfl) ?_
  simp (disch := omega) only [F65, hb, hc, hq, hrow, verC, Int.toNat_natCast, go_sem, simprocAttr]
  exact hs
/-- A key at a revision. -/
theorem mvAt {key : Key} {rev : Int} (hs : sat h (StP s A o :: F)) (hz : A.chs.length ≤ 100000000) : Triple Try.prog 55 [.ptr s 7 0 0, .str key, .int .i64 rev] h (fun r h =>
    r = .tup [.agg (kvC ((vAt (A.vers key) rev).getD kv0)), .bool (vAt (A.vers key) rev).isSome] ∧ sat h (StP s A o :: F)) := by
  obtain ⟨ix, vm, cv, L, X, hok, hs2⟩ := mvP.1 hs
  refine t55 (Nat.le_of_ble_eq_true rfl) ?_
  simp (disch := omega) only [F55, go_sem, simprocAttr]
  refine new_opq hs2 fun a h hs => ?_
  simp (disch := omega) only [go_sem, simprocAttr]
  refine new_opq hs fun b h hs => ?_
  have hp := hs.p2.at
  have back : ∀ {h : Hp} {R : List Asr}, sat h (pto b (.row 6 [kvC kv0] 1) :: R) → True := fun _ => trivial
  have mk : ∀ {h : Hp}, sat h (MvL tp td s ix vm cv o A L X ++ F) → sat h (StP s A o :: F) := fun hs => mvP.2 ⟨ix, vm, cv, L, X, hok, hs⟩
  by_cases hx : ∃ x ∈ X, x.key = key
  · obtain ⟨x, hx, rfl⟩ := hx
    have hl := lk_hit keyOK_str (show sat h (MpA (fun k : Key => AV.str k) Vn.key Vn.v vm X :: _) from hs.p5) hok.2.2.1 hx (ok := false) (z := .nils)
    simp only [Bool.false_eq_true, if_false] at hl
    simp (disch := omega) only [go_sem, simprocAttr, hp, hl]
    refine new_opq hs fun c h hs => ?_
    have hc := hs.at
    obtain ⟨hv1, hv2⟩ := hok.2.2.2.1 x hx
    obtain ⟨l1, l2, rfl⟩ := List.append_of_mem hx
    have hs : sat h ((pto c (.row 1 [[.nils]] 1) :: pto b (.row 6 [kvC kv0] 1) :: pto a (.row 1 [[.int .i64 rev]] 1) :: ([pto s (.row 7 [[.int .i64 A.rev, .int .i64 A.past, .int .i64 A.now.length, .ptr ix 2 0 0, .map vm, cv, o]] 1), IxP ix L, Ow 2 cv (A.chs.map (verC tp td)), MpA (fun k : Key => AV.str k) Vn.key Vn.v vm (l1 ++ x :: l2)] ++ l1.map (VnP tp td))) ++ VnP tp td x :: (l2.map (VnP tp td) ++ F)) := by
      simpa [MvL, kvC, kv0] using hs
    have hs := hs.mid
    have mk2 : ∀ {h : Hp}, sat h (VnP tp td x :: (([pto s (.row 7 [[.int .i64 A.rev, .int .i64 A.past, .int .i64 A.now.length, .ptr ix 2 0 0, .map vm, cv, o]] 1), IxP ix L, Ow 2 cv (A.chs.map (verC tp td)), MpA (fun k : Key => AV.str k) Vn.key Vn.v vm (l1 ++ x :: l2)] ++ l1.map (VnP tp td)) ++ (l2.map (VnP tp td) ++ F))) → sat h (StP s A o :: F) := by
      intro h hs
      refine mk ?_
      have := hs.unmid
      simpa [MvL] using this
    have hs : sat h (VnP tp td x :: pto c (.row 1 [[.nils]] 1) :: pto b (.row 6 [kvC kv0] 1) :: pto a (.row 1 [[.int .i64 rev]] 1) :: (([pto s (.row 7 [[.int .i64 A.rev, .int .i64 A.past, .int .i64 A.now.length, .ptr ix 2 0 0, .map vm, cv, o]] 1), IxP ix L, Ow 2 cv (A.chs.map (verC tp td)), MpA (fun k : Key => AV.str k) Vn.key Vn.v vm (l1 ++ x :: l2)] ++ l1.map (VnP tp td)) ++ (l2.map (VnP tp td) ++ F))) := hs
    generalize (([pto s (.row 7 [[.int .i64 A.rev, .int .i64 A.past, .int .i64 A.now.length, .ptr ix 2 0 0, .map vm, cv, o]] 1), IxP ix L, Ow 2 cv (A.chs.map (verC tp td)), MpA (fun k : Key => AV.str k) Vn.key Vn.v vm (l1 ++ x :: l2)] ++ l1.map (VnP tp td)) ++ (l2.map (VnP tp td) ++ F)) = R at hs mk2
    obtain ⟨xk, xv, vs⟩ := x
    simp only [] at hv1 hv2
    have hris := vers_ris hok.1 xk
    have hlen := vers_le (A := A) xk
    rw [← hv1] at hris hlen
    rcases hs.cases with ⟨_, hn0, _⟩ | ⟨q, cap, hv, hs3, hle⟩
    · exact absurd (List.map_eq_nil_iff.1 hn0) hv2
    simp only [] at hv
    subst hv
    have hll : (vs.map (verC tp td)).length = vs.length := by simp
    simp only [hll] at hs3 hle hc mk2
    have hs4 := hs3.p1.set (o' := .row 1 [[.arr q 2 0 vs.length cap]] 1)
    have hc4 := hs4.at
    simp (disch := omega) only [go_sem, simprocAttr, hc, hc4, hll]
    generalize Hp.set h c _ = h2 at hs4 hc4 ⊢
    refine call_use (search (N := vs.length) (f := 65) (caps := [.ptr c 1 0 0, .ptr a 1 0 0]) (pr := fun i => match vs[i]? with | some w => decide (w.rev > rev) | none => true) hs4.p2.p2.p3.p3 (by omega) rfl ?_ ?_) ?_
    · intro i j hij hj hi
      rw [List.getElem?_eq_getElem (by omega)] at hi ⊢
      have h3 : vs[i].rev > rev := by simpa using hi
      have : vs[i].rev ≤ vs[j].rev := by
        rcases Nat.lt_or_eq_of_le hij with h | h
        · exact Int.le_of_lt (List.pairwise_iff_getElem.1 hris i j (by omega) hj h)
        · subst h; exact Int.le_refl _
      simp; omega
    · intro i h hi hs
      refine (at1 hs hi).mono fun r h ⟨h1, h2⟩ => ⟨?_, h2⟩
      rw [h1, List.getElem?_eq_getElem hi]
    rintro r h ⟨k, hr, hk, hk1, hk2, hs⟩
    subst hr
    have hva := vAt_k (l := vs) (r := rev) hk (fun i hi hik => by
      have := hk1 i hik
      rw [List.getElem?_eq_getElem hi] at this
      have : ¬ vs[i].rev > rev := by simpa using this
      omega) (fun i hi hik => by
      have := hk2 i hik hi
      rw [List.getElem?_eq_getElem hi] at this
      simpa using this)
    have hva2 : vAt (A.vers xk) rev = if hk0 : 0 < k then (vs[k - 1]'(by omega)).c.kv else none := by rw [← hv1]; exact hva
    have hc := hs.at
    have hb := hs.p3.at
    have hq := hs.p2.at
    have mk3 : ∀ {h : Hp}, sat h (pto q (.row 2 (vs.map (verC tp td)) cap) :: R) → sat h (StP s A o :: F) := by
      intro h hs
      have := hs.ow (by simpa using hle)
      rw [hll] at this
      exact mk2 this
    by_cases hk0 : 0 < k
    · rw [dif_pos hk0] at hva2
      have e0 : ((k : Int) == 0) = false := by simp; omega
      have e1 : (k : Int) - 1 = ((k - 1 : Nat) : Int) := by omega
      have hrow : (vs.map (verC tp td))[k - 1]? = some (verC tp td (vs[k - 1]'(by omega))) := by rw [List.getElem?_map, List.getElem?_eq_getElem (by omega)]; rfl
      generalize (vs[k - 1]'(by omega)) = w at hva2 hrow
      rw [hva2]
      obtain ⟨wr, wc⟩ := w
      cases wc with
      | put kv =>
        simp (disch := omega) only [go_sem, simprocAttr, e0, hc, e1, hq, hrow, verC, chV, Int.toNat_natCast, taA, tp, td, kvC]
        refine new_opq hs fun y h hs => ?_
        have hy := hs.at
        have hs5 := hs.set (o' := .row 6 [kvC kv] 1)
        have hy5 := hs5.at
        have hb5 := hs5.p4.at
        simp only [kvC, kv0] at hy5 hb5 hs5
        simp (disch := omega) only [go_sem, simprocAttr, hy, hy5, hb5, kvC]
        exact ⟨rfl, mk3 hs5.p4.set.drop.drop.drop.drop⟩
      | del dk =>
        simp (disch := omega) only [go_sem, simprocAttr, e0, hc, e1, hq, hrow, verC, chV, Int.toNat_natCast, taA, tp, td, kvC]
        refine new_opq hs fun y h hs => ?_
        have hy := hs.at
        have hs5 := hs.set (o' := .row 6 [kvC kv0] 1)
        have hy5 := hs5.at
        have hb5 := hs5.p4.at
        simp only [kvC, kv0] at hy5 hb5 hs5
        simp (disch := omega) only [go_sem, simprocAttr, hy, hy5, hb5, kvC]
        exact ⟨rfl, mk3 hs5.p4.set.drop.drop.drop.drop⟩
    · rw [dif_neg hk0] at hva2
      have : k = 0 := by omega
      subst this
      have e0 : (((0 : Nat) : Int) == 0) = true := rfl
      rw [hva2]
      simp (disch := omega) only [go_sem, simprocAttr, e0, hb, kvC, kv0]
      exact ⟨rfl, mk3 hs.p3.set.drop.drop.drop⟩
  · have hv0 : A.vers key = [] := by
      cases hh : A.vers key with
      | nil => rfl
      | cons y l => exact absurd (hok.2.2.2.2 key (by rw [hh]; simp)) hx
    have hl := lk_miss keyOK_str (show sat h (MpA (fun k : Key => AV.str k) Vn.key Vn.v vm X :: _) from hs.p5) (q := key) (fun x h1 h2 => hx ⟨x, h1, h2⟩) (ok := false) (z := .nils)
    simp only [Bool.false_eq_true, if_false] at hl
    simp (disch := omega) only [go_sem, simprocAttr, hp, hl]
    refine new_opq hs fun c h hs => ?_
    have hc := hs.at
    simp (disch := omega) only [go_sem, simprocAttr, hc]
    have hs5 := hs.set (o' := .row 1 [[.nils]] 1)
    generalize Hp.set h c _ = h2 at hs5 ⊢
    refine call_use (search (N := 0) (f := 65) (caps := [.ptr c 1 0 0, .ptr a 1 0 0]) (pr := fun i => true) hs5 (by omega) rfl (fun _ _ _ _ _ => rfl) (fun i h hi => absurd hi (by omega))) ?_
    rintro r h ⟨k, hr, hk, _, _, hs⟩
    subst hr
    have : k = 0 := by omega
    subst this
    have e0 : (((0 : Nat) : Int) == 0) = true := rfl
    have hb := hs.p1.at
    rw [hv0]
    simp (disch := omega) only [go_sem, simprocAttr, e0, hb, kvC, kv0]
    exact ⟨rfl, mk hs.p1.set.drop.drop.drop⟩
end
end Go.Proofs.Ytaioncbpfckhaaa
/- The store: the keys of a range; a range; a new store; a write that begins. -/
set_option linter.unusedSimpArgs false
set_option linter.unusedVariables false
set_option maxRecDepth 10000
namespace Go.Proofs.Ytaioncbpfckhaaa
open Go.Hz

section
variable {h : Hp} {F : List Asr} {s : Nat} {A : Sto} {o : AV}

theorem mvNew (hs : sat h F) : Triple Try.prog 8 [] h (fun r h => ∃ s, r = .ptr s 7 0 0 ∧ sat h (StP s ⟨0, 0, [], []⟩ .nilp :: F)) := by
  refine t8 (Nat.le_of_ble_eq_true rfl) ?_
  simp (disch := omega) only [F8, go_sem, simprocAttr]
  refine call_use (ixNew hs) ?_
  rintro r h ⟨b, hr, hs⟩
  subst hr
  simp (disch := omega) only [go_sem, simprocAttr]
  refine new_opq hs fun m h hs => ?_
  simp (disch := omega) only [go_sem, simprocAttr]
  refine new_opq hs fun q h hs => ?_
  simp (disch := omega) only [go_sem, simprocAttr]
  refine ⟨q, rfl, mvP.2 ⟨b, m, .nils, [], [], ⟨?_, ?_, ?_⟩, ?_⟩⟩
  · exact ⟨Int.le_refl _, Int.le_refl _, .nil, by simp, .nil, by simp, by simp, fun a v b h => by simp at h, by simp⟩
  · exact ⟨WfL.nil, fun k => rfl⟩
  · exact ⟨.nil, by simp, fun k h => absurd rfl h⟩
  · have h1 := mpA_new (K := fun k : Key => AV.str k) (key := Vn.key) (v := Vn.v) hs.p1
    have h2 : sat h (Ow 2 .nils [] :: MpA (fun k : Key => AV.str k) Vn.key Vn.v m [] :: pto q (.row 7 [[.int .i64 0, .int .i64 0, .int .i64 0, .ptr b 2 0 0, .map m, .nils, .nilp]] 1) :: IxQ b [] :: F) := h1.add ow_nil
    have h3 : sat h (IxP b [] :: pto q (.row 7 [[.int .i64 0, .int .i64 0, .int .i64 0, .ptr b 2 0 0, .map m, .nils, .nilp]] 1) :: Ow 2 .nils [] :: MpA (fun k : Key => AV.str k) Vn.key Vn.v m [] :: F) := sat_ixp.2 ⟨[], rfl, h2.p1.p1.p2.p3⟩
    exact h3.p1
end
end Go.Proofs.Ytaioncbpfckhaaa
/- The store: a range. -/
set_option linter.unusedSimpArgs false
set_option linter.unusedVariables false
set_option maxRecDepth 10000
namespace Go.Proofs.Ytaioncbpfckhaaa
open Go.Hz

section
variable {h : Hp} {F : List Asr} {s : Nat} {A : Sto} {o : AV}

end
end Go.Proofs.Ytaioncbpfckhaaa
/- The store: the changes from a revision on. -/
set_option linter.unusedSimpArgs false
set_option linter.unusedVariables false
set_option maxRecDepth 10000
namespace Go.Proofs.Ytaioncbpfckhaaa
open Go.Hz

/-- A change, as it is told. -/
def evC (v : Ver) : List AV := .int .i64 v.rev :: .bool v.c.kv.isNone :: kvC (v.c.kv.getD ⟨v.c.key, [], 0, v.rev, 0, 0⟩)
abbrev evsV (l : List Ver) : AV := .lst (l.map evC)
def stSince (A : Sto) (r : Int) : List Ver × Int := if r < 1 then ([], 1) else if r ≤ A.past then ([], 16) else (A.chs.filter fun v => decide (r ≤ v.rev), 0)
theorem drop_filter {α : Type} {p : α → Bool} {l : List α} {k : Nat} (h1 : ∀ i (hi : i < l.length), i < k → p l[i] = false) (h2 : ∀ i (hi : i < l.length), k ≤ i → p l[i] = true) : l.filter p = l.drop k := by
  have e : l.filter p = (l.take k).filter p ++ (l.drop k).filter p := by rw [← List.filter_append, List.take_append_drop]
  rw [e, List.filter_eq_nil_iff.2, List.nil_append, List.filter_eq_self.2]
  · intro x hx
    obtain ⟨i, hi, rfl⟩ := List.getElem_of_mem hx
    rw [List.length_drop] at hi
    rw [List.getElem_drop]
    exact h2 _ (by omega) (by omega)
  · intro x hx
    obtain ⟨i, hi, rfl⟩ := List.getElem_of_mem hx
    rw [List.length_take] at hi
    rw [List.getElem_take, h1 i (by omega) (by omega)]; simp
section
variable {h : Hp} {F : List Asr} {s : Nat} {A : Sto} {o : AV}
theorem mvEvent {v : Ver} (hs : sat h F) : Triple Try.prog 41 [.agg (verC tp td v)] h (fun r h => r = .agg (evC v) ∧ sat h F) := by
  have cc := chV_cells (tp := tp) (td := td) v.c
  have ca := chV_atom (tp := tp) (td := td) v.c
  refine t41 (Nat.le_of_ble_eq_true rfl) ?_
  simp (disch := omega) only [F41, verC, ca, go_sem, simprocAttr]
  refine new_opq hs fun a h hs => ?_
  simp (disch := omega) only [go_sem, simprocAttr]
  refine new_opq hs fun b h hs => ?_
  have ha := hs.p1.at
  obtain ⟨rv, c⟩ := v
  cases c with
  | put kv =>
    simp (disch := omega) only [go_sem, simprocAttr, ha, taA, chV, tp, td, kvC]
    refine new_opq hs fun y h hs => ?_
    have hy := hs.at
    have hs5 := hs.set (o' := .row 6 [kvC kv] 1)
    have hy5 := hs5.at
    have hb5 := hs5.p1.at
    have ha5 := hs5.p2.at
    simp only [kvC, kv0, chV] at hy5 hb5 ha5 hs5
    simp (disch := omega) only [go_sem, simprocAttr, hy, hy5, hb5, ha5, kvC]
    have hs6 := hs5.p1.set (o' := .row 8 [evC ⟨rv, .put kv⟩] 1)
    refine ⟨by simp [evC, Ch.kv, kvC], hs6.drop.drop.drop⟩
  | del k =>
    simp (disch := omega) only [go_sem, simprocAttr, ha, taA, chV, tp, td, kvC]
    refine new_opq hs fun y h hs => ?_
    have hy := hs.at
    have hs5 := hs.set (o' := .row 6 [kvC kv0] 1)
    have ha5 := hs5.p2.at
    simp only [kvC, kv0, chV] at ha5 hs5
    simp (disch := omega) only [go_sem, simprocAttr, hy, ha5, kvC]
    generalize Hp.set h y _ = h3 at hs5 ha5 ⊢
    refine inv_key hs5 (.del k) fun h hs => ?_
    have ha := hs.p2.at
    have hb := hs.p1.at
    simp (disch := omega) only [go_sem, simprocAttr, ha, hb]
    refine ⟨by simp [evC, Ch.kv, Ch.key, kvC], ?_⟩
    exact hs.p1.set.drop.drop.drop
theorem since1 {b c cap ix vm q : Nat} {vs : List Ver} {rev r p n : Int} (hs : sat h (pto b (.row 1 [[.ptr s 7 0 0]] 1) :: pto c (.row 1 [[.int .i64 rev]] 1) :: pto s (.row 7 [[.int .i64 r, .int .i64 p, .int .i64 n, .ptr ix 2 0 0, .map vm, .arr q 2 0 vs.length cap, o]] 1) :: pto q (.row 2 (vs.map (verC tp td)) cap) :: F)) {i : Nat} (hi : i < vs.length) :
    Triple Try.prog 40 [.int .i64 i, .ptr b 1 0 0, .ptr c 1 0 0] h (fun r' h => r' = .bool (decide (rev ≤ vs[i].rev)) ∧ sat h (pto b (.row 1 [[.ptr s 7 0 0]] 1) :: pto c (.row 1 [[.int .i64 rev]] 1) :: pto s (.row 7 [[.int .i64 r, .int .i64 p, .int .i64 n, .ptr ix 2 0 0, .map vm, .arr q 2 0 vs.length cap, o]] 1) :: pto q (.row 2 (vs.map (verC tp td)) cap) :: F)) := by
  have hb := hs.at
  have hc := hs.p1.at
  have hq := hs.p3.at
  have hp := hs.p2.at
  have hrow : (vs.map (verC tp td))[i]? = some (verC tp td vs[i]) := by simp [hi]
  refine t40 (Nat.le_of_ble_eq_true rfl) ?_
  simp (disch := omega) only [F40, hb, hc, hq, hp, hrow, verC, Int.toNat_natCast, go_sem, simprocAttr]
  exact hs
theorem mvSinceO {rev : Int} (hs : sat h (StP s A o :: F)) (hz : A.chs.length ≤ 100000000) : Triple Try.prog 24 [.ptr s 7 0 0, .int .i64 rev] h
    (fun r h => ∃ v, r = .tup [v, .int .i64 (stSince A rev).2] ∧ sat h (Ow 8 v ((stSince A rev).1.map evC) :: StP s A o :: F)) := by
  obtain ⟨ix, vm, cv, L, X, hok, hs2⟩ := mvP.1 hs
  have mk : ∀ {h : Hp}, sat h (MvL tp td s ix vm cv o A L X ++ F) → sat h (StP s A o :: F) := fun hs => mvP.2 ⟨ix, vm, cv, L, X, hok, hs⟩
  refine t24 (Nat.le_of_ble_eq_true rfl) ?_
  simp (disch := omega) only [F24, go_sem, simprocAttr]
  refine new_opq hs2 fun b h hs => ?_
  simp (disch := omega) only [go_sem, simprocAttr]
  refine new_opq hs fun c h hs => ?_
  have hb := hs.p1.at
  have hc := hs.at
  have hp := hs.p2.at
  by_cases c1 : rev < 1
  · have ef : stSince A rev = ([], 1) := by rw [stSince, if_pos c1]
    rw [ef]
    simp (disch := omega) only [go_sem, simprocAttr, hb, hc, c1]
    exact ⟨.nils, rfl, (mk hs.drop.drop).add ow_nil⟩
  by_cases c2 : rev ≤ A.past
  · have ef : stSince A rev = ([], 16) := by rw [stSince, if_neg c1, if_pos c2]
    rw [ef]
    simp (disch := omega) only [go_sem, simprocAttr, hb, hc, hp, c1, c2]
    exact ⟨.nils, rfl, (mk hs.drop.drop).add ow_nil⟩
  have ef : stSince A rev = (A.chs.filter fun v => decide (rev ≤ v.rev), 0) := by rw [stSince, if_neg c1, if_neg c2]
  rw [ef]
  have hlv := hs.p4.els.len
  rw [List.length_map] at hlv
  simp (disch := omega) only [go_sem, simprocAttr, hb, hc, hp, c1, c2, hlv]
  rcases hs.p4.cases with ⟨hv, hn0, hs3⟩ | ⟨q, cap, hv, hs3, hle⟩
  · have hn1 : A.chs = [] := List.map_eq_nil_iff.1 hn0
    subst hv
    rw [hn1, List.length_nil]
    refine call_use (search (N := 0) (f := 40) (caps := [.ptr b 1 0 0, .ptr c 1 0 0]) (pr := fun i => true) hs (by omega) rfl (fun _ _ _ _ _ => rfl) (fun i h hi => absurd hi (by omega))) ?_
    rintro r h ⟨k, hr, hk, _, _, hs⟩
    subst hr
    have : k = 0 := by omega
    subst this
    have hb := hs.p1.at
    have hp := hs.p2.at
    have hsl : slcL 2 .nils (some (.int .i64 0)) none = some .nils := rfl
    simp (disch := omega) only [go_sem, simprocAttr, hb, hp, hsl]
    refine run_up (N := 0) (fun i e h => sat h (StP s A o :: F) ∧ (e 7 = .nils ∧ e 34 = .int .i64 i ∧ e 33 = .int .i64 0)) ⟨mk hs.drop.drop, by simp [Env.upd_apply]⟩ ?_
    clear hs hb hp hc hlv
    rintro i e h hi ⟨hs, he⟩
    have : i = 0 := by omega
    subst this
    simp (disch := omega) only [go_sem, simprocAttr, he]
    exact ⟨.nils, rfl, hs.add ow_nil⟩
  · subst hv
    have hll : (A.chs.map (verC tp td)).length = A.chs.length := by simp
    simp only [hll] at hs3 hle
    have hs4 : sat h (pto b (.row 1 [[.ptr s 7 0 0]] 1) :: pto c (.row 1 [[.int .i64 rev]] 1) :: pto s (.row 7 [[.int .i64 A.rev, .int .i64 A.past, .int .i64 A.now.length, .ptr ix 2 0 0, .map vm, .arr q 2 0 A.chs.length cap, o]] 1) :: pto q (.row 2 (A.chs.map (verC tp td)) cap) :: IxP ix L :: MpA (fun k : Key => AV.str k) Vn.key Vn.v vm X :: (X.map (VnP tp td) ++ F)) := hs3.p5.p5.p2.p5.p4.p5
    simp only [hll] at hlv mk
    refine call_use (search (N := A.chs.length) (f := 40) (caps := [.ptr b 1 0 0, .ptr c 1 0 0]) (pr := fun i => match A.chs[i]? with | some w => decide (rev ≤ w.rev) | none => true) hs4 (by omega) rfl ?_ ?_) ?_
    · intro i j hij hj hi
      rw [List.getElem?_eq_getElem (by omega)] at hi ⊢
      have h3 : rev ≤ A.chs[i].rev := by simpa using hi
      have : A.chs[i].rev ≤ A.chs[j].rev := by
        rcases Nat.lt_or_eq_of_le hij with h | h
        · exact (List.pairwise_iff_getElem.1 hok.1.chs i j (by omega) hj h).1
        · subst h; exact Int.le_refl _
      simp; omega
    · intro i h hi hs
      refine (since1 hs hi).mono fun r h ⟨h1, h2⟩ => ⟨?_, h2⟩
      rw [h1, List.getElem?_eq_getElem hi]
    rintro r h ⟨k, hr, hk, hk1, hk2, hs⟩
    subst hr
    have hflt : (A.chs.filter fun v => decide (rev ≤ v.rev)) = A.chs.drop k := drop_filter (fun i hi hik => by
      have := hk1 i hik
      rw [List.getElem?_eq_getElem hi] at this
      exact this) (fun i hi hik => by
      have := hk2 i hik hi
      rw [List.getElem?_eq_getElem hi] at this
      exact this)
    rw [hflt]
    have hb := hs.at
    have hp := hs.p2.at
    have hsl : slcL 2 (.arr q 2 0 A.chs.length cap) (some (.int .i64 (k : Int))) none = some (.arr q 2 k (A.chs.length - k) (cap - k)) := by
      rw [slcL_lo (by omega) (by omega) hle]; simp
    simp (disch := omega) only [go_sem, simprocAttr, hb, hp, hsl]
    have mk2 : ∀ {h : Hp}, sat h (pto s (.row 7 [[.int .i64 A.rev, .int .i64 A.past, .int .i64 A.now.length, .ptr ix 2 0 0, .map vm, .arr q 2 0 A.chs.length cap, o]] 1) :: pto q (.row 2 (A.chs.map (verC tp td)) cap) :: IxP ix L :: MpA (fun k : Key => AV.str k) Vn.key Vn.v vm X :: (X.map (VnP tp td) ++ F)) → sat h (StP s A o :: F) := by
      intro h hs
      have := hs.p1.ow (by simpa using hle)
      rw [hll] at this
      exact mk this.p3.p1.p3.p3
    refine run_up (N := A.chs.length - k) (fun i e h => sat h (Ow 8 (e 7) (((A.chs.drop k).take i).map evC) :: pto s (.row 7 [[.int .i64 A.rev, .int .i64 A.past, .int .i64 A.now.length, .ptr ix 2 0 0, .map vm, .arr q 2 0 A.chs.length cap, o]] 1) :: pto q (.row 2 (A.chs.map (verC tp td)) cap) :: IxP ix L :: MpA (fun k : Key => AV.str k) Vn.key Vn.v vm X :: (X.map (VnP tp td) ++ F)) ∧
      (e 32 = .arr q 2 k (A.chs.length - k) (cap - k) ∧ e 33 = .int .i64 (A.chs.length - k : Nat) ∧ e 34 = .int .i64 i)) ⟨?_, ?_⟩ ?_
    · rw [List.take_zero]
      exact (hs.drop.drop).add ow_nil
    · simp [Env.upd_apply]
    clear hs hs3 hs4 hb hp hc hlv
    rintro i e h hi ⟨hs, he⟩
    have m1 : (i : Int) + 1 = ((i + 1 : Nat) : Int) := by omega
    simp (disch := omega) only [go_sem, simprocAttr, he, m1]
    refine cnd_dec (fun h1 => ?_) (fun h1 => ?_)
    · have hi' : k + i < A.chs.length := by omega
      have hq := hs.p2.at
      have hrow : (A.chs.map (verC tp td))[k + i]? = some (verC tp td A.chs[k + i]) := by simp [hi']
      have ca := chV_atom (tp := tp) (td := td) A.chs[k + i].c
      have cc := chV_cells (tp := tp) (td := td) A.chs[k + i].c
      have hst : (A.chs.drop k).take (i + 1) = (A.chs.drop k).take i ++ [A.chs[k + i]] := by
        rw [List.take_succ_eq_append_getElem (by rw [List.length_drop]; omega), List.getElem_drop]
      rw [hst]
      generalize A.chs[k + i] = v at *
      simp (disch := omega) only [go_sem, simprocAttr, he, hq, hrow, Int.toNat_natCast, verC]
      refine new_opq hs fun y h hs => ?_
      have hy := hs.at
      have hs2 := hs.set (o' := .row 2 [verC tp td v] 1)
      have hy2 := hs2.at
      simp only [verC] at hy2 hs2
      simp (disch := omega) only [go_sem, simprocAttr, hy, ca, cc, hy2, he]
      generalize Hp.set h y _ = h3 at hs2 hy2 ⊢
      refine call_use (mvEvent (v := v) hs2) ?_
      rintro r h ⟨hr, hs⟩
      subst hr
      simp (disch := omega) only [go_sem, simprocAttr, evC, kvC]
      refine new_opq hs fun z h hs => ?_
      simp (disch := omega) only [go_sem, simprocAttr]
      refine app_sat hs.p2 (src_one hs.at) (atoms_one (by simp [AV.isAtom])) (by simp; omega) fun v' h hs ca' aa => ?_
      simp (disch := omega) only [go_sem, simprocAttr, he, m1]
      refine ⟨by omega, ?_⟩
      have := hs.p1.drop.p1.drop.p4.p4.p4.p4.p4
      simpa [evC, kvC] using this
    · have hi' : i = A.chs.length - k := by omega
      subst hi'
      rw [List.take_of_length_le (by rw [List.length_drop]; omega)] at hs
      simp (disch := omega) only [go_sem, simprocAttr, he]
      rw [← show (stSince A rev).1 = A.chs.drop k by rw [ef]; exact hflt] at hs
      exact ⟨_, rfl, by rw [ef] at hs; rw [← hflt]; exact hs.tl fun _ h => mk2 h⟩
end
end Go.Proofs.Ytaioncbpfckhaaa
/- Watchers: a range, a watcher's changes; slices.DeleteFunc of events; whole revisions. -/
set_option linter.unusedSimpArgs false
set_option linter.unusedVariables false
set_option maxRecDepth 10000
namespace Go.Proofs.Ytaioncbpfckhaaa
open Go.Hz

section
variable {h : Hp} {F : List Asr} {p s c : Nat} {A : Sto} {o : AV}
theorem evC_key2 (v : Ver) : (v.c.kv.getD ⟨v.c.key, [], 0, v.rev, 0, 0⟩).key = v.c.key := by cases v.c <;> rfl
/-- A change's cells. -/
def kvE2 (v : Ver) : Kv := v.c.kv.getD ⟨v.c.key, [], 0, v.rev, 0, 0⟩
theorem evC_eq2 (v : Ver) : evC v = [.int .i64 v.rev, .bool v.c.kv.isNone, .str v.c.key, .str (kvE2 v).val, .int .i64 (kvE2 v).create, .int .i64 (kvE2 v).mod, .int .i64 (kvE2 v).ver, .int .i64 (kvE2 v).lease] := by
  rw [← evC_key2 v]; rfl
theorem ev_row2 {v : AV} {l : List Ver} (hs : sat h (Ow 8 v (l.map evC) :: F)) {i : Nat} (hi : i < l.length) : ∃ b cap, v = .arr b 8 0 l.length cap ∧ h b = some (.row 8 (l.map evC) cap) ∧ (l.map evC)[i]? = some (evC l[i]) := by
  obtain ⟨b, cap, hv, hb, _⟩ := hs.owr.row (i := i) (x := evC l[i]) (by simp [hi])
  rw [List.length_map] at hv
  exact ⟨b, cap, hv, hb, by simp [hi]⟩
theorem atoms_ev2 (l : List Ver) : AtomsL (l.map evC) := by
  intro e he v hv
  obtain ⟨k, _, rfl⟩ := List.mem_map.1 he
  simp only [evC, kvC, List.mem_cons, List.not_mem_nil, or_false] at hv
  rcases hv with rfl | rfl | rfl | rfl | rfl | rfl | rfl | rfl <;> rfl
theorem wcInside {lo hi k : Key} {pl : Int} {mv : AV} (hs : sat h (pto p (.row 4 [[.str lo, .str hi, .int .i64 pl, mv]] 1) :: F)) : Triple Try.prog 44 [.ptr p 4 0 0, .str k] h (fun r h => r = .bool (inK lo hi k) ∧ sat h (pto p (.row 4 [[.str lo, .str hi, .int .i64 pl, mv]] 1) :: F)) := by
  have ek : inK lo hi k = if (hi == []) = true then k == lo else (!(Op.bytesLess k lo) && Op.bytesLess k hi) := by
    unfold inK inR
    by_cases hh : hi = []
    · subst hh; rfl
    · have : (hi == []) = false := by simpa using hh
      rw [if_neg hh, this]; rfl
  have e0 : (hi != []) = !(hi == []) := rfl
  have hp := hs.at
  rw [ek]
  refine t44 (Nat.le_of_ble_eq_true rfl) ?_
  simp (disch := omega) only [F44, go_sem, simprocAttr]
  cases b1 : k == lo <;> cases b0 : hi == [] <;> cases b2 : Op.bytesLess k lo <;> cases b3 : Op.bytesLess k hi
  all_goals
    simp only [b0, Bool.not_true, Bool.not_false] at e0
    simp (disch := omega) only [go_sem, simprocAttr, hp, b0, b1, b2, b3, e0]
    first | exact hs | skip
theorem wcDel_ok : okFn Try.prog 43 = true := by kernel_rfl
theorem wcDel {lo hi : Key} {pl : Int} {mv : AV} {v : Ver} (hs : sat h (pto c (.row 1 [[.ptr p 4 0 0]] 1) :: pto p (.row 4 [[.str lo, .str hi, .int .i64 pl, mv]] 1) :: F)) :
    Triple Try.prog 43 [.agg (evC v), .ptr c 1 0 0] h (fun r h => r = .bool (!inK lo hi v.c.key) ∧ sat h (pto c (.row 1 [[.ptr p 4 0 0]] 1) :: pto p (.row 4 [[.str lo, .str hi, .int .i64 pl, mv]] 1) :: F)) := by
  rw [evC_eq2]
  refine t43 (Nat.le_of_ble_eq_true rfl) ?_
  simp (disch := omega) only [F43, go_sem, simprocAttr]
  refine new_opq hs fun a h hs => ?_
  have ha := hs.at
  have hc := hs.p1.at
  simp (disch := omega) only [go_sem, simprocAttr, ha, hc]
  refine call_use (wcInside (k := v.c.key) hs.p2) ?_
  rintro r h ⟨hr, hs⟩
  subst hr
  simp (disch := omega) only [go_sem, simprocAttr]
  exact hs.p1.drop.p1
variable {l : List Ver} {q : Ver → Bool} {f : Nat} {caps : List AV}
theorem evIndex {v : AV} (hf : okFn Try.prog f = true) (hc : ∀ w h, sat h (Ow 8 v (l.map evC) :: F) → Triple Try.prog f ([.agg (evC w)] ++ caps) h (fun r h => r = .bool (q w) ∧ sat h (Ow 8 v (l.map evC) :: F))) (hs : sat h (Ow 8 v (l.map evC) :: F)) (hl : l.length ≤ 1000000000) :
    Triple Try.prog 57 [v, .fn f caps] h (fun r h => (∃ k : Int, r = .int .i64 k ∧ ((k = -1 ∧ ∀ x ∈ l, q x = false) ∨ ∃ i : Nat, ∃ hi : i < l.length, k = i ∧ (∀ j (hj : j < l.length), j < i → q l[j] = false) ∧ q l[i] = true)) ∧ sat h (Ow 8 v (l.map evC) :: F)) := by
  have lenE := hs.els.len
  rw [List.length_map] at lenE
  refine t57 (Nat.le_of_ble_eq_true rfl) ?_
  simp (disch := omega) only [F57, lenE, go_sem, simprocAttr]
  refine run_up (N := l.length) (fun i e h => sat h (Ow 8 v (l.map evC) :: F) ∧ (∀ j (hj : j < l.length), j < i → q l[j] = false) ∧ (e 0 = v ∧ e 1 = .fn f caps ∧ e 7 = .int .i64 l.length ∧ e 8 = .int .i64 i)) ⟨hs, fun _ _ h => by omega, by simp [Env.upd_apply, initE]⟩ ?_
  clear hs
  rintro i e h hi ⟨hs, hno, he⟩
  have m1 : (i : Int) + 1 = ((i + 1 : Nat) : Int) := by omega
  simp (disch := omega) only [go_sem, simprocAttr, he, m1]
  refine cnd_dec (fun g1 => ?_) (fun g1 => ?_)
  · have hil : i < l.length := by omega
    obtain ⟨b, cap, hv, hb, hrow⟩ := ev_row2 hs hil
    have hcc := hc l[i]
    cases hq : q l[i] with
    | true =>
      subst hv
      rw [hq] at hcc
      rw [evC_eq2] at hrow hcc
      simp (disch := omega) only [go_sem, simprocAttr, he, hb, hrow, Int.toNat_natCast]
      refine callv_use hf (hcc _ hs) ?_
      rintro r h ⟨hr, hs⟩
      subst hr
      simp (disch := omega) only [go_sem, simprocAttr, he]
      exact ⟨⟨_, rfl, .inr ⟨i, hil, rfl, hno, hq⟩⟩, hs⟩
    | false =>
      subst hv
      rw [hq] at hcc
      rw [evC_eq2] at hrow hcc
      simp (disch := omega) only [go_sem, simprocAttr, he, hb, hrow, Int.toNat_natCast]
      refine callv_use hf (hcc _ hs) ?_
      rintro r h ⟨hr, hs⟩
      subst hr
      simp (disch := omega) only [go_sem, simprocAttr, he, m1]
      refine ⟨hil, hs, fun j hj hji => ?_⟩
      by_cases hjj : j = i
      · subst hjj; exact hq
      · exact hno j hj (by omega)
  · simp (disch := omega) only [go_sem, simprocAttr, he]
    refine ⟨⟨_, rfl, .inl ⟨rfl, fun x hx => ?_⟩⟩, hs⟩
    obtain ⟨j, hj, rfl⟩ := List.getElem_of_mem hx
    exact hno j hj (by omega)
end
end Go.Proofs.Ytaioncbpfckhaaa
/- Watchers: slices.DeleteFunc of events; a watcher's changes; whole revisions. -/
set_option linter.unusedSimpArgs false
set_option linter.unusedVariables false
set_option maxRecDepth 10000
namespace Go.Proofs.Ytaioncbpfckhaaa
open Go.Hz

section
variable {h : Hp} {F K : List Asr} {p s c : Nat} {A : Sto} {o : AV} {l : List Ver} {q : Ver → Bool} {f : Nat} {caps : List AV}
theorem evDelete {v : AV} (hf : okFn Try.prog f = true) (hc : ∀ w h (G : List Asr), sat h (K ++ G) → Triple Try.prog f ([.agg (evC w)] ++ caps) h (fun r h => r = .bool (q w) ∧ sat h (K ++ G))) (hs : sat h (Ow 8 v (l.map evC) :: (K ++ F))) (hl : l.length ≤ 100000000) :
    Triple Try.prog 42 [v, .fn f caps] h (fun r h => sat h (Ow 8 r ((l.filter fun x => !q x).map evC) :: (K ++ F))) := by
  have lenE := hs.els.len
  rw [List.length_map] at lenE
  refine Triple.view ?_
  refine t42 (Nat.le_of_ble_eq_true rfl) ?_
  simp (disch := omega) only [F42, go_sem, simprocAttr]
  refine call_use (evIndex (q := q) hf (fun w h hs => (hc w h (Ow 8 v (l.map evC) :: F) hs.unmid).mono fun r h ⟨h1, h2⟩ => ⟨h1, h2.mid⟩) hs (by omega)) ?_
  rintro r h ⟨⟨k, hr, hk⟩, hs⟩
  subst hr
  rcases hk with ⟨rfl, hno⟩ | ⟨i, hi, rfl, hno, hq⟩
  · have e : l.filter (fun x => !q x) = l := by
      rw [List.filter_eq_self]
      intro x hx
      rw [hno x hx]; rfl
    rw [e]
    simp (disch := omega) only [go_sem, simprocAttr]
    exact ⟨v, h, GV.refl _ _, hs⟩
  rcases hs.cases with ⟨_, hn0, _⟩ | ⟨b, cap, hv, hs9, hle⟩
  · have : l = [] := by simpa using hn0
    subst this; simp at hi
  subst hv
  have hll : (l.map evC).length = l.length := by simp
  have c1 : ((i : Int) == -1) = false := by rw [beq_eq_false_iff_ne]; omega
  have m0 : (i : Int) + 1 = ((i + 1 : Nat) : Int) := by omega
  rw [hll] at hle
  rw [hll]
  rw [hll] at lenE
  have hkeep : ∀ j, ((l.take j).filter fun x => !q x).length ≤ j := fun j => Nat.le_trans (List.length_filter_le _ _) (by rw [List.length_take]; omega)
  simp (disch := omega) only [go_sem, simprocAttr, c1, m0]
  refine blk_join (Q := fun e h => sat h (pto b (.row 8 ((l.filter fun x => !q x).map evC ++ (l.map evC).drop (l.filter fun x => !q x).length) cap) :: (K ++ F)) ∧ (e 0 = .arr b 8 0 l.length cap ∧ e 5 = .int .i64 (l.filter fun x => !q x).length)) ?_ ?_
  · refine run_up (N := l.length - (i + 1)) (fun t e h => sat h (pto b (.row 8 (((l.take (i + 1 + t)).filter fun x => !q x).map evC ++ (l.map evC).drop ((l.take (i + 1 + t)).filter fun x => !q x).length) cap) :: (K ++ F)) ∧ (e 0 = .arr b 8 0 l.length cap ∧ e 1 = .fn f caps ∧ e 5 = .int .i64 ((l.take (i + 1 + t)).filter fun x => !q x).length ∧ e 6 = .int .i64 (i + 1 + t : Nat))) ⟨?_, ?_⟩ ?_
    · rw [Nat.add_zero, fil_take hi hno hq, List.map_take, List.length_take, Nat.min_eq_left (Nat.le_of_lt hi), List.take_append_drop]
      exact hs9
    · rw [Nat.add_zero, fil_take hi hno hq, List.length_take, Nat.min_eq_left (Nat.le_of_lt hi)]
      simp [Env.upd_apply, initE]
    clear hs
    rintro t e h ht ⟨hs, he⟩
    have m1 : ((i + 1 + t : Nat) : Int) + 1 = ((i + 1 + (t + 1) : Nat) : Int) := by omega
    by_cases hj : i + 1 + t < l.length
    · have c2 : (((i + 1 + t : Nat) : Int) < (l.length : Int)) = True := by simp; omega
      have hst : (l.take (i + 1 + (t + 1))).filter (fun x => !q x) = (l.take (i + 1 + t)).filter (fun x => !q x) ++ if q l[i + 1 + t] = true then [] else [l[i + 1 + t]] := by
        rw [show i + 1 + (t + 1) = i + 1 + t + 1 by omega, List.take_succ_eq_append_getElem hj, List.filter_append]
        by_cases hx : q l[i + 1 + t] = true <;> simp [hx]
      have hM := hkeep (i + 1 + t)
      rw [hst]
      have hrow0 : (((l.take (i + 1 + t)).filter fun x => !q x).map evC ++ (l.map evC).drop ((l.take (i + 1 + t)).filter fun x => !q x).length)[i + 1 + t]? = some (evC l[i + 1 + t]) := by
        rw [List.getElem?_append_right (by rw [List.length_map]; exact hM), List.getElem?_drop, List.length_map, List.getElem?_map, show ((l.take (i + 1 + t)).filter fun x => !q x).length + (i + 1 + t - ((l.take (i + 1 + t)).filter fun x => !q x).length) = i + 1 + t by omega, List.getElem?_eq_getElem hj]
        rfl
      have hset : (((l.take (i + 1 + t)).filter fun x => !q x).map evC ++ (l.map evC).drop ((l.take (i + 1 + t)).filter fun x => !q x).length).set ((l.take (i + 1 + t)).filter fun x => !q x).length (evC l[i + 1 + t]) = ((l.take (i + 1 + t)).filter fun x => !q x).map evC ++ evC l[i + 1 + t] :: (l.map evC).drop (((l.take (i + 1 + t)).filter fun x => !q x).length + 1) := by
        rw [List.set_append_right _ _ (by rw [List.length_map]; exact Nat.le_refl _), List.length_map, Nat.sub_self, List.drop_eq_getElem_cons (by rw [List.length_map]; omega), List.set_cons_zero]
      have hcl : (((l.take (i + 1 + t)).filter fun x => !q x).map evC ++ (l.map evC).drop ((l.take (i + 1 + t)).filter fun x => !q x).length).length = l.length := by
        simp; omega
      have hcw := hc l[i + 1 + t]
      have ht2 : t < l.length - (i + 1) := by omega
      obtain ⟨y, hrowK⟩ : ∃ y, (((l.take (i + 1 + t)).filter fun x => !q x).map evC ++ (l.map evC).drop ((l.take (i + 1 + t)).filter fun x => !q x).length)[((l.take (i + 1 + t)).filter fun x => !q x).length]? = some (evC y) := by
        refine ⟨l[((l.take (i + 1 + t)).filter fun x => !q x).length]'(by omega), ?_⟩
        rw [List.getElem?_append_right (by rw [List.length_map]; exact Nat.le_refl _), List.getElem?_drop, List.length_map, List.getElem?_map, Nat.sub_self, Nat.add_zero, List.getElem?_eq_getElem (by omega)]
        rfl
      rw [evC_eq2] at hrowK
      generalize ((l.take (i + 1 + t)).filter fun x => !q x) = Kp at *
      generalize i + 1 + t = j at *
      generalize hR : (Kp.map evC ++ (l.map evC).drop Kp.length) = R at hs hset hcl hrowK hrow0
      have hb := hs.at
      rw [evC_eq2] at hrow0
      simp (disch := omega) only [go_sem, simprocAttr, he, lenE, c2, hb, hrow0, Int.toNat_natCast]
      refine new_opq hs fun a h hs => ?_
      have ha := hs.at
      have hs2 := hs.set (o' := .row 8 [evC l[j]] 1)
      have ha2 := hs2.at
      rw [evC_eq2] at hs2 ha2 hcw
      simp (disch := omega) only [go_sem, simprocAttr, ha, ha2, he]
      generalize Hp.set h a _ = h2 at hs2 ha2 ⊢
      refine callv_use hf (hcw _ _ ((hs2.tl fun h g => g.unmid).unmid)) ?_
      rintro r h ⟨hr, hs⟩
      subst hr
      have hs := hs.mid.tl fun h g => g.mid
      have ha := hs.at
      have hb := hs.p1.at
      have m2 : (Kp.length : Int) + 1 = ((Kp.length + 1 : Nat) : Int) := by omega
      cases hx : q l[j] with
      | true =>
        simp (disch := omega) only [go_sem, simprocAttr, he, m1, List.append_nil]
        exact ⟨ht2, by rw [hR]; exact hs.drop⟩
      | false =>
        have hs3 := hs.p1.set (o' := .row 8 (R.set Kp.length (evC l[j])) cap)
        rw [hset] at hs3
        rw [evC_eq2] at hs3 hset
        simp (disch := omega) only [go_sem, simprocAttr, he, ha, hb, hcl, hrowK, m1, m2, Int.toNat_natCast]
        refine ⟨ht2, ?_⟩
        rw [hset, List.map_append, List.map_cons, List.map_nil, List.append_assoc, List.singleton_append, evC_eq2 l[j]]
        exact hs3.d1
    · have hj2 : t = l.length - (i + 1) := by omega
      have c2 : (((i + 1 + t : Nat) : Int) < (l.length : Int)) = False := by simp; omega
      have e9 : l.take (i + 1 + t) = l := List.take_of_length_le (by omega)
      rw [e9] at hs he
      simp (disch := omega) only [go_sem, simprocAttr, he, lenE, c2]
      exact hs
  clear hs9
  rintro e h ⟨hs, he⟩
  have hM := hkeep l.length
  rw [List.take_length] at hM
  generalize (l.filter fun x => !q x) = Kp at *
  simp (disch := omega) only [go_sem, simprocAttr, he, slcL_lo, Int.toNat_natCast]
  refine clr_use hs (by simp) (by omega) fun h hs => ?_
  simp (disch := omega) only [go_sem, simprocAttr, he, slcL_hi, Int.toNat_natCast]
  refine ⟨_, _, GV.trim _ Kp.length hs.at, ?_⟩
  have hs2 := hs.set (o' := .row 8 (Kp.map evC) cap)
  have e2 : ∀ zs : List AV, List.take Kp.length (List.take Kp.length (Kp.map evC ++ (l.map evC).drop Kp.length) ++ List.replicate (l.length - Kp.length) zs ++ List.drop (Kp.length + (l.length - Kp.length)) (Kp.map evC ++ (l.map evC).drop Kp.length)) = Kp.map evC := fun zs => by
    rw [List.append_assoc, List.take_append_of_le_length (by rw [List.length_take]; simp), List.take_take, Nat.min_self, List.take_append_of_le_length (by simp), List.take_of_length_le (by simp)]
  rw [e2]
  have := hs2.ow (by simp; omega)
  simpa using this
/-- A watcher's changes. -/
theorem wcChanges {lo hi : Key} {pl : Int} {mv : AV} (hs : sat h (pto p (.row 4 [[.str lo, .str hi, .int .i64 pl, mv]] 1) :: StP s A o :: F)) (hpl : 1 ≤ pl) (hz : A.chs.length ≤ 10000000) {w : Wc} (hw : w.lo = lo ∧ w.hi = hi ∧ w.place = pl) :
    Triple Try.prog 27 [.ptr p 4 0 0, .ptr s 7 0 0] h (fun r h => ∃ v, r = .tup [v, .int .i64 (w.chg A).2] ∧ sat h (Ow 8 v ((w.chg A).1.map evC) :: pto p (.row 4 [[.str lo, .str hi, .int .i64 pl, mv]] 1) :: StP s A o :: F)) := by
  obtain ⟨rfl, rfl, rfl⟩ := hw
  refine t27 (Nat.le_of_ble_eq_true rfl) ?_
  simp (disch := omega) only [F27, go_sem, simprocAttr]
  refine new_opq hs fun c h hs => ?_
  have hc := hs.at
  have hp := hs.p1.at
  simp (disch := omega) only [go_sem, simprocAttr, hc, hp]
  refine call_use' (mvRev hs.p2) ?_
  rintro r h ⟨hr, hs⟩
  subst hr
  have hc := hs.p1.at
  have hp := hs.p2.at
  by_cases g1 : A.rev < w.place
  · have ef : w.chg A = ([], 0) := by rw [Wc.chg, if_pos g1]
    have c1 : (w.place > A.rev) = True := by simp; omega
    rw [ef]
    simp (disch := omega) only [go_sem, simprocAttr, hc, hp, c1]
    exact ⟨.nils, rfl, (hs.p1.drop.p1).add ow_nil⟩
  have c1 : (w.place > A.rev) = False := by simp; omega
  have ef : w.chg A = ((stSince A w.place).1.filter fun v => inK w.lo w.hi v.c.key, (stSince A w.place).2) := by
    have h1 : ¬ w.place < 1 := by omega
    unfold Wc.chg stSince
    by_cases g2 : w.place ≤ A.past
    · simp only [if_neg g1, if_neg h1, if_pos g2]
      rfl
    · simp only [if_neg g1, if_neg h1, if_neg g2, List.filter_filter]
      congr 2
      funext v
      exact Bool.and_comm _ _
  rw [ef]
  simp (disch := omega) only [go_sem, simprocAttr, hc, hp, c1]
  refine call_use (mvSinceO (rev := w.place) hs (by omega)) ?_
  rintro r h ⟨v, hr, hs⟩
  subst hr
  have hsl : (stSince A w.place).1.length ≤ A.chs.length := by
    unfold stSince
    split
    · exact Nat.zero_le _
    split
    · exact Nat.zero_le _
    · exact List.length_filter_le _ _
  generalize stSince A w.place = S at hs hsl ⊢
  simp (disch := omega) only [go_sem, simprocAttr]
  refine call_use (evDelete (K := [pto c (.row 1 [[.ptr p 4 0 0]] 1), pto p (.row 4 [[.str w.lo, .str w.hi, .int .i64 w.place, mv]] 1)]) (q := fun v => !inK w.lo w.hi v.c.key) (F := StP s A o :: F) wcDel_ok (fun v h G hs => wcDel (v := v) hs) (hs.p1.p3.p3.p3) (by omega)) ?_
  intro r h hs
  have e9 : S.1.filter (fun x => !(!inK w.lo w.hi x.c.key)) = S.1.filter fun v => inK w.lo w.hi v.c.key := by simp
  rw [e9] at hs
  simp (disch := omega) only [go_sem, simprocAttr]
  have hs : sat h (Ow 8 r ((S.1.filter fun v => inK w.lo w.hi v.c.key).map evC) :: pto c (.row 1 [[.ptr p 4 0 0]] 1) :: pto p (.row 4 [[.str w.lo, .str w.hi, .int .i64 w.place, mv]] 1) :: StP s A o :: F) := hs
  exact ⟨r, rfl, hs.d1⟩
/-- The first ones of whole revisions. -/
theorem wcSome {v : AV} {most : Int} (hs : sat h (Ow 8 v (l.map evC) :: F)) (hl : l.length ≤ 10000000) :
    Triple Try.prog 46 [v, .int .i64 most] h (fun r h => ∃ w, slcL 8 v none (some (.int .i64 (someK l most : Nat))) = some w ∧ r = .tup [w, .bool (decide (someK l most < l.length))] ∧ sat h (Ow 8 v (l.map evC) :: F)) := by
  have lenE := hs.els.len
  rw [List.length_map] at lenE
  obtain ⟨k, hk⟩ : ∃ k, someK l most = k := ⟨_, rfl⟩
  rw [hk]
  have hkl : k ≤ l.length := hk ▸ someK_le
  refine t46 (Nat.le_of_ble_eq_true rfl) ?_
  simp (disch := omega) only [F46, go_sem, simprocAttr]
  refine blk_join (Q := fun e h => sat h (Ow 8 v (l.map evC) :: F) ∧ (e 0 = v ∧ e 6 = .int .i64 k)) ?_ ?_
  · refine run_loopN (fun m e h => ∃ n, n ≤ l.length ∧ m = l.length - n ∧ someN l most n (l.length + 1 - n) = k ∧ sat h (Ow 8 v (l.map evC) :: F) ∧ (e 0 = v ∧ e 1 = .int .i64 most ∧ e 6 = .int .i64 n)) l.length ⟨0, Nat.zero_le _, rfl, hk, hs, by simp [Env.upd_apply, initE]⟩ ?_
    clear hs
    rintro m e h ⟨n, hn, rfl, hsk, hs, he⟩
    simp (disch := omega) only [go_sem, simprocAttr, he, lenE]
    by_cases h1 : n < l.length
    · have c1 : ((n : Int) < (l.length : Int)) = True := by simp; omega
      have e1 : someN l most n (l.length + 1 - n) = if 0 < n ∧ most < (runEnd l n : Int) then n else someN l most (runEnd l n) (l.length - n) := by
        rw [show l.length + 1 - n = (l.length - n) + 1 by omega]
        show (if n < l.length then _ else _) = _
        rw [if_pos h1]
      have hgt := runEnd_gt h1
      have hle := runEnd_le hn
      have hin := fun k => runEnd_in (k := k) h1
      have hout := runEnd_out h1
      rw [e1] at hsk
      simp (disch := omega) only [go_sem, simprocAttr, c1, he]
      refine blk_join (Q := fun e h => sat h (Ow 8 v (l.map evC) :: F) ∧ (e 0 = v ∧ e 1 = .int .i64 most ∧ e 6 = .int .i64 n ∧ e 7 = .int .i64 (runEnd l n))) ?_ ?_
      · refine run_up (N := runEnd l n - n) (fun t e h => sat h (Ow 8 v (l.map evC) :: F) ∧ (e 0 = v ∧ e 1 = .int .i64 most ∧ e 6 = .int .i64 n ∧ e 7 = .int .i64 (n + t : Nat))) ⟨hs, by simp [Env.upd_apply, he]⟩ ?_
        clear hs he
        rintro t e h ht ⟨hs, he⟩
        have lenE := hs.els.len
        rw [List.length_map] at lenE
        have m1 : ((n + t : Nat) : Int) + 1 = ((n + (t + 1) : Nat) : Int) := by omega
        obtain ⟨b, cap, hv, hb, hrn⟩ := ev_row2 hs h1
        by_cases h2 : n + t < runEnd l n
        · obtain ⟨h3, h4⟩ := hin (n + t) (by omega) h2
          obtain ⟨_, _, _, _, hrk⟩ := ev_row2 hs h3
          have c2 : (((n + t : Nat) : Int) < (l.length : Int)) = True := by simp; omega
          have c3 : (l[n + t].rev == l[n].rev) = true := by simpa using h4
          rw [evC_eq2] at hrn hrk
          subst hv
          simp (disch := omega) only [go_sem, simprocAttr, he, lenE, c2, hb, hrn, hrk, c3, m1, Int.toNat_natCast]
          exact ⟨by omega, hs⟩
        · have h5 : n + t = runEnd l n := by omega
          by_cases h3 : n + t < l.length
          · obtain ⟨_, _, _, _, hrk⟩ := ev_row2 hs h3
            have c2 : (((n + t : Nat) : Int) < (l.length : Int)) = True := by simp; omega
            have c3 : (l[n + t].rev == l[n].rev) = false := by
              rw [beq_eq_false_iff_ne]
              have := hout (by omega)
              simp only [← h5] at this
              exact this
            rw [evC_eq2] at hrn hrk
            subst hv
            simp (disch := omega) only [go_sem, simprocAttr, he, lenE, c2, hb, hrn, hrk, c3, Int.toNat_natCast]
            exact ⟨hs, by rw [h5]⟩
          · have c2 : (((n + t : Nat) : Int) < (l.length : Int)) = False := by simp; omega
            simp (disch := omega) only [go_sem, simprocAttr, he, lenE, c2]
            exact ⟨hs, by rw [h5]⟩
      clear hs he
      rintro e h ⟨hs, he⟩
      simp (disch := omega) only [go_sem, simprocAttr, he]
      by_cases h2 : 0 < n ∧ most < (runEnd l n : Int)
      · rw [if_pos h2] at hsk
        have c2 : ((n : Int) > 0) = True := by simp; omega
        have c3 : ((runEnd l n : Int) > most) = True := by simp; omega
        simp (disch := omega) only [go_sem, simprocAttr, he, c2, c3]
        exact ⟨hs, by rw [hsk]⟩
      · rw [if_neg h2] at hsk
        by_cases h3 : 0 < n
        case' pos =>
          have c2 : ((n : Int) > 0) = True := by simp; omega
          have c3 : ((runEnd l n : Int) > most) = False := eq_false fun h => h2 ⟨h3, by omega⟩
          simp (disch := omega) only [go_sem, simprocAttr, he, c2, c3]
        case' neg =>
          have c2 : ((n : Int) > 0) = False := eq_false (by omega)
          simp (disch := omega) only [go_sem, simprocAttr, he, c2]
        all_goals
          refine ⟨l.length - runEnd l n, by omega, runEnd l n, hle, rfl, ?_, hs, rfl⟩
          rw [← hsk]
          exact someN_fuel (by omega) (by omega) hle
    · have c1 : ((n : Int) < (l.length : Int)) = False := by simp; omega
      have e1 : someN l most n (l.length + 1 - n) = n := by
        rw [show l.length + 1 - n = (l.length - n) + 1 by omega]
        show (if n < l.length then _ else _) = _
        rw [if_neg h1]
      simp (disch := omega) only [go_sem, simprocAttr, c1, he]
      exact ⟨hs, by rw [← hsk, e1]⟩
  clear hs
  rintro e h ⟨hs, he⟩
  have lenE := hs.els.len
  rw [List.length_map] at lenE
  obtain ⟨w, hw⟩ : ∃ w, slcL 8 v none (some (.int .i64 (k : Int))) = some w := by
    obtain ⟨w, h1, _⟩ := ow_slc (k := .i64) (k' := .i64) (lo := 0) (hi := k) (Nat.zero_le _) (by simpa using hkl) hs
    exact ⟨w, by rw [slc_lo]; exact h1⟩
  have hd : decide ((k : Int) < (l.length : Int)) = decide (k < l.length) := by rw [decide_eq_decide]; omega
  simp (disch := omega) only [go_sem, simprocAttr, he, hw, lenE, hd]
  exact hs
end
end Go.Proofs.Ytaioncbpfckhaaa
/- The store: a front is forgotten. -/
set_option linter.unusedSimpArgs false
set_option linter.unusedVariables false
set_option maxRecDepth 10000
namespace Go.Proofs.Ytaioncbpfckhaaa
open Go.Hz

section
variable {h : Hp} {F : List Asr} {s : Nat} {A : Sto} {o : AV}
end
end Go.Proofs.Ytaioncbpfckhaaa
/- A hub of watchers: new ones, how many there are. -/
set_option linter.unusedSimpArgs false
set_option linter.unusedVariables false
set_option maxRecDepth 10000
namespace Go.Proofs.Ytaioncbpfckhaaa
open Go.Hz

abbrev tb : Nat := 69
abbrev th : Nat := 75
abbrev te : Nat := 79
/-- A watcher in the heap. -/
structure Wn where
  w : Wc
  p : Nat
  lv : AV
def mdV (m : Md) (lv : AV) : AV := match m with
  | .behind => .iface tb (.agg [])
  | .hears _ => .iface th (.agg [lv])
  | .ended _ why => .iface te (.agg [lv, .int .i64 why])
def WnL (x : Wn) : List Asr := [pto x.p (.row 4 [[.str x.w.lo, .str x.w.hi, .int .i64 x.w.place, mdV x.w.md x.lv]] 1), Ow 8 x.lv ((mdE x.w.md).map evC)]
def WnP (x : Wn) : Asr := fun h => sat h (WnL x)
theorem wnP {x : Wn} {h : Hp} {F : List Asr} : sat h (WnP x :: F) ↔ sat h (pto x.p (.row 4 [[.str x.w.lo, .str x.w.hi, .int .i64 x.w.place, mdV x.w.md x.lv]] 1) :: Ow 8 x.lv ((mdE x.w.md).map evC) :: F) := by
  unfold WnP WnL
  exact sat_sl (l1 := [_, _]) (l := F)
def wnK (y : Wn) : Int × Nat := (y.w.id, y.p)
abbrev mpH (m : Nat) (Z : List (Int × Nat)) : Asr := MpA (fun n : Int => AV.int .i64 n) (fun q : Int × Nat => q.1) (fun q => AV.ptr q.2 4 0 0) m Z
def HbP (hb s : Nat) (last : Int) (X : List Wc) : Asr := fun h => ∃ (m : Nat) (Y : List Wn), Y.map Wn.w = X ∧ sat h ([pto hb (.row 3 [[.ptr s 7 0 0, .map m, .int .i64 last]] 1), mpH m (Y.map wnK)] ++ Y.map WnP)
theorem hbP {hb s : Nat} {last : Int} {X : List Wc} {h : Hp} {F : List Asr} : sat h (HbP hb s last X :: F) ↔ ∃ (m : Nat) (Y : List Wn), Y.map Wn.w = X ∧ sat h (pto hb (.row 3 [[.ptr s 7 0 0, .map m, .int .i64 last]] 1) :: mpH m (Y.map wnK) :: (Y.map WnP ++ F)) := by
  unfold HbP
  rw [sat_ex]; refine exists_congr fun m => ?_
  rw [sat_ex]; refine exists_congr fun Y => ?_
  rw [sat_and]
  exact and_congr_right fun _ => sat_sl (l1 := [_, _] ++ Y.map WnP) (l := F)
section
variable {h : Hp} {F : List Asr} {hb s : Nat} {last : Int} {X : List Wc} {A : Sto} {o : AV} {l : List Ver}
theorem hbNew (hs : sat h F) : Triple Try.prog 9 [.ptr s 7 0 0] h (fun r h => ∃ hb, r = .ptr hb 3 0 0 ∧ sat h (HbP hb s 0 [] :: F)) := by
  refine t9 (Nat.le_of_ble_eq_true rfl) ?_
  simp (disch := omega) only [F9, go_sem, simprocAttr]
  refine new_opq hs fun m h hs => ?_
  simp (disch := omega) only [go_sem, simprocAttr]
  refine new_opq hs fun hb h hs => ?_
  simp (disch := omega) only [go_sem, simprocAttr]
  refine ⟨hb, rfl, hbP.2 ⟨m, [], rfl, ?_⟩⟩
  exact (mpA_new hs.p1).p1
theorem hbWatch {lo hi : Key} {from_ : Int} (hs : sat h (HbP hb s last X :: F)) (hX : HbOK last X) (hl : 0 ≤ last ∧ last ≤ 1000000000) (hfr : i64 from_) :
    Triple Try.prog 10 [.ptr hb 3 0 0, .str lo, .str hi, .int .i64 from_] h (fun r h => r = .int .i64 (last + 1) ∧ HbOK (last + 1) (X ++ [⟨last + 1, lo, hi, max from_ 1, .behind⟩]) ∧ sat h (HbP hb s (last + 1) (X ++ [⟨last + 1, lo, hi, max from_ 1, .behind⟩]) :: F)) := by
  obtain ⟨m, Y, hY, hs2⟩ := hbP.1 hs
  have hp := hs2.at
  have hne : ∀ q ∈ Y.map wnK, q.1 ≠ last + 1 := fun q hq e => by
    obtain ⟨y, hy, rfl⟩ := List.mem_map.1 hq
    have := hX.id y.w (by rw [← hY]; exact List.mem_map_of_mem hy)
    have e : y.w.id = last + 1 := e
    omega
  have em : (if from_ < 1 then (1 : Int) else from_) = max from_ 1 := by split <;> omega
  have hs3 := hs2.set (o' := .row 3 [[.ptr s 7 0 0, .map m, .int .i64 (last + 1)]] 1)
  have hp3 := hs3.at
  refine t10 (Nat.le_of_ble_eq_true rfl) ?_
  simp (disch := omega) only [F10, hp, hp3, em, go_sem, simprocAttr]
  generalize Hp.set h hb _ = h2 at hs3 hp3 ⊢
  refine new_opq hs3 fun p h hs => ?_
  have hp := hs.p1.at
  simp (disch := omega) only [go_sem, simprocAttr]
  refine mup_new keyOK_int hs.p2 (y := ((last + 1, p) : Int × Nat)) hne fun h hs => ?_
  have hp := hs.p2.at
  simp (disch := omega) only [go_sem, simprocAttr, hp]
  refine ⟨⟨?_, ?_, ?_, ?_⟩, hbP.2 ⟨m, Y ++ [⟨⟨last + 1, lo, hi, max from_ 1, .behind⟩, p, .nils⟩], by rw [List.map_append, hY]; rfl, ?_⟩⟩
  · rw [List.map_append, List.nodup_append]
    refine ⟨hX.nd, by simp, fun a ha b hb2 e => ?_⟩
    obtain ⟨x, hx, rfl⟩ := List.mem_map.1 ha
    simp at hb2; subst hb2
    have := hX.id x hx
    omega
  · intro x hx
    rcases List.mem_append.1 hx with hx | hx
    · have := hX.id x hx; omega
    · rw [List.mem_singleton.1 hx]; exact Int.le_refl _
  · intro x hx
    rcases List.mem_append.1 hx with hx | hx
    · exact hX.pl x hx
    · rw [List.mem_singleton.1 hx]
      unfold i64 at hfr
      exact ⟨by show 1 ≤ max from_ 1; omega, by show max from_ 1 ≤ _; omega⟩
  · intro x hx
    rcases List.mem_append.1 hx with hx | hx
    · exact hX.ev x hx
    · rw [List.mem_singleton.1 hx]; exact Nat.zero_le _
  · have h9 : sat h (WnP ⟨⟨last + 1, lo, hi, max from_ 1, .behind⟩, p, .nils⟩ :: _) := wnP.2 (((hs.p2.p2).add (ow_nil (s := 8))).p3.p3.p2.p3)
    have h10 := sat.unmid (l1 := [pto hb (.row 3 [[.ptr s 7 0 0, .map m, .int .i64 (last + 1)]] 1), mpH m (Y.map wnK ++ [(last + 1, p)])] ++ Y.map WnP) (l2 := F) h9
    simpa [wnK] using h10
/-- Events apart. -/
theorem evClone {v : AV} (hs : sat h F) (hE : ∀ h, sat h F → Els h 8 v (l.map evC)) (hb : l.length ≤ 10000000) (hn : v ≠ .lst []) :
    Triple Try.prog 28 [v] h (fun r h => sat h (Ow 8 r (l.map evC) :: F)) := by
  rcases Els.nil (hE _ hs) hn with ⟨rfl, he⟩ | ⟨_, hq⟩
  · refine t28 (Nat.le_of_ble_eq_true rfl) ?_
    simp (disch := omega) only [F28, go_sem, simprocAttr]
    have : l = [] := by simpa using he
    subst this
    exact hs.add ow_nil
  · refine t28 (Nat.le_of_ble_eq_true rfl) ?_
    simp (disch := omega) only [F28, hq, go_sem, simprocAttr]
    refine new_opq hs fun n h hs => ?_
    have hy := (hE _ hs.drop).1
    simp (disch := omega) only [go_sem, simprocAttr]
    refine app_sat (hs.ow (Nat.zero_le _)) hy (atoms_ev2 _) (by simp; omega) fun v' h hs hc' ha' => ?_
    simp (disch := omega) only [go_sem, simprocAttr, hc']
    simpa using hs
/-- One of the watchers, apart. -/
theorem hbCut {m : Nat} {Z : List (Int × Nat)} {l1 l2 : List Wn} {y : Wn} (hs : sat h (pto hb (.row 3 [[.ptr s 7 0 0, .map m, .int .i64 last]] 1) :: mpH m Z :: ((l1 ++ y :: l2).map WnP ++ StP s A o :: F))) :
    sat h (pto y.p (.row 4 [[.str y.w.lo, .str y.w.hi, .int .i64 y.w.place, mdV y.w.md y.lv]] 1) :: Ow 8 y.lv ((mdE y.w.md).map evC) :: StP s A o :: pto hb (.row 3 [[.ptr s 7 0 0, .map m, .int .i64 last]] 1) :: mpH m Z :: ((l1 ++ l2).map WnP ++ F)) := by
  have h1 := sat.mid (l1 := [pto hb (.row 3 [[.ptr s 7 0 0, .map m, .int .i64 last]] 1), mpH m Z] ++ (l1 ++ y :: l2).map WnP) (l2 := F) hs
  have h2 : sat h (StP s A o :: ([pto hb (.row 3 [[.ptr s 7 0 0, .map m, .int .i64 last]] 1), mpH m Z] ++ l1.map WnP) ++ WnP y :: (l2.map WnP ++ F)) := by simpa using h1
  have h3 := sat.mid (l1 := StP s A o :: ([pto hb (.row 3 [[.ptr s 7 0 0, .map m, .int .i64 last]] 1), mpH m Z] ++ l1.map WnP)) (l2 := l2.map WnP ++ F) h2
  have h4 := wnP.1 h3
  simpa using h4
theorem hbJoin {m : Nat} {Z : List (Int × Nat)} {l1 l2 : List Wn} {y : Wn} (hs : sat h (pto y.p (.row 4 [[.str y.w.lo, .str y.w.hi, .int .i64 y.w.place, mdV y.w.md y.lv]] 1) :: Ow 8 y.lv ((mdE y.w.md).map evC) :: StP s A o :: pto hb (.row 3 [[.ptr s 7 0 0, .map m, .int .i64 last]] 1) :: mpH m Z :: ((l1 ++ l2).map WnP ++ F))) :
    sat h (pto hb (.row 3 [[.ptr s 7 0 0, .map m, .int .i64 last]] 1) :: mpH m Z :: ((l1 ++ y :: l2).map WnP ++ StP s A o :: F)) := by
  have h3 := wnP.2 hs
  have h4 := sat.unmid (l1 := StP s A o :: ([pto hb (.row 3 [[.ptr s 7 0 0, .map m, .int .i64 last]] 1), mpH m Z] ++ l1.map WnP)) (l2 := l2.map WnP ++ F) (by simpa using h3)
  have h5 : sat h (StP s A o :: (([pto hb (.row 3 [[.ptr s 7 0 0, .map m, .int .i64 last]] 1), mpH m Z] ++ (l1 ++ y :: l2).map WnP) ++ F)) := by simpa using h4
  have h6 := sat.unmid h5
  simpa using h6
theorem hbGone {m : Nat} {Z : List (Int × Nat)} {l1 l2 : List Wn} (hs : sat h (StP s A o :: pto hb (.row 3 [[.ptr s 7 0 0, .map m, .int .i64 last]] 1) :: mpH m Z :: ((l1 ++ l2).map WnP ++ F))) :
    sat h (pto hb (.row 3 [[.ptr s 7 0 0, .map m, .int .i64 last]] 1) :: mpH m Z :: ((l1 ++ l2).map WnP ++ StP s A o :: F)) := by
  have h5 : sat h (StP s A o :: (([pto hb (.row 3 [[.ptr s 7 0 0, .map m, .int .i64 last]] 1), mpH m Z] ++ (l1 ++ l2).map WnP) ++ F)) := by simpa using hs
  have h6 := sat.unmid h5
  simpa using h6
end
end Go.Proofs.Ytaioncbpfckhaaa
/- A hub of watchers: a poll. -/
set_option linter.unusedSimpArgs false
set_option linter.unusedVariables false
set_option maxRecDepth 10000
namespace Go.Proofs.Ytaioncbpfckhaaa
open Go.Hz

theorem someK_pos {l : List Ver} {most : Int} (h : l ≠ []) : 0 < someK l most := by
  have hl := List.length_pos_iff.2 h
  unfold someK someN
  rw [if_pos hl, if_neg (by omega)]
  have h1 := runEnd_gt hl
  have key : ∀ f n, 0 < n → 0 < someN l most n f := by
    intro f
    induction f with
    | zero => exact fun n h => h
    | succ f ih =>
      intro n hn
      unfold someN
      split
      · rename_i h2
        split
        · exact hn
        · have := runEnd_gt h2
          exact ih _ (by omega)
      · exact hn
  exact key _ _ h1
section
variable {h : Hp} {F R : List Asr} {hb s m : Nat} {last : Int} {X : List Wc} {Ps : List (Int × Nat)} {A : Sto} {o : AV} {l : List Ver} {y : Wn} {mo : Int}
abbrev wRow (y : Wn) : Asr := pto y.p (.row 4 [[.str y.w.lo, .str y.w.hi, .int .i64 y.w.place, mdV y.w.md y.lv]] 1)
abbrev wEvs (y : Wn) : Asr := Ow 8 y.lv ((mdE y.w.md).map evC)
abbrev hRow (hb s m : Nat) (last : Int) : Asr := pto hb (.row 3 [[.ptr s 7 0 0, .map m, .int .i64 last]] 1)
theorem mvCompd2 {F : List Asr} (hs : sat h (StP s A o :: F)) : Triple Try.prog 45 [.ptr s 7 0 0] h (fun r h => r = .int .i64 A.past ∧ sat h (StP s A o :: F)) := by
  obtain ⟨ix, vm, cv, L, X, hok, hs2⟩ := mvP.1 hs
  have hp := hs2.at
  refine t45 (Nat.le_of_ble_eq_true rfl) ?_
  simp (disch := omega) only [F45, hp, go_sem, simprocAttr]
  exact hs
/-- What a poll of one that is behind brings. -/
inductive LatePost (hb s m : Nat) (last : Int) (Ps : List (Int × Nat)) (A : Sto) (o : AV) (y : Wn) (mo : Int) (R : List Asr) (r : AV) (h : Hp) : Prop
  | gone (h0 : y.w.place ≤ A.past) (h1 : r = .tup [.nils, .int .i64 16]) (h2 : sat h (StP s A o :: hRow hb s m last :: mpH m (Ps.filter fun q => decide (q.1 ≠ y.w.id)) :: R)) : LatePost hb s m last Ps A o y mo R r h
  | told (v : AV) (y' : Wn) (h0 : y'.p = y.p) (h1 : (y.w.poll A mo).2 = some y'.w) (h2 : (y.w.poll A mo).1.2 = 0) (h3 : r = .tup [v, .int .i64 0]) (h4 : sat h (Ow 8 v ((y.w.poll A mo).1.1.map evC) :: wRow y' :: wEvs y' :: StP s A o :: hRow hb s m last :: mpH m Ps :: R)) : LatePost hb s m last Ps A o y mo R r h
theorem hbLate (hs : sat h (wRow y :: wEvs y :: StP s A o :: hRow hb s m last :: mpH m Ps :: R)) (hmd : y.w.md = .behind) (hPs : (Ps.map fun q => q.1).Nodup) (hy : (y.w.id, y.p) ∈ Ps) (hmo : 1 ≤ mo) (hpl : 1 ≤ y.w.place ∧ y.w.place ≤ 9223372036854775807) (hz : A.chs.length ≤ 1000000) (hr : A.rev ≤ 1000000000000000) (ok : StoOK A) :
    Triple Try.prog 29 [.ptr hb 3 0 0, .int .i64 y.w.id, .ptr y.p 4 0 0, .int .i64 mo] h (fun r h => LatePost hb s m last Ps A o y mo R r h) := by
  refine Triple.view ?_
  have hp := hs.at
  have hh := hs.p3.at
  refine t29 (Nat.le_of_ble_eq_true rfl) ?_
  simp (disch := omega) only [F29, hp, hh, go_sem, simprocAttr]
  refine call_use' (mvCompd2 hs.p2) ?_
  rintro r h ⟨hr', hs⟩
  subst hr'
  have hp := hs.p1.at
  have hh := hs.p3.at
  by_cases g1 : y.w.place ≤ A.past
  · have c1 : (y.w.place ≤ A.past) = True := eq_true g1
    simp (disch := omega) only [go_sem, simprocAttr, hp, hh, c1]
    refine del_hit keyOK_int (hs.p3.p3.p3.p3.p4) hPs (x := ((y.w.id, y.p) : Int × Nat)) hy fun h hs => ?_
    simp (disch := omega) only [go_sem, simprocAttr]
    exact ⟨_, h, GV.refl _ _, .gone g1 rfl hs.p2.drop.p2.drop.p2.p2⟩
  have c1 : (y.w.place ≤ A.past) = False := eq_false g1
  simp (disch := omega) only [go_sem, simprocAttr, hp, hh, c1]
  refine call_use (wcChanges (w := y.w) (hs.p4.p4.p4.p3.p4) hpl.1 (by omega) ⟨rfl, rfl, rfl⟩) ?_
  rintro r h ⟨v1, hr', hs⟩
  subst hr'
  have hcl : (y.w.chg A).1.length ≤ A.chs.length := by
    unfold Wc.chg
    by_cases q : A.rev < y.w.place
    · rw [if_pos q]; exact Nat.zero_le _
    · rw [if_neg q, if_neg g1]; exact List.length_filter_le _ _
  have hcr : ∀ v ∈ (y.w.chg A).1, v.rev ≤ A.rev ∧ 1 ≤ v.rev := by
    intro v hv
    unfold Wc.chg at hv
    by_cases q : A.rev < y.w.place
    · rw [if_pos q] at hv; cases hv
    · rw [if_neg q, if_neg g1] at hv
      have := ok.chr v (List.mem_filter.1 hv).1
      have := ok.past
      omega
  have hpoll : y.w.poll A mo = if someK (y.w.chg A).1 mo < (y.w.chg A).1.length then (((y.w.chg A).1.take (someK (y.w.chg A).1 mo), 0), some { y.w with place := lastV ((y.w.chg A).1.take (someK (y.w.chg A).1 mo)) + 1 }) else (((y.w.chg A).1.take (someK (y.w.chg A).1 mo), 0), some { y.w with place := max y.w.place (A.rev + 1), md := .hears [] }) := by
    obtain ⟨⟨id, lo, hi, place, md⟩, p, lv⟩ := y
    have hmd : md = .behind := hmd
    subst hmd
    unfold Wc.poll
    simp only []
    rw [if_neg g1, show max mo 1 = mo by omega]
  generalize (y.w.chg A).1 = C at *
  generalize (y.w.chg A).2 = ce at *
  simp (disch := omega) only [go_sem, simprocAttr]
  refine call_use (wcSome (most := mo) hs (by omega)) ?_
  rintro r h ⟨w, hw, hr', hs⟩
  subst hr'
  have hkl := someK_le (l := C) (most := mo)
  have hkp := fun h => someK_pos (l := C) (most := mo) h
  generalize someK C mo = k at *
  by_cases hk : k < C.length
  · rw [if_pos hk] at hpoll
    have hC : C ≠ [] := by intro h; rw [h] at hk; simp at hk
    have hk0 := hkp hC
    rcases hs.cases with ⟨_, h0, _⟩ | ⟨b9, cap, hv, hs9, hle⟩
    · exact absurd (by simpa using h0) hC
    rw [List.length_map] at hv hle
    subst hv
    rw [slcL_hi (by omega) (by omega) hle] at hw
    injection hw with hw
    subst hw
    have hrow : (C.map evC)[k - 1]? = some (evC (C[k - 1]'(by omega))) := by
      rw [List.getElem?_map, List.getElem?_eq_getElem (by omega)]; rfl
    have hrv := hcr _ (List.getElem_mem (show k - 1 < C.length by omega))
    have hlast : lastV (C.take k) = (C[k - 1]'(by omega)).rev := by
      unfold lastV
      rw [List.getLast?_eq_getElem?, List.length_take, Nat.min_eq_left (Nat.le_of_lt hk), List.getElem?_take, if_pos (by omega), List.getElem?_eq_getElem (by omega)]
    rw [hlast] at hpoll
    generalize C[k - 1]'(by omega) = x at hrow hrv hpoll
    rw [evC_eq2] at hrow
    have hk9 : decide (k < C.length) = true := decide_eq_true hk
    have m1 : ((k : Int)).toNat = k := by omega
    have m2 : (k : Int) - 1 = ((k - 1 : Nat) : Int) := by omega
    have hb9 := hs9.at
    have hp := hs9.p1.at
    have hs5 := hs9.p1.set (o' := .row 4 [[.str y.w.lo, .str y.w.hi, .int .i64 (x.rev + 1), mdV y.w.md y.lv]] 1)
    have hp5 := hs5.at
    rw [m1]
    have lenw : lenL (.arr b9 8 0 k cap) = some (.int .i64 k) := rfl
    simp (disch := omega) only [go_sem, simprocAttr, hk9, lenw, m2, hb9, hrow, hp, hp5, Int.toNat_natCast]
    have hs6 := hs5.p1
    have hs7 := hs6.set (o' := .row 8 ((C.take k).map evC) cap)
    have e7 : (C.map evC).take k = (C.take k).map evC := List.map_take.symm
    have hlk : ((C.take k).map evC).length = k := by rw [List.length_map, List.length_take, Nat.min_eq_left (Nat.le_of_lt hk)]
    refine ⟨_, _, GV.trim _ k hs6.at, ?_⟩
    rw [e7]
    have hs8 := hs7.ow (by rw [hlk]; omega)
    rw [hlk] at hs8
    refine .told _ ⟨{ y.w with place := x.rev + 1 }, y.p, y.lv⟩ rfl ?_ ?_ rfl ?_
    · rw [hpoll]
    · rw [hpoll]
    · rw [hpoll]
      exact hs8.p5.p5.p4.p5.p5.p5
  · rw [if_neg hk] at hpoll
    have hk9 : decide (k < C.length) = false := decide_eq_false hk
    have hkC : k = C.length := by omega
    have hw1 : w = v1 := by
      rcases hs.cases with ⟨hv, h0, _⟩ | ⟨b9, cap, hv, hs9, hle⟩
      · subst hv
        have h0 : C.length = 0 := by simpa using congrArg List.length h0
        rw [hkC, h0] at hw
        injection hw with hw
        exact hw.symm
      · rw [List.length_map] at hv hle
        subst hv
        rw [slcL_hi (by omega) (by omega) hle] at hw
        injection hw with hw
        rw [← hw, hkC]
        rfl
    subst hw1
    have hp := hs.p1.at
    have hh := hs.p4.at
    simp (disch := omega) only [go_sem, simprocAttr, hk9, hp, hh]
    refine call_use' (mvRev hs.p2) ?_
    rintro r h ⟨hr', hs⟩
    subst hr'
    have hp := hs.p2.at
    have h0 : 0 ≤ A.rev := by have := ok.past; have := ok.rev; omega
    have em : (if y.w.place < A.rev + 1 then A.rev + 1 else y.w.place) = max y.w.place (A.rev + 1) := by split <;> omega
    have hs5 := hs.p2.set (o' := .row 4 [[.str y.w.lo, .str y.w.hi, .int .i64 (max y.w.place (A.rev + 1)), mdV y.w.md y.lv]] 1)
    have hp5 := hs5.at
    have hs6 := hs.p2.set (o' := .row 4 [[.str y.w.lo, .str y.w.hi, .int .i64 (max y.w.place (A.rev + 1)), .iface th (.agg [.nils])]] 1)
    have hp6 := hs6.at
    simp (disch := omega) only [go_sem, simprocAttr, hp, hp5, hp6, em]
    refine ⟨_, _, GV.refl _ _, .told _ ⟨{ y.w with place := max y.w.place (A.rev + 1), md := .hears [] }, y.p, .nils⟩ rfl ?_ ?_ rfl ?_⟩
    · rw [hpoll]
    · rw [hpoll]
    · rw [hpoll]
      have hs8 := (hs6.add (ow_nil (s := 8)))
      simp only []
      rw [hkC, List.take_length]
      exact hs8.p4.drop.p5.p5.p4.p3.p4.p5
end
end Go.Proofs.Ytaioncbpfckhaaa
/- A hub of watchers: a poll. -/
set_option linter.unusedSimpArgs false
set_option linter.unusedVariables false
set_option maxRecDepth 10000
namespace Go.Proofs.Ytaioncbpfckhaaa
open Go.Hz

section
variable {h : Hp} {F R : List Asr} {hb s m : Nat} {last : Int} {X : List Wc} {Ps : List (Int × Nat)} {A : Sto} {o : AV} {l : List Ver} {y : Wn} {mo : Int}
theorem ow_atom {v : AV} {es : List (List AV)} {n : Nat} (hs : sat h (Ow n v es :: F)) : v.isAtom = true := by
  rcases hs.cases with ⟨rfl, _, _⟩ | ⟨b, cap, rfl, _, _⟩ <;> rfl
theorem ow_cell {v : AV} {es : List (List AV)} {n : Nat} (hs : sat h (Ow n v es :: F)) : v.cells = [v] := by
  rcases hs.cases with ⟨rfl, _, _⟩ | ⟨b, cap, rfl, _, _⟩ <;> rfl
theorem hearsKept {lv : AV} (hl : lv.isAtom = true) (hs : sat h F) : Triple Try.prog 117 [.agg [lv]] h (fun r h => r = lv ∧ sat h F) := by
  refine t117 (Nat.le_of_ble_eq_true rfl) ?_
  simp (disch := omega) only [F117, hl, go_sem, simprocAttr]
  refine new_opq hs fun a h hs => ?_
  have ha := hs.at
  simp (disch := omega) only [go_sem, simprocAttr, ha]
  exact hs.drop
theorem endedKept {lv : AV} {why : Int} (hl : lv.isAtom = true) (hs : sat h F) : Triple Try.prog 118 [.agg [lv, .int .i64 why]] h (fun r h => r = lv ∧ sat h F) := by
  refine t118 (Nat.le_of_ble_eq_true rfl) ?_
  simp (disch := omega) only [F118, hl, go_sem, simprocAttr]
  refine new_opq hs fun a h hs => ?_
  have ha := hs.at
  simp (disch := omega) only [go_sem, simprocAttr, ha]
  exact hs.drop
theorem meth_hears : methOf Try.prog th "horologe/watch.kept" = some 117 := by kernel_rfl
theorem meth_ended : methOf Try.prog te "horologe/watch.kept" = some 118 := by kernel_rfl
theorem inv_hears {st : List Fr} {e : Env} {k : Kt} {d : Option Nat} {r : List (AItem × List AItem)} {obl : List AItem} {lv : AV} (hl : lv.isAtom = true) (hs : sat h F)
    (hk : ∀ h', sat h' F → obls Try.prog obl (e.put d lv) h' ∧ runS Try.prog r st (e.put d lv) h' k) : effR Try.prog (invE Try.prog "horologe/watch.kept" (.iface th (.agg [lv])) [] h) obl d r st e k := by
  unfold effR
  simp only [invE, meth_hears]
  exact ⟨okFn_ok rfl, (hearsKept hl hs).mono fun v h' ⟨h1, h2⟩ => by subst h1; exact hk h' h2⟩
theorem inv_ended {st : List Fr} {e : Env} {k : Kt} {d : Option Nat} {r : List (AItem × List AItem)} {obl : List AItem} {lv : AV} {why : Int} (hl : lv.isAtom = true) (hs : sat h F)
    (hk : ∀ h', sat h' F → obls Try.prog obl (e.put d lv) h' ∧ runS Try.prog r st (e.put d lv) h' k) : effR Try.prog (invE Try.prog "horologe/watch.kept" (.iface te (.agg [lv, .int .i64 why])) [] h) obl d r st e k := by
  unfold effR
  simp only [invE, meth_ended]
  exact ⟨okFn_ok rfl, (endedKept hl hs).mono fun v h' ⟨h1, h2⟩ => by subst h1; exact hk h' h2⟩
theorem ow_parts {v : AV} {es : List (List AV)} {n k : Nat} (hs : sat h (Ow n v es :: F)) (hk : k ≤ es.length) : ∃ x z, slcL n v none (some (.int .i64 (k : Int))) = some x ∧ slcL n v (some (.int .i64 (k : Int))) none = some z ∧ (∀ h (G : List Asr), sat h (Ow n v es :: G) → Els h n x (es.take k) ∧ Els h n z (es.drop k)) ∧ x ≠ .lst [] ∧ z ≠ .lst [] ∧ lenL v = some (.int .i64 es.length) := by
  have lenE := hs.els.len
  obtain ⟨x, h1, h2, _⟩ := ow_slc (k := .i64) (k' := .i64) (lo := 0) (hi := k) (Nat.zero_le _) hk hs
  obtain ⟨z, h3, h4, _⟩ := ow_slc (k := .i64) (k' := .i64) (lo := k) (hi := es.length) hk (Nat.le_refl _) hs
  have ne : ∀ {x : AV} {a b : Option AV}, slcL n v a b = some x → x ≠ .lst [] := by
    intro x a b h1 e
    subst e
    rcases hs.cases with ⟨rfl, _, _⟩ | ⟨b, cap, rfl, _, _⟩
    · unfold slcL at h1
      simp only [] at h1
      split at h1
      · split at h1 <;> cases h1
      · cases h1
    · unfold slcL at h1
      simp only [] at h1
      split at h1
      · split at h1 <;> cases h1
      · cases h1
  refine ⟨x, z, by rw [slc_lo]; exact h1, by rw [slc_hi lenE]; exact h3, fun h G hs => ⟨?_, ?_⟩, ne h1, ne h3, lenE⟩
  · have := h2 h G hs
    simpa using this
  · have := h4 h G hs
    rwa [List.take_of_length_le (by simp)] at this
theorem wnK_filter {Y1 Y2 : List Wn} {y : Wn} (hn : ((Y1.map Wn.w ++ y.w :: Y2.map Wn.w).map Wc.id).Nodup) : ((Y1 ++ y :: Y2).map wnK).filter (fun q => decide (q.1 ≠ y.w.id)) = (Y1 ++ Y2).map wnK := by
  obtain ⟨h1, h2⟩ := nd_split hn
  rw [List.map_append, List.map_cons, List.filter_append, List.filter_cons_of_neg (by simp [wnK]), List.filter_eq_self.2, List.filter_eq_self.2, List.map_append]
  · intro q hq
    obtain ⟨z, hz, rfl⟩ := List.mem_map.1 hq
    exact decide_eq_true (h2 z.w (List.mem_map_of_mem hz))
  · intro q hq
    obtain ⟨z, hz, rfl⟩ := List.mem_map.1 hq
    exact decide_eq_true (h1 z.w (List.mem_map_of_mem hz))
theorem hbSet {Y1 Y2 : List Wn} {y y' : Wn} (h1 : y'.w.id = y.w.id) (h2 : y'.p = y.p) (hs : sat h (wRow y' :: wEvs y' :: StP s A o :: hRow hb s m last :: mpH m ((Y1 ++ y :: Y2).map wnK) :: ((Y1 ++ Y2).map WnP ++ F))) : sat h (HbP hb s last (Y1.map Wn.w ++ y'.w :: Y2.map Wn.w) :: StP s A o :: F) := by
  have e : (Y1 ++ y' :: Y2).map wnK = (Y1 ++ y :: Y2).map wnK := by
    simp only [List.map_append, List.map_cons, wnK, h1, h2]
  refine hbP.2 ⟨m, Y1 ++ y' :: Y2, by simp, ?_⟩
  rw [e]
  exact hbJoin hs
theorem hbPoll {id : Int} (hs : sat h (HbP hb s last X :: StP s A o :: F)) (hX : HbOK last X) (hmo : i64 mo) (hz : A.chs.length ≤ 1000000) (hr : A.rev ≤ 1000000000000000) (ok : StoOK A) :
    Triple Try.prog 14 [.ptr hb 3 0 0, .int .i64 id, .int .i64 mo] h (fun r h => r = .tup [evsV (hPoll A X id mo).1.1, .int .i64 (hPoll A X id mo).1.2] ∧ sat h (HbP hb s last (hPoll A X id mo).2 :: StP s A o :: F)) := by
  refine Triple.lst1 8 ?_
  obtain ⟨m, Y, hY, hs2⟩ := hbP.1 hs
  have hp := hs2.at
  have em : (if mo < 1 then (1 : Int) else mo) = max mo 1 := by split <;> omega
  rcases hX.split (id := id) with hno | ⟨l1, w, l2, hX1, hid⟩
  · have hlk := fun (k : Bool) (z : AV) => lk_miss keyOK_int hs2.p1 (ok := k) (z := z) (q := id) (fun q hq e => by
      obtain ⟨y, hy, rfl⟩ := List.mem_map.1 hq
      exact hno y.w (by rw [← hY]; exact List.mem_map_of_mem hy) e)
    rw [hPoll_none hno]
    refine t14 (Nat.le_of_ble_eq_true rfl) ?_
    simp (disch := omega) only [F14, hp, hlk, go_sem, simprocAttr]
    exact ⟨.nils, _, [], _, rfl, hs.add ow_nil, fun h hs => ⟨rfl, hs⟩⟩
  subst hid
  obtain ⟨Y1, Y', hYe, hY1, hY'⟩ := List.map_eq_append_iff.1 (hY.trans hX1)
  obtain ⟨y, Y2, hYe2, hyw, hY2⟩ := List.map_eq_cons_iff.1 hY'
  subst hYe2 hYe hyw hY1 hY2
  subst hX1
  rw [hPoll_some hX.nd]
  have hnd : (((Y1 ++ y :: Y2).map wnK).map fun q => q.1).Nodup := by
    have := hX.nd
    rw [← hY] at this
    rw [List.map_map] at this ⊢
    exact this
  have hym : (y.w.id, y.p) ∈ (Y1 ++ y :: Y2).map wnK := List.mem_map.2 ⟨y, by simp, rfl⟩
  have hlk := fun (k : Bool) (z : AV) => lk_hit keyOK_int hs2.p1 hnd hym (ok := k) (z := z)
  have hs3 := hbCut hs2
  have hp3 := hs3.p3.at
  have hy3 := hs3.at
  obtain ⟨w, p, lv⟩ := y
  obtain ⟨wid, lo, hi, pl, md⟩ := w
  cases md with
  | behind =>
    refine t14 (Nat.le_of_ble_eq_true rfl) ?_
    simp (disch := omega) only [F14, hp, hlk, em, hy3, mdV, taA, tb, th, te, go_sem, simprocAttr]
    refine new_opq hs3 fun a h hs => ?_
    have ha := hs.at
    have hs4 := hs.set (o' := .row 0 [[]] 1)
    have ha2 := hs4.at
    simp (disch := omega) only [go_sem, simprocAttr, ha, ha2]
    refine call_use (hbLate (mo := max mo 1) (y := ⟨⟨wid, lo, hi, pl, .behind⟩, p, lv⟩) hs4.drop rfl hnd hym (by omega) (hX.pl _ (by simp)) hz hr ok) ?_
    rintro r h (⟨h0, h1, h2⟩ | ⟨v, y', h0, h1, h2, h3, h4⟩)
    · subst h1
      have e1 : Wc.poll A ⟨wid, lo, hi, pl, .behind⟩ mo = (([], 16), none) := by
        unfold Wc.poll
        simp only []
        rw [if_pos h0]
      rw [wnK_filter (y := ⟨⟨wid, lo, hi, pl, .behind⟩, p, lv⟩) hX.nd] at h2
      rw [e1]
      simp (disch := omega) only [go_sem, simprocAttr]
      exact ⟨.nils, _, [], _, rfl, h2.add ow_nil, fun h hs => ⟨rfl, hbP.2 ⟨m, Y1 ++ Y2, by simp, hbGone hs⟩⟩⟩
    · subst h3
      rw [Wc.poll_max] at h1 h2 h4
      obtain ⟨h5, _⟩ := Wc.poll_id h1
      rw [h1, h2]
      simp (disch := omega) only [go_sem, simprocAttr]
      exact ⟨v, _, _, _, rfl, h4, fun h hs => ⟨rfl, hbSet h5 h0 hs⟩⟩
  | hears L =>
    have hL : L.length ≤ 16 := hX.ev ⟨wid, lo, hi, pl, .hears L⟩ (by simp)
    refine t14 (Nat.le_of_ble_eq_true rfl) ?_
    simp (disch := omega) only [F14, hp, hlk, em, hy3, mdV, taA, tb, th, te, go_sem, simprocAttr]
    refine new_opq hs3 fun a h hs => ?_
    have ha := hs.at
    have hs4 := hs.set (o' := .row 0 [[]] 1)
    have ha2 := hs4.at
    have hy4 := hs4.p1.at
    simp (disch := omega) only [go_sem, simprocAttr, ha, ha2]
    generalize Hp.set h a _ = h2 at *
    simp (disch := omega) only [go_sem, simprocAttr, hy4, mdV, th]
    have hlv := ow_atom hs4.p2
    refine inv_hears hlv hs4 ?_
    intro h hs
    obtain ⟨n, hn⟩ : ∃ n, min (max mo 1).toNat L.length = n := ⟨_, rfl⟩
    have hnL : n ≤ L.length := by omega
    obtain ⟨x1, x2, hx1, hx2, hE, hn1, hn2, lenE⟩ := ow_parts (k := n) hs.p2 (by rw [List.length_map]; exact hnL)
    rw [List.length_map] at lenE
    have lenE : lenL lv = some (.int .i64 (L.length : Nat)) := lenE
    have en : (if (L.length : Int) < max mo 1 then (L.length : Int) else max mo 1) = (n : Int) := by split <;> omega
    have en2 : (if max mo 1 < (L.length : Int) then max mo 1 else (L.length : Int)) = (n : Int) := by split <;> omega
    simp (disch := omega) only [go_sem, simprocAttr, lenE, en, en2, hx1, hx2]
    refine call_use (evClone (l := L.take n) hs (fun h hs => by have := (hE h _ hs.p2).1; rwa [← List.map_take] at this) (by rw [List.length_take]; omega) hn1) ?_
    intro r1 h hs
    simp (disch := omega) only [go_sem, simprocAttr]
    refine call_use (evClone (l := L.drop n) hs (fun h hs => by have := (hE h _ hs.p3).2; rwa [← List.map_drop] at this) (by rw [List.length_drop]; omega) hn2) ?_
    intro r2 h hs
    have hy5 := hs.p3.at
    simp (disch := omega) only [go_sem, simprocAttr, hy5, mdV, th, te, taA]
    refine new_opq hs fun q h hs => ?_
    have hq := hs.at
    have hs6 := hs.set (o' := .row 2 [[.nils, .int .i64 0]] 1)
    have hq6 := hs6.at
    have hy6 := hs6.p4.at
    have hr2 := ow_atom hs6.p1
    have hr3 := ow_cell hs6.p1
    have hs7 := hs6.p4.set (o' := .row 4 [[.str lo, .str hi, .int .i64 pl, .iface th (.agg [r2])]] 1)
    simp (disch := omega) only [go_sem, simprocAttr, hq, hq6, hy6, hr2, hr3]
    have e1 : Wc.poll A ⟨wid, lo, hi, pl, .hears L⟩ mo = ((L.take n, 0), some ⟨wid, lo, hi, pl, .hears (L.drop n)⟩) := by
      unfold Wc.poll
      simp only [hn]
    rw [e1]
    exact ⟨r1, _, _, _, rfl, hs7.p1.drop.p3.drop.p3.drop.p1.p1.p2, fun h hs => ⟨rfl, hbSet (y := ⟨⟨wid, lo, hi, pl, .hears L⟩, p, lv⟩) (y' := ⟨⟨wid, lo, hi, pl, .hears (L.drop n)⟩, p, r2⟩) rfl rfl hs⟩⟩
  | ended L why =>
    have hL : L.length ≤ 16 := hX.ev ⟨wid, lo, hi, pl, .ended L why⟩ (by simp)
    refine t14 (Nat.le_of_ble_eq_true rfl) ?_
    simp (disch := omega) only [F14, hp, hlk, em, hy3, mdV, taA, tb, th, te, go_sem, simprocAttr]
    refine new_opq hs3 fun a h hs => ?_
    have ha := hs.at
    have hs4 := hs.set (o' := .row 0 [[]] 1)
    have ha2 := hs4.at
    have hy4 := hs4.p1.at
    simp (disch := omega) only [go_sem, simprocAttr, ha, ha2]
    generalize Hp.set h a _ = h2 at *
    simp (disch := omega) only [go_sem, simprocAttr, hy4, mdV, th]
    have hlv := ow_atom hs4.p2
    refine inv_ended hlv hs4 ?_
    intro h hs
    obtain ⟨n, hn⟩ : ∃ n, min (max mo 1).toNat L.length = n := ⟨_, rfl⟩
    have hnL : n ≤ L.length := by omega
    obtain ⟨x1, x2, hx1, hx2, hE, hn1, hn2, lenE⟩ := ow_parts (k := n) hs.p2 (by rw [List.length_map]; exact hnL)
    rw [List.length_map] at lenE
    have lenE : lenL lv = some (.int .i64 (L.length : Nat)) := lenE
    have en : (if (L.length : Int) < max mo 1 then (L.length : Int) else max mo 1) = (n : Int) := by split <;> omega
    have en2 : (if max mo 1 < (L.length : Int) then max mo 1 else (L.length : Int)) = (n : Int) := by split <;> omega
    simp (disch := omega) only [go_sem, simprocAttr, lenE, en, en2, hx1, hx2]
    refine call_use (evClone (l := L.take n) hs (fun h hs => by have := (hE h _ hs.p2).1; rwa [← List.map_take] at this) (by rw [List.length_take]; omega) hn1) ?_
    intro r1 h hs
    simp (disch := omega) only [go_sem, simprocAttr]
    refine call_use (evClone (l := L.drop n) hs (fun h hs => by have := (hE h _ hs.p3).2; rwa [← List.map_drop] at this) (by rw [List.length_drop]; omega) hn2) ?_
    intro r2 h hs
    have hy5 := hs.p3.at
    simp (disch := omega) only [go_sem, simprocAttr, hy5, mdV, th, te, taA]
    refine new_opq hs fun q h hs => ?_
    have hq := hs.at
    have hs6 := hs.set (o' := .row 2 [[lv, .int .i64 why]] 1)
    have hq6 := hs6.at
    have hy6 := hs6.p4.at
    have hr2 := ow_atom hs6.p1
    have hr3 := ow_cell hs6.p1
    have hh6 := hs6.d4.d4.d4.p4.at
    simp (disch := omega) only [go_sem, simprocAttr, hq, hq6, hlv]
    refine cnd_dec (fun g0 => ?_) (fun g0 => ?_)
    · have e1 : Wc.poll A ⟨wid, lo, hi, pl, .ended L why⟩ mo = (([], why), none) := by
        unfold Wc.poll
        simp only [hn]
        rw [if_pos (by omega)]
      rw [e1]
      simp (disch := omega) only [go_sem, simprocAttr, hh6]
      refine del_hit keyOK_int (hs6.p1.drop.p1.drop.p1.drop.p1.drop.p1.drop.p2.p2.p3) hnd hym fun h hs => ?_
      have hq7 := hs.p3.at
      have hs7 := hs.p3.drop.p2.p2
      rw [wnK_filter (y := ⟨⟨wid, lo, hi, pl, .ended L why⟩, p, lv⟩) hX.nd] at hs7
      simp (disch := omega) only [go_sem, simprocAttr, hq7]
      exact ⟨.nils, _, [], _, rfl, hs7.add ow_nil, fun h hs => ⟨rfl, hbP.2 ⟨m, Y1 ++ Y2, by simp, hbGone hs⟩⟩⟩
    · have e1 : Wc.poll A ⟨wid, lo, hi, pl, .ended L why⟩ mo = ((L.take n, 0), some ⟨wid, lo, hi, pl, .ended (L.drop n) why⟩) := by
        unfold Wc.poll
        simp only [hn]
        rw [if_neg (by omega)]
      rw [e1]
      have hs7 := hs6.p4.set (o' := .row 4 [[.str lo, .str hi, .int .i64 pl, .iface te (.agg [r2, .int .i64 why])]] 1)
      simp (disch := omega) only [go_sem, simprocAttr, hy6, hq6, hr2, hr3]
      exact ⟨r1, _, _, _, rfl, hs7.p1.drop.p3.drop.p3.drop.p1.p1.p2, fun h hs => ⟨rfl, hbSet (y := ⟨⟨wid, lo, hi, pl, .ended L why⟩, p, lv⟩) (y' := ⟨⟨wid, lo, hi, pl, .ended (L.drop n) why⟩, p, r2⟩) rfl rfl hs⟩⟩
end
end Go.Proofs.Ytaioncbpfckhaaa
/- A hub of watchers: what is new is fed to those that hear. -/
set_option linter.unusedSimpArgs false
set_option linter.unusedVariables false
set_option maxRecDepth 10000
namespace Go.Proofs.Ytaioncbpfckhaaa
open Go.Hz

section
variable {h : Hp} {F R : List Asr} {hb s m : Nat} {last : Int} {X : List Wc} {A : Sto} {o : AV} {l : List Ver} {y : Wn} {mo : Int}
theorem ow_nlst {v : AV} {es : List (List AV)} {n : Nat} (hs : sat h (Ow n v es :: F)) : v ≠ .lst [] := by
  rcases hs.cases with ⟨rfl, _, _⟩ | ⟨_, _, rfl, _, _⟩ <;> (intro h; cases h)
theorem wn_perm {l1 l2 : List Wn} {y : Wn} {F : List Asr} : ((l1 ++ y :: l2).map WnP ++ StP s A o :: F).Perm (WnP y :: StP s A o :: ((l1 ++ l2).map WnP ++ F)) := by
  simp only [List.map_append, List.map_cons, List.append_assoc, List.cons_append]
  refine List.perm_middle.trans (List.Perm.cons _ ?_)
  rw [← List.append_assoc, ← List.append_assoc]
  exact List.perm_middle
theorem nd_inj {α : Type} {l : List (α × Nat)} (hn : (l.map (·.2)).Nodup) {a b : α × Nat} (ha : a ∈ l) (hb : b ∈ l) (h : a.2 = b.2) : a = b := by
  induction l with
  | nil => cases ha
  | cons x l ih =>
    rw [List.map_cons, List.nodup_cons] at hn
    rcases List.mem_cons.1 ha with ha | ha <;> rcases List.mem_cons.1 hb with hb | hb
    · rw [ha, hb]
    · have h1 := List.mem_map_of_mem (f := fun p : α × Nat => p.2) hb
      rw [← h, ha] at h1
      exact absurd h1 hn.1
    · have h1 := List.mem_map_of_mem (f := fun p : α × Nat => p.2) ha
      rw [h, hb] at h1
      exact absurd h1 hn.1
    · exact ih hn.2 ha hb
/-- What a range over the watchers has done. -/
structure FeedI (A : Sto) (X : List Wc) (Y : List Wn) (ids : List Int) (Z : List Wn) : Prop where
  w : Z.map Wn.w = X.map (fedBy A ids)
  k : Z.map wnK = Y.map wnK
theorem hbFeed (hs : sat h (HbP hb s last X :: StP s A o :: F)) (hX : HbOK last X) (hz : A.chs.length ≤ 1000000) (hr : A.rev ≤ 1000000000000000) (ok : StoOK A) :
    Triple Try.prog 13 [.ptr hb 3 0 0] h (fun r h => sat h (HbP hb s last (hFeed A X) :: StP s A o :: F)) := by
  have h0 : 0 ≤ A.rev := by have := ok.past; have := ok.rev; omega
  obtain ⟨bm, Y, hY, hs2⟩ := hbP.1 hs
  have hp := hs2.at
  obtain ⟨pl, c, ⟨q1, q2, q3⟩, hs3⟩ := mpA.1 hs2.p1
  refine t13 (Nat.le_of_ble_eq_true rfl) ?_
  simp (disch := omega) only [F13, hp, go_sem, simprocAttr]
  refine rng_use hs3 fun q h hs => ?_
  simp (disch := omega) only [go_sem, simprocAttr]
  generalize hkvs : kvOf (fun n : Int => AV.int .i64 n) (fun q : Int × Nat => q.1) (fun q => AV.ptr q.2 4 0 0) pl = kvs at hs
  have hx0 : ∀ x ∈ kvs, ∃ p ∈ pl, x = (.int .i64 p.1.1, .ptr p.1.2 4 0 0, p.2) := by
    intro x hx
    rw [← hkvs] at hx
    obtain ⟨p, hp, rfl⟩ := List.mem_map.1 hx
    exact ⟨p, hp, rfl⟩
  have hc : ∀ x ∈ kvs, x.2.2 < c := fun x hx => by obtain ⟨p, hp, rfl⟩ := hx0 x hx; exact q3 p hp
  have hn : (kvs.map (·.2.2)).Nodup := by rw [← hkvs]; simpa [kvOf, Function.comp_def] using q2
  have hids : (pl.map fun p => p.1.1).Nodup := by
    have h1 := (q1.map fun q : Int × Nat => q.1).nodup_iff.2 (by
      have := hX.nd
      rw [← hY, List.map_map] at this
      rw [List.map_map]
      exact this)
    simpa [Function.comp_def] using h1
  have hmem : ∀ p ∈ pl, p.1 ∈ Y.map wnK := fun p hp => q1.mem_iff.1 (List.mem_map_of_mem hp)
  refine run_loopN (fun k e h => ∃ (es rest : List ((Int × Nat) × Nat)) (Z : List Wn), k = rest.length ∧ (es ++ rest).Perm pl ∧ FeedI A X Y (es.map fun p => p.1.1) Z ∧ sat h (pto q (.itr (some bm) c (es.map (·.2)) c) :: pto bm (.mp kvs c) :: hRow hb s bm last :: (Z.map WnP ++ StP s A o :: F)) ∧
    (e 0 = .ptr hb 3 0 0 ∧ e 12 = .ptr q 1 0 0)) pl.length ⟨[], pl, Y, rfl, .refl _, ⟨by rw [hY]; exact fed_none.symm, rfl⟩, hs, rfl, rfl⟩ ?_
  clear hs hp hs2 hs3
  rintro k e h ⟨es, rest, Z, rfl, hpm, hI, hs, he⟩
  simp (disch := omega) only [go_sem, simprocAttr, he]
  refine nxt_use hs (Nat.le_refl _) hc (fun x hx hns h hs => ?_) (fun hall => ?_)
  · obtain ⟨⟨⟨id, pt⟩, bn⟩, hp, rfl⟩ := hx0 x hx
    have hen := ent_at hs hx hn
    simp only [] at hns hs hen
    have hpe : ((id, pt), bn) ∉ es := fun h => hns (List.mem_map_of_mem (f := fun p : (Int × Nat) × Nat => p.2) h)
    have hpr : ((id, pt), bn) ∈ rest := by
      rcases List.mem_append.1 (hpm.mem_iff.2 hp) with h | h
      · exact absurd h hpe
      · exact h
    obtain ⟨ra, rb, rfl⟩ := List.append_of_mem hpr
    have hpm2 : (es ++ [((id, pt), bn)] ++ (ra ++ rb)).Perm pl := by
      refine List.Perm.trans ?_ hpm
      rw [List.append_assoc]
      exact List.Perm.append_left es (by simpa using List.perm_middle.symm)
    have hide : id ∉ es.map fun p => p.1.1 := by
      intro h
      have h2 := ((hpm2.map fun p => p.1.1).nodup_iff).2 hids
      simp only [List.map_append, List.map_cons, List.map_nil, List.append_assoc] at h2
      exact (List.nodup_append.1 h2).2.2 _ h _ (by simp) rfl
    have hzm := hmem _ hp
    rw [← hI.k] at hzm
    obtain ⟨y, hy, hyk⟩ := List.mem_map.1 hzm
    obtain ⟨l1, l2, rfl⟩ := List.append_of_mem hy
    have hyi : y.w.id = id := congrArg Prod.fst hyk
    have hyp : y.p = pt := congrArg Prod.snd hyk
    subst hyi hyp
    have hIw := hI.w
    rw [List.map_append, List.map_cons] at hIw
    have hstep := fed_step hX.nd hIw.symm hide
    have hyX : y.w ∈ X := by
      have h1 : y.w ∈ X.map (fedBy A (es.map fun p => p.1.1)) := by rw [← hIw]; simp
      obtain ⟨x, hx, hxe⟩ := List.mem_map.1 h1
      have : x.id ∉ es.map fun p => p.1.1 := by rw [← hxe, fedBy_id] at hide; exact hide
      rw [fedBy, if_neg this] at hxe
      rw [← hxe]; exact hx
    have hypl := hX.pl _ hyX
    have hyev := hX.ev _ hyX
    have hs3 := wnP.1 ((hs.perm ((((wn_perm (s := s) (A := A) (o := o)).cons _).cons _).cons _)).p3)
    have hfin : ∀ (y' : Wn), y'.w = y.w.feed A → y'.p = y.p → ∀ h, sat h (wRow y' :: wEvs y' :: pto q (.itr (some bm) c (es.map (·.2) ++ [bn]) c) :: pto bm (.mp kvs c) :: hRow hb s bm last :: StP s A o :: ((l1 ++ l2).map WnP ++ F)) →
        ∃ (es' rest' : List ((Int × Nat) × Nat)) (Z' : List Wn), (ra ++ rb).length = rest'.length ∧ (es' ++ rest').Perm pl ∧ FeedI A X Y (es'.map fun p : (Int × Nat) × Nat => p.1.1) Z' ∧ sat h (pto q (.itr (some bm) c (es'.map (·.2)) c) :: pto bm (.mp kvs c) :: hRow hb s bm last :: (Z'.map WnP ++ StP s A o :: F)) := by
      intro y' h1 h2 h hs
      refine ⟨es ++ [((y.w.id, y.p), bn)], ra ++ rb, l1 ++ y' :: l2, rfl, hpm2, ⟨?_, ?_⟩, ?_⟩
      · rw [List.map_append, List.map_cons, h1, List.map_append, List.map_cons, List.map_nil, hstep]
      · have h3 : y'.w.id = y.w.id := by rw [h1]; exact Wc.feed_id.1
        rw [← hI.k]
        simp only [List.map_append, List.map_cons, wnK, h2, h3]
      · have h4 := wnP.2 hs
        have h5 := (h4.p3.p3.p3).perm (((((wn_perm (s := s) (A := A) (o := o)).symm).cons _).cons _).cons _)
        simpa using h5
    have hp0 := hs3.at
    have hlv := ow_atom hs3.p1
    have hlc := ow_cell hs3.p1
    simp (disch := omega) only [go_sem, simprocAttr, he]
    rw [hen]
    obtain ⟨w, p, lv⟩ := y
    obtain ⟨wid, lo, hi, pl0, md⟩ := w
    cases md with
    | behind =>
      simp (disch := omega) only [go_sem, simprocAttr, he, hp0, mdV, tb, th, te, taA]
      refine new_opq hs3 fun a h hs => ?_
      have ha := hs.at
      have hs4 := hs.set (o' := .row 1 [[.nils]] 1)
      have ha2 := hs4.at
      simp (disch := omega) only [go_sem, simprocAttr, ha, ha2, he]
      obtain ⟨es', rest', Z', g1, g2, g3, g4⟩ := hfin ⟨⟨wid, lo, hi, pl0, .behind⟩, p, lv⟩ rfl rfl _ hs4.drop
      exact ⟨rest'.length, by simp at g1 ⊢; omega, es', rest', Z', rfl, g2, g3, g4⟩
    | ended L why =>
      simp (disch := omega) only [go_sem, simprocAttr, he, hp0, mdV, tb, th, te, taA]
      refine new_opq hs3 fun a h hs => ?_
      have ha := hs.at
      have hs4 := hs.set (o' := .row 1 [[.nils]] 1)
      have ha2 := hs4.at
      simp (disch := omega) only [go_sem, simprocAttr, ha, ha2, he]
      obtain ⟨es', rest', Z', g1, g2, g3, g4⟩ := hfin ⟨⟨wid, lo, hi, pl0, .ended L why⟩, p, lv⟩ rfl rfl _ hs4.drop
      exact ⟨rest'.length, by simp at g1 ⊢; omega, es', rest', Z', rfl, g2, g3, g4⟩
    | hears L =>
      simp (disch := omega) only [go_sem, simprocAttr, he, hp0, mdV, tb, th, te, taA]
      refine new_opq hs3 fun a h hs => ?_
      have ha := hs.at
      have hs4 := hs.set (o' := .row 1 [[lv]] 1)
      have hb4 := hs4.p5.at
      have ha2 := hs4.at
      simp (disch := omega) only [go_sem, simprocAttr, ha, he, hlc, hlv, hb4]
      refine call_use (wcChanges (w := ⟨wid, lo, hi, pl0, .hears L⟩) (hs4.p5.p5.p5.p5.p4.p6.p6) hypl.1 (by omega) ⟨rfl, rfl, rfl⟩) ?_
      rintro r h ⟨v, hr', hs⟩
      subst hr'
      have hcl : (Wc.chg A ⟨wid, lo, hi, pl0, .hears L⟩).1.length ≤ A.chs.length := by
        unfold Wc.chg
        split
        · exact Nat.zero_le _
        split
        · exact Nat.zero_le _
        · exact List.length_filter_le _ _
      have hfeed : Wc.feed A ⟨wid, lo, hi, pl0, .hears L⟩ = if (Wc.chg A ⟨wid, lo, hi, pl0, .hears L⟩).2 ≠ 0 then ⟨wid, lo, hi, pl0, .ended L 16⟩
          else if 16 < L.length + (Wc.chg A ⟨wid, lo, hi, pl0, .hears L⟩).1.length then ⟨wid, lo, hi, pl0, .ended L 14⟩
          else ⟨wid, lo, hi, max pl0 (A.rev + 1), .hears (L ++ (Wc.chg A ⟨wid, lo, hi, pl0, .hears L⟩).1)⟩ := rfl
      generalize (Wc.chg A ⟨wid, lo, hi, pl0, .hears L⟩).1 = C at *
      generalize (Wc.chg A ⟨wid, lo, hi, pl0, .hears L⟩).2 = ce at *
      have ha5 := hs.p3.at
      have hw5 := hs.p1.at
      have lenC := hs.els.len
      rw [List.length_map] at lenC
      have lenV := hs.p4.els.len
      rw [List.length_map] at lenV
      have lenV : lenL lv = some (.int .i64 (L.length : Nat)) := lenV
      have hyev : L.length ≤ 16 := hyev
      by_cases d1 : ce ≠ 0
      · rw [if_pos d1] at hfeed
        have c1 : (ce != 0) = true := by simpa using d1
        have hs5 := hs.p1.set (o' := .row 4 [[.str lo, .str hi, .int .i64 pl0, .iface te (.agg [lv, .int .i64 16])]] 1)
        simp (disch := omega) only [go_sem, simprocAttr, he, c1, ha5, hw5, hlc, hlv]
        obtain ⟨es', rest', Z', g1, g2, g3, g4⟩ := hfin ⟨⟨wid, lo, hi, pl0, .ended L 16⟩, p, lv⟩ hfeed.symm rfl _ hs5.p1.drop.p2.drop.p1.p5.p5.p5.p5.p5
        exact ⟨rest'.length, by simp at g1 ⊢; omega, es', rest', Z', rfl, g2, g3, g4⟩
      rw [if_neg d1] at hfeed
      have c1 : (ce != 0) = false := by simpa using d1
      by_cases d2 : 16 < L.length + C.length
      · rw [if_pos d2] at hfeed
        have c2 : ((L.length : Int) + (C.length : Int) > 16) = True := by simp; omega
        have hs5 := hs.p1.set (o' := .row 4 [[.str lo, .str hi, .int .i64 pl0, .iface te (.agg [lv, .int .i64 14])]] 1)
        simp (disch := omega) only [go_sem, simprocAttr, he, c1, ha5, hw5, hlc, hlv, lenC, lenV, c2]
        obtain ⟨es', rest', Z', g1, g2, g3, g4⟩ := hfin ⟨⟨wid, lo, hi, pl0, .ended L 14⟩, p, lv⟩ hfeed.symm rfl _ hs5.p1.drop.p2.drop.p1.p5.p5.p5.p5.p5
        exact ⟨rest'.length, by simp at g1 ⊢; omega, es', rest', Z', rfl, g2, g3, g4⟩
      rw [if_neg d2] at hfeed
      have c2 : ((L.length : Int) + (C.length : Int) > 16) = False := by simp; omega
      simp (disch := omega) only [go_sem, simprocAttr, he, c1, ha5, hw5, lenC, lenV, c2]
      have hnl : lv ≠ .lst [] := ow_nlst hs.p4
      refine call_use (evClone (l := L) hs (fun h hs => hs.p4.els) (by omega) hnl) ?_
      intro r1 h hs
      have hsr := hs.p1.els.1
      simp (disch := omega) only [go_sem, simprocAttr, he]
      refine app_sat hs hsr (atoms_ev2 _) (by simp; omega) fun v' h hs hc' ha' => ?_
      have hw6 := hs.p2.at
      have hs6 := hs.p2.set (o' := .row 4 [[.str lo, .str hi, .int .i64 pl0, .iface th (.agg [v'])]] 1)
      have hw7 := hs6.at
      have hs7 := hs6.p2.drop.p3.drop.p3.drop.p5.p5.p5.p4.p4.p5
      have hb7 := hs7.p5.at
      simp (disch := omega) only [go_sem, simprocAttr, he, hc', ha', hw6, hw7, hb7]
      generalize Hp.set h p _ = h2 at *
      refine call_use' (mvRev hs7) ?_
      rintro r h ⟨hr', hs⟩
      subst hr'
      have hw8 := hs.p1.at
      have em : (if pl0 < A.rev + 1 then A.rev + 1 else pl0) = max pl0 (A.rev + 1) := by split <;> omega
      have hs8 := hs.p1.set (o' := .row 4 [[.str lo, .str hi, .int .i64 (max pl0 (A.rev + 1)), .iface th (.agg [v'])]] 1)
      have hpl : pl0 ≤ 9223372036854775807 := hypl.2
      simp (disch := omega) only [go_sem, simprocAttr, he, hw8, em]
      rw [← List.map_append] at hs8
      obtain ⟨es', rest', Z', g1, g2, g3, g4⟩ := hfin ⟨⟨wid, lo, hi, max pl0 (A.rev + 1), .hears (L ++ C)⟩, p, v'⟩ hfeed.symm rfl _ hs8.p1.p5.p5.p5.p5.p5
      exact ⟨rest'.length, by simp at g1 ⊢; omega, es', rest', Z', rfl, g2, g3, g4⟩
  · simp (disch := omega) only [go_sem, simprocAttr]
    have hall2 : ∀ x ∈ X, x.id ∈ es.map fun p => p.1.1 := by
      intro x hx
      rw [← hY] at hx
      obtain ⟨y, hy, rfl⟩ := List.mem_map.1 hx
      obtain ⟨p, hp, hpe⟩ := List.mem_map.1 (q1.mem_iff.2 (List.mem_map_of_mem (f := wnK) hy))
      have h1 := hall (.int .i64 p.1.1, .ptr p.1.2 4 0 0, p.2) (by rw [← hkvs]; exact List.mem_map_of_mem (f := fun p : (Int × Nat) × Nat => (AV.int .i64 p.1.1, AV.ptr p.1.2 4 0 0, p.2)) hp)
      obtain ⟨p2, hp2, hpe2⟩ := List.mem_map.1 h1
      have h3 : p2 = p := by
        have h4 := hpm.subset (List.mem_append_left _ hp2)
        exact nd_inj q2 h4 hp hpe2
      subst h3
      rw [show y.w.id = p2.1.1 by rw [hpe]; rfl]
      exact List.mem_map_of_mem (f := fun p : (Int × Nat) × Nat => p.1.1) hp2
    have hw := hI.w
    rw [fed_all hall2] at hw
    rw [← hkvs] at hs
    refine hbP.2 ⟨bm, Z, hw, ?_⟩
    have hm : sat h (mpH bm (Y.map wnK) :: _) := mpA.2 ⟨pl, c, ⟨q1, q2, q3⟩, hs.p1⟩
    rw [hI.k]
    exact hm.p1.drop.p1
end
end Go.Proofs.Ytaioncbpfckhaaa
