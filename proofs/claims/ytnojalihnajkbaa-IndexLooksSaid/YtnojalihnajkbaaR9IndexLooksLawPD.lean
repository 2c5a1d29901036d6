/- The functions of this seat's program in the form of the logic; each is shown to be what the model's code comes to. -/
import Derived.Test.YtnojalihnajkbaaR9IndexLooksLawPC
import Derived.Test.YtnojalihnajkbaaChecked
import Derived.Eval
import Derived.KernelRfl
set_option maxRecDepth 100000
namespace Go.Proofs.Ytnojalihnajkbaa
open Go.Hz

theorem mixed : Try.prog.follows .mixedOrders = true := Try.checked.mixed

/-- "horologe/horologelaw7.IndexLooks" -/
def F3 : AFun := (.mk 103 (.seq (.reg [((.mk (.some 6) (.mv (.cs (.bool false))) none), [])]) (.seq (.seq (.reg [((.mk (.some 14) (.call 8 []) none), []), ((.mk (.some 15) (.un .not (.tm 14)) none), [])]) (.cond (.tm 15) (.seq (.reg [((.mk (.some 6) (.mv (.cs (.bool false))) none), [])]) .ret) .skip)) (.seq (.reg [((.mk (.some 16) (.call 9 []) none), []), ((.mk (.some 7) (.mv (.tm 16)) none), [])]) (.seq (.reg [((.mk (.some 8) (.mv (.cs .nils)) none), [])]) (.seq (.seq (.reg [((.mk (.some 9) (.mv (.cs (.int .i64 0))) none), [])]) (.block 0 (.loop (.seq (.seq (.seq (.reg [((.mk (.some 17) (.mv (.tm 9)) none), []), ((.mk (.some 18) (.mv (.tm 0)) none), []), ((.mk (.some 19) (.lenL (.tm 18)) none), []), ((.mk (.some 20) (.bin .lss (.tm 17) (.tm 19)) none), []), ((.mk (.some 21) (.mv (.tm 20)) none), [])]) (.seq (.cond (.tm 21) (.reg [((.mk (.some 22) (.mv (.tm 9)) none), []), ((.mk (.some 23) (.bin .lss (.tm 22) (.cs (.int .i64 100))) none), [])]) (.reg [((.mk (.some 22) (.mv (.cs (.tup []))) none), []), ((.mk (.some 23) (.mv (.cs (.tup []))) none), [])])) (.reg [((.mk (.some 24) (.pick (.tm 21) (.tm 23) (.cs (.bool false))) none), [])]))) (.cond (.tm 24) .skip (.exit 0))) (.seq (.block 1 (.seq (.reg [((.mk (.some 27) (.mv (.tm 0)) none), []), ((.mk (.some 28) (.mv (.tm 9)) none), []), ((.mk (.some 29) (.ia 5 (.tm 27) (.tm 28)) none), []), ((.mk (.some 30) (.ld 5 true (.tm 29)) none), []), ((.mk (.some 10) (.alloc [(.int .i64 0), (.int .i64 0), (.str []), (.str []), (.bool false)]) none), []), ((.mk none (.st 5 (.tm 10) (.tm 30)) none), [])]) (.seq (.seq (.reg [((.mk (.some 31) (.fa 2 (.tm 10)) none), []), ((.mk (.some 32) (.ld 1 false (.tm 31)) none), []), ((.mk (.some 33) (.bin .neq (.tm 32) (.cs (.str []))) none), []), ((.mk (.some 34) (.mv (.tm 33)) none), [])]) (.seq (.cond (.tm 34) (.reg [((.mk (.some 35) (.fa 2 (.tm 10)) none), []), ((.mk (.some 36) (.ld 1 false (.tm 35)) none), []), ((.mk (.some 37) (.lenS (.tm 36)) none), []), ((.mk (.some 38) (.bin .lss (.tm 37) (.cs (.int .i64 100))) none), [])]) (.reg [((.mk (.some 35) (.mv (.cs (.tup []))) none), []), ((.mk (.some 36) (.mv (.cs (.tup []))) none), []), ((.mk (.some 37) (.mv (.cs (.tup []))) none), []), ((.mk (.some 38) (.mv (.cs (.tup []))) none), [])])) (.seq (.reg [((.mk (.some 39) (.pick (.tm 34) (.tm 38) (.cs (.bool false))) none), []), ((.mk (.some 40) (.mv (.tm 39)) none), [])]) (.seq (.cond (.tm 40) (.reg [((.mk (.some 41) (.mv (.tm 7)) none), []), ((.mk (.some 42) (.fa 2 (.tm 10)) none), []), ((.mk (.some 43) (.ld 1 false (.tm 42)) none), []), ((.mk (.some 44) (.mv (.tm 9)) none), []), ((.mk (.some 45) (.bin .add (.tm 44) (.cs (.int .i64 1))) none), []), ((.mk (.some 46) (.fa 4 (.tm 10)) none), []), ((.mk (.some 47) (.ld 1 false (.tm 46)) none), []), ((.mk (.some 48) (.bld [(.int .i64 0), (.bool false)] [(0, (1, (.tm 45))), (1, (1, (.tm 47)))]) none), []), ((.mk (.some 49) (.call 10 [(.tm 41), (.tm 43), (.tm 48)]) none), []), ((.mk (.some 50) (.bin .eql (.tm 49) (.cs (.int .i64 0))) none), [])]) (.reg [((.mk (.some 41) (.mv (.cs (.tup []))) none), []), ((.mk (.some 42) (.mv (.cs (.tup []))) none), []), ((.mk (.some 43) (.mv (.cs (.tup []))) none), []), ((.mk (.some 44) (.mv (.cs (.tup []))) none), []), ((.mk (.some 45) (.mv (.cs (.tup []))) none), []), ((.mk (.some 46) (.mv (.cs (.tup []))) none), []), ((.mk (.some 47) (.mv (.cs (.tup []))) none), []), ((.mk (.some 48) (.mv (.cs (.tup []))) none), []), ((.mk (.some 49) (.mv (.cs (.tup []))) none), []), ((.mk (.some 50) (.mv (.cs (.tup []))) none), [])])) (.reg [((.mk (.some 51) (.pick (.tm 40) (.tm 50) (.cs (.bool false))) none), [])]))))) (.cond (.tm 51) (.reg [((.mk (.some 52) (.mv (.tm 8)) none), []), ((.mk (.some 53) (.fa 2 (.tm 10)) none), []), ((.mk (.some 54) (.ld 1 false (.tm 53)) none), []), ((.mk (.some 55) (.bsl [(.str [])] 1 [(0, (.tm 54))]) none), []), ((.mk (.some 56) (.app 1 16 (.tm 52) (.tm 55)) none), []), ((.mk (.some 8) (.mv (.tm 56)) none), [])]) .skip)))) (.reg [((.mk (.some 25) (.mv (.tm 9)) none), []), ((.mk (.some 26) (.bin .add (.tm 25) (.cs (.int .i64 1))) none), []), ((.mk (.some 9) (.mv (.tm 26)) none), [])])))))) (.seq (.reg [((.mk (.some 57) (.mv (.tm 1)) none), []), ((.mk (.some 58) (.call 11 [(.tm 57), (.cs (.int .i64 100))]) none), []), ((.mk (.some 59) (.bin .add (.cs (.int .i64 1)) (.tm 58)) none), []), ((.mk (.some 1) (.mv (.tm 59)) none), [])]) (.seq (.reg [((.mk (.some 60) (.mv (.tm 1)) none), []), ((.mk (.some 61) (.mv (.tm 2)) none), []), ((.mk (.some 62) (.call 11 [(.tm 61), (.cs (.int .i64 100))]) none), []), ((.mk (.some 63) (.bin .add (.tm 60) (.tm 62)) none), []), ((.mk (.some 2) (.mv (.tm 63)) none), [])]) (.seq (.reg [((.mk (.some 11) (.mv (.cs .nils)) none), [])]) (.seq (.seq (.reg [((.mk (.some 12) (.mv (.cs (.int .i64 0))) none), [])]) (.block 2 (.loop (.seq (.seq (.reg [((.mk (.some 64) (.mv (.tm 12)) none), []), ((.mk (.some 65) (.mv (.tm 8)) none), []), ((.mk (.some 66) (.lenL (.tm 65)) none), []), ((.mk (.some 67) (.bin .lss (.tm 64) (.tm 66)) none), [])]) (.cond (.tm 67) .skip (.exit 2))) (.seq (.block 3 (.reg [((.mk (.some 70) (.mv (.tm 11)) none), []), ((.mk (.some 71) (.mv (.tm 7)) none), []), ((.mk (.some 72) (.mv (.tm 8)) none), []), ((.mk (.some 73) (.mv (.tm 12)) none), []), ((.mk (.some 74) (.ia 1 (.tm 72) (.tm 73)) none), []), ((.mk (.some 75) (.ld 1 false (.tm 74)) none), []), ((.mk (.some 76) (.call 13 [(.tm 71), (.tm 75)]) none), []), ((.mk (.some 77) (.mv (.tm 2)) none), []), ((.mk (.some 78) (.call 12 [(.tm 76), (.tm 77)]) none), []), ((.mk (.some 79) (.bsl [(.int .i64 0)] 1 [(0, (.tm 78))]) none), []), ((.mk (.some 80) (.app 1 8 (.tm 70) (.tm 79)) none), []), ((.mk (.some 11) (.mv (.tm 80)) none), [])])) (.reg [((.mk (.some 68) (.mv (.tm 12)) none), []), ((.mk (.some 69) (.bin .add (.tm 68) (.cs (.int .i64 1))) none), []), ((.mk (.some 12) (.mv (.tm 69)) none), [])])))))) (.seq (.reg [((.mk (.some 81) (.mv (.tm 7)) none), []), ((.mk (.some 82) (.mv (.tm 1)) none), []), ((.mk (.some 83) (.call 14 [(.tm 81), (.tm 82)]) none), [])]) (.seq (.seq (.reg [((.mk (.some 13) (.mv (.cs (.int .i64 0))) none), [])]) (.block 4 (.loop (.seq (.seq (.reg [((.mk (.some 84) (.mv (.tm 13)) none), []), ((.mk (.some 85) (.mv (.tm 8)) none), []), ((.mk (.some 86) (.lenL (.tm 85)) none), []), ((.mk (.some 87) (.bin .lss (.tm 84) (.tm 86)) none), [])]) (.cond (.tm 87) .skip (.exit 4))) (.seq (.block 5 (.seq (.reg [((.mk (.some 90) (.mv (.tm 7)) none), []), ((.mk (.some 91) (.mv (.tm 8)) none), []), ((.mk (.some 92) (.mv (.tm 13)) none), []), ((.mk (.some 93) (.ia 1 (.tm 91) (.tm 92)) none), []), ((.mk (.some 94) (.ld 1 false (.tm 93)) none), []), ((.mk (.some 96) (.mv (.tm 2)) none), []), ((.mk (.some 98) (.mv (.tm 11)) none), []), ((.mk (.some 99) (.mv (.tm 13)) none), []), ((.mk (.some 100) (.ia 1 (.tm 98) (.tm 99)) none), []), ((.mk (.some 101) (.ld 1 false (.tm 100)) none), []), ((.mk (.some 95) (.call 13 [(.tm 90), (.tm 94)]) none), [(.mk (.some 101) (.ld 1 false (.tm 100)) none)]), ((.mk (.some 97) (.call 12 [(.tm 95), (.tm 96)]) none), [(.mk (.some 101) (.ld 1 false (.tm 100)) none)]), ((.mk (.some 102) (.bin .neq (.tm 97) (.tm 101)) none), [])]) (.cond (.tm 102) (.seq (.reg [((.mk (.some 6) (.mv (.cs (.bool false))) none), [])]) .ret) .skip))) (.reg [((.mk (.some 88) (.mv (.tm 13)) none), []), ((.mk (.some 89) (.bin .add (.tm 88) (.cs (.int .i64 1))) none), []), ((.mk (.some 13) (.mv (.tm 89)) none), [])])))))) (.seq (.reg [((.mk (.some 6) (.mv (.cs (.bool true))) none), [])]) .ret)))))))))))) [(.tmp 6)])
theorem c3 : compF Go.Proofs.Try.prog Go.Proofs.Try.f3 = some F3 := by kernel_rfl
theorem t3 {args : List AV} {h : Hp} {post : AV → Hp → Prop} (hn : args.length ≤ F3.n) (hh : run Try.prog F3.code [] (initE args) h ⟨fun e h' => resK F3.res e h' post, fun e h' => resK F3.res e h' post, fun _ _ _ => False⟩) : Triple Try.prog 3 args h post := triple_of mixed Try.func3 c3 hn hh

/-- "horologe/horologelaw7.IndexMarks" -/
def F4 : AFun := (.mk 92 (.seq (.reg [((.mk (.some 4) (.mv (.cs (.bool false))) none), [])]) (.seq (.seq (.reg [((.mk (.some 13) (.call 8 []) none), []), ((.mk (.some 14) (.un .not (.tm 13)) none), [])]) (.cond (.tm 14) (.seq (.reg [((.mk (.some 4) (.mv (.cs (.bool false))) none), [])]) .ret) .skip)) (.seq (.reg [((.mk (.some 15) (.call 9 []) none), []), ((.mk (.some 5) (.mv (.tm 15)) none), [])]) (.seq (.reg [((.mk (.some 6) (.mv (.cs (.int .i64 0))) none), []), ((.mk (.some 7) (.mv (.cs (.bool false))) none), [])]) (.seq (.reg [((.mk (.some 8) (.mv (.cs (.int .i64 0))) none), [])]) (.seq (.seq (.reg [((.mk (.some 9) (.mv (.cs (.int .i64 0))) none), [])]) (.block 0 (.loop (.seq (.seq (.seq (.reg [((.mk (.some 16) (.mv (.tm 9)) none), []), ((.mk (.some 17) (.mv (.tm 0)) none), []), ((.mk (.some 18) (.lenL (.tm 17)) none), []), ((.mk (.some 19) (.bin .lss (.tm 16) (.tm 18)) none), []), ((.mk (.some 20) (.mv (.tm 19)) none), [])]) (.seq (.cond (.tm 20) (.reg [((.mk (.some 21) (.mv (.tm 9)) none), []), ((.mk (.some 22) (.mv (.tm 1)) none), []), ((.mk (.some 23) (.lenL (.tm 22)) none), []), ((.mk (.some 24) (.bin .lss (.tm 21) (.tm 23)) none), [])]) (.reg [((.mk (.some 21) (.mv (.cs (.tup []))) none), []), ((.mk (.some 22) (.mv (.cs (.tup []))) none), []), ((.mk (.some 23) (.mv (.cs (.tup []))) none), []), ((.mk (.some 24) (.mv (.cs (.tup []))) none), [])])) (.seq (.reg [((.mk (.some 25) (.pick (.tm 20) (.tm 24) (.cs (.bool false))) none), []), ((.mk (.some 26) (.mv (.tm 25)) none), [])]) (.seq (.cond (.tm 26) (.reg [((.mk (.some 27) (.mv (.tm 9)) none), []), ((.mk (.some 28) (.bin .lss (.tm 27) (.cs (.int .i64 60))) none), [])]) (.reg [((.mk (.some 27) (.mv (.cs (.tup []))) none), []), ((.mk (.some 28) (.mv (.cs (.tup []))) none), [])])) (.reg [((.mk (.some 29) (.pick (.tm 26) (.tm 28) (.cs (.bool false))) none), [])]))))) (.cond (.tm 29) .skip (.exit 0))) (.seq (.block 1 (.seq (.reg [((.mk (.some 32) (.mv (.tm 0)) none), []), ((.mk (.some 33) (.mv (.tm 9)) none), []), ((.mk (.some 34) (.ia 1 (.tm 32) (.tm 33)) none), []), ((.mk (.some 35) (.ld 1 false (.tm 34)) none), []), ((.mk (.some 36) (.call 11 [(.tm 35), (.cs (.int .i64 100))]) none), []), ((.mk (.some 10) (.mv (.tm 36)) none), [])]) (.seq (.reg [((.mk (.some 37) (.mv (.tm 5)) none), []), ((.mk (.some 38) (.mv (.tm 10)) none), []), ((.mk (.some 39) (.mv (.tm 1)) none), []), ((.mk (.some 40) (.mv (.tm 9)) none), []), ((.mk (.some 41) (.ia 1 (.tm 39) (.tm 40)) none), []), ((.mk (.some 42) (.ld 1 false (.tm 41)) none), []), ((.mk (.some 43) (.bld [(.int .i64 0), (.bool false)] [(0, (1, (.tm 38))), (1, (1, (.tm 42)))]) none), []), ((.mk (.some 44) (.call 10 [(.tm 37), (.cs (.str [107])), (.tm 43)]) none), []), ((.mk (.some 11) (.mv (.tm 44)) none), [])]) (.seq (.reg [((.mk (.some 12) (.mv (.cs (.int .i64 0))) none), [])]) (.seq (.block 2 (.seq (.reg [((.mk (.some 46) (.mv (.tm 10)) none), []), ((.mk (.some 47) (.bin .lss (.tm 46) (.cs (.int .i64 1))) none), []), ((.mk (.some 45) (.mv (.tm 47)) none), [])]) (.cond (.tm 45) (.reg [((.mk (.some 12) (.mv (.cs (.int .i64 1))) none), [])]) (.seq (.reg [((.mk (.some 49) (.mv (.tm 10)) none), []), ((.mk (.some 50) (.mv (.tm 6)) none), []), ((.mk (.some 51) (.bin .leq (.tm 49) (.tm 50)) none), []), ((.mk (.some 48) (.mv (.tm 51)) none), [])]) (.cond (.tm 48) (.reg [((.mk (.some 12) (.mv (.cs (.int .i64 15))) none), [])]) (.seq (.seq (.reg [((.mk (.some 53) (.mv (.tm 1)) none), []), ((.mk (.some 54) (.mv (.tm 9)) none), []), ((.mk (.some 55) (.ia 1 (.tm 53) (.tm 54)) none), []), ((.mk (.some 56) (.ld 1 false (.tm 55)) none), []), ((.mk (.some 57) (.mv (.tm 56)) none), [])]) (.seq (.cond (.tm 57) (.reg [((.mk (.some 58) (.mv (.tm 7)) none), []), ((.mk (.some 59) (.un .not (.tm 58)) none), [])]) (.reg [((.mk (.some 58) (.mv (.cs (.tup []))) none), []), ((.mk (.some 59) (.mv (.cs (.tup []))) none), [])])) (.reg [((.mk (.some 60) (.pick (.tm 57) (.tm 59) (.cs (.bool false))) none), []), ((.mk (.some 52) (.mv (.tm 60)) none), [])]))) (.cond (.tm 52) (.reg [((.mk (.some 12) (.mv (.cs (.int .i64 2))) none), [])]) .skip))))))) (.seq (.seq (.reg [((.mk (.some 61) (.mv (.tm 11)) none), []), ((.mk (.some 62) (.mv (.tm 12)) none), []), ((.mk (.some 63) (.bin .neq (.tm 61) (.tm 62)) none), [])]) (.cond (.tm 63) (.seq (.reg [((.mk (.some 4) (.mv (.cs (.bool false))) none), [])]) .ret) .skip)) (.seq (.reg [((.mk (.some 64) (.mv (.tm 11)) none), []), ((.mk (.some 65) (.bin .eql (.tm 64) (.cs (.int .i64 0))) none), [])]) (.cond (.tm 65) (.seq (.reg [((.mk (.some 66) (.mv (.tm 10)) none), []), ((.mk (.some 67) (.mv (.tm 1)) none), []), ((.mk (.some 68) (.mv (.tm 9)) none), []), ((.mk (.some 69) (.ia 1 (.tm 67) (.tm 68)) none), []), ((.mk (.some 70) (.ld 1 false (.tm 69)) none), []), ((.mk (.some 71) (.un .not (.tm 70)) none), []), ((.mk (.some 6) (.mv (.tm 66)) none), []), ((.mk (.some 7) (.mv (.tm 71)) none), [])]) (.reg [((.mk (.some 72) (.mv (.tm 8)) none), []), ((.mk (.some 73) (.bin .add (.tm 72) (.cs (.int .i64 1))) none), []), ((.mk (.some 8) (.mv (.tm 73)) none), [])])) .skip)))))))) (.reg [((.mk (.some 30) (.mv (.tm 9)) none), []), ((.mk (.some 31) (.bin .add (.tm 30) (.cs (.int .i64 1))) none), []), ((.mk (.some 9) (.mv (.tm 31)) none), [])])))))) (.seq (.seq (.reg [((.mk (.some 74) (.mv (.tm 5)) none), []), ((.mk (.some 75) (.call 13 [(.tm 74), (.cs (.str [107]))]) none), []), ((.mk (.some 76) (.lenL (.tm 75)) none), []), ((.mk (.some 77) (.mv (.tm 8)) none), []), ((.mk (.some 78) (.bin .eql (.tm 76) (.tm 77)) none), []), ((.mk (.some 79) (.mv (.tm 78)) none), [])]) (.seq (.cond (.tm 79) (.reg [((.mk (.some 80) (.mv (.tm 5)) none), []), ((.mk (.some 81) (.call 15 [(.tm 80)]) none), []), ((.mk (.some 82) (.mv (.tm 8)) none), []), ((.mk (.some 83) (.mm false (.tm 82) (.cs (.int .i64 1))) none), []), ((.mk (.some 84) (.bin .eql (.tm 81) (.tm 83)) none), [])]) (.reg [((.mk (.some 80) (.mv (.cs (.tup []))) none), []), ((.mk (.some 81) (.mv (.cs (.tup []))) none), []), ((.mk (.some 82) (.mv (.cs (.tup []))) none), []), ((.mk (.some 83) (.mv (.cs (.tup []))) none), []), ((.mk (.some 84) (.mv (.cs (.tup []))) none), [])])) (.seq (.reg [((.mk (.some 85) (.pick (.tm 79) (.tm 84) (.cs (.bool false))) none), []), ((.mk (.some 86) (.mv (.tm 85)) none), [])]) (.seq (.cond (.tm 86) (.reg [((.mk (.some 87) (.mv (.tm 5)) none), []), ((.mk (.some 88) (.call 13 [(.tm 87), (.cs (.str [106]))]) none), []), ((.mk (.some 89) (.lenL (.tm 88)) none), []), ((.mk (.some 90) (.bin .eql (.tm 89) (.cs (.int .i64 0))) none), [])]) (.reg [((.mk (.some 87) (.mv (.cs (.tup []))) none), []), ((.mk (.some 88) (.mv (.cs (.tup []))) none), []), ((.mk (.some 89) (.mv (.cs (.tup []))) none), []), ((.mk (.some 90) (.mv (.cs (.tup []))) none), [])])) (.reg [((.mk (.some 91) (.pick (.tm 86) (.tm 90) (.cs (.bool false))) none), []), ((.mk (.some 4) (.mv (.tm 91)) none), [])]))))) .ret))))))) [(.tmp 4)])
theorem c4 : compF Go.Proofs.Try.prog Go.Proofs.Try.f4 = some F4 := by kernel_rfl
theorem t4 {args : List AV} {h : Hp} {post : AV → Hp → Prop} (hn : args.length ≤ F4.n) (hh : run Try.prog F4.code [] (initE args) h ⟨fun e h' => resK F4.res e h' post, fun e h' => resK F4.res e h' post, fun _ _ _ => False⟩) : Triple Try.prog 4 args h post := triple_of mixed Try.func4 c4 hn hh

/-- "horologe/horologelaw7.IndexPlays" -/
def F5 : AFun := (.mk 175 (.seq (.reg [((.mk (.some 2) (.mv (.cs (.bool false))) none), [])]) (.seq (.seq (.reg [((.mk (.some 15) (.call 8 []) none), []), ((.mk (.some 16) (.un .not (.tm 15)) none), [])]) (.cond (.tm 16) (.seq (.reg [((.mk (.some 2) (.mv (.cs (.bool false))) none), [])]) .ret) .skip)) (.seq (.reg [((.mk (.some 17) (.call 9 []) none), []), ((.mk (.some 18) (.bld [.nils] []) none), []), ((.mk (.some 19) (.box (.tm 18)) none), []), ((.mk (.some 3) (.mv (.tm 17)) none), []), ((.mk (.some 4) (.mv (.tm 19)) none), [])]) (.seq (.seq (.reg [((.mk (.some 5) (.mv (.cs (.int .i64 0))) none), [])]) (.block 0 (.loop (.seq (.seq (.seq (.reg [((.mk (.some 20) (.mv (.tm 5)) none), []), ((.mk (.some 21) (.mv (.tm 0)) none), []), ((.mk (.some 22) (.lenL (.tm 21)) none), []), ((.mk (.some 23) (.bin .lss (.tm 20) (.tm 22)) none), []), ((.mk (.some 24) (.mv (.tm 23)) none), [])]) (.seq (.cond (.tm 24) (.reg [((.mk (.some 25) (.mv (.tm 5)) none), []), ((.mk (.some 26) (.bin .lss (.tm 25) (.cs (.int .i64 200))) none), [])]) (.reg [((.mk (.some 25) (.mv (.cs (.tup []))) none), []), ((.mk (.some 26) (.mv (.cs (.tup []))) none), [])])) (.reg [((.mk (.some 27) (.pick (.tm 24) (.tm 26) (.cs (.bool false))) none), [])]))) (.cond (.tm 27) .skip (.exit 0))) (.seq (.block 1 (.seq (.reg [((.mk (.some 30) (.mv (.tm 0)) none), []), ((.mk (.some 31) (.mv (.tm 5)) none), []), ((.mk (.some 32) (.ia 5 (.tm 30) (.tm 31)) none), []), ((.mk (.some 33) (.ld 5 true (.tm 32)) none), []), ((.mk (.some 6) (.alloc [(.int .i64 0), (.int .i64 0), (.str []), (.str []), (.bool false)]) none), []), ((.mk none (.st 5 (.tm 6) (.tm 33)) none), [])]) (.seq (.seq (.reg [((.mk (.some 34) (.fa 2 (.tm 6)) none), []), ((.mk (.some 35) (.ld 1 false (.tm 34)) none), []), ((.mk (.some 36) (.lenS (.tm 35)) none), []), ((.mk (.some 37) (.fa 3 (.tm 6)) none), []), ((.mk (.some 38) (.ld 1 false (.tm 37)) none), []), ((.mk (.some 39) (.lenS (.tm 38)) none), []), ((.mk (.some 40) (.bin .add (.tm 36) (.tm 39)) none), []), ((.mk (.some 41) (.bin .gtr (.tm 40) (.cs (.int .i64 500))) none), [])]) (.cond (.tm 41) (.exit 1) .skip)) (.seq (.reg [((.mk (.some 7) (.mv (.cs (.int .i64 0))) none), []), ((.mk (.some 8) (.mv (.cs (.int .i64 0))) none), [])]) (.seq (.seq (.reg [((.mk (.some 42) (.fa 0 (.tm 6)) none), []), ((.mk (.some 43) (.ld 1 false (.tm 42)) none), [])]) (.block 2 (.seq (.reg [((.mk (.some 45) (.bin .eql (.tm 43) (.cs (.int .i64 0))) none), []), ((.mk (.some 44) (.mv (.tm 45)) none), [])]) (.cond (.tm 44) (.reg [((.mk (.some 46) (.mv (.tm 3)) none), []), ((.mk (.some 47) (.fa 2 (.tm 6)) none), []), ((.mk (.some 48) (.ld 1 false (.tm 47)) none), []), ((.mk (.some 49) (.fa 1 (.tm 6)) none), []), ((.mk (.some 50) (.ld 1 false (.tm 49)) none), []), ((.mk (.some 51) (.fa 4 (.tm 6)) none), []), ((.mk (.some 52) (.ld 1 false (.tm 51)) none), []), ((.mk (.some 53) (.bld [(.int .i64 0), (.bool false)] [(0, (1, (.tm 50))), (1, (1, (.tm 52)))]) none), []), ((.mk (.some 55) (.mv (.tm 4)) none), []), ((.mk (.some 56) (.fa 2 (.tm 6)) none), []), ((.mk (.some 57) (.ld 1 false (.tm 56)) none), []), ((.mk (.some 58) (.fa 1 (.tm 6)) none), []), ((.mk (.some 59) (.ld 1 false (.tm 58)) none), []), ((.mk (.some 60) (.fa 4 (.tm 6)) none), []), ((.mk (.some 61) (.ld 1 false (.tm 60)) none), []), ((.mk (.some 62) (.bld [(.int .i64 0), (.bool false)] [(0, (1, (.tm 59))), (1, (1, (.tm 61)))]) none), []), ((.mk (.some 54) (.call 10 [(.tm 46), (.tm 48), (.tm 53)]) none), [(.mk (.some 57) (.ld 1 false (.tm 56)) none), (.mk (.some 59) (.ld 1 false (.tm 58)) none), (.mk (.some 61) (.ld 1 false (.tm 60)) none)]), ((.mk (.some 63) (.call 16 [(.tm 55), (.tm 57), (.tm 62)]) none), []), ((.mk (.some 7) (.mv (.tm 54)) none), []), ((.mk (.some 8) (.mv (.tm 63)) none), [])]) (.seq (.reg [((.mk (.some 65) (.bin .eql (.tm 43) (.cs (.int .i64 1))) none), []), ((.mk (.some 64) (.mv (.tm 65)) none), [])]) (.cond (.tm 64) (.seq (.reg [((.mk (.some 66) (.mv (.tm 3)) none), []), ((.mk (.some 67) (.fa 1 (.tm 6)) none), []), ((.mk (.some 68) (.ld 1 false (.tm 67)) none), []), ((.mk (.some 69) (.call 14 [(.tm 66), (.tm 68)]) none), [])]) (.reg [((.mk (.some 70) (.mv (.tm 4)) none), []), ((.mk (.some 71) (.fa 1 (.tm 6)) none), []), ((.mk (.some 72) (.ld 1 false (.tm 71)) none), []), ((.mk (.some 73) (.call 17 [(.tm 70), (.tm 72)]) none), [])])) .skip)))))) (.seq (.reg [((.mk (.some 74) (.mv (.tm 3)) none), []), ((.mk (.some 75) (.fa 2 (.tm 6)) none), []), ((.mk (.some 76) (.ld 1 false (.tm 75)) none), []), ((.mk (.some 78) (.mv (.tm 4)) none), []), ((.mk (.some 79) (.fa 2 (.tm 6)) none), []), ((.mk (.some 80) (.ld 1 false (.tm 79)) none), []), ((.mk (.some 77) (.call 13 [(.tm 74), (.tm 76)]) none), [(.mk (.some 80) (.ld 1 false (.tm 79)) none)]), ((.mk (.some 81) (.call 18 [(.tm 78), (.tm 80)]) none), []), ((.mk (.some 9) (.mv (.tm 77)) none), []), ((.mk (.some 10) (.mv (.tm 81)) none), [])]) (.seq (.reg [((.mk (.some 82) (.mv (.tm 3)) none), []), ((.mk (.some 83) (.fa 2 (.tm 6)) none), []), ((.mk (.some 84) (.ld 1 false (.tm 83)) none), []), ((.mk (.some 85) (.fa 3 (.tm 6)) none), []), ((.mk (.some 86) (.ld 1 false (.tm 85)) none), []), ((.mk (.some 88) (.mv (.tm 4)) none), []), ((.mk (.some 89) (.fa 2 (.tm 6)) none), []), ((.mk (.some 90) (.ld 1 false (.tm 89)) none), []), ((.mk (.some 91) (.fa 3 (.tm 6)) none), []), ((.mk (.some 92) (.ld 1 false (.tm 91)) none), []), ((.mk (.some 87) (.call 19 [(.tm 82), (.tm 84), (.tm 86)]) none), [(.mk (.some 90) (.ld 1 false (.tm 89)) none), (.mk (.some 92) (.ld 1 false (.tm 91)) none)]), ((.mk (.some 93) (.call 20 [(.tm 88), (.tm 90), (.tm 92)]) none), []), ((.mk (.some 11) (.mv (.tm 87)) none), []), ((.mk (.some 12) (.mv (.tm 93)) none), [])]) (.seq (.seq (.seq (.reg [((.mk (.some 94) (.mv (.tm 7)) none), []), ((.mk (.some 95) (.mv (.tm 8)) none), []), ((.mk (.some 96) (.bin .neq (.tm 94) (.tm 95)) none), []), ((.mk (.some 97) (.mv (.tm 96)) none), [])]) (.seq (.cond (.tm 97) (.reg [((.mk (.some 98) (.mv (.cs (.tup []))) none), []), ((.mk (.some 99) (.mv (.cs (.tup []))) none), []), ((.mk (.some 100) (.mv (.cs (.tup []))) none), []), ((.mk (.some 101) (.mv (.cs (.tup []))) none), []), ((.mk (.some 102) (.mv (.cs (.tup []))) none), [])]) (.reg [((.mk (.some 98) (.mv (.tm 9)) none), []), ((.mk (.some 99) (.lenL (.tm 98)) none), []), ((.mk (.some 100) (.mv (.tm 10)) none), []), ((.mk (.some 101) (.lenL (.tm 100)) none), []), ((.mk (.some 102) (.bin .neq (.tm 99) (.tm 101)) none), [])])) (.seq (.reg [((.mk (.some 103) (.pick (.tm 97) (.cs (.bool true)) (.tm 102)) none), []), ((.mk (.some 104) (.mv (.tm 103)) none), [])]) (.seq (.cond (.tm 104) (.reg [((.mk (.some 105) (.mv (.cs (.tup []))) none), []), ((.mk (.some 106) (.mv (.cs (.tup []))) none), []), ((.mk (.some 107) (.mv (.cs (.tup []))) none), []), ((.mk (.some 108) (.mv (.cs (.tup []))) none), []), ((.mk (.some 109) (.mv (.cs (.tup []))) none), [])]) (.reg [((.mk (.some 105) (.mv (.tm 11)) none), []), ((.mk (.some 106) (.lenL (.tm 105)) none), []), ((.mk (.some 107) (.mv (.tm 12)) none), []), ((.mk (.some 108) (.lenL (.tm 107)) none), []), ((.mk (.some 109) (.bin .neq (.tm 106) (.tm 108)) none), [])])) (.seq (.reg [((.mk (.some 110) (.pick (.tm 104) (.cs (.bool true)) (.tm 109)) none), []), ((.mk (.some 111) (.mv (.tm 110)) none), [])]) (.seq (.cond (.tm 111) (.reg [((.mk (.some 112) (.mv (.cs (.tup []))) none), []), ((.mk (.some 114) (.mv (.cs (.tup []))) none), []), ((.mk (.some 115) (.mv (.cs (.tup []))) none), []), ((.mk (.some 116) (.mv (.cs (.tup []))) none), []), ((.mk (.some 117) (.mv (.cs (.tup []))) none), []), ((.mk (.some 118) (.mv (.cs (.tup []))) none), []), ((.mk (.some 113) .nop none), [(.mk (.some 117) (.ld 1 false (.tm 116)) (.some (111, false)))]), ((.mk (.some 119) (.mv (.cs (.tup []))) none), [])]) (.reg [((.mk (.some 112) (.mv (.tm 3)) none), []), ((.mk (.some 114) (.mv (.tm 4)) none), []), ((.mk (.some 115) (.nilck (.tm 114)) none), []), ((.mk (.some 116) (.fa 0 (.tm 115)) none), []), ((.mk (.some 117) (.ld 1 false (.tm 116)) none), []), ((.mk (.some 118) (.lenL (.tm 117)) none), []), ((.mk (.some 113) (.call 15 [(.tm 112)]) none), [(.mk (.some 117) (.ld 1 false (.tm 116)) (.some (111, false)))]), ((.mk (.some 119) (.bin .neq (.tm 113) (.tm 118)) none), [])])) (.reg [((.mk (.some 120) (.pick (.tm 111) (.cs (.bool true)) (.tm 119)) none), [])]))))))) (.cond (.tm 120) (.seq (.reg [((.mk (.some 2) (.mv (.cs (.bool false))) none), [])]) .ret) .skip)) (.seq (.seq (.reg [((.mk (.some 13) (.mv (.cs (.int .i64 0))) none), [])]) (.block 3 (.loop (.seq (.seq (.reg [((.mk (.some 121) (.mv (.tm 13)) none), []), ((.mk (.some 122) (.mv (.tm 9)) none), []), ((.mk (.some 123) (.lenL (.tm 122)) none), []), ((.mk (.some 124) (.bin .lss (.tm 121) (.tm 123)) none), [])]) (.cond (.tm 124) .skip (.exit 3))) (.seq (.block 4 (.seq (.seq (.reg [((.mk (.some 127) (.mv (.tm 9)) none), []), ((.mk (.some 128) (.mv (.tm 13)) none), []), ((.mk (.some 129) (.ia 2 (.tm 127) (.tm 128)) none), []), ((.mk (.some 130) (.fa 0 (.tm 129)) none), []), ((.mk (.some 131) (.ld 1 false (.tm 130)) none), []), ((.mk (.some 132) (.mv (.tm 10)) none), []), ((.mk (.some 133) (.mv (.tm 13)) none), []), ((.mk (.some 134) (.ia 2 (.tm 132) (.tm 133)) none), []), ((.mk (.some 135) (.fa 0 (.tm 134)) none), []), ((.mk (.some 136) (.ld 1 false (.tm 135)) none), []), ((.mk (.some 137) (.bin .neq (.tm 131) (.tm 136)) none), []), ((.mk (.some 138) (.mv (.tm 137)) none), [])]) (.seq (.cond (.tm 138) (.reg [((.mk (.some 139) (.mv (.cs (.tup []))) none), []), ((.mk (.some 140) (.mv (.cs (.tup []))) none), []), ((.mk (.some 141) (.mv (.cs (.tup []))) none), []), ((.mk (.some 142) (.mv (.cs (.tup []))) none), []), ((.mk (.some 143) (.mv (.cs (.tup []))) none), []), ((.mk (.some 144) (.mv (.cs (.tup []))) none), []), ((.mk (.some 145) (.mv (.cs (.tup []))) none), []), ((.mk (.some 146) (.mv (.cs (.tup []))) none), []), ((.mk (.some 147) (.mv (.cs (.tup []))) none), []), ((.mk (.some 148) (.mv (.cs (.tup []))) none), []), ((.mk (.some 149) (.mv (.cs (.tup []))) none), [])]) (.reg [((.mk (.some 139) (.mv (.tm 9)) none), []), ((.mk (.some 140) (.mv (.tm 13)) none), []), ((.mk (.some 141) (.ia 2 (.tm 139) (.tm 140)) none), []), ((.mk (.some 142) (.fa 1 (.tm 141)) none), []), ((.mk (.some 143) (.ld 1 false (.tm 142)) none), []), ((.mk (.some 144) (.mv (.tm 10)) none), []), ((.mk (.some 145) (.mv (.tm 13)) none), []), ((.mk (.some 146) (.ia 2 (.tm 144) (.tm 145)) none), []), ((.mk (.some 147) (.fa 1 (.tm 146)) none), []), ((.mk (.some 148) (.ld 1 false (.tm 147)) none), []), ((.mk (.some 149) (.eqn .bool true (.tm 143) (.tm 148)) none), [])])) (.reg [((.mk (.some 150) (.pick (.tm 138) (.cs (.bool true)) (.tm 149)) none), [])]))) (.cond (.tm 150) (.seq (.reg [((.mk (.some 2) (.mv (.cs (.bool false))) none), [])]) .ret) .skip))) (.reg [((.mk (.some 125) (.mv (.tm 13)) none), []), ((.mk (.some 126) (.bin .add (.tm 125) (.cs (.int .i64 1))) none), []), ((.mk (.some 13) (.mv (.tm 126)) none), [])])))))) (.seq (.reg [((.mk (.some 14) (.mv (.cs (.int .i64 0))) none), [])]) (.block 5 (.loop (.seq (.seq (.reg [((.mk (.some 151) (.mv (.tm 14)) none), []), ((.mk (.some 152) (.mv (.tm 11)) none), []), ((.mk (.some 153) (.lenL (.tm 152)) none), []), ((.mk (.some 154) (.bin .lss (.tm 151) (.tm 153)) none), [])]) (.cond (.tm 154) .skip (.exit 5))) (.seq (.block 6 (.seq (.reg [((.mk (.some 157) (.mv (.tm 11)) none), []), ((.mk (.some 158) (.mv (.tm 14)) none), []), ((.mk (.some 159) (.ia 1 (.tm 157) (.tm 158)) none), []), ((.mk (.some 160) (.ld 1 false (.tm 159)) none), []), ((.mk (.some 161) (.mv (.tm 12)) none), []), ((.mk (.some 162) (.mv (.tm 14)) none), []), ((.mk (.some 163) (.ia 1 (.tm 161) (.tm 162)) none), []), ((.mk (.some 164) (.ld 1 false (.tm 163)) none), []), ((.mk (.some 165) (.bin .neq (.tm 160) (.tm 164)) none), [])]) (.cond (.tm 165) (.seq (.reg [((.mk (.some 2) (.mv (.cs (.bool false))) none), [])]) .ret) .skip))) (.reg [((.mk (.some 155) (.mv (.tm 14)) none), []), ((.mk (.some 156) (.bin .add (.tm 155) (.cs (.int .i64 1))) none), []), ((.mk (.some 14) (.mv (.tm 156)) none), [])]))))))))))))))) (.reg [((.mk (.some 28) (.mv (.tm 5)) none), []), ((.mk (.some 29) (.bin .add (.tm 28) (.cs (.int .i64 1))) none), []), ((.mk (.some 5) (.mv (.tm 29)) none), [])])))))) (.seq (.reg [((.mk (.some 166) (.mv (.tm 3)) none), []), ((.mk (.some 169) (.mv (.tm 4)) none), []), ((.mk (.some 170) (.nilck (.tm 169)) none), []), ((.mk (.some 171) (.fa 0 (.tm 170)) none), []), ((.mk (.some 172) (.ld 1 false (.tm 171)) none), []), ((.mk (.some 173) (.lenL (.tm 172)) none), []), ((.mk (.some 167) (.call 19 [(.tm 166), (.cs (.str [])), (.cs (.str []))]) none), [(.mk (.some 172) (.ld 1 false (.tm 171)) none)]), ((.mk (.some 168) (.lenL (.tm 167)) none), []), ((.mk (.some 174) (.bin .eql (.tm 168) (.tm 173)) none), []), ((.mk (.some 2) (.mv (.tm 174)) none), [])]) .ret))))) [(.tmp 2)])
theorem c5 : compF Go.Proofs.Try.prog Go.Proofs.Try.f5 = some F5 := by kernel_rfl
theorem t5 {args : List AV} {h : Hp} {post : AV → Hp → Prop} (hn : args.length ≤ F5.n) (hh : run Try.prog F5.code [] (initE args) h ⟨fun e h' => resK F5.res e h' post, fun e h' => resK F5.res e h' post, fun _ _ _ => False⟩) : Triple Try.prog 5 args h post := triple_of mixed Try.func5 c5 hn hh

/-- "horologe/horologelaw7.IndexOrder" -/
def F6 : AFun := (.mk 164 (.seq (.reg [((.mk (.some 6) (.mv (.cs (.bool false))) none), [])]) (.seq (.seq (.reg [((.mk (.some 15) (.call 8 []) none), []), ((.mk (.some 16) (.un .not (.tm 15)) none), [])]) (.cond (.tm 16) (.seq (.reg [((.mk (.some 6) (.mv (.cs (.bool false))) none), [])]) .ret) .skip)) (.seq (.seq (.seq (.reg [((.mk (.some 17) (.mv (.tm 0)) none), []), ((.mk (.some 18) (.lenL (.tm 17)) none), []), ((.mk (.some 19) (.bin .gtr (.tm 18) (.cs (.int .i64 60))) none), []), ((.mk (.some 20) (.mv (.tm 19)) none), [])]) (.seq (.cond (.tm 20) (.reg [((.mk (.some 21) (.mv (.cs (.tup []))) none), []), ((.mk (.some 22) (.mv (.cs (.tup []))) none), []), ((.mk (.some 23) (.mv (.cs (.tup []))) none), []), ((.mk (.some 24) (.mv (.cs (.tup []))) none), []), ((.mk (.some 25) (.mv (.cs (.tup []))) none), []), ((.mk (.some 26) (.mv (.cs (.tup []))) none), [])]) (.reg [((.mk (.some 21) (.mv (.tm 1)) none), []), ((.mk (.some 22) (.lenS (.tm 21)) none), []), ((.mk (.some 23) (.mv (.tm 2)) none), []), ((.mk (.some 24) (.lenS (.tm 23)) none), []), ((.mk (.some 25) (.bin .add (.tm 22) (.tm 24)) none), []), ((.mk (.some 26) (.bin .gtr (.tm 25) (.cs (.int .i64 300))) none), [])])) (.reg [((.mk (.some 27) (.pick (.tm 20) (.cs (.bool true)) (.tm 26)) none), [])]))) (.cond (.tm 27) (.seq (.reg [((.mk (.some 6) (.mv (.cs (.bool true))) none), [])]) .ret) .skip)) (.seq (.reg [((.mk (.some 28) (.call 9 []) none), []), ((.mk (.some 7) (.mv (.tm 28)) none), [])]) (.seq (.reg [((.mk (.some 8) (.mv (.cs (.int .i64 0))) none), [])]) (.seq (.seq (.reg [((.mk (.some 9) (.mv (.cs (.int .i64 0))) none), [])]) (.block 0 (.loop (.seq (.seq (.reg [((.mk (.some 29) (.mv (.tm 9)) none), []), ((.mk (.some 30) (.mv (.tm 0)) none), []), ((.mk (.some 31) (.lenL (.tm 30)) none), []), ((.mk (.some 32) (.bin .lss (.tm 29) (.tm 31)) none), [])]) (.cond (.tm 32) .skip (.exit 0))) (.seq (.block 1 (.seq (.seq (.reg [((.mk (.some 35) (.mv (.tm 0)) none), []), ((.mk (.some 36) (.mv (.tm 9)) none), []), ((.mk (.some 37) (.ia 1 (.tm 35) (.tm 36)) none), []), ((.mk (.some 38) (.ld 1 false (.tm 37)) none), []), ((.mk (.some 39) (.lenS (.tm 38)) none), []), ((.mk (.some 40) (.bin .lss (.tm 39) (.cs (.int .i64 300))) none), []), ((.mk (.some 41) (.mv (.tm 40)) none), [])]) (.seq (.cond (.tm 41) (.reg [((.mk (.some 42) (.mv (.tm 7)) none), []), ((.mk (.some 43) (.mv (.tm 0)) none), []), ((.mk (.some 44) (.mv (.tm 9)) none), []), ((.mk (.some 45) (.ia 1 (.tm 43) (.tm 44)) none), []), ((.mk (.some 46) (.ld 1 false (.tm 45)) none), []), ((.mk (.some 47) (.call 13 [(.tm 42), (.tm 46)]) none), []), ((.mk (.some 48) (.lenL (.tm 47)) none), []), ((.mk (.some 49) (.bin .eql (.tm 48) (.cs (.int .i64 0))) none), [])]) (.reg [((.mk (.some 42) (.mv (.cs (.tup []))) none), []), ((.mk (.some 43) (.mv (.cs (.tup []))) none), []), ((.mk (.some 44) (.mv (.cs (.tup []))) none), []), ((.mk (.some 45) (.mv (.cs (.tup []))) none), []), ((.mk (.some 46) (.mv (.cs (.tup []))) none), []), ((.mk (.some 47) (.mv (.cs (.tup []))) none), []), ((.mk (.some 48) (.mv (.cs (.tup []))) none), []), ((.mk (.some 49) (.mv (.cs (.tup []))) none), [])])) (.seq (.reg [((.mk (.some 50) (.pick (.tm 41) (.tm 49) (.cs (.bool false))) none), []), ((.mk (.some 51) (.mv (.tm 50)) none), [])]) (.seq (.cond (.tm 51) (.reg [((.mk (.some 52) (.mv (.tm 7)) none), []), ((.mk (.some 53) (.mv (.tm 0)) none), []), ((.mk (.some 54) (.mv (.tm 9)) none), []), ((.mk (.some 55) (.ia 1 (.tm 53) (.tm 54)) none), []), ((.mk (.some 56) (.ld 1 false (.tm 55)) none), []), ((.mk (.some 57) (.mv (.tm 9)) none), []), ((.mk (.some 58) (.bin .add (.tm 57) (.cs (.int .i64 1))) none), []), ((.mk (.some 59) (.bld [(.int .i64 0), (.bool false)] [(0, (1, (.tm 58)))]) none), []), ((.mk (.some 60) (.call 10 [(.tm 52), (.tm 56), (.tm 59)]) none), []), ((.mk (.some 61) (.bin .eql (.tm 60) (.cs (.int .i64 0))) none), [])]) (.reg [((.mk (.some 52) (.mv (.cs (.tup []))) none), []), ((.mk (.some 53) (.mv (.cs (.tup []))) none), []), ((.mk (.some 54) (.mv (.cs (.tup []))) none), []), ((.mk (.some 55) (.mv (.cs (.tup []))) none), []), ((.mk (.some 56) (.mv (.cs (.tup []))) none), []), ((.mk (.some 57) (.mv (.cs (.tup []))) none), []), ((.mk (.some 58) (.mv (.cs (.tup []))) none), []), ((.mk (.some 59) (.mv (.cs (.tup []))) none), []), ((.mk (.some 60) (.mv (.cs (.tup []))) none), []), ((.mk (.some 61) (.mv (.cs (.tup []))) none), [])])) (.reg [((.mk (.some 62) (.pick (.tm 51) (.tm 61) (.cs (.bool false))) none), [])]))))) (.cond (.tm 62) (.reg [((.mk (.some 63) (.mv (.tm 8)) none), []), ((.mk (.some 64) (.bin .add (.tm 63) (.cs (.int .i64 1))) none), []), ((.mk (.some 8) (.mv (.tm 64)) none), [])]) .skip))) (.reg [((.mk (.some 33) (.mv (.tm 9)) none), []), ((.mk (.some 34) (.bin .add (.tm 33) (.cs (.int .i64 1))) none), []), ((.mk (.some 9) (.mv (.tm 34)) none), [])])))))) (.seq (.reg [((.mk (.some 65) (.mv (.tm 7)) none), []), ((.mk (.some 66) (.call 19 [(.tm 65), (.cs (.str [])), (.cs (.str []))]) none), []), ((.mk (.some 10) (.mv (.tm 66)) none), [])]) (.seq (.seq (.seq (.reg [((.mk (.some 67) (.mv (.tm 10)) none), []), ((.mk (.some 68) (.lenL (.tm 67)) none), []), ((.mk (.some 69) (.mv (.tm 8)) none), []), ((.mk (.some 70) (.bin .neq (.tm 68) (.tm 69)) none), []), ((.mk (.some 71) (.mv (.tm 70)) none), [])]) (.seq (.cond (.tm 71) (.reg [((.mk (.some 72) (.mv (.cs (.tup []))) none), []), ((.mk (.some 73) (.mv (.cs (.tup []))) none), []), ((.mk (.some 74) (.mv (.cs (.tup []))) none), []), ((.mk (.some 75) (.mv (.cs (.tup []))) none), [])]) (.reg [((.mk (.some 72) (.mv (.tm 7)) none), []), ((.mk (.some 73) (.call 15 [(.tm 72)]) none), []), ((.mk (.some 74) (.mv (.tm 8)) none), []), ((.mk (.some 75) (.bin .neq (.tm 73) (.tm 74)) none), [])])) (.reg [((.mk (.some 76) (.pick (.tm 71) (.cs (.bool true)) (.tm 75)) none), [])]))) (.cond (.tm 76) (.seq (.reg [((.mk (.some 6) (.mv (.cs (.bool false))) none), [])]) .ret) .skip)) (.seq (.reg [((.mk (.some 11) (.mv (.cs (.int .i64 0))) none), [])]) (.seq (.seq (.reg [((.mk (.some 12) (.mv (.cs (.int .i64 0))) none), [])]) (.block 2 (.loop (.seq (.seq (.reg [((.mk (.some 77) (.mv (.tm 12)) none), []), ((.mk (.some 78) (.mv (.tm 8)) none), []), ((.mk (.some 79) (.bin .lss (.tm 77) (.tm 78)) none), [])]) (.cond (.tm 79) .skip (.exit 2))) (.seq (.block 3 (.seq (.seq (.seq (.reg [((.mk (.some 82) (.mv (.tm 12)) none), []), ((.mk (.some 83) (.bin .gtr (.tm 82) (.cs (.int .i64 0))) none), []), ((.mk (.some 84) (.mv (.tm 83)) none), [])]) (.seq (.cond (.tm 84) (.reg [((.mk (.some 85) (.mv (.tm 10)) none), []), ((.mk (.some 86) (.mv (.tm 12)) none), []), ((.mk (.some 87) (.ia 1 (.tm 85) (.tm 86)) none), []), ((.mk (.some 88) (.ld 1 false (.tm 87)) none), []), ((.mk (.some 89) (.mv (.tm 10)) none), []), ((.mk (.some 90) (.mv (.tm 12)) none), []), ((.mk (.some 91) (.bin .sub (.tm 90) (.cs (.int .i64 1))) none), []), ((.mk (.some 92) (.ia 1 (.tm 89) (.tm 91)) none), []), ((.mk (.some 93) (.ld 1 false (.tm 92)) none), []), ((.mk (.some 94) (.bin .leq (.tm 88) (.tm 93)) none), [])]) (.reg [((.mk (.some 85) (.mv (.cs (.tup []))) none), []), ((.mk (.some 86) (.mv (.cs (.tup []))) none), []), ((.mk (.some 87) (.mv (.cs (.tup []))) none), []), ((.mk (.some 88) (.mv (.cs (.tup []))) none), []), ((.mk (.some 89) (.mv (.cs (.tup []))) none), []), ((.mk (.some 90) (.mv (.cs (.tup []))) none), []), ((.mk (.some 91) (.mv (.cs (.tup []))) none), []), ((.mk (.some 92) (.mv (.cs (.tup []))) none), []), ((.mk (.some 93) (.mv (.cs (.tup []))) none), []), ((.mk (.some 94) (.mv (.cs (.tup []))) none), [])])) (.reg [((.mk (.some 95) (.pick (.tm 84) (.tm 94) (.cs (.bool false))) none), [])]))) (.cond (.tm 95) (.seq (.reg [((.mk (.some 6) (.mv (.cs (.bool false))) none), [])]) .ret) .skip)) (.seq (.seq (.reg [((.mk (.some 96) (.mv (.tm 10)) none), []), ((.mk (.some 97) (.mv (.tm 12)) none), []), ((.mk (.some 98) (.ia 1 (.tm 96) (.tm 97)) none), []), ((.mk (.some 99) (.ld 1 false (.tm 98)) none), []), ((.mk (.some 100) (.mv (.tm 1)) none), []), ((.mk (.some 101) (.bin .geq (.tm 99) (.tm 100)) none), []), ((.mk (.some 102) (.mv (.tm 101)) none), [])]) (.seq (.cond (.tm 102) (.seq (.reg [((.mk (.some 103) (.mv (.tm 2)) none), []), ((.mk (.some 104) (.bin .eql (.tm 103) (.cs (.str []))) none), []), ((.mk (.some 105) (.mv (.tm 104)) none), [])]) (.seq (.cond (.tm 105) (.reg [((.mk (.some 106) (.mv (.cs (.tup []))) none), []), ((.mk (.some 107) (.mv (.cs (.tup []))) none), []), ((.mk (.some 108) (.mv (.cs (.tup []))) none), []), ((.mk (.some 109) (.mv (.cs (.tup []))) none), []), ((.mk (.some 110) (.mv (.cs (.tup []))) none), []), ((.mk (.some 111) (.mv (.cs (.tup []))) none), [])]) (.reg [((.mk (.some 106) (.mv (.tm 10)) none), []), ((.mk (.some 107) (.mv (.tm 12)) none), []), ((.mk (.some 108) (.ia 1 (.tm 106) (.tm 107)) none), []), ((.mk (.some 109) (.ld 1 false (.tm 108)) none), []), ((.mk (.some 110) (.mv (.tm 2)) none), []), ((.mk (.some 111) (.bin .lss (.tm 109) (.tm 110)) none), [])])) (.reg [((.mk (.some 112) (.pick (.tm 105) (.cs (.bool true)) (.tm 111)) none), [])]))) (.reg [((.mk (.some 103) (.mv (.cs (.tup []))) none), []), ((.mk (.some 104) (.mv (.cs (.tup []))) none), []), ((.mk (.some 105) (.mv (.cs (.tup []))) none), []), ((.mk (.some 106) (.mv (.cs (.tup []))) none), []), ((.mk (.some 107) (.mv (.cs (.tup []))) none), []), ((.mk (.some 108) (.mv (.cs (.tup []))) none), []), ((.mk (.some 109) (.mv (.cs (.tup []))) none), []), ((.mk (.some 110) (.mv (.cs (.tup []))) none), []), ((.mk (.some 111) (.mv (.cs (.tup []))) none), []), ((.mk (.some 112) (.mv (.cs (.tup []))) none), [])])) (.reg [((.mk (.some 113) (.pick (.tm 102) (.tm 112) (.cs (.bool false))) none), [])]))) (.cond (.tm 113) (.reg [((.mk (.some 114) (.mv (.tm 11)) none), []), ((.mk (.some 115) (.bin .add (.tm 114) (.cs (.int .i64 1))) none), []), ((.mk (.some 11) (.mv (.tm 115)) none), [])]) .skip)))) (.reg [((.mk (.some 80) (.mv (.tm 12)) none), []), ((.mk (.some 81) (.bin .add (.tm 80) (.cs (.int .i64 1))) none), []), ((.mk (.some 12) (.mv (.tm 81)) none), [])])))))) (.seq (.reg [((.mk (.some 116) (.mv (.tm 7)) none), []), ((.mk (.some 117) (.mv (.tm 1)) none), []), ((.mk (.some 118) (.mv (.tm 2)) none), []), ((.mk (.some 119) (.call 19 [(.tm 116), (.tm 117), (.tm 118)]) none), []), ((.mk (.some 13) (.mv (.tm 119)) none), [])]) (.seq (.seq (.reg [((.mk (.some 14) (.mv (.cs (.int .i64 0))) none), [])]) (.block 4 (.loop (.seq (.seq (.reg [((.mk (.some 120) (.mv (.tm 14)) none), []), ((.mk (.some 121) (.mv (.tm 13)) none), []), ((.mk (.some 122) (.lenL (.tm 121)) none), []), ((.mk (.some 123) (.bin .lss (.tm 120) (.tm 122)) none), [])]) (.cond (.tm 123) .skip (.exit 4))) (.seq (.block 5 (.seq (.seq (.reg [((.mk (.some 126) (.mv (.tm 13)) none), []), ((.mk (.some 127) (.mv (.tm 14)) none), []), ((.mk (.some 128) (.ia 1 (.tm 126) (.tm 127)) none), []), ((.mk (.some 129) (.ld 1 false (.tm 128)) none), []), ((.mk (.some 130) (.mv (.tm 1)) none), []), ((.mk (.some 131) (.bin .lss (.tm 129) (.tm 130)) none), []), ((.mk (.some 132) (.mv (.tm 131)) none), [])]) (.seq (.cond (.tm 132) (.reg [((.mk (.some 133) (.mv (.cs (.tup []))) none), []), ((.mk (.some 134) (.mv (.cs (.tup []))) none), []), ((.mk (.some 135) (.mv (.cs (.tup []))) none), []), ((.mk (.some 136) (.mv (.cs (.tup []))) none), []), ((.mk (.some 137) (.mv (.cs (.tup []))) none), []), ((.mk (.some 138) (.mv (.cs (.tup []))) none), []), ((.mk (.some 139) (.mv (.cs (.tup []))) none), []), ((.mk (.some 140) (.mv (.cs (.tup []))) none), []), ((.mk (.some 141) (.mv (.cs (.tup []))) none), []), ((.mk (.some 142) (.mv (.cs (.tup []))) none), [])]) (.seq (.reg [((.mk (.some 133) (.mv (.tm 2)) none), []), ((.mk (.some 134) (.bin .neq (.tm 133) (.cs (.str []))) none), []), ((.mk (.some 135) (.mv (.tm 134)) none), [])]) (.seq (.cond (.tm 135) (.reg [((.mk (.some 136) (.mv (.tm 13)) none), []), ((.mk (.some 137) (.mv (.tm 14)) none), []), ((.mk (.some 138) (.ia 1 (.tm 136) (.tm 137)) none), []), ((.mk (.some 139) (.ld 1 false (.tm 138)) none), []), ((.mk (.some 140) (.mv (.tm 2)) none), []), ((.mk (.some 141) (.bin .geq (.tm 139) (.tm 140)) none), [])]) (.reg [((.mk (.some 136) (.mv (.cs (.tup []))) none), []), ((.mk (.some 137) (.mv (.cs (.tup []))) none), []), ((.mk (.some 138) (.mv (.cs (.tup []))) none), []), ((.mk (.some 139) (.mv (.cs (.tup []))) none), []), ((.mk (.some 140) (.mv (.cs (.tup []))) none), []), ((.mk (.some 141) (.mv (.cs (.tup []))) none), [])])) (.reg [((.mk (.some 142) (.pick (.tm 135) (.tm 141) (.cs (.bool false))) none), [])])))) (.seq (.reg [((.mk (.some 143) (.pick (.tm 132) (.cs (.bool true)) (.tm 142)) none), []), ((.mk (.some 144) (.mv (.tm 143)) none), [])]) (.seq (.cond (.tm 144) (.reg [((.mk (.some 145) (.mv (.cs (.tup []))) none), []), ((.mk (.some 146) (.mv (.cs (.tup []))) none), []), ((.mk (.some 147) (.mv (.cs (.tup []))) none), []), ((.mk (.some 148) (.mv (.cs (.tup []))) none), []), ((.mk (.some 149) (.mv (.cs (.tup []))) none), []), ((.mk (.some 150) (.mv (.cs (.tup []))) none), []), ((.mk (.some 151) (.mv (.cs (.tup []))) none), []), ((.mk (.some 152) (.mv (.cs (.tup []))) none), []), ((.mk (.some 153) (.mv (.cs (.tup []))) none), []), ((.mk (.some 154) (.mv (.cs (.tup []))) none), []), ((.mk (.some 155) (.mv (.cs (.tup []))) none), []), ((.mk (.some 156) (.mv (.cs (.tup []))) none), []), ((.mk (.some 157) (.mv (.cs (.tup []))) none), []), ((.mk (.some 158) (.mv (.cs (.tup []))) none), [])]) (.seq (.reg [((.mk (.some 145) (.mv (.tm 14)) none), []), ((.mk (.some 146) (.bin .gtr (.tm 145) (.cs (.int .i64 0))) none), []), ((.mk (.some 147) (.mv (.tm 146)) none), [])]) (.seq (.cond (.tm 147) (.reg [((.mk (.some 148) (.mv (.tm 13)) none), []), ((.mk (.some 149) (.mv (.tm 14)) none), []), ((.mk (.some 150) (.ia 1 (.tm 148) (.tm 149)) none), []), ((.mk (.some 151) (.ld 1 false (.tm 150)) none), []), ((.mk (.some 152) (.mv (.tm 13)) none), []), ((.mk (.some 153) (.mv (.tm 14)) none), []), ((.mk (.some 154) (.bin .sub (.tm 153) (.cs (.int .i64 1))) none), []), ((.mk (.some 155) (.ia 1 (.tm 152) (.tm 154)) none), []), ((.mk (.some 156) (.ld 1 false (.tm 155)) none), []), ((.mk (.some 157) (.bin .leq (.tm 151) (.tm 156)) none), [])]) (.reg [((.mk (.some 148) (.mv (.cs (.tup []))) none), []), ((.mk (.some 149) (.mv (.cs (.tup []))) none), []), ((.mk (.some 150) (.mv (.cs (.tup []))) none), []), ((.mk (.some 151) (.mv (.cs (.tup []))) none), []), ((.mk (.some 152) (.mv (.cs (.tup []))) none), []), ((.mk (.some 153) (.mv (.cs (.tup []))) none), []), ((.mk (.some 154) (.mv (.cs (.tup []))) none), []), ((.mk (.some 155) (.mv (.cs (.tup []))) none), []), ((.mk (.some 156) (.mv (.cs (.tup []))) none), []), ((.mk (.some 157) (.mv (.cs (.tup []))) none), [])])) (.reg [((.mk (.some 158) (.pick (.tm 147) (.tm 157) (.cs (.bool false))) none), [])])))) (.reg [((.mk (.some 159) (.pick (.tm 144) (.cs (.bool true)) (.tm 158)) none), [])]))))) (.cond (.tm 159) (.seq (.reg [((.mk (.some 6) (.mv (.cs (.bool false))) none), [])]) .ret) .skip))) (.reg [((.mk (.some 124) (.mv (.tm 14)) none), []), ((.mk (.some 125) (.bin .add (.tm 124) (.cs (.int .i64 1))) none), []), ((.mk (.some 14) (.mv (.tm 125)) none), [])])))))) (.seq (.reg [((.mk (.some 160) (.mv (.tm 13)) none), []), ((.mk (.some 161) (.lenL (.tm 160)) none), []), ((.mk (.some 162) (.mv (.tm 11)) none), []), ((.mk (.some 163) (.bin .eql (.tm 161) (.tm 162)) none), []), ((.mk (.some 6) (.mv (.tm 163)) none), [])]) .ret))))))))))))) [(.tmp 6)])
theorem c6 : compF Go.Proofs.Try.prog Go.Proofs.Try.f6 = some F6 := by kernel_rfl
theorem t6 {args : List AV} {h : Hp} {post : AV → Hp → Prop} (hn : args.length ≤ F6.n) (hh : run Try.prog F6.code [] (initE args) h ⟨fun e h' => resK F6.res e h' post, fun e h' => resK F6.res e h' post, fun _ _ _ => False⟩) : Triple Try.prog 6 args h post := triple_of mixed Try.func6 c6 hn hh

/-- "horologe/horologelaw7.IndexGrows" -/
def F7 : AFun := (.mk 114 (.seq (.reg [((.mk (.some 6) (.mv (.cs (.bool false))) none), [])]) (.seq (.seq (.reg [((.mk (.some 13) (.call 8 []) none), []), ((.mk (.some 14) (.un .not (.tm 13)) none), [])]) (.cond (.tm 14) (.seq (.reg [((.mk (.some 6) (.mv (.cs (.bool false))) none), [])]) .ret) .skip)) (.seq (.reg [((.mk (.some 15) (.call 9 []) none), []), ((.mk (.some 7) (.mv (.tm 15)) none), [])]) (.seq (.reg [((.mk (.some 16) (.mv (.tm 0)) none), []), ((.mk (.some 17) (.call 11 [(.tm 16), (.cs (.int .i64 700))]) none), []), ((.mk (.some 0) (.mv (.tm 17)) none), [])]) (.seq (.reg [((.mk (.some 18) (.mv (.tm 1)) none), []), ((.mk (.some 19) (.call 11 [(.tm 18), (.cs (.int .i64 600))]) none), []), ((.mk (.some 20) (.bin .mul (.cs (.int .i64 2)) (.tm 19)) none), []), ((.mk (.some 21) (.bin .add (.cs (.int .i64 1)) (.tm 20)) none), []), ((.mk (.some 1) (.mv (.tm 21)) none), [])]) (.seq (.block 0 (.loop (.seq (.seq (.reg [((.mk (.some 22) (.mv (.tm 1)) none), []), ((.mk (.some 23) (.bin .rem (.tm 22) (.cs (.int .i64 13))) none), []), ((.mk (.some 24) (.bin .eql (.tm 23) (.cs (.int .i64 0))) none), [])]) (.cond (.tm 24) .skip (.exit 0))) (.block 1 (.reg [((.mk (.some 25) (.mv (.tm 1)) none), []), ((.mk (.some 26) (.bin .add (.tm 25) (.cs (.int .i64 2))) none), []), ((.mk (.some 1) (.mv (.tm 26)) none), [])]))))) (.seq (.seq (.reg [((.mk (.some 8) (.mv (.cs (.int .i64 0))) none), [])]) (.block 2 (.loop (.seq (.seq (.reg [((.mk (.some 27) (.mv (.tm 8)) none), []), ((.mk (.some 28) (.mv (.tm 0)) none), []), ((.mk (.some 29) (.bin .lss (.tm 27) (.tm 28)) none), [])]) (.cond (.tm 29) .skip (.exit 2))) (.seq (.block 3 (.seq (.seq (.reg [((.mk (.some 32) (.mv (.tm 7)) none), []), ((.mk (.some 33) (.mv (.tm 8)) none), []), ((.mk (.some 34) (.mv (.tm 1)) none), []), ((.mk (.some 35) (.bin .mul (.tm 33) (.tm 34)) none), []), ((.mk (.some 36) (.call 11 [(.tm 35), (.cs (.int .i64 17576))]) none), []), ((.mk (.some 37) (.call 21 [(.tm 36)]) none), []), ((.mk (.some 38) (.mv (.tm 8)) none), []), ((.mk (.some 39) (.bin .add (.tm 38) (.cs (.int .i64 1))) none), []), ((.mk (.some 40) (.bld [(.int .i64 0), (.bool false)] [(0, (1, (.tm 39)))]) none), []), ((.mk (.some 41) (.call 10 [(.tm 32), (.tm 37), (.tm 40)]) none), []), ((.mk (.some 42) (.bin .neq (.tm 41) (.cs (.int .i64 0))) none), [])]) (.cond (.tm 42) (.seq (.reg [((.mk (.some 6) (.mv (.cs (.bool false))) none), [])]) .ret) .skip)) (.seq (.seq (.reg [((.mk (.some 43) (.mv (.tm 8)) none), []), ((.mk (.some 44) (.bin .rem (.tm 43) (.cs (.int .i64 50))) none), []), ((.mk (.some 45) (.bin .eql (.tm 44) (.cs (.int .i64 0))) none), []), ((.mk (.some 46) (.mv (.tm 45)) none), [])]) (.seq (.cond (.tm 46) (.reg [((.mk (.some 47) (.mv (.tm 7)) none), []), ((.mk (.some 48) (.call 22 [(.tm 47)]) none), []), ((.mk (.some 49) (.un .not (.tm 48)) none), [])]) (.reg [((.mk (.some 47) (.mv (.cs (.tup []))) none), []), ((.mk (.some 48) (.mv (.cs (.tup []))) none), []), ((.mk (.some 49) (.mv (.cs (.tup []))) none), [])])) (.reg [((.mk (.some 50) (.pick (.tm 46) (.tm 49) (.cs (.bool false))) none), [])]))) (.cond (.tm 50) (.seq (.reg [((.mk (.some 6) (.mv (.cs (.bool false))) none), [])]) .ret) .skip)))) (.reg [((.mk (.some 30) (.mv (.tm 8)) none), []), ((.mk (.some 31) (.bin .add (.tm 30) (.cs (.int .i64 1))) none), []), ((.mk (.some 8) (.mv (.tm 31)) none), [])])))))) (.seq (.reg [((.mk (.some 51) (.mv (.tm 2)) none), []), ((.mk (.some 52) (.mv (.tm 0)) none), []), ((.mk (.some 53) (.bin .add (.tm 52) (.cs (.int .i64 1))) none), []), ((.mk (.some 54) (.call 11 [(.tm 51), (.tm 53)]) none), []), ((.mk (.some 9) (.mv (.tm 54)) none), [])]) (.seq (.seq (.reg [((.mk (.some 10) (.mv (.cs (.int .i64 0))) none), [])]) (.block 4 (.loop (.seq (.seq (.reg [((.mk (.some 55) (.mv (.tm 10)) none), []), ((.mk (.some 56) (.mv (.tm 9)) none), []), ((.mk (.some 57) (.bin .lss (.tm 55) (.tm 56)) none), [])]) (.cond (.tm 57) .skip (.exit 4))) (.seq (.block 5 (.seq (.reg [((.mk (.some 60) (.mv (.tm 7)) none), []), ((.mk (.some 61) (.mv (.tm 10)) none), []), ((.mk (.some 62) (.mv (.tm 1)) none), []), ((.mk (.some 63) (.bin .mul (.tm 61) (.tm 62)) none), []), ((.mk (.some 64) (.call 11 [(.tm 63), (.cs (.int .i64 17576))]) none), []), ((.mk (.some 65) (.call 21 [(.tm 64)]) none), []), ((.mk (.some 66) (.mv (.tm 0)) none), []), ((.mk (.some 67) (.bin .add (.tm 66) (.cs (.int .i64 1))) none), []), ((.mk (.some 68) (.mv (.tm 10)) none), []), ((.mk (.some 69) (.bin .add (.tm 67) (.tm 68)) none), []), ((.mk (.some 70) (.bld [(.int .i64 0), (.bool false)] [(0, (1, (.tm 69))), (1, (1, (.cs (.bool true))))]) none), []), ((.mk (.some 71) (.call 10 [(.tm 60), (.tm 65), (.tm 70)]) none), []), ((.mk (.some 72) (.bin .neq (.tm 71) (.cs (.int .i64 0))) none), [])]) (.cond (.tm 72) (.seq (.reg [((.mk (.some 6) (.mv (.cs (.bool false))) none), [])]) .ret) .skip))) (.reg [((.mk (.some 58) (.mv (.tm 10)) none), []), ((.mk (.some 59) (.bin .add (.tm 58) (.cs (.int .i64 1))) none), []), ((.mk (.some 10) (.mv (.tm 59)) none), [])])))))) (.seq (.reg [((.mk (.some 73) (.mv (.tm 7)) none), []), ((.mk (.some 74) (.mv (.tm 0)) none), []), ((.mk (.some 75) (.mv (.tm 9)) none), []), ((.mk (.some 76) (.bin .add (.tm 74) (.tm 75)) none), []), ((.mk (.some 77) (.call 14 [(.tm 73), (.tm 76)]) none), [])]) (.seq (.reg [((.mk (.some 78) (.mv (.tm 7)) none), []), ((.mk (.some 79) (.call 19 [(.tm 78), (.cs (.str [])), (.cs (.str []))]) none), []), ((.mk (.some 11) (.mv (.tm 79)) none), [])]) (.seq (.seq (.reg [((.mk (.some 12) (.mv (.cs (.int .i64 1))) none), [])]) (.block 6 (.loop (.seq (.seq (.reg [((.mk (.some 80) (.mv (.tm 12)) none), []), ((.mk (.some 81) (.mv (.tm 11)) none), []), ((.mk (.some 82) (.lenL (.tm 81)) none), []), ((.mk (.some 83) (.bin .lss (.tm 80) (.tm 82)) none), [])]) (.cond (.tm 83) .skip (.exit 6))) (.seq (.block 7 (.seq (.reg [((.mk (.some 86) (.mv (.tm 11)) none), []), ((.mk (.some 87) (.mv (.tm 12)) none), []), ((.mk (.some 88) (.ia 1 (.tm 86) (.tm 87)) none), []), ((.mk (.some 89) (.ld 1 false (.tm 88)) none), []), ((.mk (.some 90) (.mv (.tm 11)) none), []), ((.mk (.some 91) (.mv (.tm 12)) none), []), ((.mk (.some 92) (.bin .sub (.tm 91) (.cs (.int .i64 1))) none), []), ((.mk (.some 93) (.ia 1 (.tm 90) (.tm 92)) none), []), ((.mk (.some 94) (.ld 1 false (.tm 93)) none), []), ((.mk (.some 95) (.bin .leq (.tm 89) (.tm 94)) none), [])]) (.cond (.tm 95) (.seq (.reg [((.mk (.some 6) (.mv (.cs (.bool false))) none), [])]) .ret) .skip))) (.reg [((.mk (.some 84) (.mv (.tm 12)) none), []), ((.mk (.some 85) (.bin .add (.tm 84) (.cs (.int .i64 1))) none), []), ((.mk (.some 12) (.mv (.tm 85)) none), [])])))))) (.seq (.seq (.reg [((.mk (.some 96) (.mv (.tm 7)) none), []), ((.mk (.some 97) (.call 15 [(.tm 96)]) none), []), ((.mk (.some 98) (.mv (.tm 0)) none), []), ((.mk (.some 99) (.mv (.tm 9)) none), []), ((.mk (.some 100) (.bin .sub (.tm 98) (.tm 99)) none), []), ((.mk (.some 101) (.bin .eql (.tm 97) (.tm 100)) none), []), ((.mk (.some 102) (.mv (.tm 101)) none), [])]) (.seq (.cond (.tm 102) (.reg [((.mk (.some 103) (.mv (.tm 11)) none), []), ((.mk (.some 104) (.lenL (.tm 103)) none), []), ((.mk (.some 105) (.mv (.tm 0)) none), []), ((.mk (.some 106) (.mv (.tm 9)) none), []), ((.mk (.some 107) (.bin .sub (.tm 105) (.tm 106)) none), []), ((.mk (.some 108) (.bin .eql (.tm 104) (.tm 107)) none), [])]) (.reg [((.mk (.some 103) (.mv (.cs (.tup []))) none), []), ((.mk (.some 104) (.mv (.cs (.tup []))) none), []), ((.mk (.some 105) (.mv (.cs (.tup []))) none), []), ((.mk (.some 106) (.mv (.cs (.tup []))) none), []), ((.mk (.some 107) (.mv (.cs (.tup []))) none), []), ((.mk (.some 108) (.mv (.cs (.tup []))) none), [])])) (.seq (.reg [((.mk (.some 109) (.pick (.tm 102) (.tm 108) (.cs (.bool false))) none), []), ((.mk (.some 110) (.mv (.tm 109)) none), [])]) (.seq (.cond (.tm 110) (.reg [((.mk (.some 111) (.mv (.tm 7)) none), []), ((.mk (.some 112) (.call 22 [(.tm 111)]) none), [])]) (.reg [((.mk (.some 111) (.mv (.cs (.tup []))) none), []), ((.mk (.some 112) (.mv (.cs (.tup []))) none), [])])) (.reg [((.mk (.some 113) (.pick (.tm 110) (.tm 112) (.cs (.bool false))) none), []), ((.mk (.some 6) (.mv (.tm 113)) none), [])]))))) .ret))))))))))))) [(.tmp 6)])
theorem c7 : compF Go.Proofs.Try.prog Go.Proofs.Try.f7 = some F7 := by kernel_rfl
theorem t7 {args : List AV} {h : Hp} {post : AV → Hp → Prop} (hn : args.length ≤ F7.n) (hh : run Try.prog F7.code [] (initE args) h ⟨fun e h' => resK F7.res e h' post, fun e h' => resK F7.res e h' post, fun _ _ _ => False⟩) : Triple Try.prog 7 args h post := triple_of mixed Try.func7 c7 hn hh

/-- "horologe/horologelaw7.known" -/
def F8 : AFun := (.mk 23 (.seq (.reg [((.mk (.some 0) (.mv (.cs (.bool false))) none), [])]) (.seq (.reg [((.mk (.some 3) (.call 9 []) none), []), ((.mk (.some 1) (.mv (.tm 3)) none), [])]) (.seq (.seq (.reg [((.mk (.some 4) (.mv (.tm 1)) none), []), ((.mk (.some 5) (.eqn .ptr false (.tm 4) (.cs .nilp)) none), [])]) (.cond (.tm 5) (.seq (.reg [((.mk (.some 0) (.mv (.cs (.bool false))) none), [])]) .ret) .skip)) (.seq (.reg [((.mk (.some 6) (.mv (.tm 1)) none), []), ((.mk (.some 7) (.bld [(.int .i64 0), (.bool false)] [(0, (1, (.cs (.int .i64 1))))]) none), []), ((.mk (.some 8) (.call 10 [(.tm 6), (.cs (.str [97])), (.tm 7)]) none), [])]) (.seq (.reg [((.mk (.some 9) (.mv (.tm 1)) none), []), ((.mk (.some 10) (.bld [(.int .i64 0), (.bool false)] [(0, (1, (.cs (.int .i64 3)))), (1, (1, (.cs (.bool true))))]) none), []), ((.mk (.some 11) (.call 10 [(.tm 9), (.cs (.str [97])), (.tm 10)]) none), [])]) (.seq (.reg [((.mk (.some 12) (.mv (.tm 1)) none), []), ((.mk (.some 13) (.call 15 [(.tm 12)]) none), []), ((.mk (.some 2) (.mv (.tm 13)) none), [])]) (.seq (.reg [((.mk (.some 14) (.mv (.tm 1)) none), []), ((.mk (.some 15) (.call 14 [(.tm 14), (.cs (.int .i64 3))]) none), [])]) (.seq (.seq (.reg [((.mk (.some 16) (.mv (.tm 2)) none), []), ((.mk (.some 17) (.bin .eql (.tm 16) (.cs (.int .i64 1))) none), []), ((.mk (.some 18) (.mv (.tm 17)) none), [])]) (.seq (.cond (.tm 18) (.reg [((.mk (.some 19) (.mv (.tm 1)) none), []), ((.mk (.some 20) (.call 15 [(.tm 19)]) none), []), ((.mk (.some 21) (.bin .eql (.tm 20) (.cs (.int .i64 0))) none), [])]) (.reg [((.mk (.some 19) (.mv (.cs (.tup []))) none), []), ((.mk (.some 20) (.mv (.cs (.tup []))) none), []), ((.mk (.some 21) (.mv (.cs (.tup []))) none), [])])) (.reg [((.mk (.some 22) (.pick (.tm 18) (.tm 21) (.cs (.bool false))) none), []), ((.mk (.some 0) (.mv (.tm 22)) none), [])]))) .ret)))))))) [(.tmp 0)])
theorem c8 : compF Go.Proofs.Try.prog Go.Proofs.Try.f8 = some F8 := by kernel_rfl
theorem t8 {args : List AV} {h : Hp} {post : AV → Hp → Prop} (hn : args.length ≤ F8.n) (hh : run Try.prog F8.code [] (initE args) h ⟨fun e h' => resK F8.res e h' post, fun e h' => resK F8.res e h' post, fun _ _ _ => False⟩) : Triple Try.prog 8 args h post := triple_of mixed Try.func8 c8 hn hh

/-- "horologe/index.New" -/
def F9 : AFun := (.mk 3 (.seq (.reg [((.mk (.some 0) (.mv (.cs .nilp)) none), [])]) (.seq (.reg [((.mk (.some 1) (.bld [.nilp, (.int .i64 0)] []) none), []), ((.mk (.some 2) (.box (.tm 1)) none), []), ((.mk (.some 0) (.mv (.tm 2)) none), [])]) .ret)) [(.tmp 0)])
theorem c9 : compF Go.Proofs.Try.prog Go.Proofs.Try.f9 = some F9 := by kernel_rfl
theorem t9 {args : List AV} {h : Hp} {post : AV → Hp → Prop} (hn : args.length ≤ F9.n) (hh : run Try.prog F9.code [] (initE args) h ⟨fun e h' => resK F9.res e h' post, fun e h' => resK F9.res e h' post, fun _ _ _ => False⟩) : Triple Try.prog 9 args h post := triple_of mixed Try.func9 c9 hn hh

/-- "(*horologe/index.Index).Put" -/
def F10 : AFun := (.mk 72 (.seq (.reg [((.mk (.some 5) (.box (.tm 2)) none), []), ((.mk (.some 6) (.mv (.cs (.int .i64 0))) none), [])]) (.seq (.seq (.seq (.reg [((.mk (.some 9) (.mv (.tm 1)) none), []), ((.mk (.some 10) (.bin .eql (.tm 9) (.cs (.str []))) none), []), ((.mk (.some 11) (.mv (.tm 10)) none), [])]) (.seq (.cond (.tm 11) (.reg [((.mk (.some 12) (.mv (.cs (.tup []))) none), []), ((.mk (.some 13) (.mv (.cs (.tup []))) none), []), ((.mk (.some 14) (.mv (.cs (.tup []))) none), [])]) (.reg [((.mk (.some 12) (.mv (.tm 1)) none), []), ((.mk (.some 13) (.lenS (.tm 12)) none), []), ((.mk (.some 14) (.bin .gtr (.tm 13) (.cs (.int .i64 100))) none), [])])) (.seq (.reg [((.mk (.some 15) (.pick (.tm 11) (.cs (.bool true)) (.tm 14)) none), []), ((.mk (.some 16) (.mv (.tm 15)) none), [])]) (.seq (.cond (.tm 16) (.reg [((.mk (.some 17) (.mv (.cs (.tup []))) none), []), ((.mk (.some 18) (.mv (.cs (.tup []))) none), []), ((.mk (.some 19) (.mv (.cs (.tup []))) none), [])]) (.reg [((.mk (.some 17) (.fa 0 (.tm 5)) none), []), ((.mk (.some 18) (.ld 1 false (.tm 17)) none), []), ((.mk (.some 19) (.bin .lss (.tm 18) (.cs (.int .i64 1))) none), [])])) (.reg [((.mk (.some 20) (.pick (.tm 16) (.cs (.bool true)) (.tm 19)) none), [])]))))) (.cond (.tm 20) (.seq (.reg [((.mk (.some 6) (.mv (.cs (.int .i64 1))) none), [])]) .ret) .skip)) (.seq (.reg [((.mk (.some 21) (.mv (.tm 0)) none), []), ((.mk (.some 22) (.mv (.tm 1)) none), []), ((.mk (.some 23) (.call 23 [(.tm 21), (.tm 22)]) none), []), ((.mk (.some 7) (.mv (.tm 23)) none), [])]) (.seq (.reg [((.mk (.some 24) (.bld [(.int .i64 0), (.bool false)] [(1, (1, (.cs (.bool true))))]) none), []), ((.mk (.some 8) (.alloc [(.int .i64 0), (.bool false)]) none), []), ((.mk none (.st 2 (.tm 8) (.tm 24)) none), [])]) (.seq (.seq (.reg [((.mk (.some 25) (.mv (.tm 7)) none), []), ((.mk (.some 26) (.eqn .ptr true (.tm 25) (.cs .nilp)) none), [])]) (.cond (.tm 26) (.reg [((.mk (.some 27) (.mv (.tm 7)) none), []), ((.mk (.some 28) (.nilck (.tm 27)) none), []), ((.mk (.some 29) (.fa 1 (.tm 28)) none), []), ((.mk (.some 30) (.ld 1 false (.tm 29)) none), []), ((.mk (.some 31) (.mv (.tm 7)) none), []), ((.mk (.some 32) (.nilck (.tm 31)) none), []), ((.mk (.some 33) (.fa 1 (.tm 32)) none), []), ((.mk (.some 34) (.ld 1 false (.tm 33)) none), []), ((.mk (.some 35) (.lenL (.tm 34)) none), []), ((.mk (.some 36) (.bin .sub (.tm 35) (.cs (.int .i64 1))) none), []), ((.mk (.some 37) (.ia 2 (.tm 30) (.tm 36)) none), []), ((.mk (.some 38) (.ld 2 true (.tm 37)) none), []), ((.mk none (.st 2 (.tm 8) (.tm 38)) none), [])]) .skip)) (.seq (.block 0 (.seq (.reg [((.mk (.some 50) (.fa 0 (.tm 8)) none), []), ((.mk (.some 51) (.ld 1 false (.tm 50)) none), []), ((.mk (.some 52) (.fa 0 (.tm 5)) none), []), ((.mk (.some 53) (.ld 1 false (.tm 52)) none), []), ((.mk (.some 54) (.bin .geq (.tm 51) (.tm 53)) none), []), ((.mk (.some 49) (.mv (.tm 54)) none), [])]) (.cond (.tm 49) (.seq (.reg [((.mk (.some 6) (.mv (.cs (.int .i64 15))) none), [])]) .ret) (.seq (.seq (.reg [((.mk (.some 56) (.fa 1 (.tm 5)) none), []), ((.mk (.some 57) (.ld 1 false (.tm 56)) none), []), ((.mk (.some 58) (.mv (.tm 57)) none), [])]) (.seq (.cond (.tm 58) (.reg [((.mk (.some 59) (.fa 1 (.tm 8)) none), []), ((.mk (.some 60) (.ld 1 false (.tm 59)) none), [])]) (.reg [((.mk (.some 59) (.mv (.cs (.tup []))) none), []), ((.mk (.some 60) (.mv (.cs (.tup []))) none), [])])) (.reg [((.mk (.some 61) (.pick (.tm 58) (.tm 60) (.cs (.bool false))) none), []), ((.mk (.some 55) (.mv (.tm 61)) none), [])]))) (.cond (.tm 55) (.seq (.reg [((.mk (.some 6) (.mv (.cs (.int .i64 2))) none), [])]) .ret) (.seq (.reg [((.mk (.some 63) (.mv (.tm 7)) none), []), ((.mk (.some 64) (.eqn .ptr false (.tm 63) (.cs .nilp)) none), []), ((.mk (.some 62) (.mv (.tm 64)) none), [])]) (.cond (.tm 62) (.reg [((.mk (.some 65) (.mv (.tm 0)) none), []), ((.mk (.some 66) (.mv (.tm 1)) none), []), ((.mk (.some 67) (.ld 2 true (.tm 5)) none), []), ((.mk (.some 68) (.bsl [(.int .i64 0), (.bool false)] 1 [(0, (.tm 67))]) none), []), ((.mk (.some 69) (.bld [(.str []), .nils] [(0, (1, (.tm 66))), (1, (1, (.tm 68)))]) none), []), ((.mk (.some 70) (.box (.tm 69)) none), []), ((.mk (.some 71) (.call 24 [(.tm 65), (.tm 70)]) none), [])]) (.reg [((.mk (.some 39) (.mv (.tm 7)) none), []), ((.mk (.some 40) (.mv (.tm 7)) none), []), ((.mk (.some 41) (.nilck (.tm 40)) none), []), ((.mk (.some 42) (.fa 1 (.tm 41)) none), []), ((.mk (.some 43) (.ld 1 false (.tm 42)) none), []), ((.mk (.some 44) (.ld 2 true (.tm 5)) none), []), ((.mk (.some 45) (.bsl [(.int .i64 0), (.bool false)] 1 [(0, (.tm 44))]) none), []), ((.mk (.some 46) (.app 2 16 (.tm 43) (.tm 45)) none), []), ((.mk (.some 47) (.nilck (.tm 39)) none), []), ((.mk (.some 48) (.fa 1 (.tm 47)) none), []), ((.mk none (.st 1 (.tm 48) (.tm 46)) none), [])])))))))) (.seq (.reg [((.mk (.some 6) (.mv (.cs (.int .i64 0))) none), [])]) .ret))))))) [(.tmp 6)])
theorem c10 : compF Go.Proofs.Try.prog Go.Proofs.Try.f10 = some F10 := by kernel_rfl
theorem t10 {args : List AV} {h : Hp} {post : AV → Hp → Prop} (hn : args.length ≤ F10.n) (hh : run Try.prog F10.code [] (initE args) h ⟨fun e h' => resK F10.res e h' post, fun e h' => resK F10.res e h' post, fun _ _ _ => False⟩) : Triple Try.prog 10 args h post := triple_of mixed Try.func10 c10 hn hh

/-- "horologe/horologelaw7.within" -/
def F11 : AFun := (.mk 15 (.seq (.reg [((.mk (.some 4) (.mv (.cs (.int .i64 0))) none), [])]) (.seq (.reg [((.mk (.some 6) (.mv (.tm 0)) none), []), ((.mk (.some 7) (.mv (.tm 1)) none), []), ((.mk (.some 8) (.bin .rem (.tm 6) (.tm 7)) none), []), ((.mk (.some 5) (.mv (.tm 8)) none), [])]) (.seq (.seq (.reg [((.mk (.some 9) (.mv (.tm 5)) none), []), ((.mk (.some 10) (.bin .lss (.tm 9) (.cs (.int .i64 0))) none), [])]) (.cond (.tm 10) (.reg [((.mk (.some 11) (.mv (.tm 5)) none), []), ((.mk (.some 12) (.mv (.tm 1)) none), []), ((.mk (.some 13) (.bin .add (.tm 11) (.tm 12)) none), []), ((.mk (.some 5) (.mv (.tm 13)) none), [])]) .skip)) (.seq (.reg [((.mk (.some 14) (.mv (.tm 5)) none), []), ((.mk (.some 4) (.mv (.tm 14)) none), [])]) .ret)))) [(.tmp 4)])
theorem c11 : compF Go.Proofs.Try.prog Go.Proofs.Try.f11 = some F11 := by kernel_rfl
theorem t11 {args : List AV} {h : Hp} {post : AV → Hp → Prop} (hn : args.length ≤ F11.n) (hh : run Try.prog F11.code [] (initE args) h ⟨fun e h' => resK F11.res e h' post, fun e h' => resK F11.res e h' post, fun _ _ _ => False⟩) : Triple Try.prog 11 args h post := triple_of mixed Try.func11 c11 hn hh

/-- "horologe/horologelaw7.look" -/
def F12 : AFun := (.mk 33 (.seq (.reg [((.mk (.some 4) (.mv (.cs (.int .i64 0))) none), [])]) (.seq (.reg [((.mk (.some 5) (.mv (.cs (.int .i64 0))) none), [])]) (.seq (.seq (.reg [((.mk (.some 6) (.mv (.cs (.int .i64 0))) none), [])]) (.block 0 (.loop (.seq (.seq (.seq (.reg [((.mk (.some 7) (.mv (.tm 6)) none), []), ((.mk (.some 8) (.mv (.tm 0)) none), []), ((.mk (.some 9) (.lenL (.tm 8)) none), []), ((.mk (.some 10) (.bin .lss (.tm 7) (.tm 9)) none), []), ((.mk (.some 11) (.mv (.tm 10)) none), [])]) (.seq (.cond (.tm 11) (.reg [((.mk (.some 12) (.mv (.tm 0)) none), []), ((.mk (.some 13) (.mv (.tm 6)) none), []), ((.mk (.some 14) (.ia 2 (.tm 12) (.tm 13)) none), []), ((.mk (.some 15) (.fa 0 (.tm 14)) none), []), ((.mk (.some 16) (.ld 1 false (.tm 15)) none), []), ((.mk (.some 17) (.mv (.tm 1)) none), []), ((.mk (.some 18) (.bin .leq (.tm 16) (.tm 17)) none), [])]) (.reg [((.mk (.some 12) (.mv (.cs (.tup []))) none), []), ((.mk (.some 13) (.mv (.cs (.tup []))) none), []), ((.mk (.some 14) (.mv (.cs (.tup []))) none), []), ((.mk (.some 15) (.mv (.cs (.tup []))) none), []), ((.mk (.some 16) (.mv (.cs (.tup []))) none), []), ((.mk (.some 17) (.mv (.cs (.tup []))) none), []), ((.mk (.some 18) (.mv (.cs (.tup []))) none), [])])) (.reg [((.mk (.some 19) (.pick (.tm 11) (.tm 18) (.cs (.bool false))) none), [])]))) (.cond (.tm 19) .skip (.exit 0))) (.seq (.block 1 (.seq (.reg [((.mk (.some 22) (.mv (.tm 0)) none), []), ((.mk (.some 23) (.mv (.tm 6)) none), []), ((.mk (.some 24) (.ia 2 (.tm 22) (.tm 23)) none), []), ((.mk (.some 25) (.fa 0 (.tm 24)) none), []), ((.mk (.some 26) (.ld 1 false (.tm 25)) none), []), ((.mk (.some 5) (.mv (.tm 26)) none), [])]) (.seq (.reg [((.mk (.some 27) (.mv (.tm 0)) none), []), ((.mk (.some 28) (.mv (.tm 6)) none), []), ((.mk (.some 29) (.ia 2 (.tm 27) (.tm 28)) none), []), ((.mk (.some 30) (.fa 1 (.tm 29)) none), []), ((.mk (.some 31) (.ld 1 false (.tm 30)) none), [])]) (.cond (.tm 31) (.reg [((.mk (.some 5) (.mv (.cs (.int .i64 0))) none), [])]) .skip)))) (.reg [((.mk (.some 20) (.mv (.tm 6)) none), []), ((.mk (.some 21) (.bin .add (.tm 20) (.cs (.int .i64 1))) none), []), ((.mk (.some 6) (.mv (.tm 21)) none), [])])))))) (.seq (.reg [((.mk (.some 32) (.mv (.tm 5)) none), []), ((.mk (.some 4) (.mv (.tm 32)) none), [])]) .ret)))) [(.tmp 4)])
theorem c12 : compF Go.Proofs.Try.prog Go.Proofs.Try.f12 = some F12 := by kernel_rfl
theorem t12 {args : List AV} {h : Hp} {post : AV → Hp → Prop} (hn : args.length ≤ F12.n) (hh : run Try.prog F12.code [] (initE args) h ⟨fun e h' => resK F12.res e h' post, fun e h' => resK F12.res e h' post, fun _ _ _ => False⟩) : Triple Try.prog 12 args h post := triple_of mixed Try.func12 c12 hn hh

/-- "(*horologe/index.Index).Marks" -/
def F13 : AFun := (.mk 25 (.seq (.reg [((.mk (.some 4) (.mv (.cs .nils)) none), [])]) (.seq (.reg [((.mk (.some 7) (.mv (.tm 0)) none), []), ((.mk (.some 8) (.mv (.tm 1)) none), []), ((.mk (.some 9) (.call 23 [(.tm 7), (.tm 8)]) none), []), ((.mk (.some 5) (.mv (.tm 9)) none), [])]) (.seq (.seq (.reg [((.mk (.some 10) (.mv (.tm 5)) none), []), ((.mk (.some 11) (.eqn .ptr false (.tm 10) (.cs .nilp)) none), [])]) (.cond (.tm 11) (.seq (.reg [((.mk (.some 4) (.mv (.cs .nils)) none), [])]) .ret) .skip)) (.seq (.reg [((.mk (.some 12) (.mv (.tm 5)) none), []), ((.mk (.some 13) (.nilck (.tm 12)) none), []), ((.mk (.some 14) (.fa 1 (.tm 13)) none), []), ((.mk (.some 15) (.ld 1 false (.tm 14)) none), []), ((.mk (.some 16) (.lenL (.tm 15)) none), []), ((.mk (.some 17) (.msl 16 [(.int .i64 0), (.bool false)] (.tm 16) (.tm 16)) none), []), ((.mk (.some 6) (.mv (.tm 17)) none), [])]) (.seq (.reg [((.mk (.some 18) (.mv (.tm 6)) none), []), ((.mk (.some 19) (.mv (.tm 5)) none), []), ((.mk (.some 20) (.nilck (.tm 19)) none), []), ((.mk (.some 21) (.fa 1 (.tm 20)) none), []), ((.mk (.some 22) (.ld 1 false (.tm 21)) none), []), ((.mk (.some 23) (.cp 2 (.tm 18) (.tm 22)) none), [])]) (.seq (.reg [((.mk (.some 24) (.mv (.tm 6)) none), []), ((.mk (.some 4) (.mv (.tm 24)) none), [])]) .ret)))))) [(.tmp 4)])
theorem c13 : compF Go.Proofs.Try.prog Go.Proofs.Try.f13 = some F13 := by kernel_rfl
theorem t13 {args : List AV} {h : Hp} {post : AV → Hp → Prop} (hn : args.length ≤ F13.n) (hh : run Try.prog F13.code [] (initE args) h ⟨fun e h' => resK F13.res e h' post, fun e h' => resK F13.res e h' post, fun _ _ _ => False⟩) : Triple Try.prog 13 args h post := triple_of mixed Try.func13 c13 hn hh

/-- "(*horologe/index.Index).Trim" -/
def F14 : AFun := (.mk 18 (.seq (.reg [((.mk (.some 3) (.box (.tm 1)) none), [])]) (.seq (.reg [((.mk (.some 5) (.bld [.nilp, (.int .i64 0)] []) none), []), ((.mk (.some 6) (.box (.tm 5)) none), []), ((.mk (.some 4) (.alloc [.nilp]) none), []), ((.mk none (.st 1 (.tm 4) (.tm 6)) none), [])]) (.seq (.reg [((.mk (.some 7) (.mv (.tm 0)) none), []), ((.mk (.some 8) (.nilck (.tm 7)) none), []), ((.mk (.some 9) (.fa 0 (.tm 8)) none), []), ((.mk (.some 10) (.ld 1 false (.tm 9)) none), []), ((.mk (.some 11) (.mkfn 26 [(.tm 3), (.tm 4)]) none), []), ((.mk (.some 12) (.call 25 [(.tm 10), (.cs (.str [])), (.cs (.str [])), (.tm 11)]) none), [])]) (.reg [((.mk (.some 13) (.mv (.tm 0)) none), []), ((.mk (.some 14) (.ld 1 false (.tm 4)) none), []), ((.mk (.some 15) (.nilck (.tm 14)) none), []), ((.mk (.some 16) (.ld 2 true (.tm 15)) none), []), ((.mk (.some 17) (.nilck (.tm 13)) none), []), ((.mk none (.st 2 (.tm 17) (.tm 16)) none), [])])))) [])
theorem c14 : compF Go.Proofs.Try.prog Go.Proofs.Try.f14 = some F14 := by kernel_rfl
theorem t14 {args : List AV} {h : Hp} {post : AV → Hp → Prop} (hn : args.length ≤ F14.n) (hh : run Try.prog F14.code [] (initE args) h ⟨fun e h' => resK F14.res e h' post, fun e h' => resK F14.res e h' post, fun _ _ _ => False⟩) : Triple Try.prog 14 args h post := triple_of mixed Try.func14 c14 hn hh

/-- "(*horologe/index.Index).Len" -/
def F15 : AFun := (.mk 7 (.seq (.reg [((.mk (.some 2) (.mv (.cs (.int .i64 0))) none), [])]) (.seq (.reg [((.mk (.some 3) (.mv (.tm 0)) none), []), ((.mk (.some 4) (.nilck (.tm 3)) none), []), ((.mk (.some 5) (.fa 1 (.tm 4)) none), []), ((.mk (.some 6) (.ld 1 false (.tm 5)) none), []), ((.mk (.some 2) (.mv (.tm 6)) none), [])]) .ret)) [(.tmp 2)])
theorem c15 : compF Go.Proofs.Try.prog Go.Proofs.Try.f15 = some F15 := by kernel_rfl
theorem t15 {args : List AV} {h : Hp} {post : AV → Hp → Prop} (hn : args.length ≤ F15.n) (hh : run Try.prog F15.code [] (initE args) h ⟨fun e h' => resK F15.res e h' post, fun e h' => resK F15.res e h' post, fun _ _ _ => False⟩) : Triple Try.prog 15 args h post := triple_of mixed Try.func15 c15 hn hh

/-- "(*horologe/horologeref7.Index).Put" -/
def F16 : AFun := (.mk 104 (.seq (.reg [((.mk (.some 5) (.box (.tm 2)) none), []), ((.mk (.some 6) (.mv (.cs (.int .i64 0))) none), [])]) (.seq (.seq (.seq (.reg [((.mk (.some 11) (.mv (.tm 1)) none), []), ((.mk (.some 12) (.bin .eql (.tm 11) (.cs (.str []))) none), []), ((.mk (.some 13) (.mv (.tm 12)) none), [])]) (.seq (.cond (.tm 13) (.reg [((.mk (.some 14) (.mv (.cs (.tup []))) none), []), ((.mk (.some 15) (.mv (.cs (.tup []))) none), []), ((.mk (.some 16) (.mv (.cs (.tup []))) none), [])]) (.reg [((.mk (.some 14) (.mv (.tm 1)) none), []), ((.mk (.some 15) (.lenS (.tm 14)) none), []), ((.mk (.some 16) (.bin .gtr (.tm 15) (.cs (.int .i64 100))) none), [])])) (.seq (.reg [((.mk (.some 17) (.pick (.tm 13) (.cs (.bool true)) (.tm 16)) none), []), ((.mk (.some 18) (.mv (.tm 17)) none), [])]) (.seq (.cond (.tm 18) (.reg [((.mk (.some 19) (.mv (.cs (.tup []))) none), []), ((.mk (.some 20) (.mv (.cs (.tup []))) none), []), ((.mk (.some 21) (.mv (.cs (.tup []))) none), [])]) (.reg [((.mk (.some 19) (.fa 0 (.tm 5)) none), []), ((.mk (.some 20) (.ld 1 false (.tm 19)) none), []), ((.mk (.some 21) (.bin .lss (.tm 20) (.cs (.int .i64 1))) none), [])])) (.reg [((.mk (.some 22) (.pick (.tm 18) (.cs (.bool true)) (.tm 21)) none), [])]))))) (.cond (.tm 22) (.seq (.reg [((.mk (.some 6) (.mv (.cs (.int .i64 1))) none), [])]) .ret) .skip)) (.seq (.reg [((.mk (.some 23) (.mv (.tm 0)) none), []), ((.mk (.some 24) (.mv (.tm 1)) none), []), ((.mk (.some 25) (.call 18 [(.tm 23), (.tm 24)]) none), []), ((.mk (.some 7) (.mv (.tm 25)) none), [])]) (.seq (.reg [((.mk (.some 26) (.mv (.tm 7)) none), []), ((.mk (.some 27) (.lenL (.tm 26)) none), []), ((.mk (.some 8) (.mv (.tm 27)) none), [])]) (.seq (.seq (.seq (.reg [((.mk (.some 28) (.mv (.tm 8)) none), []), ((.mk (.some 29) (.bin .gtr (.tm 28) (.cs (.int .i64 0))) none), []), ((.mk (.some 30) (.mv (.tm 29)) none), [])]) (.seq (.cond (.tm 30) (.reg [((.mk (.some 31) (.mv (.tm 7)) none), []), ((.mk (.some 32) (.mv (.tm 8)) none), []), ((.mk (.some 33) (.bin .sub (.tm 32) (.cs (.int .i64 1))) none), []), ((.mk (.some 34) (.ia 2 (.tm 31) (.tm 33)) none), []), ((.mk (.some 35) (.fa 0 (.tm 34)) none), []), ((.mk (.some 36) (.ld 1 false (.tm 35)) none), []), ((.mk (.some 37) (.fa 0 (.tm 5)) none), []), ((.mk (.some 38) (.ld 1 false (.tm 37)) none), []), ((.mk (.some 39) (.bin .geq (.tm 36) (.tm 38)) none), [])]) (.reg [((.mk (.some 31) (.mv (.cs (.tup []))) none), []), ((.mk (.some 32) (.mv (.cs (.tup []))) none), []), ((.mk (.some 33) (.mv (.cs (.tup []))) none), []), ((.mk (.some 34) (.mv (.cs (.tup []))) none), []), ((.mk (.some 35) (.mv (.cs (.tup []))) none), []), ((.mk (.some 36) (.mv (.cs (.tup []))) none), []), ((.mk (.some 37) (.mv (.cs (.tup []))) none), []), ((.mk (.some 38) (.mv (.cs (.tup []))) none), []), ((.mk (.some 39) (.mv (.cs (.tup []))) none), [])])) (.reg [((.mk (.some 40) (.pick (.tm 30) (.tm 39) (.cs (.bool false))) none), [])]))) (.cond (.tm 40) (.seq (.reg [((.mk (.some 6) (.mv (.cs (.int .i64 15))) none), [])]) .ret) .skip)) (.seq (.seq (.seq (.reg [((.mk (.some 41) (.fa 1 (.tm 5)) none), []), ((.mk (.some 42) (.ld 1 false (.tm 41)) none), []), ((.mk (.some 43) (.mv (.tm 42)) none), [])]) (.seq (.cond (.tm 43) (.seq (.reg [((.mk (.some 44) (.mv (.tm 8)) none), []), ((.mk (.some 45) (.bin .eql (.tm 44) (.cs (.int .i64 0))) none), []), ((.mk (.some 46) (.mv (.tm 45)) none), [])]) (.seq (.cond (.tm 46) (.reg [((.mk (.some 47) (.mv (.cs (.tup []))) none), []), ((.mk (.some 48) (.mv (.cs (.tup []))) none), []), ((.mk (.some 49) (.mv (.cs (.tup []))) none), []), ((.mk (.some 50) (.mv (.cs (.tup []))) none), []), ((.mk (.some 51) (.mv (.cs (.tup []))) none), []), ((.mk (.some 52) (.mv (.cs (.tup []))) none), [])]) (.reg [((.mk (.some 47) (.mv (.tm 7)) none), []), ((.mk (.some 48) (.mv (.tm 8)) none), []), ((.mk (.some 49) (.bin .sub (.tm 48) (.cs (.int .i64 1))) none), []), ((.mk (.some 50) (.ia 2 (.tm 47) (.tm 49)) none), []), ((.mk (.some 51) (.fa 1 (.tm 50)) none), []), ((.mk (.some 52) (.ld 1 false (.tm 51)) none), [])])) (.reg [((.mk (.some 53) (.pick (.tm 46) (.cs (.bool true)) (.tm 52)) none), [])]))) (.reg [((.mk (.some 44) (.mv (.cs (.tup []))) none), []), ((.mk (.some 45) (.mv (.cs (.tup []))) none), []), ((.mk (.some 46) (.mv (.cs (.tup []))) none), []), ((.mk (.some 47) (.mv (.cs (.tup []))) none), []), ((.mk (.some 48) (.mv (.cs (.tup []))) none), []), ((.mk (.some 49) (.mv (.cs (.tup []))) none), []), ((.mk (.some 50) (.mv (.cs (.tup []))) none), []), ((.mk (.some 51) (.mv (.cs (.tup []))) none), []), ((.mk (.some 52) (.mv (.cs (.tup []))) none), []), ((.mk (.some 53) (.mv (.cs (.tup []))) none), [])])) (.reg [((.mk (.some 54) (.pick (.tm 43) (.tm 53) (.cs (.bool false))) none), [])]))) (.cond (.tm 54) (.seq (.reg [((.mk (.some 6) (.mv (.cs (.int .i64 2))) none), [])]) .ret) .skip)) (.seq (.reg [((.mk (.some 55) (.mv (.tm 0)) none), []), ((.mk (.some 56) (.mv (.tm 1)) none), []), ((.mk (.some 57) (.call 28 [(.tm 55), (.tm 56)]) none), []), ((.mk (.some 9) (.mv (.tm 57)) none), [])]) (.seq (.seq (.reg [((.mk (.some 58) (.mv (.tm 8)) none), []), ((.mk (.some 59) (.bin .eql (.tm 58) (.cs (.int .i64 0))) none), [])]) (.cond (.tm 59) (.seq (.reg [((.mk (.some 10) (.mv (.cs .nils)) none), [])]) (.seq (.reg [((.mk (.some 60) (.mv (.tm 10)) none), []), ((.mk (.some 61) (.mv (.tm 0)) none), []), ((.mk (.some 62) (.nilck (.tm 61)) none), []), ((.mk (.some 63) (.fa 0 (.tm 62)) none), []), ((.mk (.some 64) (.ld 1 false (.tm 63)) none), []), ((.mk (.some 65) (.mv (.tm 9)) none), []), ((.mk (.some 66) (.slcL 2 (.tm 64) none (.some (.tm 65))) none), []), ((.mk (.some 67) (.app 2 40 (.tm 60) (.tm 66)) none), []), ((.mk (.some 10) (.mv (.tm 67)) none), [])]) (.seq (.reg [((.mk (.some 68) (.mv (.tm 10)) none), []), ((.mk (.some 69) (.mv (.tm 1)) none), []), ((.mk (.some 70) (.bld [(.str []), .nils] [(0, (1, (.tm 69)))]) none), []), ((.mk (.some 71) (.bsl [(.str []), .nils] 1 [(0, (.tm 70))]) none), []), ((.mk (.some 72) (.app 2 40 (.tm 68) (.tm 71)) none), []), ((.mk (.some 10) (.mv (.tm 72)) none), [])]) (.reg [((.mk (.some 73) (.mv (.tm 0)) none), []), ((.mk (.some 74) (.mv (.tm 10)) none), []), ((.mk (.some 75) (.mv (.tm 0)) none), []), ((.mk (.some 76) (.nilck (.tm 75)) none), []), ((.mk (.some 77) (.fa 0 (.tm 76)) none), []), ((.mk (.some 78) (.ld 1 false (.tm 77)) none), []), ((.mk (.some 79) (.mv (.tm 9)) none), []), ((.mk (.some 80) (.slcL 2 (.tm 78) (.some (.tm 79)) none) none), []), ((.mk (.some 81) (.app 2 40 (.tm 74) (.tm 80)) none), []), ((.mk (.some 82) (.nilck (.tm 73)) none), []), ((.mk (.some 83) (.fa 0 (.tm 82)) none), []), ((.mk none (.st 1 (.tm 83) (.tm 81)) none), [])])))) .skip)) (.seq (.reg [((.mk (.some 84) (.mv (.tm 0)) none), []), ((.mk (.some 85) (.nilck (.tm 84)) none), []), ((.mk (.some 86) (.fa 0 (.tm 85)) none), []), ((.mk (.some 87) (.ld 1 false (.tm 86)) none), []), ((.mk (.some 88) (.mv (.tm 9)) none), []), ((.mk (.some 90) (.mv (.tm 0)) none), []), ((.mk (.some 91) (.nilck (.tm 90)) none), []), ((.mk (.some 92) (.fa 0 (.tm 91)) none), []), ((.mk (.some 93) (.ld 1 false (.tm 92)) none), []), ((.mk (.some 94) (.mv (.tm 9)) none), []), ((.mk (.some 95) (.ia 2 (.tm 93) (.tm 94)) none), []), ((.mk (.some 96) (.fa 1 (.tm 95)) none), []), ((.mk (.some 97) (.ld 1 false (.tm 96)) none), []), ((.mk (.some 99) (.ld 2 true (.tm 5)) none), []), ((.mk (.some 89) (.bsl [(.int .i64 0), (.bool false)] 0 []) none), []), ((.mk (.some 98) (.app 2 16 (.tm 89) (.tm 97)) none), [(.mk (.some 87) (.ld 1 false (.tm 86)) none), (.mk (.some 99) (.ld 2 true (.tm 5)) none)]), ((.mk (.some 100) (.bsl [(.int .i64 0), (.bool false)] 1 [(0, (.tm 99))]) none), []), ((.mk (.some 101) (.app 2 16 (.tm 98) (.tm 100)) none), [(.mk (.some 87) (.ld 1 false (.tm 86)) none)]), ((.mk (.some 102) (.ia 2 (.tm 87) (.tm 88)) none), []), ((.mk (.some 103) (.fa 1 (.tm 102)) none), []), ((.mk none (.st 1 (.tm 103) (.tm 101)) none), [])]) (.seq (.reg [((.mk (.some 6) (.mv (.cs (.int .i64 0))) none), [])]) .ret)))))))))) [(.tmp 6)])
theorem c16 : compF Go.Proofs.Try.prog Go.Proofs.Try.f16 = some F16 := by kernel_rfl
theorem t16 {args : List AV} {h : Hp} {post : AV → Hp → Prop} (hn : args.length ≤ F16.n) (hh : run Try.prog F16.code [] (initE args) h ⟨fun e h' => resK F16.res e h' post, fun e h' => resK F16.res e h' post, fun _ _ _ => False⟩) : Triple Try.prog 16 args h post := triple_of mixed Try.func16 c16 hn hh

/-- "(*horologe/horologeref7.Index).Trim" -/
def F17 : AFun := (.mk 74 (.seq (.reg [((.mk (.some 4) (.mv (.cs .nils)) none), [])]) (.seq (.seq (.reg [((.mk (.some 5) (.mv (.cs (.int .i64 0))) none), [])]) (.block 0 (.loop (.seq (.seq (.reg [((.mk (.some 9) (.mv (.tm 5)) none), []), ((.mk (.some 10) (.mv (.tm 0)) none), []), ((.mk (.some 11) (.nilck (.tm 10)) none), []), ((.mk (.some 12) (.fa 0 (.tm 11)) none), []), ((.mk (.some 13) (.ld 1 false (.tm 12)) none), []), ((.mk (.some 14) (.lenL (.tm 13)) none), []), ((.mk (.some 15) (.bin .lss (.tm 9) (.tm 14)) none), [])]) (.cond (.tm 15) .skip (.exit 0))) (.seq (.block 1 (.seq (.reg [((.mk (.some 18) (.mv (.tm 0)) none), []), ((.mk (.some 19) (.nilck (.tm 18)) none), []), ((.mk (.some 20) (.fa 0 (.tm 19)) none), []), ((.mk (.some 21) (.ld 1 false (.tm 20)) none), []), ((.mk (.some 22) (.mv (.tm 5)) none), []), ((.mk (.some 23) (.ia 2 (.tm 21) (.tm 22)) none), []), ((.mk (.some 24) (.fa 1 (.tm 23)) none), []), ((.mk (.some 25) (.ld 1 false (.tm 24)) none), []), ((.mk (.some 6) (.mv (.tm 25)) none), [])]) (.seq (.reg [((.mk (.some 7) (.mv (.cs (.int .i64 (-1)))) none), [])]) (.seq (.seq (.reg [((.mk (.some 8) (.mv (.cs (.int .i64 0))) none), [])]) (.block 2 (.loop (.seq (.seq (.reg [((.mk (.some 26) (.mv (.tm 8)) none), []), ((.mk (.some 27) (.mv (.tm 6)) none), []), ((.mk (.some 28) (.lenL (.tm 27)) none), []), ((.mk (.some 29) (.bin .lss (.tm 26) (.tm 28)) none), [])]) (.cond (.tm 29) .skip (.exit 2))) (.seq (.block 3 (.seq (.reg [((.mk (.some 32) (.mv (.tm 6)) none), []), ((.mk (.some 33) (.mv (.tm 8)) none), []), ((.mk (.some 34) (.ia 2 (.tm 32) (.tm 33)) none), []), ((.mk (.some 35) (.fa 0 (.tm 34)) none), []), ((.mk (.some 36) (.ld 1 false (.tm 35)) none), []), ((.mk (.some 37) (.mv (.tm 1)) none), []), ((.mk (.some 38) (.bin .leq (.tm 36) (.tm 37)) none), [])]) (.cond (.tm 38) (.reg [((.mk (.some 39) (.mv (.tm 8)) none), []), ((.mk (.some 7) (.mv (.tm 39)) none), [])]) .skip))) (.reg [((.mk (.some 30) (.mv (.tm 8)) none), []), ((.mk (.some 31) (.bin .add (.tm 30) (.cs (.int .i64 1))) none), []), ((.mk (.some 8) (.mv (.tm 31)) none), [])])))))) (.seq (.seq (.reg [((.mk (.some 40) (.mv (.tm 7)) none), []), ((.mk (.some 41) (.bin .geq (.tm 40) (.cs (.int .i64 0))) none), [])]) (.cond (.tm 41) (.seq (.seq (.reg [((.mk (.some 42) (.mv (.tm 6)) none), []), ((.mk (.some 43) (.mv (.tm 7)) none), []), ((.mk (.some 44) (.ia 2 (.tm 42) (.tm 43)) none), []), ((.mk (.some 45) (.fa 1 (.tm 44)) none), []), ((.mk (.some 46) (.ld 1 false (.tm 45)) none), [])]) (.cond (.tm 46) (.reg [((.mk (.some 47) (.mv (.tm 7)) none), []), ((.mk (.some 48) (.bin .add (.tm 47) (.cs (.int .i64 1))) none), []), ((.mk (.some 7) (.mv (.tm 48)) none), [])]) .skip)) (.reg [((.mk (.some 49) (.bsl [(.int .i64 0), (.bool false)] 0 []) none), []), ((.mk (.some 50) (.mv (.tm 6)) none), []), ((.mk (.some 51) (.mv (.tm 7)) none), []), ((.mk (.some 52) (.slcL 2 (.tm 50) (.some (.tm 51)) none) none), []), ((.mk (.some 53) (.app 2 16 (.tm 49) (.tm 52)) none), []), ((.mk (.some 6) (.mv (.tm 53)) none), [])])) .skip)) (.seq (.reg [((.mk (.some 54) (.mv (.tm 6)) none), []), ((.mk (.some 55) (.lenL (.tm 54)) none), []), ((.mk (.some 56) (.bin .gtr (.tm 55) (.cs (.int .i64 0))) none), [])]) (.cond (.tm 56) (.reg [((.mk (.some 57) (.mv (.tm 4)) none), []), ((.mk (.some 58) (.mv (.tm 0)) none), []), ((.mk (.some 59) (.nilck (.tm 58)) none), []), ((.mk (.some 60) (.fa 0 (.tm 59)) none), []), ((.mk (.some 61) (.ld 1 false (.tm 60)) none), []), ((.mk (.some 62) (.mv (.tm 5)) none), []), ((.mk (.some 63) (.ia 2 (.tm 61) (.tm 62)) none), []), ((.mk (.some 64) (.fa 0 (.tm 63)) none), []), ((.mk (.some 65) (.ld 1 false (.tm 64)) none), []), ((.mk (.some 66) (.mv (.tm 6)) none), []), ((.mk (.some 67) (.bld [(.str []), .nils] [(0, (1, (.tm 65))), (1, (1, (.tm 66)))]) none), []), ((.mk (.some 68) (.bsl [(.str []), .nils] 1 [(0, (.tm 67))]) none), []), ((.mk (.some 69) (.app 2 40 (.tm 57) (.tm 68)) none), []), ((.mk (.some 4) (.mv (.tm 69)) none), [])]) .skip))))))) (.reg [((.mk (.some 16) (.mv (.tm 5)) none), []), ((.mk (.some 17) (.bin .add (.tm 16) (.cs (.int .i64 1))) none), []), ((.mk (.some 5) (.mv (.tm 17)) none), [])])))))) (.reg [((.mk (.some 70) (.mv (.tm 0)) none), []), ((.mk (.some 71) (.mv (.tm 4)) none), []), ((.mk (.some 72) (.nilck (.tm 70)) none), []), ((.mk (.some 73) (.fa 0 (.tm 72)) none), []), ((.mk none (.st 1 (.tm 73) (.tm 71)) none), [])]))) [])
theorem c17 : compF Go.Proofs.Try.prog Go.Proofs.Try.f17 = some F17 := by kernel_rfl
theorem t17 {args : List AV} {h : Hp} {post : AV → Hp → Prop} (hn : args.length ≤ F17.n) (hh : run Try.prog F17.code [] (initE args) h ⟨fun e h' => resK F17.res e h' post, fun e h' => resK F17.res e h' post, fun _ _ _ => False⟩) : Triple Try.prog 17 args h post := triple_of mixed Try.func17 c17 hn hh

/-- "(*horologe/horologeref7.Index).Marks" -/
def F18 : AFun := (.mk 38 (.seq (.reg [((.mk (.some 4) (.mv (.cs .nils)) none), [])]) (.seq (.reg [((.mk (.some 6) (.mv (.tm 0)) none), []), ((.mk (.some 7) (.mv (.tm 1)) none), []), ((.mk (.some 8) (.call 28 [(.tm 6), (.tm 7)]) none), []), ((.mk (.some 5) (.mv (.tm 8)) none), [])]) (.seq (.seq (.seq (.reg [((.mk (.some 9) (.mv (.tm 5)) none), []), ((.mk (.some 10) (.mv (.tm 0)) none), []), ((.mk (.some 11) (.nilck (.tm 10)) none), []), ((.mk (.some 12) (.fa 0 (.tm 11)) none), []), ((.mk (.some 13) (.ld 1 false (.tm 12)) none), []), ((.mk (.some 14) (.lenL (.tm 13)) none), []), ((.mk (.some 15) (.bin .lss (.tm 9) (.tm 14)) none), []), ((.mk (.some 16) (.mv (.tm 15)) none), [])]) (.seq (.cond (.tm 16) (.reg [((.mk (.some 17) (.mv (.tm 0)) none), []), ((.mk (.some 18) (.nilck (.tm 17)) none), []), ((.mk (.some 19) (.fa 0 (.tm 18)) none), []), ((.mk (.some 20) (.ld 1 false (.tm 19)) none), []), ((.mk (.some 21) (.mv (.tm 5)) none), []), ((.mk (.some 22) (.ia 2 (.tm 20) (.tm 21)) none), []), ((.mk (.some 23) (.fa 0 (.tm 22)) none), []), ((.mk (.some 24) (.ld 1 false (.tm 23)) none), []), ((.mk (.some 25) (.mv (.tm 1)) none), []), ((.mk (.some 26) (.bin .eql (.tm 24) (.tm 25)) none), [])]) (.reg [((.mk (.some 17) (.mv (.cs (.tup []))) none), []), ((.mk (.some 18) (.mv (.cs (.tup []))) none), []), ((.mk (.some 19) (.mv (.cs (.tup []))) none), []), ((.mk (.some 20) (.mv (.cs (.tup []))) none), []), ((.mk (.some 21) (.mv (.cs (.tup []))) none), []), ((.mk (.some 22) (.mv (.cs (.tup []))) none), []), ((.mk (.some 23) (.mv (.cs (.tup []))) none), []), ((.mk (.some 24) (.mv (.cs (.tup []))) none), []), ((.mk (.some 25) (.mv (.cs (.tup []))) none), []), ((.mk (.some 26) (.mv (.cs (.tup []))) none), [])])) (.reg [((.mk (.some 27) (.pick (.tm 16) (.tm 26) (.cs (.bool false))) none), [])]))) (.cond (.tm 27) (.seq (.reg [((.mk (.some 28) (.bsl [(.int .i64 0), (.bool false)] 0 []) none), []), ((.mk (.some 29) (.mv (.tm 0)) none), []), ((.mk (.some 30) (.nilck (.tm 29)) none), []), ((.mk (.some 31) (.fa 0 (.tm 30)) none), []), ((.mk (.some 32) (.ld 1 false (.tm 31)) none), []), ((.mk (.some 33) (.mv (.tm 5)) none), []), ((.mk (.some 34) (.ia 2 (.tm 32) (.tm 33)) none), []), ((.mk (.some 35) (.fa 1 (.tm 34)) none), []), ((.mk (.some 36) (.ld 1 false (.tm 35)) none), []), ((.mk (.some 37) (.app 2 16 (.tm 28) (.tm 36)) none), []), ((.mk (.some 4) (.mv (.tm 37)) none), [])]) .ret) .skip)) (.seq (.reg [((.mk (.some 4) (.mv (.cs .nils)) none), [])]) .ret)))) [(.tmp 4)])
theorem c18 : compF Go.Proofs.Try.prog Go.Proofs.Try.f18 = some F18 := by kernel_rfl
theorem t18 {args : List AV} {h : Hp} {post : AV → Hp → Prop} (hn : args.length ≤ F18.n) (hh : run Try.prog F18.code [] (initE args) h ⟨fun e h' => resK F18.res e h' post, fun e h' => resK F18.res e h' post, fun _ _ _ => False⟩) : Triple Try.prog 18 args h post := triple_of mixed Try.func18 c18 hn hh

/-- "(*horologe/index.Index).Keys" -/
def F19 : AFun := (.mk 17 (.seq (.reg [((.mk (.some 6) (.mv (.cs .nils)) none), [])]) (.seq (.reg [((.mk (.some 7) (.alloc [.nils]) none), [])]) (.seq (.reg [((.mk (.some 8) (.mv (.tm 0)) none), []), ((.mk (.some 9) (.nilck (.tm 8)) none), []), ((.mk (.some 10) (.fa 0 (.tm 9)) none), []), ((.mk (.some 11) (.ld 1 false (.tm 10)) none), []), ((.mk (.some 12) (.mv (.tm 1)) none), []), ((.mk (.some 13) (.mv (.tm 2)) none), []), ((.mk (.some 14) (.mkfn 29 [(.tm 7)]) none), []), ((.mk (.some 15) (.call 25 [(.tm 11), (.tm 12), (.tm 13), (.tm 14)]) none), [])]) (.seq (.reg [((.mk (.some 16) (.ld 1 false (.tm 7)) none), []), ((.mk (.some 6) (.mv (.tm 16)) none), [])]) .ret)))) [(.tmp 6)])
theorem c19 : compF Go.Proofs.Try.prog Go.Proofs.Try.f19 = some F19 := by kernel_rfl
theorem t19 {args : List AV} {h : Hp} {post : AV → Hp → Prop} (hn : args.length ≤ F19.n) (hh : run Try.prog F19.code [] (initE args) h ⟨fun e h' => resK F19.res e h' post, fun e h' => resK F19.res e h' post, fun _ _ _ => False⟩) : Triple Try.prog 19 args h post := triple_of mixed Try.func19 c19 hn hh

/-- "(*horologe/horologeref7.Index).Keys" -/
def F20 : AFun := (.mk 56 (.seq (.reg [((.mk (.some 6) (.mv (.cs .nils)) none), [])]) (.seq (.reg [((.mk (.some 7) (.mv (.cs .nils)) none), [])]) (.seq (.seq (.reg [((.mk (.some 8) (.mv (.cs (.int .i64 0))) none), [])]) (.block 0 (.loop (.seq (.seq (.reg [((.mk (.some 9) (.mv (.tm 8)) none), []), ((.mk (.some 10) (.mv (.tm 0)) none), []), ((.mk (.some 11) (.nilck (.tm 10)) none), []), ((.mk (.some 12) (.fa 0 (.tm 11)) none), []), ((.mk (.some 13) (.ld 1 false (.tm 12)) none), []), ((.mk (.some 14) (.lenL (.tm 13)) none), []), ((.mk (.some 15) (.bin .lss (.tm 9) (.tm 14)) none), [])]) (.cond (.tm 15) .skip (.exit 0))) (.seq (.block 1 (.seq (.seq (.reg [((.mk (.some 18) (.mv (.tm 0)) none), []), ((.mk (.some 19) (.nilck (.tm 18)) none), []), ((.mk (.some 20) (.fa 0 (.tm 19)) none), []), ((.mk (.some 21) (.ld 1 false (.tm 20)) none), []), ((.mk (.some 22) (.mv (.tm 8)) none), []), ((.mk (.some 23) (.ia 2 (.tm 21) (.tm 22)) none), []), ((.mk (.some 24) (.fa 0 (.tm 23)) none), []), ((.mk (.some 25) (.ld 1 false (.tm 24)) none), []), ((.mk (.some 26) (.mv (.tm 1)) none), []), ((.mk (.some 27) (.bin .geq (.tm 25) (.tm 26)) none), []), ((.mk (.some 28) (.mv (.tm 27)) none), [])]) (.seq (.cond (.tm 28) (.seq (.reg [((.mk (.some 29) (.mv (.tm 2)) none), []), ((.mk (.some 30) (.bin .eql (.tm 29) (.cs (.str []))) none), []), ((.mk (.some 31) (.mv (.tm 30)) none), [])]) (.seq (.cond (.tm 31) (.reg [((.mk (.some 32) (.mv (.cs (.tup []))) none), []), ((.mk (.some 33) (.mv (.cs (.tup []))) none), []), ((.mk (.some 34) (.mv (.cs (.tup []))) none), []), ((.mk (.some 35) (.mv (.cs (.tup []))) none), []), ((.mk (.some 36) (.mv (.cs (.tup []))) none), []), ((.mk (.some 37) (.mv (.cs (.tup []))) none), []), ((.mk (.some 38) (.mv (.cs (.tup []))) none), []), ((.mk (.some 39) (.mv (.cs (.tup []))) none), []), ((.mk (.some 40) (.mv (.cs (.tup []))) none), []), ((.mk (.some 41) (.mv (.cs (.tup []))) none), [])]) (.reg [((.mk (.some 32) (.mv (.tm 0)) none), []), ((.mk (.some 33) (.nilck (.tm 32)) none), []), ((.mk (.some 34) (.fa 0 (.tm 33)) none), []), ((.mk (.some 35) (.ld 1 false (.tm 34)) none), []), ((.mk (.some 36) (.mv (.tm 8)) none), []), ((.mk (.some 37) (.ia 2 (.tm 35) (.tm 36)) none), []), ((.mk (.some 38) (.fa 0 (.tm 37)) none), []), ((.mk (.some 39) (.ld 1 false (.tm 38)) none), []), ((.mk (.some 40) (.mv (.tm 2)) none), []), ((.mk (.some 41) (.bin .lss (.tm 39) (.tm 40)) none), [])])) (.reg [((.mk (.some 42) (.pick (.tm 31) (.cs (.bool true)) (.tm 41)) none), [])]))) (.reg [((.mk (.some 29) (.mv (.cs (.tup []))) none), []), ((.mk (.some 30) (.mv (.cs (.tup []))) none), []), ((.mk (.some 31) (.mv (.cs (.tup []))) none), []), ((.mk (.some 32) (.mv (.cs (.tup []))) none), []), ((.mk (.some 33) (.mv (.cs (.tup []))) none), []), ((.mk (.some 34) (.mv (.cs (.tup []))) none), []), ((.mk (.some 35) (.mv (.cs (.tup []))) none), []), ((.mk (.some 36) (.mv (.cs (.tup []))) none), []), ((.mk (.some 37) (.mv (.cs (.tup []))) none), []), ((.mk (.some 38) (.mv (.cs (.tup []))) none), []), ((.mk (.some 39) (.mv (.cs (.tup []))) none), []), ((.mk (.some 40) (.mv (.cs (.tup []))) none), []), ((.mk (.some 41) (.mv (.cs (.tup []))) none), []), ((.mk (.some 42) (.mv (.cs (.tup []))) none), [])])) (.reg [((.mk (.some 43) (.pick (.tm 28) (.tm 42) (.cs (.bool false))) none), [])]))) (.cond (.tm 43) (.reg [((.mk (.some 44) (.mv (.tm 7)) none), []), ((.mk (.some 45) (.mv (.tm 0)) none), []), ((.mk (.some 46) (.nilck (.tm 45)) none), []), ((.mk (.some 47) (.fa 0 (.tm 46)) none), []), ((.mk (.some 48) (.ld 1 false (.tm 47)) none), []), ((.mk (.some 49) (.mv (.tm 8)) none), []), ((.mk (.some 50) (.ia 2 (.tm 48) (.tm 49)) none), []), ((.mk (.some 51) (.fa 0 (.tm 50)) none), []), ((.mk (.some 52) (.ld 1 false (.tm 51)) none), []), ((.mk (.some 53) (.bsl [(.str [])] 1 [(0, (.tm 52))]) none), []), ((.mk (.some 54) (.app 1 16 (.tm 44) (.tm 53)) none), []), ((.mk (.some 7) (.mv (.tm 54)) none), [])]) .skip))) (.reg [((.mk (.some 16) (.mv (.tm 8)) none), []), ((.mk (.some 17) (.bin .add (.tm 16) (.cs (.int .i64 1))) none), []), ((.mk (.some 8) (.mv (.tm 17)) none), [])])))))) (.seq (.reg [((.mk (.some 55) (.mv (.tm 7)) none), []), ((.mk (.some 6) (.mv (.tm 55)) none), [])]) .ret)))) [(.tmp 6)])
theorem c20 : compF Go.Proofs.Try.prog Go.Proofs.Try.f20 = some F20 := by kernel_rfl
theorem t20 {args : List AV} {h : Hp} {post : AV → Hp → Prop} (hn : args.length ≤ F20.n) (hh : run Try.prog F20.code [] (initE args) h ⟨fun e h' => resK F20.res e h' post, fun e h' => resK F20.res e h' post, fun _ _ _ => False⟩) : Triple Try.prog 20 args h post := triple_of mixed Try.func20 c20 hn hh

/-- "horologe/horologelaw7.name" -/
def F21 : AFun := (.mk 19 (.seq (.reg [((.mk (.some 2) (.mv (.cs (.str []))) none), [])]) (.seq (.reg [((.mk (.some 3) (.mv (.tm 0)) none), []), ((.mk (.some 4) (.bin .rem (.tm 3) (.cs (.int .i64 26))) none), []), ((.mk (.some 5) (.bin .add (.cs (.int .i64 97)) (.tm 4)) none), []), ((.mk (.some 6) (.cvi .u8 (.tm 5)) none), []), ((.mk (.some 7) (.mv (.tm 0)) none), []), ((.mk (.some 8) (.bin .quo (.tm 7) (.cs (.int .i64 26))) none), []), ((.mk (.some 9) (.bin .rem (.tm 8) (.cs (.int .i64 26))) none), []), ((.mk (.some 10) (.bin .add (.cs (.int .i64 97)) (.tm 9)) none), []), ((.mk (.some 11) (.cvi .u8 (.tm 10)) none), []), ((.mk (.some 12) (.mv (.tm 0)) none), []), ((.mk (.some 13) (.bin .quo (.tm 12) (.cs (.int .i64 676))) none), []), ((.mk (.some 14) (.bin .rem (.tm 13) (.cs (.int .i64 26))) none), []), ((.mk (.some 15) (.bin .add (.cs (.int .i64 97)) (.tm 14)) none), []), ((.mk (.some 16) (.cvi .u8 (.tm 15)) none), []), ((.mk (.some 17) (.bsl [(.int .u8 0)] 3 [(0, (.tm 6)), (1, (.tm 11)), (2, (.tm 16))]) none), []), ((.mk (.some 18) (.bstr (.tm 17)) none), []), ((.mk (.some 2) (.mv (.tm 18)) none), [])]) .ret)) [(.tmp 2)])
theorem c21 : compF Go.Proofs.Try.prog Go.Proofs.Try.f21 = some F21 := by kernel_rfl
theorem t21 {args : List AV} {h : Hp} {post : AV → Hp → Prop} (hn : args.length ≤ F21.n) (hh : run Try.prog F21.code [] (initE args) h ⟨fun e h' => resK F21.res e h' post, fun e h' => resK F21.res e h' post, fun _ _ _ => False⟩) : Triple Try.prog 21 args h post := triple_of mixed Try.func21 c21 hn hh

/-- "horologe/horologelaw7.low" -/
def F22 : AFun := (.mk 30 (.seq (.reg [((.mk (.some 2) (.mv (.cs (.bool false))) none), [])]) (.seq (.reg [((.mk (.some 6) (.mv (.tm 0)) none), []), ((.mk (.some 7) (.call 15 [(.tm 6)]) none), []), ((.mk (.some 3) (.mv (.tm 7)) none), [])]) (.seq (.reg [((.mk (.some 8) (.mv (.tm 0)) none), []), ((.mk (.some 9) (.call 30 [(.tm 8)]) none), []), ((.mk (.some 4) (.mv (.tm 9)) none), [])]) (.seq (.seq (.reg [((.mk (.some 10) (.mv (.tm 3)) none), []), ((.mk (.some 11) (.bin .eql (.tm 10) (.cs (.int .i64 0))) none), [])]) (.cond (.tm 11) (.seq (.reg [((.mk (.some 12) (.mv (.tm 4)) none), []), ((.mk (.some 13) (.bin .eql (.tm 12) (.cs (.int .i64 0))) none), []), ((.mk (.some 2) (.mv (.tm 13)) none), [])]) .ret) .skip)) (.seq (.reg [((.mk (.some 5) (.mv (.cs (.int .i64 0))) none), [])]) (.seq (.block 0 (.loop (.seq (.seq (.reg [((.mk (.some 14) (.mv (.tm 5)) none), []), ((.mk (.some 15) (.bin .add (.tm 14) (.cs (.int .i64 1))) none), []), ((.mk (.some 16) (.bin .shl (.cs (.int .i64 1)) (.tm 15)) none), []), ((.mk (.some 17) (.mv (.tm 3)) none), []), ((.mk (.some 18) (.bin .add (.tm 17) (.cs (.int .i64 1))) none), []), ((.mk (.some 19) (.bin .leq (.tm 16) (.tm 18)) none), [])]) (.cond (.tm 19) .skip (.exit 0))) (.block 1 (.reg [((.mk (.some 20) (.mv (.tm 5)) none), []), ((.mk (.some 21) (.bin .add (.tm 20) (.cs (.int .i64 1))) none), []), ((.mk (.some 5) (.mv (.tm 21)) none), [])]))))) (.seq (.seq (.reg [((.mk (.some 22) (.mv (.tm 4)) none), []), ((.mk (.some 23) (.bin .geq (.tm 22) (.cs (.int .i64 1))) none), []), ((.mk (.some 24) (.mv (.tm 23)) none), [])]) (.seq (.cond (.tm 24) (.reg [((.mk (.some 25) (.mv (.tm 4)) none), []), ((.mk (.some 26) (.mv (.tm 5)) none), []), ((.mk (.some 27) (.bin .add (.cs (.int .i64 1)) (.tm 26)) none), []), ((.mk (.some 28) (.bin .leq (.tm 25) (.tm 27)) none), [])]) (.reg [((.mk (.some 25) (.mv (.cs (.tup []))) none), []), ((.mk (.some 26) (.mv (.cs (.tup []))) none), []), ((.mk (.some 27) (.mv (.cs (.tup []))) none), []), ((.mk (.some 28) (.mv (.cs (.tup []))) none), [])])) (.reg [((.mk (.some 29) (.pick (.tm 24) (.tm 28) (.cs (.bool false))) none), []), ((.mk (.some 2) (.mv (.tm 29)) none), [])]))) .ret))))))) [(.tmp 2)])
theorem c22 : compF Go.Proofs.Try.prog Go.Proofs.Try.f22 = some F22 := by kernel_rfl
theorem t22 {args : List AV} {h : Hp} {post : AV → Hp → Prop} (hn : args.length ≤ F22.n) (hh : run Try.prog F22.code [] (initE args) h ⟨fun e h' => resK F22.res e h' post, fun e h' => resK F22.res e h' post, fun _ _ _ => False⟩) : Triple Try.prog 22 args h post := triple_of mixed Try.func22 c22 hn hh

/-- "(*horologe/index.Index).find" -/
def F23 : AFun := (.mk 41 (.seq (.reg [((.mk (.some 4) (.mv (.cs .nilp)) none), [])]) (.seq (.seq (.reg [((.mk (.some 8) (.mv (.tm 0)) none), []), ((.mk (.some 9) (.nilck (.tm 8)) none), []), ((.mk (.some 10) (.fa 0 (.tm 9)) none), []), ((.mk (.some 11) (.ld 1 false (.tm 10)) none), []), ((.mk (.some 5) (.mv (.tm 11)) none), [])]) (.block 0 (.loop (.seq (.seq (.reg [((.mk (.some 12) (.mv (.tm 5)) none), []), ((.mk (.some 13) (.eqn .ptr true (.tm 12) (.cs .nilp)) none), [])]) (.cond (.tm 13) .skip (.exit 0))) (.block 1 (.seq (.reg [((.mk (.some 15) (.mv (.tm 5)) none), []), ((.mk (.some 16) (.mv (.tm 1)) none), []), ((.mk (.some 17) (.call 31 [(.tm 15), (.tm 16)]) none), []), ((.mk (.some 14) (.mv (.tm 17)) none), []), ((.mk (.some 18) (.ext 0 (.tm 14)) none), []), ((.mk (.some 19) (.ext 1 (.tm 14)) none), []), ((.mk (.some 6) (.mv (.tm 18)) none), []), ((.mk (.some 7) (.mv (.tm 19)) none), [])]) (.seq (.seq (.reg [((.mk (.some 20) (.mv (.tm 7)) none), [])]) (.cond (.tm 20) (.seq (.reg [((.mk (.some 21) (.mv (.tm 5)) none), []), ((.mk (.some 22) (.nilck (.tm 21)) none), []), ((.mk (.some 23) (.fa 0 (.tm 22)) none), []), ((.mk (.some 24) (.ld 1 false (.tm 23)) none), []), ((.mk (.some 25) (.mv (.tm 6)) none), []), ((.mk (.some 26) (.ia 1 (.tm 24) (.tm 25)) none), []), ((.mk (.some 27) (.ld 1 false (.tm 26)) none), []), ((.mk (.some 4) (.mv (.tm 27)) none), [])]) .ret) .skip)) (.seq (.seq (.reg [((.mk (.some 28) (.mv (.tm 5)) none), []), ((.mk (.some 29) (.nilck (.tm 28)) none), []), ((.mk (.some 30) (.fa 1 (.tm 29)) none), []), ((.mk (.some 31) (.ld 1 false (.tm 30)) none), []), ((.mk (.some 32) (.lenL (.tm 31)) none), []), ((.mk (.some 33) (.bin .eql (.tm 32) (.cs (.int .i64 0))) none), [])]) (.cond (.tm 33) (.exit 0) .skip)) (.reg [((.mk (.some 34) (.mv (.tm 5)) none), []), ((.mk (.some 35) (.nilck (.tm 34)) none), []), ((.mk (.some 36) (.fa 1 (.tm 35)) none), []), ((.mk (.some 37) (.ld 1 false (.tm 36)) none), []), ((.mk (.some 38) (.mv (.tm 6)) none), []), ((.mk (.some 39) (.ia 1 (.tm 37) (.tm 38)) none), []), ((.mk (.some 40) (.ld 1 false (.tm 39)) none), []), ((.mk (.some 5) (.mv (.tm 40)) none), [])]))))))))) (.seq (.reg [((.mk (.some 4) (.mv (.cs .nilp)) none), [])]) .ret))) [(.tmp 4)])
theorem c23 : compF Go.Proofs.Try.prog Go.Proofs.Try.f23 = some F23 := by kernel_rfl
theorem t23 {args : List AV} {h : Hp} {post : AV → Hp → Prop} (hn : args.length ≤ F23.n) (hh : run Try.prog F23.code [] (initE args) h ⟨fun e h' => resK F23.res e h' post, fun e h' => resK F23.res e h' post, fun _ _ _ => False⟩) : Triple Try.prog 23 args h post := triple_of mixed Try.func23 c23 hn hh

/-- "(*horologe/index.Index).add" -/
def F24 : AFun := (.mk 47 (.seq (.reg [((.mk (.some 6) (.mv (.tm 0)) none), []), ((.mk (.some 7) (.nilck (.tm 6)) none), []), ((.mk (.some 8) (.fa 1 (.tm 7)) none), []), ((.mk (.some 9) (.ld 1 false (.tm 8)) none), []), ((.mk (.some 10) (.bin .add (.tm 9) (.cs (.int .i64 1))) none), []), ((.mk (.some 11) (.nilck (.tm 6)) none), []), ((.mk (.some 12) (.fa 1 (.tm 11)) none), []), ((.mk none (.st 1 (.tm 12) (.tm 10)) none), [])]) (.seq (.seq (.reg [((.mk (.some 13) (.mv (.tm 0)) none), []), ((.mk (.some 14) (.nilck (.tm 13)) none), []), ((.mk (.some 15) (.fa 0 (.tm 14)) none), []), ((.mk (.some 16) (.ld 1 false (.tm 15)) none), []), ((.mk (.some 17) (.eqn .ptr false (.tm 16) (.cs .nilp)) none), [])]) (.cond (.tm 17) (.reg [((.mk (.some 18) (.mv (.tm 0)) none), []), ((.mk (.some 19) (.bld [.nils, .nils] []) none), []), ((.mk (.some 20) (.box (.tm 19)) none), []), ((.mk (.some 21) (.nilck (.tm 18)) none), []), ((.mk (.some 22) (.fa 0 (.tm 21)) none), []), ((.mk none (.st 1 (.tm 22) (.tm 20)) none), [])]) .skip)) (.seq (.reg [((.mk (.some 24) (.mv (.tm 0)) none), []), ((.mk (.some 25) (.nilck (.tm 24)) none), []), ((.mk (.some 26) (.fa 0 (.tm 25)) none), []), ((.mk (.some 27) (.ld 1 false (.tm 26)) none), []), ((.mk (.some 28) (.mv (.tm 1)) none), []), ((.mk (.some 29) (.call 32 [(.tm 27), (.tm 28)]) none), []), ((.mk (.some 23) (.mv (.tm 29)) none), []), ((.mk (.some 30) (.ext 0 (.tm 23)) none), []), ((.mk (.some 31) (.ext 1 (.tm 23)) none), []), ((.mk (.some 4) (.mv (.tm 30)) none), []), ((.mk (.some 5) (.mv (.tm 31)) none), [])]) (.seq (.reg [((.mk (.some 32) (.mv (.tm 5)) none), []), ((.mk (.some 33) (.eqn .ptr true (.tm 32) (.cs .nilp)) none), [])]) (.cond (.tm 33) (.reg [((.mk (.some 34) (.mv (.tm 0)) none), []), ((.mk (.some 35) (.mv (.tm 4)) none), []), ((.mk (.some 36) (.bsl [.nilp] 1 [(0, (.tm 35))]) none), []), ((.mk (.some 37) (.mv (.tm 0)) none), []), ((.mk (.some 38) (.nilck (.tm 37)) none), []), ((.mk (.some 39) (.fa 0 (.tm 38)) none), []), ((.mk (.some 40) (.ld 1 false (.tm 39)) none), []), ((.mk (.some 41) (.mv (.tm 5)) none), []), ((.mk (.some 42) (.bsl [.nilp] 2 [(0, (.tm 40)), (1, (.tm 41))]) none), []), ((.mk (.some 43) (.bld [.nils, .nils] [(0, (1, (.tm 36))), (1, (1, (.tm 42)))]) none), []), ((.mk (.some 44) (.box (.tm 43)) none), []), ((.mk (.some 45) (.nilck (.tm 34)) none), []), ((.mk (.some 46) (.fa 0 (.tm 45)) none), []), ((.mk none (.st 1 (.tm 46) (.tm 44)) none), [])]) .skip))))) [])
theorem c24 : compF Go.Proofs.Try.prog Go.Proofs.Try.f24 = some F24 := by kernel_rfl
theorem t24 {args : List AV} {h : Hp} {post : AV → Hp → Prop} (hn : args.length ≤ F24.n) (hh : run Try.prog F24.code [] (initE args) h ⟨fun e h' => resK F24.res e h' post, fun e h' => resK F24.res e h' post, fun _ _ _ => False⟩) : Triple Try.prog 24 args h post := triple_of mixed Try.func24 c24 hn hh

/-- "(*horologe/index.node).walk" -/
def F25 : AFun := (.mk 71 (.seq (.seq (.reg [((.mk (.some 10) (.mv (.tm 0)) none), []), ((.mk (.some 11) (.eqn .ptr false (.tm 10) (.cs .nilp)) none), [])]) (.cond (.tm 11) .ret .skip)) (.seq (.reg [((.mk (.some 13) (.mv (.tm 0)) none), []), ((.mk (.some 14) (.mv (.tm 1)) none), []), ((.mk (.some 15) (.call 31 [(.tm 13), (.tm 14)]) none), []), ((.mk (.some 12) (.mv (.tm 15)) none), []), ((.mk (.some 16) (.ext 0 (.tm 12)) none), []), ((.mk (.some 17) (.ext 1 (.tm 12)) none), []), ((.mk (.some 8) (.mv (.tm 16)) none), []), ((.mk (.some 9) (.mv (.tm 17)) none), [])]) (.block 0 (.loop (.seq (.block 1 (.seq (.seq (.reg [((.mk (.some 20) (.mv (.tm 0)) none), []), ((.mk (.some 21) (.nilck (.tm 20)) none), []), ((.mk (.some 22) (.fa 1 (.tm 21)) none), []), ((.mk (.some 23) (.ld 1 false (.tm 22)) none), []), ((.mk (.some 24) (.lenL (.tm 23)) none), []), ((.mk (.some 25) (.bin .gtr (.tm 24) (.cs (.int .i64 0))) none), [])]) (.cond (.tm 25) (.reg [((.mk (.some 26) (.mv (.tm 0)) none), []), ((.mk (.some 27) (.nilck (.tm 26)) none), []), ((.mk (.some 28) (.fa 1 (.tm 27)) none), []), ((.mk (.some 29) (.ld 1 false (.tm 28)) none), []), ((.mk (.some 30) (.mv (.tm 8)) none), []), ((.mk (.some 31) (.ia 1 (.tm 29) (.tm 30)) none), []), ((.mk (.some 32) (.ld 1 false (.tm 31)) none), []), ((.mk (.some 33) (.mv (.tm 1)) none), []), ((.mk (.some 34) (.mv (.tm 2)) none), []), ((.mk (.some 35) (.mv (.tm 3)) none), []), ((.mk (.some 36) (.call 25 [(.tm 32), (.tm 33), (.tm 34), (.tm 35)]) none), [])]) .skip)) (.seq (.seq (.seq (.reg [((.mk (.some 37) (.mv (.tm 8)) none), []), ((.mk (.some 38) (.mv (.tm 0)) none), []), ((.mk (.some 39) (.nilck (.tm 38)) none), []), ((.mk (.some 40) (.fa 0 (.tm 39)) none), []), ((.mk (.some 41) (.ld 1 false (.tm 40)) none), []), ((.mk (.some 42) (.lenL (.tm 41)) none), []), ((.mk (.some 43) (.bin .eql (.tm 37) (.tm 42)) none), []), ((.mk (.some 44) (.mv (.tm 43)) none), [])]) (.seq (.cond (.tm 44) (.reg [((.mk (.some 45) (.mv (.cs (.tup []))) none), []), ((.mk (.some 46) (.mv (.cs (.tup []))) none), []), ((.mk (.some 47) (.mv (.cs (.tup []))) none), []), ((.mk (.some 48) (.mv (.cs (.tup []))) none), []), ((.mk (.some 49) (.mv (.cs (.tup []))) none), []), ((.mk (.some 50) (.mv (.cs (.tup []))) none), []), ((.mk (.some 51) (.mv (.cs (.tup []))) none), []), ((.mk (.some 52) (.mv (.cs (.tup []))) none), []), ((.mk (.some 53) (.mv (.cs (.tup []))) none), []), ((.mk (.some 54) (.mv (.cs (.tup []))) none), []), ((.mk (.some 55) (.mv (.cs (.tup []))) none), []), ((.mk (.some 56) (.mv (.cs (.tup []))) none), []), ((.mk (.some 57) (.mv (.cs (.tup []))) none), []), ((.mk (.some 58) (.mv (.cs (.tup []))) none), []), ((.mk (.some 59) (.mv (.cs (.tup []))) none), []), ((.mk (.some 60) (.mv (.cs (.tup []))) none), [])]) (.seq (.reg [((.mk (.some 45) (.mv (.tm 2)) none), []), ((.mk (.some 46) (.bin .neq (.tm 45) (.cs (.str []))) none), []), ((.mk (.some 47) (.mv (.tm 46)) none), [])]) (.seq (.cond (.tm 47) (.reg [((.mk (.some 48) (.mv (.tm 0)) none), []), ((.mk (.some 49) (.nilck (.tm 48)) none), []), ((.mk (.some 50) (.fa 0 (.tm 49)) none), []), ((.mk (.some 51) (.ld 1 false (.tm 50)) none), []), ((.mk (.some 52) (.mv (.tm 8)) none), []), ((.mk (.some 53) (.ia 1 (.tm 51) (.tm 52)) none), []), ((.mk (.some 54) (.ld 1 false (.tm 53)) none), []), ((.mk (.some 55) (.nilck (.tm 54)) none), []), ((.mk (.some 56) (.fa 0 (.tm 55)) none), []), ((.mk (.some 57) (.ld 1 false (.tm 56)) none), []), ((.mk (.some 58) (.mv (.tm 2)) none), []), ((.mk (.some 59) (.bin .geq (.tm 57) (.tm 58)) none), [])]) (.reg [((.mk (.some 48) (.mv (.cs (.tup []))) none), []), ((.mk (.some 49) (.mv (.cs (.tup []))) none), []), ((.mk (.some 50) (.mv (.cs (.tup []))) none), []), ((.mk (.some 51) (.mv (.cs (.tup []))) none), []), ((.mk (.some 52) (.mv (.cs (.tup []))) none), []), ((.mk (.some 53) (.mv (.cs (.tup []))) none), []), ((.mk (.some 54) (.mv (.cs (.tup []))) none), []), ((.mk (.some 55) (.mv (.cs (.tup []))) none), []), ((.mk (.some 56) (.mv (.cs (.tup []))) none), []), ((.mk (.some 57) (.mv (.cs (.tup []))) none), []), ((.mk (.some 58) (.mv (.cs (.tup []))) none), []), ((.mk (.some 59) (.mv (.cs (.tup []))) none), [])])) (.reg [((.mk (.some 60) (.pick (.tm 47) (.tm 59) (.cs (.bool false))) none), [])])))) (.reg [((.mk (.some 61) (.pick (.tm 44) (.cs (.bool true)) (.tm 60)) none), [])]))) (.cond (.tm 61) .ret .skip)) (.reg [((.mk (.some 62) (.mv (.tm 3)) none), []), ((.mk (.some 63) (.mv (.tm 0)) none), []), ((.mk (.some 64) (.nilck (.tm 63)) none), []), ((.mk (.some 65) (.fa 0 (.tm 64)) none), []), ((.mk (.some 66) (.ld 1 false (.tm 65)) none), []), ((.mk (.some 67) (.mv (.tm 8)) none), []), ((.mk (.some 68) (.ia 1 (.tm 66) (.tm 67)) none), []), ((.mk (.some 69) (.ld 1 false (.tm 68)) none), []), ((.mk (.some 70) (.callv (.tm 62) [(.tm 69)]) none), [])])))) (.reg [((.mk (.some 18) (.mv (.tm 8)) none), []), ((.mk (.some 19) (.bin .add (.tm 18) (.cs (.int .i64 1))) none), []), ((.mk (.some 8) (.mv (.tm 19)) none), [])])))))) [])
theorem c25 : compF Go.Proofs.Try.prog Go.Proofs.Try.f25 = some F25 := by kernel_rfl
theorem t25 {args : List AV} {h : Hp} {post : AV → Hp → Prop} (hn : args.length ≤ F25.n) (hh : run Try.prog F25.code [] (initE args) h ⟨fun e h' => resK F25.res e h' post, fun e h' => resK F25.res e h' post, fun _ _ _ => False⟩) : Triple Try.prog 25 args h post := triple_of mixed Try.func25 c25 hn hh

/-- "(*horologe/index.Index).Trim$1" -/
def F26 : AFun := (.mk 23 (.seq (.reg [((.mk (.some 5) (.mv (.tm 0)) none), []), ((.mk (.some 6) (.nilck (.tm 5)) none), []), ((.mk (.some 7) (.fa 1 (.tm 6)) none), []), ((.mk (.some 8) (.ld 1 false (.tm 7)) none), []), ((.mk (.some 9) (.ld 1 false (.tm 1)) none), []), ((.mk (.some 10) (.call 27 [(.tm 8), (.tm 9)]) none), []), ((.mk (.some 4) (.mv (.tm 10)) none), [])]) (.seq (.reg [((.mk (.some 11) (.mv (.tm 4)) none), []), ((.mk (.some 12) (.lenL (.tm 11)) none), []), ((.mk (.some 13) (.bin .gtr (.tm 12) (.cs (.int .i64 0))) none), [])]) (.cond (.tm 13) (.reg [((.mk (.some 14) (.ld 1 false (.tm 2)) none), []), ((.mk (.some 15) (.mv (.tm 0)) none), []), ((.mk (.some 16) (.nilck (.tm 15)) none), []), ((.mk (.some 17) (.fa 0 (.tm 16)) none), []), ((.mk (.some 18) (.ld 1 false (.tm 17)) none), []), ((.mk (.some 19) (.mv (.tm 4)) none), []), ((.mk (.some 20) (.bld [(.str []), .nils] [(0, (1, (.tm 18))), (1, (1, (.tm 19)))]) none), []), ((.mk (.some 21) (.box (.tm 20)) none), []), ((.mk (.some 22) (.call 24 [(.tm 14), (.tm 21)]) none), [])]) .skip))) [])
theorem c26 : compF Go.Proofs.Try.prog Go.Proofs.Try.f26 = some F26 := by kernel_rfl
theorem t26 {args : List AV} {h : Hp} {post : AV → Hp → Prop} (hn : args.length ≤ F26.n) (hh : run Try.prog F26.code [] (initE args) h ⟨fun e h' => resK F26.res e h' post, fun e h' => resK F26.res e h' post, fun _ _ _ => False⟩) : Triple Try.prog 26 args h post := triple_of mixed Try.func26 c26 hn hh

/-- "horologe/index.trimmed" -/
def F27 : AFun := (.mk 25 (.seq (.reg [((.mk (.some 2) (.box (.tm 0)) none), []), ((.mk (.some 3) (.box (.tm 1)) none), []), ((.mk (.some 4) (.mv (.cs .nils)) none), [])]) (.seq (.reg [((.mk (.some 6) (.ld 1 false (.tm 2)) none), []), ((.mk (.some 7) (.lenL (.tm 6)) none), []), ((.mk (.some 8) (.mkfn 34 [(.tm 2), (.tm 3)]) none), []), ((.mk (.some 9) (.call 33 [(.tm 7), (.tm 8)]) none), []), ((.mk (.some 10) (.bin .sub (.tm 9) (.cs (.int .i64 1))) none), []), ((.mk (.some 5) (.mv (.tm 10)) none), [])]) (.seq (.seq (.reg [((.mk (.some 11) (.mv (.tm 5)) none), []), ((.mk (.some 12) (.bin .lss (.tm 11) (.cs (.int .i64 0))) none), [])]) (.cond (.tm 12) (.seq (.reg [((.mk (.some 13) (.ld 1 false (.tm 2)) none), []), ((.mk (.some 4) (.mv (.tm 13)) none), [])]) .ret) .skip)) (.seq (.seq (.reg [((.mk (.some 14) (.ld 1 false (.tm 2)) none), []), ((.mk (.some 15) (.mv (.tm 5)) none), []), ((.mk (.some 16) (.ia 2 (.tm 14) (.tm 15)) none), []), ((.mk (.some 17) (.fa 1 (.tm 16)) none), []), ((.mk (.some 18) (.ld 1 false (.tm 17)) none), [])]) (.cond (.tm 18) (.reg [((.mk (.some 19) (.mv (.tm 5)) none), []), ((.mk (.some 20) (.bin .add (.tm 19) (.cs (.int .i64 1))) none), []), ((.mk (.some 5) (.mv (.tm 20)) none), [])]) .skip)) (.seq (.reg [((.mk (.some 21) (.ld 1 false (.tm 2)) none), []), ((.mk (.some 22) (.mv (.tm 5)) none), []), ((.mk (.some 23) (.slcL 2 (.tm 21) (.some (.tm 22)) none) none), []), ((.mk (.some 24) (.call 35 [(.tm 23)]) none), []), ((.mk (.some 4) (.mv (.tm 24)) none), [])]) .ret))))) [(.tmp 4)])
theorem c27 : compF Go.Proofs.Try.prog Go.Proofs.Try.f27 = some F27 := by kernel_rfl
theorem t27 {args : List AV} {h : Hp} {post : AV → Hp → Prop} (hn : args.length ≤ F27.n) (hh : run Try.prog F27.code [] (initE args) h ⟨fun e h' => resK F27.res e h' post, fun e h' => resK F27.res e h' post, fun _ _ _ => False⟩) : Triple Try.prog 27 args h post := triple_of mixed Try.func27 c27 hn hh

/-- "(*horologe/horologeref7.Index).at" -/
def F28 : AFun := (.mk 28 (.seq (.reg [((.mk (.some 4) (.mv (.cs (.int .i64 0))) none), [])]) (.seq (.reg [((.mk (.some 5) (.mv (.cs (.int .i64 0))) none), [])]) (.seq (.block 0 (.loop (.seq (.seq (.seq (.reg [((.mk (.some 6) (.mv (.tm 5)) none), []), ((.mk (.some 7) (.mv (.tm 0)) none), []), ((.mk (.some 8) (.nilck (.tm 7)) none), []), ((.mk (.some 9) (.fa 0 (.tm 8)) none), []), ((.mk (.some 10) (.ld 1 false (.tm 9)) none), []), ((.mk (.some 11) (.lenL (.tm 10)) none), []), ((.mk (.some 12) (.bin .lss (.tm 6) (.tm 11)) none), []), ((.mk (.some 13) (.mv (.tm 12)) none), [])]) (.seq (.cond (.tm 13) (.reg [((.mk (.some 14) (.mv (.tm 0)) none), []), ((.mk (.some 15) (.nilck (.tm 14)) none), []), ((.mk (.some 16) (.fa 0 (.tm 15)) none), []), ((.mk (.some 17) (.ld 1 false (.tm 16)) none), []), ((.mk (.some 18) (.mv (.tm 5)) none), []), ((.mk (.some 19) (.ia 2 (.tm 17) (.tm 18)) none), []), ((.mk (.some 20) (.fa 0 (.tm 19)) none), []), ((.mk (.some 21) (.ld 1 false (.tm 20)) none), []), ((.mk (.some 22) (.mv (.tm 1)) none), []), ((.mk (.some 23) (.bin .lss (.tm 21) (.tm 22)) none), [])]) (.reg [((.mk (.some 14) (.mv (.cs (.tup []))) none), []), ((.mk (.some 15) (.mv (.cs (.tup []))) none), []), ((.mk (.some 16) (.mv (.cs (.tup []))) none), []), ((.mk (.some 17) (.mv (.cs (.tup []))) none), []), ((.mk (.some 18) (.mv (.cs (.tup []))) none), []), ((.mk (.some 19) (.mv (.cs (.tup []))) none), []), ((.mk (.some 20) (.mv (.cs (.tup []))) none), []), ((.mk (.some 21) (.mv (.cs (.tup []))) none), []), ((.mk (.some 22) (.mv (.cs (.tup []))) none), []), ((.mk (.some 23) (.mv (.cs (.tup []))) none), [])])) (.reg [((.mk (.some 24) (.pick (.tm 13) (.tm 23) (.cs (.bool false))) none), [])]))) (.cond (.tm 24) .skip (.exit 0))) (.block 1 (.reg [((.mk (.some 25) (.mv (.tm 5)) none), []), ((.mk (.some 26) (.bin .add (.tm 25) (.cs (.int .i64 1))) none), []), ((.mk (.some 5) (.mv (.tm 26)) none), [])]))))) (.seq (.reg [((.mk (.some 27) (.mv (.tm 5)) none), []), ((.mk (.some 4) (.mv (.tm 27)) none), [])]) .ret)))) [(.tmp 4)])
theorem c28 : compF Go.Proofs.Try.prog Go.Proofs.Try.f28 = some F28 := by kernel_rfl
theorem t28 {args : List AV} {h : Hp} {post : AV → Hp → Prop} (hn : args.length ≤ F28.n) (hh : run Try.prog F28.code [] (initE args) h ⟨fun e h' => resK F28.res e h' post, fun e h' => resK F28.res e h' post, fun _ _ _ => False⟩) : Triple Try.prog 28 args h post := triple_of mixed Try.func28 c28 hn hh

/-- "(*horologe/index.Index).Keys$1" -/
def F29 : AFun := (.mk 10 (.reg [((.mk (.some 3) (.ld 1 false (.tm 1)) none), []), ((.mk (.some 4) (.mv (.tm 0)) none), []), ((.mk (.some 5) (.nilck (.tm 4)) none), []), ((.mk (.some 6) (.fa 0 (.tm 5)) none), []), ((.mk (.some 7) (.ld 1 false (.tm 6)) none), []), ((.mk (.some 8) (.bsl [(.str [])] 1 [(0, (.tm 7))]) none), []), ((.mk (.some 9) (.app 1 16 (.tm 3) (.tm 8)) none), []), ((.mk none (.st 1 (.tm 1) (.tm 9)) none), [])]) [])
theorem c29 : compF Go.Proofs.Try.prog Go.Proofs.Try.f29 = some F29 := by kernel_rfl
theorem t29 {args : List AV} {h : Hp} {post : AV → Hp → Prop} (hn : args.length ≤ F29.n) (hh : run Try.prog F29.code [] (initE args) h ⟨fun e h' => resK F29.res e h' post, fun e h' => resK F29.res e h' post, fun _ _ _ => False⟩) : Triple Try.prog 29 args h post := triple_of mixed Try.func29 c29 hn hh

/-- "(*horologe/index.Index).Height" -/
def F30 : AFun := (.mk 34 (.seq (.reg [((.mk (.some 2) (.mv (.cs (.int .i64 0))) none), [])]) (.seq (.reg [((.mk (.some 3) (.mv (.cs (.int .i64 0))) none), [])]) (.seq (.seq (.reg [((.mk (.some 5) (.mv (.tm 0)) none), []), ((.mk (.some 6) (.nilck (.tm 5)) none), []), ((.mk (.some 7) (.fa 0 (.tm 6)) none), []), ((.mk (.some 8) (.ld 1 false (.tm 7)) none), []), ((.mk (.some 4) (.mv (.tm 8)) none), [])]) (.block 0 (.loop (.seq (.seq (.seq (.reg [((.mk (.some 9) (.mv (.tm 4)) none), []), ((.mk (.some 10) (.eqn .ptr true (.tm 9) (.cs .nilp)) none), []), ((.mk (.some 11) (.mv (.tm 10)) none), [])]) (.seq (.cond (.tm 11) (.reg [((.mk (.some 12) (.mv (.tm 4)) none), []), ((.mk (.some 13) (.nilck (.tm 12)) none), []), ((.mk (.some 14) (.fa 0 (.tm 13)) none), []), ((.mk (.some 15) (.ld 1 false (.tm 14)) none), []), ((.mk (.some 16) (.lenL (.tm 15)) none), []), ((.mk (.some 17) (.bin .gtr (.tm 16) (.cs (.int .i64 0))) none), [])]) (.reg [((.mk (.some 12) (.mv (.cs (.tup []))) none), []), ((.mk (.some 13) (.mv (.cs (.tup []))) none), []), ((.mk (.some 14) (.mv (.cs (.tup []))) none), []), ((.mk (.some 15) (.mv (.cs (.tup []))) none), []), ((.mk (.some 16) (.mv (.cs (.tup []))) none), []), ((.mk (.some 17) (.mv (.cs (.tup []))) none), [])])) (.reg [((.mk (.some 18) (.pick (.tm 11) (.tm 17) (.cs (.bool false))) none), [])]))) (.cond (.tm 18) .skip (.exit 0))) (.seq (.block 1 (.seq (.reg [((.mk (.some 25) (.mv (.tm 3)) none), []), ((.mk (.some 26) (.bin .add (.tm 25) (.cs (.int .i64 1))) none), []), ((.mk (.some 3) (.mv (.tm 26)) none), [])]) (.seq (.reg [((.mk (.some 27) (.mv (.tm 4)) none), []), ((.mk (.some 28) (.nilck (.tm 27)) none), []), ((.mk (.some 29) (.fa 1 (.tm 28)) none), []), ((.mk (.some 30) (.ld 1 false (.tm 29)) none), []), ((.mk (.some 31) (.lenL (.tm 30)) none), []), ((.mk (.some 32) (.bin .eql (.tm 31) (.cs (.int .i64 0))) none), [])]) (.cond (.tm 32) (.exit 0) .skip)))) (.reg [((.mk (.some 19) (.mv (.tm 4)) none), []), ((.mk (.some 20) (.nilck (.tm 19)) none), []), ((.mk (.some 21) (.fa 1 (.tm 20)) none), []), ((.mk (.some 22) (.ld 1 false (.tm 21)) none), []), ((.mk (.some 23) (.ia 1 (.tm 22) (.cs (.int .i64 0))) none), []), ((.mk (.some 24) (.ld 1 false (.tm 23)) none), []), ((.mk (.some 4) (.mv (.tm 24)) none), [])])))))) (.seq (.reg [((.mk (.some 33) (.mv (.tm 3)) none), []), ((.mk (.some 2) (.mv (.tm 33)) none), [])]) .ret)))) [(.tmp 2)])
theorem c30 : compF Go.Proofs.Try.prog Go.Proofs.Try.f30 = some F30 := by kernel_rfl
theorem t30 {args : List AV} {h : Hp} {post : AV → Hp → Prop} (hn : args.length ≤ F30.n) (hh : run Try.prog F30.code [] (initE args) h ⟨fun e h' => resK F30.res e h' post, fun e h' => resK F30.res e h' post, fun _ _ _ => False⟩) : Triple Try.prog 30 args h post := triple_of mixed Try.func30 c30 hn hh

/-- "(*horologe/index.node).place" -/
def F31 : AFun := (.mk 36 (.seq (.reg [((.mk (.some 2) (.box (.tm 0)) none), []), ((.mk (.some 3) (.box (.tm 1)) none), []), ((.mk (.some 4) (.mv (.cs (.int .i64 0))) none), []), ((.mk (.some 5) (.mv (.cs (.bool false))) none), [])]) (.seq (.reg [((.mk (.some 7) (.ld 1 false (.tm 2)) none), []), ((.mk (.some 8) (.nilck (.tm 7)) none), []), ((.mk (.some 9) (.fa 0 (.tm 8)) none), []), ((.mk (.some 10) (.ld 1 false (.tm 9)) none), []), ((.mk (.some 11) (.lenL (.tm 10)) none), []), ((.mk (.some 12) (.mkfn 36 [(.tm 2), (.tm 3)]) none), []), ((.mk (.some 13) (.call 33 [(.tm 11), (.tm 12)]) none), []), ((.mk (.some 6) (.mv (.tm 13)) none), [])]) (.seq (.seq (.reg [((.mk (.some 14) (.mv (.tm 6)) none), []), ((.mk (.some 15) (.mv (.tm 6)) none), []), ((.mk (.some 16) (.ld 1 false (.tm 2)) none), []), ((.mk (.some 17) (.nilck (.tm 16)) none), []), ((.mk (.some 18) (.fa 0 (.tm 17)) none), []), ((.mk (.some 19) (.ld 1 false (.tm 18)) none), []), ((.mk (.some 20) (.lenL (.tm 19)) none), []), ((.mk (.some 21) (.bin .lss (.tm 15) (.tm 20)) none), []), ((.mk (.some 22) (.mv (.tm 21)) none), [])]) (.seq (.cond (.tm 22) (.reg [((.mk (.some 23) (.ld 1 false (.tm 2)) none), []), ((.mk (.some 24) (.nilck (.tm 23)) none), []), ((.mk (.some 25) (.fa 0 (.tm 24)) none), []), ((.mk (.some 26) (.ld 1 false (.tm 25)) none), []), ((.mk (.some 27) (.mv (.tm 6)) none), []), ((.mk (.some 28) (.ia 1 (.tm 26) (.tm 27)) none), []), ((.mk (.some 29) (.ld 1 false (.tm 28)) none), []), ((.mk (.some 30) (.nilck (.tm 29)) none), []), ((.mk (.some 31) (.fa 0 (.tm 30)) none), []), ((.mk (.some 32) (.ld 1 false (.tm 31)) none), []), ((.mk (.some 33) (.ld 1 false (.tm 3)) none), []), ((.mk (.some 34) (.bin .eql (.tm 32) (.tm 33)) none), [])]) (.reg [((.mk (.some 23) (.mv (.cs (.tup []))) none), []), ((.mk (.some 24) (.mv (.cs (.tup []))) none), []), ((.mk (.some 25) (.mv (.cs (.tup []))) none), []), ((.mk (.some 26) (.mv (.cs (.tup []))) none), []), ((.mk (.some 27) (.mv (.cs (.tup []))) none), []), ((.mk (.some 28) (.mv (.cs (.tup []))) none), []), ((.mk (.some 29) (.mv (.cs (.tup []))) none), []), ((.mk (.some 30) (.mv (.cs (.tup []))) none), []), ((.mk (.some 31) (.mv (.cs (.tup []))) none), []), ((.mk (.some 32) (.mv (.cs (.tup []))) none), []), ((.mk (.some 33) (.mv (.cs (.tup []))) none), []), ((.mk (.some 34) (.mv (.cs (.tup []))) none), [])])) (.reg [((.mk (.some 35) (.pick (.tm 22) (.tm 34) (.cs (.bool false))) none), []), ((.mk (.some 4) (.mv (.tm 14)) none), []), ((.mk (.some 5) (.mv (.tm 35)) none), [])]))) .ret))) [(.tmp 4), (.tmp 5)])
theorem c31 : compF Go.Proofs.Try.prog Go.Proofs.Try.f31 = some F31 := by kernel_rfl
theorem t31 {args : List AV} {h : Hp} {post : AV → Hp → Prop} (hn : args.length ≤ F31.n) (hh : run Try.prog F31.code [] (initE args) h ⟨fun e h' => resK F31.res e h' post, fun e h' => resK F31.res e h' post, fun _ _ _ => False⟩) : Triple Try.prog 31 args h post := triple_of mixed Try.func31 c31 hn hh

/-- "(*horologe/index.node).insert" -/
def F32 : AFun := (.mk 81 (.seq (.reg [((.mk (.some 4) (.mv (.cs .nilp)) none), []), ((.mk (.some 5) (.mv (.cs .nilp)) none), [])]) (.seq (.reg [((.mk (.some 11) (.mv (.tm 0)) none), []), ((.mk (.some 12) (.mv (.tm 1)) none), []), ((.mk (.some 13) (.nilck (.tm 12)) none), []), ((.mk (.some 14) (.fa 0 (.tm 13)) none), []), ((.mk (.some 15) (.ld 1 false (.tm 14)) none), []), ((.mk (.some 16) (.call 31 [(.tm 11), (.tm 15)]) none), []), ((.mk (.some 10) (.mv (.tm 16)) none), []), ((.mk (.some 17) (.ext 0 (.tm 10)) none), []), ((.mk (.some 18) (.ext 1 (.tm 10)) none), []), ((.mk (.some 6) (.mv (.tm 17)) none), []), ((.mk (.some 7) (.mv (.tm 18)) none), [])]) (.seq (.seq (.reg [((.mk (.some 19) (.mv (.tm 0)) none), []), ((.mk (.some 20) (.nilck (.tm 19)) none), []), ((.mk (.some 21) (.fa 1 (.tm 20)) none), []), ((.mk (.some 22) (.ld 1 false (.tm 21)) none), []), ((.mk (.some 23) (.lenL (.tm 22)) none), []), ((.mk (.some 24) (.bin .eql (.tm 23) (.cs (.int .i64 0))) none), [])]) (.cond (.tm 24) (.seq (.reg [((.mk (.some 25) (.mv (.tm 0)) none), []), ((.mk (.some 26) (.mv (.tm 0)) none), []), ((.mk (.some 27) (.nilck (.tm 26)) none), []), ((.mk (.some 28) (.fa 0 (.tm 27)) none), []), ((.mk (.some 29) (.ld 1 false (.tm 28)) none), []), ((.mk (.some 30) (.mv (.tm 6)) none), []), ((.mk (.some 31) (.mv (.tm 1)) none), []), ((.mk (.some 32) (.bsl [.nilp] 1 [(0, (.tm 31))]) none), []), ((.mk (.some 33) (.call 37 [(.tm 29), (.tm 30), (.tm 32)]) none), []), ((.mk (.some 34) (.nilck (.tm 25)) none), []), ((.mk (.some 35) (.fa 0 (.tm 34)) none), []), ((.mk none (.st 1 (.tm 35) (.tm 33)) none), [])]) (.seq (.reg [((.mk (.some 36) (.mv (.tm 0)) none), []), ((.mk (.some 37) (.call 38 [(.tm 36)]) none), []), ((.mk (.some 38) (.ext 0 (.tm 37)) none), []), ((.mk (.some 39) (.ext 1 (.tm 37)) none), []), ((.mk (.some 4) (.mv (.tm 38)) none), []), ((.mk (.some 5) (.mv (.tm 39)) none), [])]) .ret)) .skip)) (.seq (.seq (.reg [((.mk (.some 41) (.mv (.tm 0)) none), []), ((.mk (.some 42) (.nilck (.tm 41)) none), []), ((.mk (.some 43) (.fa 1 (.tm 42)) none), []), ((.mk (.some 44) (.ld 1 false (.tm 43)) none), []), ((.mk (.some 45) (.mv (.tm 6)) none), []), ((.mk (.some 46) (.ia 1 (.tm 44) (.tm 45)) none), []), ((.mk (.some 47) (.ld 1 false (.tm 46)) none), []), ((.mk (.some 48) (.mv (.tm 1)) none), []), ((.mk (.some 49) (.call 32 [(.tm 47), (.tm 48)]) none), []), ((.mk (.some 40) (.mv (.tm 49)) none), []), ((.mk (.some 50) (.ext 0 (.tm 40)) none), []), ((.mk (.some 51) (.ext 1 (.tm 40)) none), []), ((.mk (.some 8) (.mv (.tm 50)) none), []), ((.mk (.some 9) (.mv (.tm 51)) none), [])]) (.seq (.reg [((.mk (.some 52) (.mv (.tm 9)) none), []), ((.mk (.some 53) (.eqn .ptr true (.tm 52) (.cs .nilp)) none), [])]) (.cond (.tm 53) (.seq (.reg [((.mk (.some 54) (.mv (.tm 0)) none), []), ((.mk (.some 55) (.mv (.tm 0)) none), []), ((.mk (.some 56) (.nilck (.tm 55)) none), []), ((.mk (.some 57) (.fa 0 (.tm 56)) none), []), ((.mk (.some 58) (.ld 1 false (.tm 57)) none), []), ((.mk (.some 59) (.mv (.tm 6)) none), []), ((.mk (.some 60) (.mv (.tm 8)) none), []), ((.mk (.some 61) (.bsl [.nilp] 1 [(0, (.tm 60))]) none), []), ((.mk (.some 62) (.call 37 [(.tm 58), (.tm 59), (.tm 61)]) none), []), ((.mk (.some 63) (.nilck (.tm 54)) none), []), ((.mk (.some 64) (.fa 0 (.tm 63)) none), []), ((.mk none (.st 1 (.tm 64) (.tm 62)) none), [])]) (.reg [((.mk (.some 65) (.mv (.tm 0)) none), []), ((.mk (.some 66) (.mv (.tm 0)) none), []), ((.mk (.some 67) (.nilck (.tm 66)) none), []), ((.mk (.some 68) (.fa 1 (.tm 67)) none), []), ((.mk (.some 69) (.ld 1 false (.tm 68)) none), []), ((.mk (.some 70) (.mv (.tm 6)) none), []), ((.mk (.some 71) (.bin .add (.tm 70) (.cs (.int .i64 1))) none), []), ((.mk (.some 72) (.mv (.tm 9)) none), []), ((.mk (.some 73) (.bsl [.nilp] 1 [(0, (.tm 72))]) none), []), ((.mk (.some 74) (.call 39 [(.tm 69), (.tm 71), (.tm 73)]) none), []), ((.mk (.some 75) (.nilck (.tm 65)) none), []), ((.mk (.some 76) (.fa 1 (.tm 75)) none), []), ((.mk none (.st 1 (.tm 76) (.tm 74)) none), [])])) .skip))) (.seq (.reg [((.mk (.some 77) (.mv (.tm 0)) none), []), ((.mk (.some 78) (.call 38 [(.tm 77)]) none), []), ((.mk (.some 79) (.ext 0 (.tm 78)) none), []), ((.mk (.some 80) (.ext 1 (.tm 78)) none), []), ((.mk (.some 4) (.mv (.tm 79)) none), []), ((.mk (.some 5) (.mv (.tm 80)) none), [])]) .ret))))) [(.tmp 4), (.tmp 5)])
theorem c32 : compF Go.Proofs.Try.prog Go.Proofs.Try.f32 = some F32 := by kernel_rfl
theorem t32 {args : List AV} {h : Hp} {post : AV → Hp → Prop} (hn : args.length ≤ F32.n) (hh : run Try.prog F32.code [] (initE args) h ⟨fun e h' => resK F32.res e h' post, fun e h' => resK F32.res e h' post, fun _ _ _ => False⟩) : Triple Try.prog 32 args h post := triple_of mixed Try.func32 c32 hn hh

/-- "sort.Search" -/
def F33 : AFun := (.mk 26 (.seq (.reg [((.mk (.some 4) (.mv (.cs (.int .i64 0))) none), [])]) (.seq (.reg [((.mk (.some 8) (.mv (.tm 0)) none), []), ((.mk (.some 5) (.mv (.cs (.int .i64 0))) none), []), ((.mk (.some 6) (.mv (.tm 8)) none), [])]) (.seq (.block 0 (.loop (.seq (.seq (.reg [((.mk (.some 9) (.mv (.tm 5)) none), []), ((.mk (.some 10) (.mv (.tm 6)) none), []), ((.mk (.some 11) (.bin .lss (.tm 9) (.tm 10)) none), [])]) (.cond (.tm 11) .skip (.exit 0))) (.block 1 (.seq (.reg [((.mk (.some 12) (.mv (.tm 5)) none), []), ((.mk (.some 13) (.mv (.tm 6)) none), []), ((.mk (.some 14) (.bin .add (.tm 12) (.tm 13)) none), []), ((.mk (.some 15) (.cvi .u64 (.tm 14)) none), []), ((.mk (.some 16) (.bin .shr (.tm 15) (.cs (.int .u64 1))) none), []), ((.mk (.some 17) (.cvi .i64 (.tm 16)) none), []), ((.mk (.some 7) (.mv (.tm 17)) none), [])]) (.seq (.reg [((.mk (.some 18) (.mv (.tm 1)) none), []), ((.mk (.some 19) (.mv (.tm 7)) none), []), ((.mk (.some 20) (.callv (.tm 18) [(.tm 19)]) none), []), ((.mk (.some 21) (.un .not (.tm 20)) none), [])]) (.cond (.tm 21) (.reg [((.mk (.some 22) (.mv (.tm 7)) none), []), ((.mk (.some 23) (.bin .add (.tm 22) (.cs (.int .i64 1))) none), []), ((.mk (.some 5) (.mv (.tm 23)) none), [])]) (.reg [((.mk (.some 24) (.mv (.tm 7)) none), []), ((.mk (.some 6) (.mv (.tm 24)) none), [])])))))))) (.seq (.reg [((.mk (.some 25) (.mv (.tm 5)) none), []), ((.mk (.some 4) (.mv (.tm 25)) none), [])]) .ret)))) [(.tmp 4)])
theorem c33 : compF Go.Proofs.Try.prog Go.Proofs.Try.f33 = some F33 := by kernel_rfl
theorem t33 {args : List AV} {h : Hp} {post : AV → Hp → Prop} (hn : args.length ≤ F33.n) (hh : run Try.prog F33.code [] (initE args) h ⟨fun e h' => resK F33.res e h' post, fun e h' => resK F33.res e h' post, fun _ _ _ => False⟩) : Triple Try.prog 33 args h post := triple_of mixed Try.func33 c33 hn hh

/-- "horologe/index.trimmed$1" -/
def F34 : AFun := (.mk 12 (.seq (.reg [((.mk (.some 4) (.mv (.cs (.bool false))) none), [])]) (.seq (.reg [((.mk (.some 5) (.ld 1 false (.tm 1)) none), []), ((.mk (.some 6) (.mv (.tm 0)) none), []), ((.mk (.some 7) (.ia 2 (.tm 5) (.tm 6)) none), []), ((.mk (.some 8) (.fa 0 (.tm 7)) none), []), ((.mk (.some 9) (.ld 1 false (.tm 8)) none), []), ((.mk (.some 10) (.ld 1 false (.tm 2)) none), []), ((.mk (.some 11) (.bin .gtr (.tm 9) (.tm 10)) none), []), ((.mk (.some 4) (.mv (.tm 11)) none), [])]) .ret)) [(.tmp 4)])
theorem c34 : compF Go.Proofs.Try.prog Go.Proofs.Try.f34 = some F34 := by kernel_rfl
theorem t34 {args : List AV} {h : Hp} {post : AV → Hp → Prop} (hn : args.length ≤ F34.n) (hh : run Try.prog F34.code [] (initE args) h ⟨fun e h' => resK F34.res e h' post, fun e h' => resK F34.res e h' post, fun _ _ _ => False⟩) : Triple Try.prog 34 args h post := triple_of mixed Try.func34 c34 hn hh

/-- "slices.Clone[[]horologe/index.Mark,horologe/index.Mark]" -/
def F35 : AFun := (.mk 8 (.seq (.reg [((.mk (.some 2) (.mv (.cs .nils)) none), [])]) (.seq (.seq (.reg [((.mk (.some 3) (.mv (.tm 0)) none), []), ((.mk (.some 4) (.eqn .sl false (.tm 3) (.cs .nils)) none), [])]) (.cond (.tm 4) (.seq (.reg [((.mk (.some 2) (.mv (.cs .nils)) none), [])]) .ret) .skip)) (.seq (.reg [((.mk (.some 5) (.bsl [(.int .i64 0), (.bool false)] 0 []) none), []), ((.mk (.some 6) (.mv (.tm 0)) none), []), ((.mk (.some 7) (.app 2 16 (.tm 5) (.tm 6)) none), []), ((.mk (.some 2) (.mv (.tm 7)) none), [])]) .ret))) [(.tmp 2)])
theorem c35 : compF Go.Proofs.Try.prog Go.Proofs.Try.f35 = some F35 := by kernel_rfl
theorem t35 {args : List AV} {h : Hp} {post : AV → Hp → Prop} (hn : args.length ≤ F35.n) (hh : run Try.prog F35.code [] (initE args) h ⟨fun e h' => resK F35.res e h' post, fun e h' => resK F35.res e h' post, fun _ _ _ => False⟩) : Triple Try.prog 35 args h post := triple_of mixed Try.func35 c35 hn hh

/-- "(*horologe/index.node).place$1" -/
def F36 : AFun := (.mk 17 (.seq (.reg [((.mk (.some 4) (.mv (.cs (.bool false))) none), [])]) (.seq (.reg [((.mk (.some 5) (.ld 1 false (.tm 1)) none), []), ((.mk (.some 6) (.nilck (.tm 5)) none), []), ((.mk (.some 7) (.fa 0 (.tm 6)) none), []), ((.mk (.some 8) (.ld 1 false (.tm 7)) none), []), ((.mk (.some 9) (.mv (.tm 0)) none), []), ((.mk (.some 10) (.ia 1 (.tm 8) (.tm 9)) none), []), ((.mk (.some 11) (.ld 1 false (.tm 10)) none), []), ((.mk (.some 12) (.nilck (.tm 11)) none), []), ((.mk (.some 13) (.fa 0 (.tm 12)) none), []), ((.mk (.some 14) (.ld 1 false (.tm 13)) none), []), ((.mk (.some 15) (.ld 1 false (.tm 2)) none), []), ((.mk (.some 16) (.bin .geq (.tm 14) (.tm 15)) none), []), ((.mk (.some 4) (.mv (.tm 16)) none), [])]) .ret)) [(.tmp 4)])
theorem c36 : compF Go.Proofs.Try.prog Go.Proofs.Try.f36 = some F36 := by kernel_rfl
theorem t36 {args : List AV} {h : Hp} {post : AV → Hp → Prop} (hn : args.length ≤ F36.n) (hh : run Try.prog F36.code [] (initE args) h ⟨fun e h' => resK F36.res e h' post, fun e h' => resK F36.res e h' post, fun _ _ _ => False⟩) : Triple Try.prog 36 args h post := triple_of mixed Try.func36 c36 hn hh

/-- "slices.Insert[[]*horologe/index.item,*horologe/index.item]" -/
def F37 : AFun := (.mk 95 (.seq (.reg [((.mk (.some 6) (.mv (.cs .nils)) none), [])]) (.seq (.reg [((.mk (.some 10) (.mv (.tm 0)) none), []), ((.mk (.some 11) (.mv (.tm 1)) none), []), ((.mk (.some 12) (.slcL 1 (.tm 10) (.some (.tm 11)) none) none), [])]) (.seq (.reg [((.mk (.some 13) (.mv (.tm 2)) none), []), ((.mk (.some 14) (.lenL (.tm 13)) none), []), ((.mk (.some 7) (.mv (.tm 14)) none), [])]) (.seq (.seq (.reg [((.mk (.some 15) (.mv (.tm 7)) none), []), ((.mk (.some 16) (.bin .eql (.tm 15) (.cs (.int .i64 0))) none), [])]) (.cond (.tm 16) (.seq (.reg [((.mk (.some 17) (.mv (.tm 0)) none), []), ((.mk (.some 6) (.mv (.tm 17)) none), [])]) .ret) .skip)) (.seq (.reg [((.mk (.some 18) (.mv (.tm 0)) none), []), ((.mk (.some 19) (.lenL (.tm 18)) none), []), ((.mk (.some 8) (.mv (.tm 19)) none), [])]) (.seq (.seq (.reg [((.mk (.some 20) (.mv (.tm 1)) none), []), ((.mk (.some 21) (.mv (.tm 8)) none), []), ((.mk (.some 22) (.bin .eql (.tm 20) (.tm 21)) none), [])]) (.cond (.tm 22) (.seq (.reg [((.mk (.some 23) (.mv (.tm 0)) none), []), ((.mk (.some 24) (.mv (.tm 2)) none), []), ((.mk (.some 25) (.app 1 8 (.tm 23) (.tm 24)) none), []), ((.mk (.some 6) (.mv (.tm 25)) none), [])]) .ret) .skip)) (.seq (.seq (.reg [((.mk (.some 26) (.mv (.tm 8)) none), []), ((.mk (.some 27) (.mv (.tm 7)) none), []), ((.mk (.some 28) (.bin .add (.tm 26) (.tm 27)) none), []), ((.mk (.some 29) (.mv (.tm 0)) none), []), ((.mk (.some 30) (.capL (.tm 29)) none), []), ((.mk (.some 31) (.bin .gtr (.tm 28) (.tm 30)) none), [])]) (.cond (.tm 31) (.seq (.reg [((.mk (.some 32) (.mv (.tm 0)) none), []), ((.mk (.some 33) (.mv (.tm 1)) none), []), ((.mk (.some 34) (.slcL 1 (.tm 32) none (.some (.tm 33))) none), []), ((.mk (.some 35) (.mv (.tm 8)) none), []), ((.mk (.some 36) (.mv (.tm 7)) none), []), ((.mk (.some 37) (.bin .add (.tm 35) (.tm 36)) none), []), ((.mk (.some 38) (.mv (.tm 1)) none), []), ((.mk (.some 39) (.bin .sub (.tm 37) (.tm 38)) none), []), ((.mk (.some 40) (.appz 1 8 [.nilp] (.tm 34) (.tm 39)) none), []), ((.mk (.some 9) (.mv (.tm 40)) none), [])]) (.seq (.reg [((.mk (.some 41) (.mv (.tm 9)) none), []), ((.mk (.some 42) (.mv (.tm 1)) none), []), ((.mk (.some 43) (.slcL 1 (.tm 41) (.some (.tm 42)) none) none), []), ((.mk (.some 44) (.mv (.tm 2)) none), []), ((.mk (.some 45) (.cp 1 (.tm 43) (.tm 44)) none), [])]) (.seq (.reg [((.mk (.some 46) (.mv (.tm 9)) none), []), ((.mk (.some 47) (.mv (.tm 1)) none), []), ((.mk (.some 48) (.mv (.tm 7)) none), []), ((.mk (.some 49) (.bin .add (.tm 47) (.tm 48)) none), []), ((.mk (.some 50) (.slcL 1 (.tm 46) (.some (.tm 49)) none) none), []), ((.mk (.some 51) (.mv (.tm 0)) none), []), ((.mk (.some 52) (.mv (.tm 1)) none), []), ((.mk (.some 53) (.slcL 1 (.tm 51) (.some (.tm 52)) none) none), []), ((.mk (.some 54) (.cp 1 (.tm 50) (.tm 53)) none), [])]) (.seq (.reg [((.mk (.some 55) (.mv (.tm 9)) none), []), ((.mk (.some 6) (.mv (.tm 55)) none), [])]) .ret)))) .skip)) (.seq (.reg [((.mk (.some 56) (.mv (.tm 0)) none), []), ((.mk (.some 57) (.mv (.tm 8)) none), []), ((.mk (.some 58) (.mv (.tm 7)) none), []), ((.mk (.some 59) (.bin .add (.tm 57) (.tm 58)) none), []), ((.mk (.some 60) (.slcL 1 (.tm 56) none (.some (.tm 59))) none), []), ((.mk (.some 0) (.mv (.tm 60)) none), [])]) (.seq (.seq (.reg [((.mk (.some 61) (.mv (.tm 2)) none), []), ((.mk (.some 62) (.mv (.tm 0)) none), []), ((.mk (.some 63) (.mv (.tm 1)) none), []), ((.mk (.some 64) (.mv (.tm 7)) none), []), ((.mk (.some 65) (.bin .add (.tm 63) (.tm 64)) none), []), ((.mk (.some 66) (.slcL 1 (.tm 62) (.some (.tm 65)) none) none), []), ((.mk (.some 67) (.ovl 1 (.tm 61) (.tm 66)) none), []), ((.mk (.some 68) (.un .not (.tm 67)) none), [])]) (.cond (.tm 68) (.seq (.reg [((.mk (.some 69) (.mv (.tm 0)) none), []), ((.mk (.some 70) (.mv (.tm 1)) none), []), ((.mk (.some 71) (.mv (.tm 7)) none), []), ((.mk (.some 72) (.bin .add (.tm 70) (.tm 71)) none), []), ((.mk (.some 73) (.slcL 1 (.tm 69) (.some (.tm 72)) none) none), []), ((.mk (.some 74) (.mv (.tm 0)) none), []), ((.mk (.some 75) (.mv (.tm 1)) none), []), ((.mk (.some 76) (.slcL 1 (.tm 74) (.some (.tm 75)) none) none), []), ((.mk (.some 77) (.cp 1 (.tm 73) (.tm 76)) none), [])]) (.seq (.reg [((.mk (.some 78) (.mv (.tm 0)) none), []), ((.mk (.some 79) (.mv (.tm 1)) none), []), ((.mk (.some 80) (.slcL 1 (.tm 78) (.some (.tm 79)) none) none), []), ((.mk (.some 81) (.mv (.tm 2)) none), []), ((.mk (.some 82) (.cp 1 (.tm 80) (.tm 81)) none), [])]) (.seq (.reg [((.mk (.some 83) (.mv (.tm 0)) none), []), ((.mk (.some 6) (.mv (.tm 83)) none), [])]) .ret))) .skip)) (.seq (.reg [((.mk (.some 84) (.mv (.tm 0)) none), []), ((.mk (.some 85) (.mv (.tm 8)) none), []), ((.mk (.some 86) (.slcL 1 (.tm 84) (.some (.tm 85)) none) none), []), ((.mk (.some 87) (.mv (.tm 2)) none), []), ((.mk (.some 88) (.cp 1 (.tm 86) (.tm 87)) none), [])]) (.seq (.reg [((.mk (.some 89) (.mv (.tm 0)) none), []), ((.mk (.some 90) (.mv (.tm 1)) none), []), ((.mk (.some 91) (.slcL 1 (.tm 89) (.some (.tm 90)) none) none), []), ((.mk (.some 92) (.mv (.tm 7)) none), []), ((.mk (.some 93) (.call 41 [(.tm 91), (.tm 92)]) none), [])]) (.seq (.reg [((.mk (.some 94) (.mv (.tm 0)) none), []), ((.mk (.some 6) (.mv (.tm 94)) none), [])]) .ret)))))))))))) [(.tmp 6)])
theorem c37 : compF Go.Proofs.Try.prog Go.Proofs.Try.f37 = some F37 := by kernel_rfl
theorem t37 {args : List AV} {h : Hp} {post : AV → Hp → Prop} (hn : args.length ≤ F37.n) (hh : run Try.prog F37.code [] (initE args) h ⟨fun e h' => resK F37.res e h' post, fun e h' => resK F37.res e h' post, fun _ _ _ => False⟩) : Triple Try.prog 37 args h post := triple_of mixed Try.func37 c37 hn hh

/-- "(*horologe/index.node).split" -/
def F38 : AFun := (.mk 74 (.seq (.reg [((.mk (.some 2) (.mv (.cs .nilp)) none), []), ((.mk (.some 3) (.mv (.cs .nilp)) none), [])]) (.seq (.seq (.reg [((.mk (.some 7) (.mv (.tm 0)) none), []), ((.mk (.some 8) (.nilck (.tm 7)) none), []), ((.mk (.some 9) (.fa 0 (.tm 8)) none), []), ((.mk (.some 10) (.ld 1 false (.tm 9)) none), []), ((.mk (.some 11) (.lenL (.tm 10)) none), []), ((.mk (.some 12) (.bin .leq (.tm 11) (.cs (.int .i64 5))) none), [])]) (.cond (.tm 12) (.seq (.reg [((.mk (.some 2) (.mv (.cs .nilp)) none), []), ((.mk (.some 3) (.mv (.cs .nilp)) none), [])]) .ret) .skip)) (.seq (.reg [((.mk (.some 13) (.mv (.tm 0)) none), []), ((.mk (.some 14) (.nilck (.tm 13)) none), []), ((.mk (.some 15) (.fa 0 (.tm 14)) none), []), ((.mk (.some 16) (.ld 1 false (.tm 15)) none), []), ((.mk (.some 17) (.lenL (.tm 16)) none), []), ((.mk (.some 18) (.bin .quo (.tm 17) (.cs (.int .i64 2))) none), []), ((.mk (.some 4) (.mv (.tm 18)) none), [])]) (.seq (.reg [((.mk (.some 19) (.mv (.tm 0)) none), []), ((.mk (.some 20) (.nilck (.tm 19)) none), []), ((.mk (.some 21) (.fa 0 (.tm 20)) none), []), ((.mk (.some 22) (.ld 1 false (.tm 21)) none), []), ((.mk (.some 23) (.mv (.tm 4)) none), []), ((.mk (.some 24) (.ia 1 (.tm 22) (.tm 23)) none), []), ((.mk (.some 25) (.ld 1 false (.tm 24)) none), []), ((.mk (.some 5) (.mv (.tm 25)) none), [])]) (.seq (.reg [((.mk (.some 26) (.mv (.tm 0)) none), []), ((.mk (.some 27) (.nilck (.tm 26)) none), []), ((.mk (.some 28) (.fa 0 (.tm 27)) none), []), ((.mk (.some 29) (.ld 1 false (.tm 28)) none), []), ((.mk (.some 30) (.mv (.tm 4)) none), []), ((.mk (.some 31) (.bin .add (.tm 30) (.cs (.int .i64 1))) none), []), ((.mk (.some 32) (.slcL 1 (.tm 29) (.some (.tm 31)) none) none), []), ((.mk (.some 33) (.call 42 [(.tm 32)]) none), []), ((.mk (.some 34) (.bld [.nils, .nils] [(0, (1, (.tm 33)))]) none), []), ((.mk (.some 35) (.box (.tm 34)) none), []), ((.mk (.some 6) (.mv (.tm 35)) none), [])]) (.seq (.seq (.reg [((.mk (.some 36) (.mv (.tm 0)) none), []), ((.mk (.some 37) (.nilck (.tm 36)) none), []), ((.mk (.some 38) (.fa 1 (.tm 37)) none), []), ((.mk (.some 39) (.ld 1 false (.tm 38)) none), []), ((.mk (.some 40) (.lenL (.tm 39)) none), []), ((.mk (.some 41) (.bin .gtr (.tm 40) (.cs (.int .i64 0))) none), [])]) (.cond (.tm 41) (.seq (.reg [((.mk (.some 42) (.mv (.tm 6)) none), []), ((.mk (.some 43) (.mv (.tm 0)) none), []), ((.mk (.some 44) (.nilck (.tm 43)) none), []), ((.mk (.some 45) (.fa 1 (.tm 44)) none), []), ((.mk (.some 46) (.ld 1 false (.tm 45)) none), []), ((.mk (.some 47) (.mv (.tm 4)) none), []), ((.mk (.some 48) (.bin .add (.tm 47) (.cs (.int .i64 1))) none), []), ((.mk (.some 49) (.slcL 1 (.tm 46) (.some (.tm 48)) none) none), []), ((.mk (.some 50) (.call 43 [(.tm 49)]) none), []), ((.mk (.some 51) (.nilck (.tm 42)) none), []), ((.mk (.some 52) (.fa 1 (.tm 51)) none), []), ((.mk none (.st 1 (.tm 52) (.tm 50)) none), [])]) (.reg [((.mk (.some 53) (.mv (.tm 0)) none), []), ((.mk (.some 54) (.mv (.tm 0)) none), []), ((.mk (.some 55) (.nilck (.tm 54)) none), []), ((.mk (.some 56) (.fa 1 (.tm 55)) none), []), ((.mk (.some 57) (.ld 1 false (.tm 56)) none), []), ((.mk (.some 58) (.mv (.tm 4)) none), []), ((.mk (.some 59) (.bin .add (.tm 58) (.cs (.int .i64 1))) none), []), ((.mk (.some 60) (.slcL 1 (.tm 57) none (.some (.tm 59))) none), []), ((.mk (.some 61) (.nilck (.tm 53)) none), []), ((.mk (.some 62) (.fa 1 (.tm 61)) none), []), ((.mk none (.st 1 (.tm 62) (.tm 60)) none), [])])) .skip)) (.seq (.reg [((.mk (.some 63) (.mv (.tm 0)) none), []), ((.mk (.some 64) (.mv (.tm 0)) none), []), ((.mk (.some 65) (.nilck (.tm 64)) none), []), ((.mk (.some 66) (.fa 0 (.tm 65)) none), []), ((.mk (.some 67) (.ld 1 false (.tm 66)) none), []), ((.mk (.some 68) (.mv (.tm 4)) none), []), ((.mk (.some 69) (.slcL 1 (.tm 67) none (.some (.tm 68))) none), []), ((.mk (.some 70) (.nilck (.tm 63)) none), []), ((.mk (.some 71) (.fa 0 (.tm 70)) none), []), ((.mk none (.st 1 (.tm 71) (.tm 69)) none), [])]) (.seq (.reg [((.mk (.some 72) (.mv (.tm 5)) none), []), ((.mk (.some 73) (.mv (.tm 6)) none), []), ((.mk (.some 2) (.mv (.tm 72)) none), []), ((.mk (.some 3) (.mv (.tm 73)) none), [])]) .ret)))))))) [(.tmp 2), (.tmp 3)])
theorem c38 : compF Go.Proofs.Try.prog Go.Proofs.Try.f38 = some F38 := by kernel_rfl
theorem t38 {args : List AV} {h : Hp} {post : AV → Hp → Prop} (hn : args.length ≤ F38.n) (hh : run Try.prog F38.code [] (initE args) h ⟨fun e h' => resK F38.res e h' post, fun e h' => resK F38.res e h' post, fun _ _ _ => False⟩) : Triple Try.prog 38 args h post := triple_of mixed Try.func38 c38 hn hh

/-- "slices.Insert[[]*horologe/index.node,*horologe/index.node]" -/
def F39 : AFun := (.mk 95 (.seq (.reg [((.mk (.some 6) (.mv (.cs .nils)) none), [])]) (.seq (.reg [((.mk (.some 10) (.mv (.tm 0)) none), []), ((.mk (.some 11) (.mv (.tm 1)) none), []), ((.mk (.some 12) (.slcL 1 (.tm 10) (.some (.tm 11)) none) none), [])]) (.seq (.reg [((.mk (.some 13) (.mv (.tm 2)) none), []), ((.mk (.some 14) (.lenL (.tm 13)) none), []), ((.mk (.some 7) (.mv (.tm 14)) none), [])]) (.seq (.seq (.reg [((.mk (.some 15) (.mv (.tm 7)) none), []), ((.mk (.some 16) (.bin .eql (.tm 15) (.cs (.int .i64 0))) none), [])]) (.cond (.tm 16) (.seq (.reg [((.mk (.some 17) (.mv (.tm 0)) none), []), ((.mk (.some 6) (.mv (.tm 17)) none), [])]) .ret) .skip)) (.seq (.reg [((.mk (.some 18) (.mv (.tm 0)) none), []), ((.mk (.some 19) (.lenL (.tm 18)) none), []), ((.mk (.some 8) (.mv (.tm 19)) none), [])]) (.seq (.seq (.reg [((.mk (.some 20) (.mv (.tm 1)) none), []), ((.mk (.some 21) (.mv (.tm 8)) none), []), ((.mk (.some 22) (.bin .eql (.tm 20) (.tm 21)) none), [])]) (.cond (.tm 22) (.seq (.reg [((.mk (.some 23) (.mv (.tm 0)) none), []), ((.mk (.some 24) (.mv (.tm 2)) none), []), ((.mk (.some 25) (.app 1 8 (.tm 23) (.tm 24)) none), []), ((.mk (.some 6) (.mv (.tm 25)) none), [])]) .ret) .skip)) (.seq (.seq (.reg [((.mk (.some 26) (.mv (.tm 8)) none), []), ((.mk (.some 27) (.mv (.tm 7)) none), []), ((.mk (.some 28) (.bin .add (.tm 26) (.tm 27)) none), []), ((.mk (.some 29) (.mv (.tm 0)) none), []), ((.mk (.some 30) (.capL (.tm 29)) none), []), ((.mk (.some 31) (.bin .gtr (.tm 28) (.tm 30)) none), [])]) (.cond (.tm 31) (.seq (.reg [((.mk (.some 32) (.mv (.tm 0)) none), []), ((.mk (.some 33) (.mv (.tm 1)) none), []), ((.mk (.some 34) (.slcL 1 (.tm 32) none (.some (.tm 33))) none), []), ((.mk (.some 35) (.mv (.tm 8)) none), []), ((.mk (.some 36) (.mv (.tm 7)) none), []), ((.mk (.some 37) (.bin .add (.tm 35) (.tm 36)) none), []), ((.mk (.some 38) (.mv (.tm 1)) none), []), ((.mk (.some 39) (.bin .sub (.tm 37) (.tm 38)) none), []), ((.mk (.some 40) (.appz 1 8 [.nilp] (.tm 34) (.tm 39)) none), []), ((.mk (.some 9) (.mv (.tm 40)) none), [])]) (.seq (.reg [((.mk (.some 41) (.mv (.tm 9)) none), []), ((.mk (.some 42) (.mv (.tm 1)) none), []), ((.mk (.some 43) (.slcL 1 (.tm 41) (.some (.tm 42)) none) none), []), ((.mk (.some 44) (.mv (.tm 2)) none), []), ((.mk (.some 45) (.cp 1 (.tm 43) (.tm 44)) none), [])]) (.seq (.reg [((.mk (.some 46) (.mv (.tm 9)) none), []), ((.mk (.some 47) (.mv (.tm 1)) none), []), ((.mk (.some 48) (.mv (.tm 7)) none), []), ((.mk (.some 49) (.bin .add (.tm 47) (.tm 48)) none), []), ((.mk (.some 50) (.slcL 1 (.tm 46) (.some (.tm 49)) none) none), []), ((.mk (.some 51) (.mv (.tm 0)) none), []), ((.mk (.some 52) (.mv (.tm 1)) none), []), ((.mk (.some 53) (.slcL 1 (.tm 51) (.some (.tm 52)) none) none), []), ((.mk (.some 54) (.cp 1 (.tm 50) (.tm 53)) none), [])]) (.seq (.reg [((.mk (.some 55) (.mv (.tm 9)) none), []), ((.mk (.some 6) (.mv (.tm 55)) none), [])]) .ret)))) .skip)) (.seq (.reg [((.mk (.some 56) (.mv (.tm 0)) none), []), ((.mk (.some 57) (.mv (.tm 8)) none), []), ((.mk (.some 58) (.mv (.tm 7)) none), []), ((.mk (.some 59) (.bin .add (.tm 57) (.tm 58)) none), []), ((.mk (.some 60) (.slcL 1 (.tm 56) none (.some (.tm 59))) none), []), ((.mk (.some 0) (.mv (.tm 60)) none), [])]) (.seq (.seq (.reg [((.mk (.some 61) (.mv (.tm 2)) none), []), ((.mk (.some 62) (.mv (.tm 0)) none), []), ((.mk (.some 63) (.mv (.tm 1)) none), []), ((.mk (.some 64) (.mv (.tm 7)) none), []), ((.mk (.some 65) (.bin .add (.tm 63) (.tm 64)) none), []), ((.mk (.some 66) (.slcL 1 (.tm 62) (.some (.tm 65)) none) none), []), ((.mk (.some 67) (.ovl 1 (.tm 61) (.tm 66)) none), []), ((.mk (.some 68) (.un .not (.tm 67)) none), [])]) (.cond (.tm 68) (.seq (.reg [((.mk (.some 69) (.mv (.tm 0)) none), []), ((.mk (.some 70) (.mv (.tm 1)) none), []), ((.mk (.some 71) (.mv (.tm 7)) none), []), ((.mk (.some 72) (.bin .add (.tm 70) (.tm 71)) none), []), ((.mk (.some 73) (.slcL 1 (.tm 69) (.some (.tm 72)) none) none), []), ((.mk (.some 74) (.mv (.tm 0)) none), []), ((.mk (.some 75) (.mv (.tm 1)) none), []), ((.mk (.some 76) (.slcL 1 (.tm 74) (.some (.tm 75)) none) none), []), ((.mk (.some 77) (.cp 1 (.tm 73) (.tm 76)) none), [])]) (.seq (.reg [((.mk (.some 78) (.mv (.tm 0)) none), []), ((.mk (.some 79) (.mv (.tm 1)) none), []), ((.mk (.some 80) (.slcL 1 (.tm 78) (.some (.tm 79)) none) none), []), ((.mk (.some 81) (.mv (.tm 2)) none), []), ((.mk (.some 82) (.cp 1 (.tm 80) (.tm 81)) none), [])]) (.seq (.reg [((.mk (.some 83) (.mv (.tm 0)) none), []), ((.mk (.some 6) (.mv (.tm 83)) none), [])]) .ret))) .skip)) (.seq (.reg [((.mk (.some 84) (.mv (.tm 0)) none), []), ((.mk (.some 85) (.mv (.tm 8)) none), []), ((.mk (.some 86) (.slcL 1 (.tm 84) (.some (.tm 85)) none) none), []), ((.mk (.some 87) (.mv (.tm 2)) none), []), ((.mk (.some 88) (.cp 1 (.tm 86) (.tm 87)) none), [])]) (.seq (.reg [((.mk (.some 89) (.mv (.tm 0)) none), []), ((.mk (.some 90) (.mv (.tm 1)) none), []), ((.mk (.some 91) (.slcL 1 (.tm 89) (.some (.tm 90)) none) none), []), ((.mk (.some 92) (.mv (.tm 7)) none), []), ((.mk (.some 93) (.call 45 [(.tm 91), (.tm 92)]) none), [])]) (.seq (.reg [((.mk (.some 94) (.mv (.tm 0)) none), []), ((.mk (.some 6) (.mv (.tm 94)) none), [])]) .ret)))))))))))) [(.tmp 6)])
theorem c39 : compF Go.Proofs.Try.prog Go.Proofs.Try.f39 = some F39 := by kernel_rfl
theorem t39 {args : List AV} {h : Hp} {post : AV → Hp → Prop} (hn : args.length ≤ F39.n) (hh : run Try.prog F39.code [] (initE args) h ⟨fun e h' => resK F39.res e h' post, fun e h' => resK F39.res e h' post, fun _ _ _ => False⟩) : Triple Try.prog 39 args h post := triple_of mixed Try.func39 c39 hn hh

/-- "slices.rotateRight[*horologe/index.item]" -/
def F41 : AFun := (.mk 10 (.reg [((.mk (.some 4) (.mv (.tm 0)) none), []), ((.mk (.some 5) (.mv (.tm 0)) none), []), ((.mk (.some 6) (.lenL (.tm 5)) none), []), ((.mk (.some 7) (.mv (.tm 1)) none), []), ((.mk (.some 8) (.bin .sub (.tm 6) (.tm 7)) none), []), ((.mk (.some 9) (.call 46 [(.tm 4), (.tm 8)]) none), [])]) [])
theorem c41 : compF Go.Proofs.Try.prog Go.Proofs.Try.f41 = some F41 := by kernel_rfl
theorem t41 {args : List AV} {h : Hp} {post : AV → Hp → Prop} (hn : args.length ≤ F41.n) (hh : run Try.prog F41.code [] (initE args) h ⟨fun e h' => resK F41.res e h' post, fun e h' => resK F41.res e h' post, fun _ _ _ => False⟩) : Triple Try.prog 41 args h post := triple_of mixed Try.func41 c41 hn hh

/-- "slices.Clone[[]*horologe/index.item,*horologe/index.item]" -/
def F42 : AFun := (.mk 8 (.seq (.reg [((.mk (.some 2) (.mv (.cs .nils)) none), [])]) (.seq (.seq (.reg [((.mk (.some 3) (.mv (.tm 0)) none), []), ((.mk (.some 4) (.eqn .sl false (.tm 3) (.cs .nils)) none), [])]) (.cond (.tm 4) (.seq (.reg [((.mk (.some 2) (.mv (.cs .nils)) none), [])]) .ret) .skip)) (.seq (.reg [((.mk (.some 5) (.bsl [.nilp] 0 []) none), []), ((.mk (.some 6) (.mv (.tm 0)) none), []), ((.mk (.some 7) (.app 1 8 (.tm 5) (.tm 6)) none), []), ((.mk (.some 2) (.mv (.tm 7)) none), [])]) .ret))) [(.tmp 2)])
theorem c42 : compF Go.Proofs.Try.prog Go.Proofs.Try.f42 = some F42 := by kernel_rfl
theorem t42 {args : List AV} {h : Hp} {post : AV → Hp → Prop} (hn : args.length ≤ F42.n) (hh : run Try.prog F42.code [] (initE args) h ⟨fun e h' => resK F42.res e h' post, fun e h' => resK F42.res e h' post, fun _ _ _ => False⟩) : Triple Try.prog 42 args h post := triple_of mixed Try.func42 c42 hn hh

/-- "slices.Clone[[]*horologe/index.node,*horologe/index.node]" -/
def F43 : AFun := (.mk 8 (.seq (.reg [((.mk (.some 2) (.mv (.cs .nils)) none), [])]) (.seq (.seq (.reg [((.mk (.some 3) (.mv (.tm 0)) none), []), ((.mk (.some 4) (.eqn .sl false (.tm 3) (.cs .nils)) none), [])]) (.cond (.tm 4) (.seq (.reg [((.mk (.some 2) (.mv (.cs .nils)) none), [])]) .ret) .skip)) (.seq (.reg [((.mk (.some 5) (.bsl [.nilp] 0 []) none), []), ((.mk (.some 6) (.mv (.tm 0)) none), []), ((.mk (.some 7) (.app 1 8 (.tm 5) (.tm 6)) none), []), ((.mk (.some 2) (.mv (.tm 7)) none), [])]) .ret))) [(.tmp 2)])
theorem c43 : compF Go.Proofs.Try.prog Go.Proofs.Try.f43 = some F43 := by kernel_rfl
theorem t43 {args : List AV} {h : Hp} {post : AV → Hp → Prop} (hn : args.length ≤ F43.n) (hh : run Try.prog F43.code [] (initE args) h ⟨fun e h' => resK F43.res e h' post, fun e h' => resK F43.res e h' post, fun _ _ _ => False⟩) : Triple Try.prog 43 args h post := triple_of mixed Try.func43 c43 hn hh

/-- "slices.rotateRight[*horologe/index.node]" -/
def F45 : AFun := (.mk 10 (.reg [((.mk (.some 4) (.mv (.tm 0)) none), []), ((.mk (.some 5) (.mv (.tm 0)) none), []), ((.mk (.some 6) (.lenL (.tm 5)) none), []), ((.mk (.some 7) (.mv (.tm 1)) none), []), ((.mk (.some 8) (.bin .sub (.tm 6) (.tm 7)) none), []), ((.mk (.some 9) (.call 47 [(.tm 4), (.tm 8)]) none), [])]) [])
theorem c45 : compF Go.Proofs.Try.prog Go.Proofs.Try.f45 = some F45 := by kernel_rfl
theorem t45 {args : List AV} {h : Hp} {post : AV → Hp → Prop} (hn : args.length ≤ F45.n) (hh : run Try.prog F45.code [] (initE args) h ⟨fun e h' => resK F45.res e h' post, fun e h' => resK F45.res e h' post, fun _ _ _ => False⟩) : Triple Try.prog 45 args h post := triple_of mixed Try.func45 c45 hn hh

/-- "slices.rotateLeft[*horologe/index.item]" -/
def F46 : AFun := (.mk 14 (.seq (.reg [((.mk (.some 4) (.mv (.tm 0)) none), []), ((.mk (.some 5) (.mv (.tm 1)) none), []), ((.mk (.some 6) (.slcL 1 (.tm 4) none (.some (.tm 5))) none), []), ((.mk (.some 7) (.call 48 [(.tm 6)]) none), [])]) (.seq (.reg [((.mk (.some 8) (.mv (.tm 0)) none), []), ((.mk (.some 9) (.mv (.tm 1)) none), []), ((.mk (.some 10) (.slcL 1 (.tm 8) (.some (.tm 9)) none) none), []), ((.mk (.some 11) (.call 48 [(.tm 10)]) none), [])]) (.reg [((.mk (.some 12) (.mv (.tm 0)) none), []), ((.mk (.some 13) (.call 48 [(.tm 12)]) none), [])]))) [])
theorem c46 : compF Go.Proofs.Try.prog Go.Proofs.Try.f46 = some F46 := by kernel_rfl
theorem t46 {args : List AV} {h : Hp} {post : AV → Hp → Prop} (hn : args.length ≤ F46.n) (hh : run Try.prog F46.code [] (initE args) h ⟨fun e h' => resK F46.res e h' post, fun e h' => resK F46.res e h' post, fun _ _ _ => False⟩) : Triple Try.prog 46 args h post := triple_of mixed Try.func46 c46 hn hh

/-- "slices.rotateLeft[*horologe/index.node]" -/
def F47 : AFun := (.mk 14 (.seq (.reg [((.mk (.some 4) (.mv (.tm 0)) none), []), ((.mk (.some 5) (.mv (.tm 1)) none), []), ((.mk (.some 6) (.slcL 1 (.tm 4) none (.some (.tm 5))) none), []), ((.mk (.some 7) (.call 49 [(.tm 6)]) none), [])]) (.seq (.reg [((.mk (.some 8) (.mv (.tm 0)) none), []), ((.mk (.some 9) (.mv (.tm 1)) none), []), ((.mk (.some 10) (.slcL 1 (.tm 8) (.some (.tm 9)) none) none), []), ((.mk (.some 11) (.call 49 [(.tm 10)]) none), [])]) (.reg [((.mk (.some 12) (.mv (.tm 0)) none), []), ((.mk (.some 13) (.call 49 [(.tm 12)]) none), [])]))) [])
theorem c47 : compF Go.Proofs.Try.prog Go.Proofs.Try.f47 = some F47 := by kernel_rfl
theorem t47 {args : List AV} {h : Hp} {post : AV → Hp → Prop} (hn : args.length ≤ F47.n) (hh : run Try.prog F47.code [] (initE args) h ⟨fun e h' => resK F47.res e h' post, fun e h' => resK F47.res e h' post, fun _ _ _ => False⟩) : Triple Try.prog 47 args h post := triple_of mixed Try.func47 c47 hn hh

/-- "slices.Reverse[[]*horologe/index.item,*horologe/index.item]" -/
def F48 : AFun := (.mk 28 (.seq (.reg [((.mk (.some 4) (.mv (.tm 0)) none), []), ((.mk (.some 5) (.lenL (.tm 4)) none), []), ((.mk (.some 6) (.bin .sub (.tm 5) (.cs (.int .i64 1))) none), []), ((.mk (.some 2) (.mv (.cs (.int .i64 0))) none), []), ((.mk (.some 3) (.mv (.tm 6)) none), [])]) (.block 0 (.loop (.seq (.seq (.reg [((.mk (.some 7) (.mv (.tm 2)) none), []), ((.mk (.some 8) (.mv (.tm 3)) none), []), ((.mk (.some 9) (.bin .lss (.tm 7) (.tm 8)) none), [])]) (.cond (.tm 9) .skip (.exit 0))) (.seq (.block 1 (.reg [((.mk (.some 14) (.mv (.tm 0)) none), []), ((.mk (.some 15) (.mv (.tm 2)) none), []), ((.mk (.some 16) (.mv (.tm 0)) none), []), ((.mk (.some 17) (.mv (.tm 3)) none), []), ((.mk (.some 18) (.mv (.tm 0)) none), []), ((.mk (.some 19) (.mv (.tm 3)) none), []), ((.mk (.some 20) (.ia 1 (.tm 18) (.tm 19)) none), []), ((.mk (.some 21) (.ld 1 false (.tm 20)) none), []), ((.mk (.some 22) (.mv (.tm 0)) none), []), ((.mk (.some 23) (.mv (.tm 2)) none), []), ((.mk (.some 24) (.ia 1 (.tm 22) (.tm 23)) none), []), ((.mk (.some 25) (.ld 1 false (.tm 24)) none), []), ((.mk (.some 26) (.ia 1 (.tm 14) (.tm 15)) none), []), ((.mk none (.st 1 (.tm 26) (.tm 21)) none), []), ((.mk (.some 27) (.ia 1 (.tm 16) (.tm 17)) none), []), ((.mk none (.st 1 (.tm 27) (.tm 25)) none), [])])) (.reg [((.mk (.some 10) (.mv (.tm 2)) none), []), ((.mk (.some 11) (.bin .add (.tm 10) (.cs (.int .i64 1))) none), []), ((.mk (.some 12) (.mv (.tm 3)) none), []), ((.mk (.some 13) (.bin .sub (.tm 12) (.cs (.int .i64 1))) none), []), ((.mk (.some 2) (.mv (.tm 11)) none), []), ((.mk (.some 3) (.mv (.tm 13)) none), [])])))))) [])
theorem c48 : compF Go.Proofs.Try.prog Go.Proofs.Try.f48 = some F48 := by kernel_rfl
theorem t48 {args : List AV} {h : Hp} {post : AV → Hp → Prop} (hn : args.length ≤ F48.n) (hh : run Try.prog F48.code [] (initE args) h ⟨fun e h' => resK F48.res e h' post, fun e h' => resK F48.res e h' post, fun _ _ _ => False⟩) : Triple Try.prog 48 args h post := triple_of mixed Try.func48 c48 hn hh

/-- "slices.Reverse[[]*horologe/index.node,*horologe/index.node]" -/
def F49 : AFun := (.mk 28 (.seq (.reg [((.mk (.some 4) (.mv (.tm 0)) none), []), ((.mk (.some 5) (.lenL (.tm 4)) none), []), ((.mk (.some 6) (.bin .sub (.tm 5) (.cs (.int .i64 1))) none), []), ((.mk (.some 2) (.mv (.cs (.int .i64 0))) none), []), ((.mk (.some 3) (.mv (.tm 6)) none), [])]) (.block 0 (.loop (.seq (.seq (.reg [((.mk (.some 7) (.mv (.tm 2)) none), []), ((.mk (.some 8) (.mv (.tm 3)) none), []), ((.mk (.some 9) (.bin .lss (.tm 7) (.tm 8)) none), [])]) (.cond (.tm 9) .skip (.exit 0))) (.seq (.block 1 (.reg [((.mk (.some 14) (.mv (.tm 0)) none), []), ((.mk (.some 15) (.mv (.tm 2)) none), []), ((.mk (.some 16) (.mv (.tm 0)) none), []), ((.mk (.some 17) (.mv (.tm 3)) none), []), ((.mk (.some 18) (.mv (.tm 0)) none), []), ((.mk (.some 19) (.mv (.tm 3)) none), []), ((.mk (.some 20) (.ia 1 (.tm 18) (.tm 19)) none), []), ((.mk (.some 21) (.ld 1 false (.tm 20)) none), []), ((.mk (.some 22) (.mv (.tm 0)) none), []), ((.mk (.some 23) (.mv (.tm 2)) none), []), ((.mk (.some 24) (.ia 1 (.tm 22) (.tm 23)) none), []), ((.mk (.some 25) (.ld 1 false (.tm 24)) none), []), ((.mk (.some 26) (.ia 1 (.tm 14) (.tm 15)) none), []), ((.mk none (.st 1 (.tm 26) (.tm 21)) none), []), ((.mk (.some 27) (.ia 1 (.tm 16) (.tm 17)) none), []), ((.mk none (.st 1 (.tm 27) (.tm 25)) none), [])])) (.reg [((.mk (.some 10) (.mv (.tm 2)) none), []), ((.mk (.some 11) (.bin .add (.tm 10) (.cs (.int .i64 1))) none), []), ((.mk (.some 12) (.mv (.tm 3)) none), []), ((.mk (.some 13) (.bin .sub (.tm 12) (.cs (.int .i64 1))) none), []), ((.mk (.some 2) (.mv (.tm 11)) none), []), ((.mk (.some 3) (.mv (.tm 13)) none), [])])))))) [])
theorem c49 : compF Go.Proofs.Try.prog Go.Proofs.Try.f49 = some F49 := by kernel_rfl
theorem t49 {args : List AV} {h : Hp} {post : AV → Hp → Prop} (hn : args.length ≤ F49.n) (hh : run Try.prog F49.code [] (initE args) h ⟨fun e h' => resK F49.res e h' post, fun e h' => resK F49.res e h' post, fun _ _ _ => False⟩) : Triple Try.prog 49 args h post := triple_of mixed Try.func49 c49 hn hh


end Go.Proofs.Ytnojalihnajkbaa
/- sort.Search; what slices does with pointers: Reverse, rotateRight, Insert, Clone. -/
set_option linter.unusedSimpArgs false
set_option linter.unusedVariables false
set_option maxRecDepth 10000
namespace Go.Proofs.Ytnojalihnajkbaa
open Go.Hz

section
variable {h : Hp} {F : List Asr}

theorem half {i j : Nat} (h1 : i + j ≤ 4611686018427387904) : IntKind.i64.wrap ((IntKind.u64.wrap ((i : Int) + (j : Int))).fdiv (2 ^ min 1 64)) = (((i + j) / 2 : Nat) : Int) := by
  have e1 : IntKind.u64.wrap ((i : Int) + (j : Int)) = ((i + j : Nat) : Int) := by
    simp only [IntKind.wrap, IntKind.signed, IntKind.bits]
    simp
    omega
  rw [e1]
  have e2 : (((i + j : Nat) : Int)).fdiv (2 ^ min 1 64) = (((i + j) / 2 : Nat) : Int) := by
    simp [Int.fdiv_eq_ediv]
  rw [e2]
  exact wrap_i64_go (by omega) (by omega)

theorem search {N f : Nat} {caps : List AV} {pr : Nat → Bool} (hs : sat h F) (hN : N ≤ 1000000000000) (hf : okFn Try.prog f = true) (hm : ∀ i j, i ≤ j → j < N → pr i = true → pr j = true)
    (hc : ∀ i h, i < N → sat h F → Triple Try.prog f (.int .i64 i :: caps) h (fun r h => r = .bool (pr i) ∧ sat h F)) :
    Triple Try.prog 33 [.int .i64 N, .fn f caps] h (fun r h => ∃ k : Nat, r = .int .i64 k ∧ k ≤ N ∧ (∀ i, i < k → pr i = false) ∧ (∀ i, k ≤ i → i < N → pr i = true) ∧ sat h F) := by
  refine t33 (Nat.le_of_ble_eq_true rfl) ?_
  simp (disch := omega) only [F33, go_sem, reduceCtorEq, ↓reduceIte, Nat.reduceEqDiff, Nat.reduceAdd, Nat.reduceSub, Nat.reduceMul, Nat.reduceLT, Nat.reduceLeDiff, Int.reduceEq, Int.reduceNe, Int.reduceLT, Int.reduceLE, Int.reduceBEq, Int.reduceBNe, Int.reduceToNat]
  refine run_loopN (fun n e h => ∃ i j : Nat, n = j - i ∧ i ≤ j ∧ j ≤ N ∧ (∀ a, a < i → pr a = false) ∧ (∀ a, j ≤ a → a < N → pr a = true) ∧ sat h F ∧ (e 1 = .fn f caps ∧ e 5 = .int .i64 i ∧ e 6 = .int .i64 j)) N
    ⟨0, N, rfl, Nat.zero_le _, Nat.le_refl _, fun a ha => by omega, fun a h1 h2 => by omega, hs, rfl, rfl, rfl⟩ ?_
  rintro n e h ⟨i, j, rfl, hij, hjN, h1, h2, hs, he⟩
  simp (disch := omega) only [go_sem, reduceCtorEq, ↓reduceIte, Nat.reduceEqDiff, Nat.reduceAdd, Nat.reduceSub, Nat.reduceMul, Nat.reduceLT, Nat.reduceLeDiff, Int.reduceEq, Int.reduceNe, Int.reduceLT, Int.reduceLE, Int.reduceBEq, Int.reduceBNe, Int.reduceToNat, he]
  refine cnd_dec (fun hlt => ?_) (fun hge => ?_)
  · have hlt : i < j := by omega
    simp (disch := omega) only [go_sem, reduceCtorEq, ↓reduceIte, Nat.reduceEqDiff, Nat.reduceAdd, Nat.reduceSub, Nat.reduceMul, Nat.reduceLT, Nat.reduceLeDiff, Int.reduceEq, Int.reduceNe, Int.reduceLT, Int.reduceLE, Int.reduceBEq, Int.reduceBNe, Int.reduceToNat, he]
    rw [half (by omega)]
    refine callv_use hf (hc ((i + j) / 2) _ (by omega) hs) ?_
    rintro r h ⟨hr, hs⟩
    subst hr
    simp (disch := omega) only [go_sem, reduceCtorEq, ↓reduceIte, Nat.reduceEqDiff, Nat.reduceAdd, Nat.reduceSub, Nat.reduceMul, Nat.reduceLT, Nat.reduceLeDiff, Int.reduceEq, Int.reduceNe, Int.reduceLT, Int.reduceLE, Int.reduceBEq, Int.reduceBNe, Int.reduceToNat, he]
    cases hp : pr ((i + j) / 2)
    · simp (disch := omega) only [go_sem, reduceCtorEq, ↓reduceIte, Nat.reduceEqDiff, Nat.reduceAdd, Nat.reduceSub, Nat.reduceMul, Nat.reduceLT, Nat.reduceLeDiff, Int.reduceEq, Int.reduceNe, Int.reduceLT, Int.reduceLE, Int.reduceBEq, Int.reduceBNe, Int.reduceToNat, he]
      refine ⟨j - ((i + j) / 2 + 1), by omega, (i + j) / 2 + 1, j, rfl, by omega, hjN, fun a ha => ?_, h2, hs, rfl, rfl⟩
      cases hpa : pr a with
      | false => rfl
      | true => rw [hm a ((i + j) / 2) (by omega) (by omega) hpa] at hp; cases hp
    · simp (disch := omega) only [go_sem, reduceCtorEq, ↓reduceIte, Nat.reduceEqDiff, Nat.reduceAdd, Nat.reduceSub, Nat.reduceMul, Nat.reduceLT, Nat.reduceLeDiff, Int.reduceEq, Int.reduceNe, Int.reduceLT, Int.reduceLE, Int.reduceBEq, Int.reduceBNe, Int.reduceToNat, he]
      exact ⟨(i + j) / 2 - i, by omega, i, (i + j) / 2, rfl, by omega, by omega, h1, fun a ha hb => hm _ a ha hb hp, hs, rfl, rfl⟩
  · have : j = i := by omega
    subst this
    simp (disch := omega) only [go_sem, reduceCtorEq, ↓reduceIte, Nat.reduceEqDiff, Nat.reduceAdd, Nat.reduceSub, Nat.reduceMul, Nat.reduceLT, Nat.reduceLeDiff, Int.reduceEq, Int.reduceNe, Int.reduceLT, Int.reduceLE, Int.reduceBEq, Int.reduceBNe, Int.reduceToNat, he]
    exact ⟨j, rfl, hjN, h1, h2, hs⟩

theorem pt_get {ps : List Nat} {k p : Nat} (h : ps[k]? = some p) : (ps.map pt)[k]? = some [.ptr p 2 0 0] := by simp [h, pt]
theorem pt_set {ps : List Nat} {k p : Nat} : (ps.map pt).set k [.ptr p 2 0 0] = (ps.set k p).map pt := by simp [List.map_set, pt]
theorem atoms_pt (l : List Nat) : AtomsL (l.map pt) := by
  intro e he v hv
  obtain ⟨k, _, rfl⟩ := List.mem_map.1 he
  simp only [pt, List.mem_cons, List.not_mem_nil, or_false] at hv
  subst hv; rfl

theorem reverse_item {b off len cap rc : Nat} {ps : List Nat} (hs : sat h (pto b (.row 1 (ps.map pt) rc) :: F)) (h1 : off + len ≤ ps.length) (h2 : ps.length ≤ 1000000) :
    Triple Try.prog 48 [.arr b 1 off len cap] h (fun r h => ∃ qs : List Nat, qs.length = ps.length ∧ (∀ k : Nat, qs[k]? = if off ≤ k ∧ k < off + len then ps[2 * off + len - 1 - k]? else ps[k]?) ∧ sat h (pto b (.row 1 (qs.map pt) rc) :: F)) := by
  refine t48 (Nat.le_of_ble_eq_true rfl) ?_
  simp (disch := omega) only [F48, go_sem, reduceCtorEq, ↓reduceIte, Nat.reduceEqDiff, Nat.reduceAdd, Nat.reduceSub, Nat.reduceMul, Nat.reduceLT, Nat.reduceLeDiff, Int.reduceEq, Int.reduceNe, Int.reduceLT, Int.reduceLE, Int.reduceBEq, Int.reduceBNe, Int.reduceToNat]
  refine run_up (N := len) (fun i e h => ∃ qs : List Nat, qs.length = ps.length ∧ (2 * i ≤ len + 1) ∧ (∀ k : Nat, qs[k]? = if off ≤ k ∧ k < off + i ∨ off + len ≤ k + i ∧ k < off + len then ps[2 * off + len - 1 - k]? else ps[k]?) ∧ sat h (pto b (.row 1 (qs.map pt) rc) :: F) ∧
    (e 0 = .arr b 1 off len cap ∧ e 2 = .int .i64 i ∧ e 3 = .int .i64 ((len : Int) - 1 - i))) ⟨ps, rfl, by omega, fun k => by rw [if_neg (by omega)], hs, rfl, rfl, by show AV.int .i64 ((len : Int) - 1) = _; simp⟩ ?_
  rintro i e h hi ⟨qs, hl, hi2, hq, hs, he⟩
  simp (disch := omega) only [go_sem, reduceCtorEq, ↓reduceIte, Nat.reduceEqDiff, Nat.reduceAdd, Nat.reduceSub, Nat.reduceMul, Nat.reduceLT, Nat.reduceLeDiff, Int.reduceEq, Int.reduceNe, Int.reduceLT, Int.reduceLE, Int.reduceBEq, Int.reduceBNe, Int.reduceToNat, he]
  refine cnd_dec (fun hlt => ?_) (fun hge => ?_)
  · have hj : ((len : Int) - 1 - i).toNat = len - 1 - i := by omega
    obtain ⟨x, hx⟩ : ∃ x, qs[off + (len - 1 - i)]? = some x := ⟨_, List.getElem?_eq_getElem (by omega)⟩
    obtain ⟨y, hy⟩ : ∃ y, qs[off + i]? = some y := ⟨_, List.getElem?_eq_getElem (by omega)⟩
    have hx' := pt_get hx
    have hy' := pt_get hy
    have hz : ((qs.map pt).set (off + i) [.ptr x 2 0 0])[off + (len - 1 - i)]? = some [.ptr x 2 0 0] := by
      rw [List.getElem?_set, if_neg (by omega)]; exact hx'
    have hy2 : (List.set (qs.map pt) (off + i) [.ptr x 2 0 0])[off + (len - 1 - i)]? = some [.ptr x 2 0 0] := hz
    simp (disch := omega) only [go_sem, reduceCtorEq, ↓reduceIte, Nat.reduceEqDiff, Nat.reduceAdd, Nat.reduceSub, Nat.reduceMul, Nat.reduceLT, Nat.reduceLeDiff, Int.reduceEq, Int.reduceNe, Int.reduceLT, Int.reduceLE, Int.reduceBEq, Int.reduceBNe, Int.reduceToNat, he, hj, hs.at, hx', hy', hy2, hz]
    refine ⟨by omega, (qs.set (off + i) x).set (off + (len - 1 - i)) y, by simpa using hl, by omega, fun k => ?_, ?_, rfl, ?_⟩
    · rw [List.getElem?_set, List.getElem?_set]
      have hx2 := hq (off + (len - 1 - i))
      have hy3 := hq (off + i)
      rw [if_neg (by omega)] at hx2 hy3
      simp only [List.length_set]
      by_cases e1 : off + (len - 1 - i) = k
      · subst e1
        rw [if_pos rfl, if_pos (by omega), if_pos (by omega), ← hy, hy3]
        congr 1; omega
      · rw [if_neg e1]
        by_cases e2 : off + i = k
        · subst e2
          rw [if_pos rfl, if_pos (by omega), if_pos (by omega), ← hx, hx2]
          congr 1; omega
        · rw [if_neg e2, hq k]
          by_cases e3 : off ≤ k ∧ k < off + i ∨ off + len ≤ k + i ∧ k < off + len
          · rw [if_pos e3, if_pos (by omega)]
          · rw [if_neg e3, if_neg (by omega)]
    · rw [← pt_set, ← pt_set]
      exact hs.set
    · congr 1; omega
  · simp (disch := omega) only [go_sem, reduceCtorEq, ↓reduceIte, Nat.reduceEqDiff, Nat.reduceAdd, Nat.reduceSub, Nat.reduceMul, Nat.reduceLT, Nat.reduceLeDiff, Int.reduceEq, Int.reduceNe, Int.reduceLT, Int.reduceLE, Int.reduceBEq, Int.reduceBNe, Int.reduceToNat, he]
    refine ⟨qs, hl, fun k => ?_, hs⟩
    rw [hq k]
    by_cases e3 : off ≤ k ∧ k < off + i ∨ off + len ≤ k + i ∧ k < off + len
    · rw [if_pos e3, if_pos (by omega)]
    · rw [if_neg e3]
      by_cases e4 : off ≤ k ∧ k < off + len
      · rw [if_pos e4]; congr 1; omega
      · rw [if_neg e4]

theorem rotate_item {b i n cap rc x : Nat} {ps : List Nat} (hs : sat h (pto b (.row 1 ((ps ++ [x]).map pt) rc) :: F)) (hn : n = ps.length) (hi : i ≤ n) (h2 : n ≤ 100000) (hc : n + 1 - i ≤ cap) :
    Triple Try.prog 41 [.arr b 1 i (n + 1 - i) cap, .int .i64 1] h (fun r h => sat h (pto b (.row 1 ((ps.take i ++ x :: ps.drop i).map pt) rc) :: F)) := by
  subst hn
  refine t41 (Nat.le_of_ble_eq_true rfl) ?_
  simp (disch := omega) only [F41, go_sem, reduceCtorEq, ↓reduceIte, Nat.reduceEqDiff, Nat.reduceAdd, Nat.reduceSub, Nat.reduceMul, Nat.reduceLT, Nat.reduceLeDiff, Int.reduceEq, Int.reduceNe, Int.reduceLT, Int.reduceLE, Int.reduceBEq, Int.reduceBNe, Int.reduceToNat]
  have e1 : ((ps.length + 1 - i : Nat) : Int) - 1 = ((ps.length - i : Nat) : Int) := by omega
  simp (disch := omega) only [go_sem, reduceCtorEq, ↓reduceIte, Nat.reduceEqDiff, Nat.reduceAdd, Nat.reduceSub, Nat.reduceMul, Nat.reduceLT, Nat.reduceLeDiff, Int.reduceEq, Int.reduceNe, Int.reduceLT, Int.reduceLE, Int.reduceBEq, Int.reduceBNe, Int.reduceToNat, e1]
  have key : Triple Try.prog 46 [.arr b 1 i (ps.length + 1 - i) cap, .int .i64 ((ps.length - i : Nat) : Int)] h (fun r h => sat h (pto b (.row 1 ((ps.take i ++ x :: ps.drop i).map pt) rc) :: F)) := by
    refine t46 (Nat.le_of_ble_eq_true rfl) ?_
    simp (disch := omega) only [F46, go_sem, reduceCtorEq, ↓reduceIte, Nat.reduceEqDiff, Nat.reduceAdd, Nat.reduceSub, Nat.reduceMul, Nat.reduceLT, Nat.reduceLeDiff, Int.reduceEq, Int.reduceNe, Int.reduceLT, Int.reduceLE, Int.reduceBEq, Int.reduceBNe, Int.reduceToNat]
    simp (disch := omega) only [go_sem, reduceCtorEq, ↓reduceIte, Nat.reduceEqDiff, Nat.reduceAdd, Nat.reduceSub, Nat.reduceMul, Nat.reduceLT, Nat.reduceLeDiff, Int.reduceEq, Int.reduceNe, Int.reduceLT, Int.reduceLE, Int.reduceBEq, Int.reduceBNe, Int.reduceToNat, slcL_hi]
    refine call_use (reverse_item hs (by simp; omega) (by simp; omega)) ?_
    rintro r h ⟨q1, l1, g1, hs⟩
    simp (disch := omega) only [go_sem, reduceCtorEq, ↓reduceIte, Nat.reduceEqDiff, Nat.reduceAdd, Nat.reduceSub, Nat.reduceMul, Nat.reduceLT, Nat.reduceLeDiff, Int.reduceEq, Int.reduceNe, Int.reduceLT, Int.reduceLE, Int.reduceBEq, Int.reduceBNe, Int.reduceToNat, slcL_lo]
    refine call_use (reverse_item hs (by simp at l1 ⊢; omega) (by simp at l1; omega)) ?_
    rintro r h ⟨q2, l2, g2, hs⟩
    simp (disch := omega) only [go_sem, reduceCtorEq, ↓reduceIte, Nat.reduceEqDiff, Nat.reduceAdd, Nat.reduceSub, Nat.reduceMul, Nat.reduceLT, Nat.reduceLeDiff, Int.reduceEq, Int.reduceNe, Int.reduceLT, Int.reduceLE, Int.reduceBEq, Int.reduceBNe, Int.reduceToNat]
    refine call_use (reverse_item hs (by simp at l1 l2 ⊢; omega) (by simp at l1 l2; omega)) ?_
    rintro r h ⟨q3, l3, g3, hs⟩
    simp (disch := omega) only [go_sem, reduceCtorEq, ↓reduceIte, Nat.reduceEqDiff, Nat.reduceAdd, Nat.reduceSub, Nat.reduceMul, Nat.reduceLT, Nat.reduceLeDiff, Int.reduceEq, Int.reduceNe, Int.reduceLT, Int.reduceLE, Int.reduceBEq, Int.reduceBNe, Int.reduceToNat]
    have : q3 = ps.take i ++ x :: ps.drop i := by
      apply List.ext_getElem?
      intro k
      simp only [List.length_append, List.length_cons, List.length_nil] at l1 l2 l3
      have e0 : ∀ k, k < ps.length → (ps ++ [x])[k]? = ps[k]? := fun k hk => List.getElem?_append_left hk
      rw [g3 k]
      by_cases c1 : k < i
      · rw [if_neg (by omega), g2 k, if_neg (by omega), g1 k, if_neg (by omega), e0 k (by omega), List.getElem?_append_left (by rw [List.length_take]; omega), List.getElem?_take, if_pos c1]
      · have eR : (ps.take i ++ x :: ps.drop i)[k]? = (x :: ps.drop i)[k - i]? := by
          rw [List.getElem?_append_right (by rw [List.length_take]; omega)]
          congr 1
          rw [List.length_take]; omega
        rw [eR]
        by_cases c2 : k = i
        · subst c2
          rw [if_pos (by omega), Nat.sub_self, g2, if_pos (by omega), g1, if_neg (by omega)]
          have : 2 * (k + (ps.length - k)) + (ps.length + 1 - k - (ps.length - k)) - 1 - (2 * k + (ps.length + 1 - k) - 1 - k) = ps.length := by omega
          rw [this]
          simp
        · obtain ⟨k', hk'⟩ : ∃ k', k - i = k' + 1 := ⟨k - i - 1, by omega⟩
          rw [hk', List.getElem?_cons_succ, List.getElem?_drop]
          by_cases c3 : k ≤ ps.length
          · rw [if_pos (by omega), g2, if_neg (by omega), g1, if_pos (by omega), e0 _ (by omega)]
            congr 1; omega
          · rw [if_neg (by omega), g2, if_neg (by omega), g1, if_neg (by omega)]
            rw [List.getElem?_eq_none (by simp; omega), List.getElem?_eq_none (by omega)]
    subst this
    exact hs
  refine call_use (key) ?_
  intro r h hs
  simp (disch := omega) only [go_sem, reduceCtorEq, ↓reduceIte, Nat.reduceEqDiff, Nat.reduceAdd, Nat.reduceSub, Nat.reduceMul, Nat.reduceLT, Nat.reduceLeDiff, Int.reduceEq, Int.reduceNe, Int.reduceLT, Int.reduceLE, Int.reduceBEq, Int.reduceBNe, Int.reduceToNat]
  exact hs
theorem reverse_node {b off len cap rc : Nat} {ps : List Nat} (hs : sat h (pto b (.row 1 (ps.map pt) rc) :: F)) (h1 : off + len ≤ ps.length) (h2 : ps.length ≤ 1000000) :
    Triple Try.prog 49 [.arr b 1 off len cap] h (fun r h => ∃ qs : List Nat, qs.length = ps.length ∧ (∀ k : Nat, qs[k]? = if off ≤ k ∧ k < off + len then ps[2 * off + len - 1 - k]? else ps[k]?) ∧ sat h (pto b (.row 1 (qs.map pt) rc) :: F)) := by
  refine t49 (Nat.le_of_ble_eq_true rfl) ?_
  simp (disch := omega) only [F49, go_sem, reduceCtorEq, ↓reduceIte, Nat.reduceEqDiff, Nat.reduceAdd, Nat.reduceSub, Nat.reduceMul, Nat.reduceLT, Nat.reduceLeDiff, Int.reduceEq, Int.reduceNe, Int.reduceLT, Int.reduceLE, Int.reduceBEq, Int.reduceBNe, Int.reduceToNat]
  refine run_up (N := len) (fun i e h => ∃ qs : List Nat, qs.length = ps.length ∧ (2 * i ≤ len + 1) ∧ (∀ k : Nat, qs[k]? = if off ≤ k ∧ k < off + i ∨ off + len ≤ k + i ∧ k < off + len then ps[2 * off + len - 1 - k]? else ps[k]?) ∧ sat h (pto b (.row 1 (qs.map pt) rc) :: F) ∧
    (e 0 = .arr b 1 off len cap ∧ e 2 = .int .i64 i ∧ e 3 = .int .i64 ((len : Int) - 1 - i))) ⟨ps, rfl, by omega, fun k => by rw [if_neg (by omega)], hs, rfl, rfl, by show AV.int .i64 ((len : Int) - 1) = _; simp⟩ ?_
  rintro i e h hi ⟨qs, hl, hi2, hq, hs, he⟩
  simp (disch := omega) only [go_sem, reduceCtorEq, ↓reduceIte, Nat.reduceEqDiff, Nat.reduceAdd, Nat.reduceSub, Nat.reduceMul, Nat.reduceLT, Nat.reduceLeDiff, Int.reduceEq, Int.reduceNe, Int.reduceLT, Int.reduceLE, Int.reduceBEq, Int.reduceBNe, Int.reduceToNat, he]
  refine cnd_dec (fun hlt => ?_) (fun hge => ?_)
  · have hj : ((len : Int) - 1 - i).toNat = len - 1 - i := by omega
    obtain ⟨x, hx⟩ : ∃ x, qs[off + (len - 1 - i)]? = some x := ⟨_, List.getElem?_eq_getElem (by omega)⟩
    obtain ⟨y, hy⟩ : ∃ y, qs[off + i]? = some y := ⟨_, List.getElem?_eq_getElem (by omega)⟩
    have hx' := pt_get hx
    have hy' := pt_get hy
    have hz : ((qs.map pt).set (off + i) [.ptr x 2 0 0])[off + (len - 1 - i)]? = some [.ptr x 2 0 0] := by
      rw [List.getElem?_set, if_neg (by omega)]; exact hx'
    have hy2 : (List.set (qs.map pt) (off + i) [.ptr x 2 0 0])[off + (len - 1 - i)]? = some [.ptr x 2 0 0] := hz
    simp (disch := omega) only [go_sem, reduceCtorEq, ↓reduceIte, Nat.reduceEqDiff, Nat.reduceAdd, Nat.reduceSub, Nat.reduceMul, Nat.reduceLT, Nat.reduceLeDiff, Int.reduceEq, Int.reduceNe, Int.reduceLT, Int.reduceLE, Int.reduceBEq, Int.reduceBNe, Int.reduceToNat, he, hj, hs.at, hx', hy', hy2, hz]
    refine ⟨by omega, (qs.set (off + i) x).set (off + (len - 1 - i)) y, by simpa using hl, by omega, fun k => ?_, ?_, rfl, ?_⟩
    · rw [List.getElem?_set, List.getElem?_set]
      have hx2 := hq (off + (len - 1 - i))
      have hy3 := hq (off + i)
      rw [if_neg (by omega)] at hx2 hy3
      simp only [List.length_set]
      by_cases e1 : off + (len - 1 - i) = k
      · subst e1
        rw [if_pos rfl, if_pos (by omega), if_pos (by omega), ← hy, hy3]
        congr 1; omega
      · rw [if_neg e1]
        by_cases e2 : off + i = k
        · subst e2
          rw [if_pos rfl, if_pos (by omega), if_pos (by omega), ← hx, hx2]
          congr 1; omega
        · rw [if_neg e2, hq k]
          by_cases e3 : off ≤ k ∧ k < off + i ∨ off + len ≤ k + i ∧ k < off + len
          · rw [if_pos e3, if_pos (by omega)]
          · rw [if_neg e3, if_neg (by omega)]
    · rw [← pt_set, ← pt_set]
      exact hs.set
    · congr 1; omega
  · simp (disch := omega) only [go_sem, reduceCtorEq, ↓reduceIte, Nat.reduceEqDiff, Nat.reduceAdd, Nat.reduceSub, Nat.reduceMul, Nat.reduceLT, Nat.reduceLeDiff, Int.reduceEq, Int.reduceNe, Int.reduceLT, Int.reduceLE, Int.reduceBEq, Int.reduceBNe, Int.reduceToNat, he]
    refine ⟨qs, hl, fun k => ?_, hs⟩
    rw [hq k]
    by_cases e3 : off ≤ k ∧ k < off + i ∨ off + len ≤ k + i ∧ k < off + len
    · rw [if_pos e3, if_pos (by omega)]
    · rw [if_neg e3]
      by_cases e4 : off ≤ k ∧ k < off + len
      · rw [if_pos e4]; congr 1; omega
      · rw [if_neg e4]

theorem rotate_node {b i n cap rc x : Nat} {ps : List Nat} (hs : sat h (pto b (.row 1 ((ps ++ [x]).map pt) rc) :: F)) (hn : n = ps.length) (hi : i ≤ n) (h2 : n ≤ 100000) (hc : n + 1 - i ≤ cap) :
    Triple Try.prog 45 [.arr b 1 i (n + 1 - i) cap, .int .i64 1] h (fun r h => sat h (pto b (.row 1 ((ps.take i ++ x :: ps.drop i).map pt) rc) :: F)) := by
  subst hn
  refine t45 (Nat.le_of_ble_eq_true rfl) ?_
  simp (disch := omega) only [F45, go_sem, reduceCtorEq, ↓reduceIte, Nat.reduceEqDiff, Nat.reduceAdd, Nat.reduceSub, Nat.reduceMul, Nat.reduceLT, Nat.reduceLeDiff, Int.reduceEq, Int.reduceNe, Int.reduceLT, Int.reduceLE, Int.reduceBEq, Int.reduceBNe, Int.reduceToNat]
  have e1 : ((ps.length + 1 - i : Nat) : Int) - 1 = ((ps.length - i : Nat) : Int) := by omega
  simp (disch := omega) only [go_sem, reduceCtorEq, ↓reduceIte, Nat.reduceEqDiff, Nat.reduceAdd, Nat.reduceSub, Nat.reduceMul, Nat.reduceLT, Nat.reduceLeDiff, Int.reduceEq, Int.reduceNe, Int.reduceLT, Int.reduceLE, Int.reduceBEq, Int.reduceBNe, Int.reduceToNat, e1]
  have key : Triple Try.prog 47 [.arr b 1 i (ps.length + 1 - i) cap, .int .i64 ((ps.length - i : Nat) : Int)] h (fun r h => sat h (pto b (.row 1 ((ps.take i ++ x :: ps.drop i).map pt) rc) :: F)) := by
    refine t47 (Nat.le_of_ble_eq_true rfl) ?_
    simp (disch := omega) only [F47, go_sem, reduceCtorEq, ↓reduceIte, Nat.reduceEqDiff, Nat.reduceAdd, Nat.reduceSub, Nat.reduceMul, Nat.reduceLT, Nat.reduceLeDiff, Int.reduceEq, Int.reduceNe, Int.reduceLT, Int.reduceLE, Int.reduceBEq, Int.reduceBNe, Int.reduceToNat]
    simp (disch := omega) only [go_sem, reduceCtorEq, ↓reduceIte, Nat.reduceEqDiff, Nat.reduceAdd, Nat.reduceSub, Nat.reduceMul, Nat.reduceLT, Nat.reduceLeDiff, Int.reduceEq, Int.reduceNe, Int.reduceLT, Int.reduceLE, Int.reduceBEq, Int.reduceBNe, Int.reduceToNat, slcL_hi]
    refine call_use (reverse_node hs (by simp; omega) (by simp; omega)) ?_
    rintro r h ⟨q1, l1, g1, hs⟩
    simp (disch := omega) only [go_sem, reduceCtorEq, ↓reduceIte, Nat.reduceEqDiff, Nat.reduceAdd, Nat.reduceSub, Nat.reduceMul, Nat.reduceLT, Nat.reduceLeDiff, Int.reduceEq, Int.reduceNe, Int.reduceLT, Int.reduceLE, Int.reduceBEq, Int.reduceBNe, Int.reduceToNat, slcL_lo]
    refine call_use (reverse_node hs (by simp at l1 ⊢; omega) (by simp at l1; omega)) ?_
    rintro r h ⟨q2, l2, g2, hs⟩
    simp (disch := omega) only [go_sem, reduceCtorEq, ↓reduceIte, Nat.reduceEqDiff, Nat.reduceAdd, Nat.reduceSub, Nat.reduceMul, Nat.reduceLT, Nat.reduceLeDiff, Int.reduceEq, Int.reduceNe, Int.reduceLT, Int.reduceLE, Int.reduceBEq, Int.reduceBNe, Int.reduceToNat]
    refine call_use (reverse_node hs (by simp at l1 l2 ⊢; omega) (by simp at l1 l2; omega)) ?_
    rintro r h ⟨q3, l3, g3, hs⟩
    simp (disch := omega) only [go_sem, reduceCtorEq, ↓reduceIte, Nat.reduceEqDiff, Nat.reduceAdd, Nat.reduceSub, Nat.reduceMul, Nat.reduceLT, Nat.reduceLeDiff, Int.reduceEq, Int.reduceNe, Int.reduceLT, Int.reduceLE, Int.reduceBEq, Int.reduceBNe, Int.reduceToNat]
    have : q3 = ps.take i ++ x :: ps.drop i := by
      apply List.ext_getElem?
      intro k
      simp only [List.length_append, List.length_cons, List.length_nil] at l1 l2 l3
      have e0 : ∀ k, k < ps.length → (ps ++ [x])[k]? = ps[k]? := fun k hk => List.getElem?_append_left hk
      rw [g3 k]
      by_cases c1 : k < i
      · rw [if_neg (by omega), g2 k, if_neg (by omega), g1 k, if_neg (by omega), e0 k (by omega), List.getElem?_append_left (by rw [List.length_take]; omega), List.getElem?_take, if_pos c1]
      · have eR : (ps.take i ++ x :: ps.drop i)[k]? = (x :: ps.drop i)[k - i]? := by
          rw [List.getElem?_append_right (by rw [List.length_take]; omega)]
          congr 1
          rw [List.length_take]; omega
        rw [eR]
        by_cases c2 : k = i
        · subst c2
          rw [if_pos (by omega), Nat.sub_self, g2, if_pos (by omega), g1, if_neg (by omega)]
          have : 2 * (k + (ps.length - k)) + (ps.length + 1 - k - (ps.length - k)) - 1 - (2 * k + (ps.length + 1 - k) - 1 - k) = ps.length := by omega
          rw [this]
          simp
        · obtain ⟨k', hk'⟩ : ∃ k', k - i = k' + 1 := ⟨k - i - 1, by omega⟩
          rw [hk', List.getElem?_cons_succ, List.getElem?_drop]
          by_cases c3 : k ≤ ps.length
          · rw [if_pos (by omega), g2, if_neg (by omega), g1, if_pos (by omega), e0 _ (by omega)]
            congr 1; omega
          · rw [if_neg (by omega), g2, if_neg (by omega), g1, if_neg (by omega)]
            rw [List.getElem?_eq_none (by simp; omega), List.getElem?_eq_none (by omega)]
    subst this
    exact hs
  refine call_use (key) ?_
  intro r h hs
  simp (disch := omega) only [go_sem, reduceCtorEq, ↓reduceIte, Nat.reduceEqDiff, Nat.reduceAdd, Nat.reduceSub, Nat.reduceMul, Nat.reduceLT, Nat.reduceLeDiff, Int.reduceEq, Int.reduceNe, Int.reduceLT, Int.reduceLE, Int.reduceBEq, Int.reduceBNe, Int.reduceToNat]
  exact hs
end
end Go.Proofs.Ytnojalihnajkbaa
/- slices.Insert and slices.Clone of pointers. -/
set_option linter.unusedSimpArgs false
set_option linter.unusedVariables false
set_option maxRecDepth 10000
namespace Go.Proofs.Ytnojalihnajkbaa
open Go.Hz

section
variable {h : Hp} {F : List Asr}
theorem src_pt {ps : List Nat} {n : Nat} : List.take n (List.map pt ps) = (ps.take n).map pt := by simp
theorem dec_gt {a b : Nat} : decide ((b : Int) < (a : Int)) = decide (b < a) := by simp

theorem ins_row1 {α : Type} {M R : List α} {x : α} {i a n : Nat} (hi : i < M.length) (hR : R.length = M.length + 1 - i) (ha : a = i + 1) (hn : n = i + 1 + (M.length - i)) :
    (((M.take i ++ R).take i ++ [x] ++ (M.take i ++ R).drop a).take (i + 1) ++ M.drop i ++ ((M.take i ++ R).take i ++ [x] ++ (M.take i ++ R).drop a).drop n) = M.take i ++ x :: M.drop i := by
  subst ha; subst hn
  have e1 : (M.take i ++ R).take i = M.take i := by rw [List.take_append_of_le_length (by rw [List.length_take]; omega), List.take_take, Nat.min_self]
  have hz : (M.take i ++ R).length = M.length + 1 := by simp [hR]; omega
  generalize M.take i ++ R = Z at e1 hz ⊢
  rw [e1]
  have e2 : (M.take i ++ [x]).length = i + 1 := by simp; omega
  have e3 : (M.take i ++ [x] ++ Z.drop (i + 1)).take (i + 1) = M.take i ++ [x] := by
    rw [List.take_append_of_le_length (by omega), List.take_of_length_le (by omega)]
  have e4 : (M.take i ++ [x] ++ Z.drop (i + 1)).drop (i + 1 + (M.length - i)) = [] := List.drop_eq_nil_of_le (by
    rw [List.length_append, e2, List.length_drop, hz]; omega)
  rw [e3, e4]
  simp
theorem ins_row2 {α : Type} {M : List α} {x : α} {i a n : Nat} (hi : i < M.length) (ha : a = i + 1) (hn : n = i + 1 + (M.length - i)) :
    ((M.take (i + 1) ++ M.drop i ++ M.drop n).take i ++ [x] ++ (M.take (i + 1) ++ M.drop i ++ M.drop n).drop a) = M.take i ++ x :: M.drop i := by
  subst ha; subst hn
  have e0 : M.drop (i + 1 + (M.length - i)) = [] := List.drop_eq_nil_of_le (by omega)
  have e1 : (M.take (i + 1)).length = i + 1 := by rw [List.length_take]; omega
  rw [e0, List.append_nil, List.take_append_of_le_length (by omega), List.take_take, Nat.min_eq_left (by omega), List.drop_append_of_le_length (by omega), show (M.take (i + 1)).drop (i + 1) = [] from List.drop_eq_nil_of_le (by omega)]
  simp
theorem ins_item {v : AV} {bx c i x : Nat} {ps : List Nat} (hs : sat h (Ow 1 v (ps.map pt) :: pto bx (.row 1 [pt x] c) :: F)) (hi : i ≤ ps.length) (h2 : ps.length ≤ 10000) (hcx : 1 ≤ c) :
    Triple Try.prog 37 [v, .int .i64 i, .arr bx 1 0 1 1] h (fun r h => sat h (Ow 1 r ((ps.take i ++ x :: ps.drop i).map pt) :: F)) := by
  refine t37 (Nat.le_of_ble_eq_true rfl) ?_
  simp (disch := omega) only [F37, go_sem, reduceCtorEq, ↓reduceIte, Nat.reduceEqDiff, Nat.reduceAdd, Nat.reduceSub, Nat.reduceMul, Nat.reduceLT, Nat.reduceLeDiff, Int.reduceEq, Int.reduceNe, Int.reduceLT, Int.reduceLE, Int.reduceBEq, Int.reduceBNe, Int.reduceToNat]
  rcases hs.cases with ⟨rfl, h0, g⟩ | ⟨b, cap, rfl, g, hcap⟩
  · have h0 : ps = [] := by simpa using h0
    subst h0
    have hi0 : i = 0 := by simpa using hi
    subst hi0
    have e1 : slcL 1 .nils (some (.int .i64 (0 : Nat))) none = some .nils := rfl
    have e2 : ((0 : Nat) : Int) = 0 := rfl
    simp (disch := omega) only [go_sem, reduceCtorEq, ↓reduceIte, Nat.reduceEqDiff, Nat.reduceAdd, Nat.reduceSub, Nat.reduceMul, Nat.reduceLT, Nat.reduceLeDiff, Int.reduceEq, Int.reduceNe, Int.reduceLT, Int.reduceLE, Int.reduceBEq, Int.reduceBNe, Int.reduceToNat, e1, e2]
    have e3 : slcL 1 .nils (some (.int .i64 0)) none = some .nils := rfl
    simp (disch := omega) only [go_sem, reduceCtorEq, ↓reduceIte, Nat.reduceEqDiff, Nat.reduceAdd, Nat.reduceSub, Nat.reduceMul, Nat.reduceLT, Nat.reduceLeDiff, Int.reduceEq, Int.reduceNe, Int.reduceLT, Int.reduceLE, Int.reduceBEq, Int.reduceBNe, Int.reduceToNat, e3]
    have hy : srcA 1 h (.arr bx 1 0 1 1) = some [pt x] := src_one hs.p1.at
    refine app_sat (es := []) (hs.drop.add ow_nil) hy (atoms_pt [x]) (by simp) fun v' h hs hc' ha' => ?_
    simp (disch := omega) only [go_sem, reduceCtorEq, ↓reduceIte, Nat.reduceEqDiff, Nat.reduceAdd, Nat.reduceSub, Nat.reduceMul, Nat.reduceLT, Nat.reduceLeDiff, Int.reduceEq, Int.reduceNe, Int.reduceLT, Int.reduceLE, Int.reduceBEq, Int.reduceBNe, Int.reduceToNat]
    exact hs.d1
  · rw [List.length_map] at hcap
    have hl : (ps.map pt).length = ps.length := by simp
    have en : ((ps.length : Int) == 0) = false ∨ True := .inr trivial
    simp (disch := omega) only [go_sem, reduceCtorEq, ↓reduceIte, Nat.reduceEqDiff, Nat.reduceAdd, Nat.reduceSub, Nat.reduceMul, Nat.reduceLT, Nat.reduceLeDiff, Int.reduceEq, Int.reduceNe, Int.reduceLT, Int.reduceLE, Int.reduceBEq, Int.reduceBNe, Int.reduceToNat, slcL_lo, hl]
    by_cases hin : i = ps.length
    · subst hin
      simp (disch := omega) only [go_sem, reduceCtorEq, ↓reduceIte, Nat.reduceEqDiff, Nat.reduceAdd, Nat.reduceSub, Nat.reduceMul, Nat.reduceLT, Nat.reduceLeDiff, Int.reduceEq, Int.reduceNe, Int.reduceLT, Int.reduceLE, Int.reduceBEq, Int.reduceBNe, Int.reduceToNat]
      have hy : srcA 1 h (.arr bx 1 0 1 1) = some [pt x] := src_one hs.p1.at
      have hs := g.ow (by simpa using hcap)
      rw [hl] at hs
      refine app_sat hs hy (atoms_pt [x]) (by simp; omega) fun v' h hs hc' ha' => ?_
      simp (disch := omega) only [go_sem, reduceCtorEq, ↓reduceIte, Nat.reduceEqDiff, Nat.reduceAdd, Nat.reduceSub, Nat.reduceMul, Nat.reduceLT, Nat.reduceLeDiff, Int.reduceEq, Int.reduceNe, Int.reduceLT, Int.reduceLE, Int.reduceBEq, Int.reduceBNe, Int.reduceToNat]
      have := hs.d1
      rw [List.take_length, List.drop_length]
      simpa using this
    · have hne : ((i : Int) == (ps.length : Int)) = false := by rw [beq_eq_false_iff_ne]; omega
      simp (disch := omega) only [go_sem, reduceCtorEq, ↓reduceIte, Nat.reduceEqDiff, Nat.reduceAdd, Nat.reduceSub, Nat.reduceMul, Nat.reduceLT, Nat.reduceLeDiff, Int.reduceEq, Int.reduceNe, Int.reduceLT, Int.reduceLE, Int.reduceBEq, Int.reduceBNe, Int.reduceToNat, hne]
      refine cnd_dec (fun hlt => ?_) (fun hge => ?_)
      · have em : (ps.length : Int) + 1 - (i : Int) = ((ps.length + 1 - i : Nat) : Int) := by omega
        simp (disch := omega) only [go_sem, reduceCtorEq, ↓reduceIte, Nat.reduceEqDiff, Nat.reduceAdd, Nat.reduceSub, Nat.reduceMul, Nat.reduceLT, Nat.reduceLeDiff, Int.reduceEq, Int.reduceNe, Int.reduceLT, Int.reduceLE, Int.reduceBEq, Int.reduceBNe, Int.reduceToNat, slcL_hi, em]
        refine appz_use g (by rw [hl]; exact hi) (by omega) (by omega) fun b2 c2 h hc2 hs => ?_
        have e3 : ((i : Int) + 1).toNat = i + 1 := by omega
        have e4 : i + (ps.length + 1 - i) = ps.length + 1 := by omega
        rw [e4] at hc2
        simp (disch := omega) only [go_sem, reduceCtorEq, ↓reduceIte, Nat.reduceEqDiff, Nat.reduceAdd, Nat.reduceSub, Nat.reduceMul, Nat.reduceLT, Nat.reduceLeDiff, Int.reduceEq, Int.reduceNe, Int.reduceLT, Int.reduceLE, Int.reduceBEq, Int.reduceBNe, Int.reduceToNat, slcL_lo, e4]
        have hx : srcN 1 h (.arr bx 1 0 1 1) (min 1 (ps.length + 1 - i)) = some [pt x] := by
          rw [Nat.min_eq_left (by omega)]
          exact srcN_part hs.p2 (by omega) (by simp)
        refine cp_use (n := 1) hs (by simp; omega) (by omega) (by omega) rfl hx (atoms_pt [x]) fun h hs => ?_
        simp (disch := omega) only [go_sem, reduceCtorEq, ↓reduceIte, Nat.reduceEqDiff, Nat.reduceAdd, Nat.reduceSub, Nat.reduceMul, Nat.reduceLT, Nat.reduceLeDiff, Int.reduceEq, Int.reduceNe, Int.reduceLT, Int.reduceLE, Int.reduceBEq, Int.reduceBNe, Int.reduceToNat, slcL_lo, e3]
        have hy : srcN 1 h (.arr b 1 i (ps.length - i) (cap - i)) (min (ps.length - i) (ps.length + 1 - (i + 1))) = some ((ps.drop i).map pt) := by
          rw [Nat.min_eq_left (by omega)]
          have := srcN_part (off := i) (len := ps.length - i) (c := cap - i) (n := ps.length - i) hs.p1 (by omega) (by simp; omega)
          rw [this, ← List.map_drop, List.take_of_length_le (by simp)]
        refine cp_use (n := ps.length - i) hs (by simp; omega) (by omega) (by omega) rfl hy (atoms_pt _) fun h hs => ?_
        simp (disch := omega) only [go_sem, reduceCtorEq, ↓reduceIte, Nat.reduceEqDiff, Nat.reduceAdd, Nat.reduceSub, Nat.reduceMul, Nat.reduceLT, Nat.reduceLeDiff, Int.reduceEq, Int.reduceNe, Int.reduceLT, Int.reduceLE, Int.reduceBEq, Int.reduceBNe, Int.reduceToNat]
        have eq := ins_row1 (M := ps.map pt) (R := List.replicate (ps.length + 1 - i) [AV.nilp]) (x := pt x) (i := i) (by simp; omega) (by simp) rfl rfl
        rw [hl] at eq
        have g2 := hs.d1.d1
        rw [Nat.min_eq_left (show 1 ≤ ps.length + 1 - i by omega), Nat.min_eq_left (show ps.length - i ≤ ps.length + 1 - (i + 1) by omega), List.map_drop, eq] at g2
        have e5 : (ps.take i ++ x :: ps.drop i).map pt = (ps.map pt).take i ++ pt x :: (ps.map pt).drop i := by simp
        rw [← e5] at g2
        have e6 : ((ps.take i ++ x :: ps.drop i).map pt).length = ps.length + 1 := by simp; omega
        have g3 := g2.ow (by rw [e6]; omega)
        rw [e6] at g3
        exact g3
      · have e3 : ((i : Int) + 1).toNat = i + 1 := by omega
        have e4 : ((ps.length : Int) + 1).toNat = ps.length + 1 := by omega
        simp (disch := omega) only [go_sem, reduceCtorEq, ↓reduceIte, Nat.reduceEqDiff, Nat.reduceAdd, Nat.reduceSub, Nat.reduceMul, Nat.reduceLT, Nat.reduceLeDiff, Int.reduceEq, Int.reduceNe, Int.reduceLT, Int.reduceLE, Int.reduceBEq, Int.reduceBNe, Int.reduceToNat, slcL_hi, slcL_lo, e3, e4]
        have g0 : sat h (pto bx (.row 1 [pt x] c) :: pto b (.row 1 (ps.map pt) cap) :: F) := g.p1
        refine ovl_use g0 (by omega) (by omega) (by omega) fun q => ?_
        have e5 : (ps.take i ++ x :: ps.drop i).map pt = (ps.map pt).take i ++ pt x :: (ps.map pt).drop i := by simp
        have e6 : ((ps.take i ++ x :: ps.drop i).map pt).length = ps.length + 1 := by simp; omega
        cases q
        · simp (disch := omega) only [go_sem, reduceCtorEq, ↓reduceIte, Nat.reduceEqDiff, Nat.reduceAdd, Nat.reduceSub, Nat.reduceMul, Nat.reduceLT, Nat.reduceLeDiff, Int.reduceEq, Int.reduceNe, Int.reduceLT, Int.reduceLE, Int.reduceBEq, Int.reduceBNe, Int.reduceToNat, slcL_lo, e3]
          have hy : srcN 1 h (.arr b 1 i (ps.length + 1 - i) (cap - i)) (min (ps.length + 1 - i) (ps.length + 1 - (i + 1))) = some ((ps.drop i).map pt) := by
            rw [Nat.min_eq_right (by omega)]
            have := srcN_part (off := i) (len := ps.length + 1 - i) (c := cap - i) (n := ps.length + 1 - (i + 1)) g (by omega) (by simp; omega)
            rw [this, ← List.map_drop, List.take_of_length_le (by simp)]
          refine cp_use (n := ps.length + 1 - i) g (by simp; omega) (by omega) (by omega) rfl hy (atoms_pt _) fun h hs => ?_
          simp (disch := omega) only [go_sem, reduceCtorEq, ↓reduceIte, Nat.reduceEqDiff, Nat.reduceAdd, Nat.reduceSub, Nat.reduceMul, Nat.reduceLT, Nat.reduceLeDiff, Int.reduceEq, Int.reduceNe, Int.reduceLT, Int.reduceLE, Int.reduceBEq, Int.reduceBNe, Int.reduceToNat, slcL_lo]
          have hx : srcN 1 h (.arr bx 1 0 1 1) (min 1 (ps.length + 1 - i)) = some [pt x] := by
            rw [Nat.min_eq_left (by omega)]
            exact srcN_part hs.p1 (by omega) (by simp)
          refine cp_use (n := 1) hs (by simp; omega) (by omega) (by omega) rfl hx (atoms_pt [x]) fun h hs => ?_
          simp (disch := omega) only [go_sem, reduceCtorEq, ↓reduceIte, Nat.reduceEqDiff, Nat.reduceAdd, Nat.reduceSub, Nat.reduceMul, Nat.reduceLT, Nat.reduceLeDiff, Int.reduceEq, Int.reduceNe, Int.reduceLT, Int.reduceLE, Int.reduceBEq, Int.reduceBNe, Int.reduceToNat]
          have eq := ins_row2 (M := ps.map pt) (x := pt x) (i := i) (by simp; omega) rfl rfl
          rw [hl] at eq
          have g2 := hs.d1
          rw [Nat.min_eq_left (show 1 ≤ ps.length + 1 - i by omega), show min (ps.length + 1 - i) (ps.length + 1 - (i + 1)) = ps.length - i by omega, List.map_drop, eq, ← e5] at g2
          have g3 := g2.ow (by rw [e6]; omega)
          rw [e6] at g3
          exact g3
        · simp (disch := omega) only [go_sem, reduceCtorEq, ↓reduceIte, Nat.reduceEqDiff, Nat.reduceAdd, Nat.reduceSub, Nat.reduceMul, Nat.reduceLT, Nat.reduceLeDiff, Int.reduceEq, Int.reduceNe, Int.reduceLT, Int.reduceLE, Int.reduceBEq, Int.reduceBNe, Int.reduceToNat, slcL_lo]
          have hx : srcN 1 h (.arr bx 1 0 1 1) (min 1 (ps.length + 1 - ps.length)) = some [pt x] := by
            rw [Nat.min_eq_left (by omega)]
            exact srcN_part g.p1 (by omega) (by simp)
          refine cp_use (n := 1) g (by simp) (by omega) (by omega) rfl hx (atoms_pt [x]) fun h hs => ?_
          simp (disch := omega) only [go_sem, reduceCtorEq, ↓reduceIte, Nat.reduceEqDiff, Nat.reduceAdd, Nat.reduceSub, Nat.reduceMul, Nat.reduceLT, Nat.reduceLeDiff, Int.reduceEq, Int.reduceNe, Int.reduceLT, Int.reduceLE, Int.reduceBEq, Int.reduceBNe, Int.reduceToNat, slcL_lo]
          have g2 := hs.d1
          rw [List.take_of_length_le (by simp), List.drop_eq_nil_of_le (by simp), List.append_nil, show ps.map pt ++ [pt x] = (ps ++ [x]).map pt by simp] at g2
          refine call_use (rotate_item (n := ps.length) g2 rfl (by omega) (by omega) (by omega)) ?_
          intro r h hs
          simp (disch := omega) only [go_sem, reduceCtorEq, ↓reduceIte, Nat.reduceEqDiff, Nat.reduceAdd, Nat.reduceSub, Nat.reduceMul, Nat.reduceLT, Nat.reduceLeDiff, Int.reduceEq, Int.reduceNe, Int.reduceLT, Int.reduceLE, Int.reduceBEq, Int.reduceBNe, Int.reduceToNat]
          have g3 := hs.ow (by rw [e6]; omega)
          rw [e6] at g3
          exact g3
theorem ins_node {v : AV} {bx c i x : Nat} {ps : List Nat} (hs : sat h (Ow 1 v (ps.map pt) :: pto bx (.row 1 [pt x] c) :: F)) (hi : i ≤ ps.length) (h2 : ps.length ≤ 10000) (hcx : 1 ≤ c) :
    Triple Try.prog 39 [v, .int .i64 i, .arr bx 1 0 1 1] h (fun r h => sat h (Ow 1 r ((ps.take i ++ x :: ps.drop i).map pt) :: F)) := by
  refine t39 (Nat.le_of_ble_eq_true rfl) ?_
  simp (disch := omega) only [F39, go_sem, reduceCtorEq, ↓reduceIte, Nat.reduceEqDiff, Nat.reduceAdd, Nat.reduceSub, Nat.reduceMul, Nat.reduceLT, Nat.reduceLeDiff, Int.reduceEq, Int.reduceNe, Int.reduceLT, Int.reduceLE, Int.reduceBEq, Int.reduceBNe, Int.reduceToNat]
  rcases hs.cases with ⟨rfl, h0, g⟩ | ⟨b, cap, rfl, g, hcap⟩
  · have h0 : ps = [] := by simpa using h0
    subst h0
    have hi0 : i = 0 := by simpa using hi
    subst hi0
    have e1 : slcL 1 .nils (some (.int .i64 (0 : Nat))) none = some .nils := rfl
    have e2 : ((0 : Nat) : Int) = 0 := rfl
    simp (disch := omega) only [go_sem, reduceCtorEq, ↓reduceIte, Nat.reduceEqDiff, Nat.reduceAdd, Nat.reduceSub, Nat.reduceMul, Nat.reduceLT, Nat.reduceLeDiff, Int.reduceEq, Int.reduceNe, Int.reduceLT, Int.reduceLE, Int.reduceBEq, Int.reduceBNe, Int.reduceToNat, e1, e2]
    have e3 : slcL 1 .nils (some (.int .i64 0)) none = some .nils := rfl
    simp (disch := omega) only [go_sem, reduceCtorEq, ↓reduceIte, Nat.reduceEqDiff, Nat.reduceAdd, Nat.reduceSub, Nat.reduceMul, Nat.reduceLT, Nat.reduceLeDiff, Int.reduceEq, Int.reduceNe, Int.reduceLT, Int.reduceLE, Int.reduceBEq, Int.reduceBNe, Int.reduceToNat, e3]
    have hy : srcA 1 h (.arr bx 1 0 1 1) = some [pt x] := src_one hs.p1.at
    refine app_sat (es := []) (hs.drop.add ow_nil) hy (atoms_pt [x]) (by simp) fun v' h hs hc' ha' => ?_
    simp (disch := omega) only [go_sem, reduceCtorEq, ↓reduceIte, Nat.reduceEqDiff, Nat.reduceAdd, Nat.reduceSub, Nat.reduceMul, Nat.reduceLT, Nat.reduceLeDiff, Int.reduceEq, Int.reduceNe, Int.reduceLT, Int.reduceLE, Int.reduceBEq, Int.reduceBNe, Int.reduceToNat]
    exact hs.d1
  · rw [List.length_map] at hcap
    have hl : (ps.map pt).length = ps.length := by simp
    have en : ((ps.length : Int) == 0) = false ∨ True := .inr trivial
    simp (disch := omega) only [go_sem, reduceCtorEq, ↓reduceIte, Nat.reduceEqDiff, Nat.reduceAdd, Nat.reduceSub, Nat.reduceMul, Nat.reduceLT, Nat.reduceLeDiff, Int.reduceEq, Int.reduceNe, Int.reduceLT, Int.reduceLE, Int.reduceBEq, Int.reduceBNe, Int.reduceToNat, slcL_lo, hl]
    by_cases hin : i = ps.length
    · subst hin
      simp (disch := omega) only [go_sem, reduceCtorEq, ↓reduceIte, Nat.reduceEqDiff, Nat.reduceAdd, Nat.reduceSub, Nat.reduceMul, Nat.reduceLT, Nat.reduceLeDiff, Int.reduceEq, Int.reduceNe, Int.reduceLT, Int.reduceLE, Int.reduceBEq, Int.reduceBNe, Int.reduceToNat]
      have hy : srcA 1 h (.arr bx 1 0 1 1) = some [pt x] := src_one hs.p1.at
      have hs := g.ow (by simpa using hcap)
      rw [hl] at hs
      refine app_sat hs hy (atoms_pt [x]) (by simp; omega) fun v' h hs hc' ha' => ?_
      simp (disch := omega) only [go_sem, reduceCtorEq, ↓reduceIte, Nat.reduceEqDiff, Nat.reduceAdd, Nat.reduceSub, Nat.reduceMul, Nat.reduceLT, Nat.reduceLeDiff, Int.reduceEq, Int.reduceNe, Int.reduceLT, Int.reduceLE, Int.reduceBEq, Int.reduceBNe, Int.reduceToNat]
      have := hs.d1
      rw [List.take_length, List.drop_length]
      simpa using this
    · have hne : ((i : Int) == (ps.length : Int)) = false := by rw [beq_eq_false_iff_ne]; omega
      simp (disch := omega) only [go_sem, reduceCtorEq, ↓reduceIte, Nat.reduceEqDiff, Nat.reduceAdd, Nat.reduceSub, Nat.reduceMul, Nat.reduceLT, Nat.reduceLeDiff, Int.reduceEq, Int.reduceNe, Int.reduceLT, Int.reduceLE, Int.reduceBEq, Int.reduceBNe, Int.reduceToNat, hne]
      refine cnd_dec (fun hlt => ?_) (fun hge => ?_)
      · have em : (ps.length : Int) + 1 - (i : Int) = ((ps.length + 1 - i : Nat) : Int) := by omega
        simp (disch := omega) only [go_sem, reduceCtorEq, ↓reduceIte, Nat.reduceEqDiff, Nat.reduceAdd, Nat.reduceSub, Nat.reduceMul, Nat.reduceLT, Nat.reduceLeDiff, Int.reduceEq, Int.reduceNe, Int.reduceLT, Int.reduceLE, Int.reduceBEq, Int.reduceBNe, Int.reduceToNat, slcL_hi, em]
        refine appz_use g (by rw [hl]; exact hi) (by omega) (by omega) fun b2 c2 h hc2 hs => ?_
        have e3 : ((i : Int) + 1).toNat = i + 1 := by omega
        have e4 : i + (ps.length + 1 - i) = ps.length + 1 := by omega
        rw [e4] at hc2
        simp (disch := omega) only [go_sem, reduceCtorEq, ↓reduceIte, Nat.reduceEqDiff, Nat.reduceAdd, Nat.reduceSub, Nat.reduceMul, Nat.reduceLT, Nat.reduceLeDiff, Int.reduceEq, Int.reduceNe, Int.reduceLT, Int.reduceLE, Int.reduceBEq, Int.reduceBNe, Int.reduceToNat, slcL_lo, e4]
        have hx : srcN 1 h (.arr bx 1 0 1 1) (min 1 (ps.length + 1 - i)) = some [pt x] := by
          rw [Nat.min_eq_left (by omega)]
          exact srcN_part hs.p2 (by omega) (by simp)
        refine cp_use (n := 1) hs (by simp; omega) (by omega) (by omega) rfl hx (atoms_pt [x]) fun h hs => ?_
        simp (disch := omega) only [go_sem, reduceCtorEq, ↓reduceIte, Nat.reduceEqDiff, Nat.reduceAdd, Nat.reduceSub, Nat.reduceMul, Nat.reduceLT, Nat.reduceLeDiff, Int.reduceEq, Int.reduceNe, Int.reduceLT, Int.reduceLE, Int.reduceBEq, Int.reduceBNe, Int.reduceToNat, slcL_lo, e3]
        have hy : srcN 1 h (.arr b 1 i (ps.length - i) (cap - i)) (min (ps.length - i) (ps.length + 1 - (i + 1))) = some ((ps.drop i).map pt) := by
          rw [Nat.min_eq_left (by omega)]
          have := srcN_part (off := i) (len := ps.length - i) (c := cap - i) (n := ps.length - i) hs.p1 (by omega) (by simp; omega)
          rw [this, ← List.map_drop, List.take_of_length_le (by simp)]
        refine cp_use (n := ps.length - i) hs (by simp; omega) (by omega) (by omega) rfl hy (atoms_pt _) fun h hs => ?_
        simp (disch := omega) only [go_sem, reduceCtorEq, ↓reduceIte, Nat.reduceEqDiff, Nat.reduceAdd, Nat.reduceSub, Nat.reduceMul, Nat.reduceLT, Nat.reduceLeDiff, Int.reduceEq, Int.reduceNe, Int.reduceLT, Int.reduceLE, Int.reduceBEq, Int.reduceBNe, Int.reduceToNat]
        have eq := ins_row1 (M := ps.map pt) (R := List.replicate (ps.length + 1 - i) [AV.nilp]) (x := pt x) (i := i) (by simp; omega) (by simp) rfl rfl
        rw [hl] at eq
        have g2 := hs.d1.d1
        rw [Nat.min_eq_left (show 1 ≤ ps.length + 1 - i by omega), Nat.min_eq_left (show ps.length - i ≤ ps.length + 1 - (i + 1) by omega), List.map_drop, eq] at g2
        have e5 : (ps.take i ++ x :: ps.drop i).map pt = (ps.map pt).take i ++ pt x :: (ps.map pt).drop i := by simp
        rw [← e5] at g2
        have e6 : ((ps.take i ++ x :: ps.drop i).map pt).length = ps.length + 1 := by simp; omega
        have g3 := g2.ow (by rw [e6]; omega)
        rw [e6] at g3
        exact g3
      · have e3 : ((i : Int) + 1).toNat = i + 1 := by omega
        have e4 : ((ps.length : Int) + 1).toNat = ps.length + 1 := by omega
        simp (disch := omega) only [go_sem, reduceCtorEq, ↓reduceIte, Nat.reduceEqDiff, Nat.reduceAdd, Nat.reduceSub, Nat.reduceMul, Nat.reduceLT, Nat.reduceLeDiff, Int.reduceEq, Int.reduceNe, Int.reduceLT, Int.reduceLE, Int.reduceBEq, Int.reduceBNe, Int.reduceToNat, slcL_hi, slcL_lo, e3, e4]
        have g0 : sat h (pto bx (.row 1 [pt x] c) :: pto b (.row 1 (ps.map pt) cap) :: F) := g.p1
        refine ovl_use g0 (by omega) (by omega) (by omega) fun q => ?_
        have e5 : (ps.take i ++ x :: ps.drop i).map pt = (ps.map pt).take i ++ pt x :: (ps.map pt).drop i := by simp
        have e6 : ((ps.take i ++ x :: ps.drop i).map pt).length = ps.length + 1 := by simp; omega
        cases q
        · simp (disch := omega) only [go_sem, reduceCtorEq, ↓reduceIte, Nat.reduceEqDiff, Nat.reduceAdd, Nat.reduceSub, Nat.reduceMul, Nat.reduceLT, Nat.reduceLeDiff, Int.reduceEq, Int.reduceNe, Int.reduceLT, Int.reduceLE, Int.reduceBEq, Int.reduceBNe, Int.reduceToNat, slcL_lo, e3]
          have hy : srcN 1 h (.arr b 1 i (ps.length + 1 - i) (cap - i)) (min (ps.length + 1 - i) (ps.length + 1 - (i + 1))) = some ((ps.drop i).map pt) := by
            rw [Nat.min_eq_right (by omega)]
            have := srcN_part (off := i) (len := ps.length + 1 - i) (c := cap - i) (n := ps.length + 1 - (i + 1)) g (by omega) (by simp; omega)
            rw [this, ← List.map_drop, List.take_of_length_le (by simp)]
          refine cp_use (n := ps.length + 1 - i) g (by simp; omega) (by omega) (by omega) rfl hy (atoms_pt _) fun h hs => ?_
          simp (disch := omega) only [go_sem, reduceCtorEq, ↓reduceIte, Nat.reduceEqDiff, Nat.reduceAdd, Nat.reduceSub, Nat.reduceMul, Nat.reduceLT, Nat.reduceLeDiff, Int.reduceEq, Int.reduceNe, Int.reduceLT, Int.reduceLE, Int.reduceBEq, Int.reduceBNe, Int.reduceToNat, slcL_lo]
          have hx : srcN 1 h (.arr bx 1 0 1 1) (min 1 (ps.length + 1 - i)) = some [pt x] := by
            rw [Nat.min_eq_left (by omega)]
            exact srcN_part hs.p1 (by omega) (by simp)
          refine cp_use (n := 1) hs (by simp; omega) (by omega) (by omega) rfl hx (atoms_pt [x]) fun h hs => ?_
          simp (disch := omega) only [go_sem, reduceCtorEq, ↓reduceIte, Nat.reduceEqDiff, Nat.reduceAdd, Nat.reduceSub, Nat.reduceMul, Nat.reduceLT, Nat.reduceLeDiff, Int.reduceEq, Int.reduceNe, Int.reduceLT, Int.reduceLE, Int.reduceBEq, Int.reduceBNe, Int.reduceToNat]
          have eq := ins_row2 (M := ps.map pt) (x := pt x) (i := i) (by simp; omega) rfl rfl
          rw [hl] at eq
          have g2 := hs.d1
          rw [Nat.min_eq_left (show 1 ≤ ps.length + 1 - i by omega), show min (ps.length + 1 - i) (ps.length + 1 - (i + 1)) = ps.length - i by omega, List.map_drop, eq, ← e5] at g2
          have g3 := g2.ow (by rw [e6]; omega)
          rw [e6] at g3
          exact g3
        · simp (disch := omega) only [go_sem, reduceCtorEq, ↓reduceIte, Nat.reduceEqDiff, Nat.reduceAdd, Nat.reduceSub, Nat.reduceMul, Nat.reduceLT, Nat.reduceLeDiff, Int.reduceEq, Int.reduceNe, Int.reduceLT, Int.reduceLE, Int.reduceBEq, Int.reduceBNe, Int.reduceToNat, slcL_lo]
          have hx : srcN 1 h (.arr bx 1 0 1 1) (min 1 (ps.length + 1 - ps.length)) = some [pt x] := by
            rw [Nat.min_eq_left (by omega)]
            exact srcN_part g.p1 (by omega) (by simp)
          refine cp_use (n := 1) g (by simp) (by omega) (by omega) rfl hx (atoms_pt [x]) fun h hs => ?_
          simp (disch := omega) only [go_sem, reduceCtorEq, ↓reduceIte, Nat.reduceEqDiff, Nat.reduceAdd, Nat.reduceSub, Nat.reduceMul, Nat.reduceLT, Nat.reduceLeDiff, Int.reduceEq, Int.reduceNe, Int.reduceLT, Int.reduceLE, Int.reduceBEq, Int.reduceBNe, Int.reduceToNat, slcL_lo]
          have g2 := hs.d1
          rw [List.take_of_length_le (by simp), List.drop_eq_nil_of_le (by simp), List.append_nil, show ps.map pt ++ [pt x] = (ps ++ [x]).map pt by simp] at g2
          refine call_use (rotate_node (n := ps.length) g2 rfl (by omega) (by omega) (by omega)) ?_
          intro r h hs
          simp (disch := omega) only [go_sem, reduceCtorEq, ↓reduceIte, Nat.reduceEqDiff, Nat.reduceAdd, Nat.reduceSub, Nat.reduceMul, Nat.reduceLT, Nat.reduceLeDiff, Int.reduceEq, Int.reduceNe, Int.reduceLT, Int.reduceLE, Int.reduceBEq, Int.reduceBNe, Int.reduceToNat]
          have g3 := hs.ow (by rw [e6]; omega)
          rw [e6] at g3
          exact g3
end
end Go.Proofs.Ytnojalihnajkbaa
/- Clone of pointers; place, find. -/
set_option linter.unusedSimpArgs false
set_option linter.unusedVariables false
set_option maxRecDepth 10000
namespace Go.Proofs.Ytnojalihnajkbaa
open Go.Hz

section
variable {h : Hp} {F : List Asr}
theorem clone_item {b off len cap rc : Nat} {ps : List Nat} (hs : sat h (pto b (.row 1 (ps.map pt) rc) :: F)) (h1 : off + len ≤ ps.length) (h2 : ps.length ≤ 1000000) :
    Triple Try.prog 42 [.arr b 1 off len cap] h (fun r h => sat h (Ow 1 r (((ps.drop off).take len).map pt) :: pto b (.row 1 (ps.map pt) rc) :: F)) := by
  refine t42 (Nat.le_of_ble_eq_true rfl) ?_
  simp (disch := omega) only [F42, go_sem, reduceCtorEq, ↓reduceIte, Nat.reduceEqDiff, Nat.reduceAdd, Nat.reduceSub, Nat.reduceMul, Nat.reduceLT, Nat.reduceLeDiff, Int.reduceEq, Int.reduceNe, Int.reduceLT, Int.reduceLE, Int.reduceBEq, Int.reduceBNe, Int.reduceToNat]
  refine new_opq hs fun n h hs => ?_
  simp (disch := omega) only [go_sem, reduceCtorEq, ↓reduceIte, Nat.reduceEqDiff, Nat.reduceAdd, Nat.reduceSub, Nat.reduceMul, Nat.reduceLT, Nat.reduceLeDiff, Int.reduceEq, Int.reduceNe, Int.reduceLT, Int.reduceLE, Int.reduceBEq, Int.reduceBNe, Int.reduceToNat, hs.at]
  have hy : srcA 1 h (.arr b 1 off len cap) = some (((ps.drop off).take len).map pt) := by
    have := src_part (c := cap) hs.p1 (off := off) (len := len) (by simpa using h1)
    rw [this]; simp
  refine app_sat (hs.ow (by simp)) hy (atoms_pt _) (by simp; omega) fun v' h hs hc' ha' => ?_
  simp (disch := omega) only [go_sem, reduceCtorEq, ↓reduceIte, Nat.reduceEqDiff, Nat.reduceAdd, Nat.reduceSub, Nat.reduceMul, Nat.reduceLT, Nat.reduceLeDiff, Int.reduceEq, Int.reduceNe, Int.reduceLT, Int.reduceLE, Int.reduceBEq, Int.reduceBNe, Int.reduceToNat]
  simpa using hs
theorem clone_node {b off len cap rc : Nat} {ps : List Nat} (hs : sat h (pto b (.row 1 (ps.map pt) rc) :: F)) (h1 : off + len ≤ ps.length) (h2 : ps.length ≤ 1000000) :
    Triple Try.prog 43 [.arr b 1 off len cap] h (fun r h => sat h (Ow 1 r (((ps.drop off).take len).map pt) :: pto b (.row 1 (ps.map pt) rc) :: F)) := by
  refine t43 (Nat.le_of_ble_eq_true rfl) ?_
  simp (disch := omega) only [F43, go_sem, reduceCtorEq, ↓reduceIte, Nat.reduceEqDiff, Nat.reduceAdd, Nat.reduceSub, Nat.reduceMul, Nat.reduceLT, Nat.reduceLeDiff, Int.reduceEq, Int.reduceNe, Int.reduceLT, Int.reduceLE, Int.reduceBEq, Int.reduceBNe, Int.reduceToNat]
  refine new_opq hs fun n h hs => ?_
  simp (disch := omega) only [go_sem, reduceCtorEq, ↓reduceIte, Nat.reduceEqDiff, Nat.reduceAdd, Nat.reduceSub, Nat.reduceMul, Nat.reduceLT, Nat.reduceLeDiff, Int.reduceEq, Int.reduceNe, Int.reduceLT, Int.reduceLE, Int.reduceBEq, Int.reduceBNe, Int.reduceToNat, hs.at]
  have hy : srcA 1 h (.arr b 1 off len cap) = some (((ps.drop off).take len).map pt) := by
    have := src_part (c := cap) hs.p1 (off := off) (len := len) (by simpa using h1)
    rw [this]; simp
  refine app_sat (hs.ow (by simp)) hy (atoms_pt _) (by simp; omega) fun v' h hs hc' ha' => ?_
  simp (disch := omega) only [go_sem, reduceCtorEq, ↓reduceIte, Nat.reduceEqDiff, Nat.reduceAdd, Nat.reduceSub, Nat.reduceMul, Nat.reduceLT, Nat.reduceLeDiff, Int.reduceEq, Int.reduceNe, Int.reduceLT, Int.reduceLE, Int.reduceBEq, Int.reduceBNe, Int.reduceToNat]
  simpa using hs

def geAt (is : List Kp) (key : Key) (i : Nat) : Bool := match is[i]? with
  | some x => !ltK x.2 key
  | none => true

theorem place1 {bn bk p i : Nat} {iv kv : AV} {is : List Kp} {key : Key} (hs : sat h F) (hN : ∀ h, sat h F → NR p iv kv is h ∧ h bn = some (.row 1 [[.ptr p 2 0 0]] 1) ∧ h bk = some (.row 1 [[.str key]] 1)) (hi : i < is.length) :
    Triple Try.prog 36 [.int .i64 i, .ptr bn 1 0 0, .ptr bk 1 0 0] h (fun r h => r = .bool (geAt is key i) ∧ sat h F) := by
  refine t36 (Nat.le_of_ble_eq_true rfl) ?_
  simp (disch := omega) only [F36, go_sem, reduceCtorEq, ↓reduceIte, Nat.reduceEqDiff, Nat.reduceAdd, Nat.reduceSub, Nat.reduceMul, Nat.reduceLT, Nat.reduceLeDiff, Int.reduceEq, Int.reduceNe, Int.reduceLT, Int.reduceLE, Int.reduceBEq, Int.reduceBNe, Int.reduceToNat]
  obtain ⟨hn, h1, h2⟩ := hN h hs
  have hx := List.getElem?_eq_getElem hi
  obtain ⟨b, cap, rfl, hb⟩ := hn.arr hx
  obtain ⟨mv, hm⟩ := hn.ks _ (List.getElem_mem hi)
  simp (disch := omega) only [go_sem, reduceCtorEq, ↓reduceIte, Nat.reduceEqDiff, Nat.reduceAdd, Nat.reduceSub, Nat.reduceMul, Nat.reduceLT, Nat.reduceLeDiff, Int.reduceEq, Int.reduceNe, Int.reduceLT, Int.reduceLE, Int.reduceBEq, Int.reduceBNe, Int.reduceToNat, h1, h2, hn.nd, ia_go hi, hb, kpt_get hx, hm]
  refine ⟨?_, hs⟩
  simp [geAt, hx, ltK]

theorem place {p : Nat} {iv kv : AV} {is : List Kp} {key : Key} (hs : sat h F) (hN : ∀ h, sat h F → NR p iv kv is h) (hsrt : Srt is) (hl : is.length ≤ 1000000) :
    Triple Try.prog 31 [.ptr p 2 0 0, .str key] h (fun r h => ∃ j q, r = .tup [.int .i64 (j : Nat), .bool q] ∧ PlaceR is key j q ∧ sat h F) := by
  refine t31 (Nat.le_of_ble_eq_true rfl) ?_
  simp (disch := omega) only [F31, go_sem, reduceCtorEq, ↓reduceIte, Nat.reduceEqDiff, Nat.reduceAdd, Nat.reduceSub, Nat.reduceMul, Nat.reduceLT, Nat.reduceLeDiff, Int.reduceEq, Int.reduceNe, Int.reduceLT, Int.reduceLE, Int.reduceBEq, Int.reduceBNe, Int.reduceToNat]
  refine new_opq hs fun bn h hs => ?_
  simp (disch := omega) only [go_sem, reduceCtorEq, ↓reduceIte, Nat.reduceEqDiff, Nat.reduceAdd, Nat.reduceSub, Nat.reduceMul, Nat.reduceLT, Nat.reduceLeDiff, Int.reduceEq, Int.reduceNe, Int.reduceLT, Int.reduceLE, Int.reduceBEq, Int.reduceBNe, Int.reduceToNat, hs.at]
  refine new_opq hs fun bk h hs => ?_
  simp (disch := omega) only [go_sem, reduceCtorEq, ↓reduceIte, Nat.reduceEqDiff, Nat.reduceAdd, Nat.reduceSub, Nat.reduceMul, Nat.reduceLT, Nat.reduceLeDiff, Int.reduceEq, Int.reduceNe, Int.reduceLT, Int.reduceLE, Int.reduceBEq, Int.reduceBNe, Int.reduceToNat, hs.at]
  have hq : ∀ h, sat h (pto bk (.row 1 [[.str key]] 1) :: pto bn (.row 1 [[.ptr p 2 0 0]] 1) :: F) → NR p iv kv is h ∧ h bn = some (.row 1 [[.ptr p 2 0 0]] 1) ∧ h bk = some (.row 1 [[.str key]] 1) := fun h hs => ⟨hN h hs.drop.drop, hs.p1.at, hs.at⟩
  have hn := (hq h hs).1
  simp (disch := omega) only [go_sem, reduceCtorEq, ↓reduceIte, Nat.reduceEqDiff, Nat.reduceAdd, Nat.reduceSub, Nat.reduceMul, Nat.reduceLT, Nat.reduceLeDiff, Int.reduceEq, Int.reduceNe, Int.reduceLT, Int.reduceLE, Int.reduceBEq, Int.reduceBNe, Int.reduceToNat, hs.at, hs.p1.at, hn.nd, hn.len]
  refine call_use (search (pr := geAt is key) hs (by omega) rfl (fun i j hij hj hp => ?_) (fun i h hi hs => place1 hs hq hi)) ?_
  · have hx := List.getElem?_eq_getElem hj
    have hy := List.getElem?_eq_getElem (Nat.lt_of_le_of_lt hij hj)
    simp only [geAt, hx, hy, Bool.not_eq_true'] at hp ⊢
    by_cases hij' : i = j
    · subst hij'; exact hp
    · have := List.pairwise_iff_getElem.1 hsrt i j (by omega) hj (by omega)
      cases hjk : ltK is[j].2 key with
      | false => rfl
      | true => rw [ltK_trans this hjk] at hp; cases hp
  · rintro r h ⟨j, hr, hj, hlo, hhi, hs⟩
    subst hr
    have lo' : ∀ i x, is[i]? = some x → i < j → ltK x.2 key = true := fun i x hx hij => by
      have := hlo i hij
      simpa [geAt, hx] using this
    have hi' : ∀ i x, is[i]? = some x → j ≤ i → ltK x.2 key = false := fun i x hx hij => by
      have := hhi i hij (List.getElem?_eq_some_iff.1 hx).1
      simpa [geAt, hx] using this
    have hn := (hq h hs).1
    simp (disch := omega) only [go_sem, reduceCtorEq, ↓reduceIte, Nat.reduceEqDiff, Nat.reduceAdd, Nat.reduceSub, Nat.reduceMul, Nat.reduceLT, Nat.reduceLeDiff, Int.reduceEq, Int.reduceNe, Int.reduceLT, Int.reduceLE, Int.reduceBEq, Int.reduceBNe, Int.reduceToNat, hs.at, hs.p1.at, hn.nd, hn.len]
    refine cnd_dec (fun hlt => ?_) (fun hge => ?_)
    · have hlt : j < is.length := by omega
      have hx := List.getElem?_eq_getElem hlt
      obtain ⟨b, cap, rfl, hb⟩ := hn.arr hx
      obtain ⟨mv, hm⟩ := hn.ks _ (List.getElem_mem hlt)
      have dt : decide ((j : Int) < is.length) = true := by simpa using hlt
      simp (disch := omega) only [go_sem, reduceCtorEq, ↓reduceIte, Nat.reduceEqDiff, Nat.reduceAdd, Nat.reduceSub, Nat.reduceMul, Nat.reduceLT, Nat.reduceLeDiff, Int.reduceEq, Int.reduceNe, Int.reduceLT, Int.reduceLE, Int.reduceBEq, Int.reduceBNe, Int.reduceToNat, hs.at, hs.p1.at, hn.nd, ia_go hlt, hb, kpt_get hx, hm, dt]
      refine ⟨j, _, rfl, ⟨hj, lo', hi', fun hq => ⟨is[j].1, ?_⟩, fun hq x hx' => ?_⟩, hs.drop.drop⟩
      · have : is[j].2 = key := by simpa using hq
        rw [hx, ← this]
      · rw [hx] at hx'
        cases hx'
        have h1 := hi' j _ hx (Nat.le_refl _)
        cases h2 : ltK key is[j].2 with
        | true => rfl
        | false =>
          have := ltK_total h1 h2
          simp [this] at hq
    · have df : decide ((j : Int) < is.length) = false := by simpa using hge
      simp (disch := omega) only [go_sem, reduceCtorEq, ↓reduceIte, Nat.reduceEqDiff, Nat.reduceAdd, Nat.reduceSub, Nat.reduceMul, Nat.reduceLT, Nat.reduceLeDiff, Int.reduceEq, Int.reduceNe, Int.reduceLT, Int.reduceLE, Int.reduceBEq, Int.reduceBNe, Int.reduceToNat, df]
      have hje : j = is.length := by omega
      refine ⟨j, _, rfl, ⟨hj, lo', hi', fun hq => (by cases hq), fun _ x hx => ?_⟩, hs.drop.drop⟩
      subst hje
      simp at hx
end
end Go.Proofs.Ytnojalihnajkbaa
/- find. -/
set_option linter.unusedSimpArgs false
set_option linter.unusedVariables false
set_option maxRecDepth 10000
namespace Go.Proofs.Ytnojalihnajkbaa
open Go.Hz

section
variable {h : Hp} {F : List Asr}
theorem pt_get' {ks : List Tr} {i : Nat} {k : Tr} (hi : ks[i]? = some k) : (ks.map fun k => pt k.root)[i]? = some [.ptr k.root 2 0 0] := by simp [hi, pt]

def findV (l : List Kp) (key : Key) : AV := match findKp key l with
  | some x => .ptr x.1 2 0 0
  | none => .nilp

theorem find {ix : Nat} {rv : AV} {n : Int} {l : List Kp} {key : Key} (hs : sat h F) (hx : ∀ h, sat h F → h ix = some (.row 2 [[rv, .int .i64 n]] 1))
    (hr : (rv = .nilp ∧ l = []) ∨ ∃ d t, rv = .ptr t.root 2 0 0 ∧ t.flat = l ∧ OKd d t ∧ ∀ h, sat h F → RT d t h) (hl : Srt l) :
    Triple Try.prog 23 [.ptr ix 2 0 0, .str key] h (fun r h => r = findV l key ∧ sat h F) := by
  refine t23 (Nat.le_of_ble_eq_true rfl) ?_
  simp (disch := omega) only [F23, go_sem, reduceCtorEq, ↓reduceIte, Nat.reduceEqDiff, Nat.reduceAdd, Nat.reduceSub, Nat.reduceMul, Nat.reduceLT, Nat.reduceLeDiff, Int.reduceEq, Int.reduceNe, Int.reduceLT, Int.reduceLE, Int.reduceBEq, Int.reduceBNe, Int.reduceToNat]
  simp (disch := omega) only [go_sem, reduceCtorEq, ↓reduceIte, Nat.reduceEqDiff, Nat.reduceAdd, Nat.reduceSub, Nat.reduceMul, Nat.reduceLT, Nat.reduceLeDiff, Int.reduceEq, Int.reduceNe, Int.reduceLT, Int.reduceLE, Int.reduceBEq, Int.reduceBNe, Int.reduceToNat, hx h hs]
  have h0 : ∃ m : Nat, (m = 0 ∧ rv = .nilp ∧ findKp key l = none) ∨ ∃ d t, m = d + 1 ∧ rv = .ptr t.root 2 0 0 ∧ (∀ h, sat h F → RT d t h) ∧ OKd d t ∧ Srt t.flat ∧ findKp key t.flat = findKp key l := by
    rcases hr with ⟨rfl, rfl⟩ | ⟨d, t, rfl, rfl, h1, h2⟩
    · exact ⟨0, .inl ⟨rfl, rfl, rfl⟩⟩
    · exact ⟨d + 1, .inr ⟨d, t, rfl, rfl, h2, h1, hl, rfl⟩⟩
  obtain ⟨m0, h0⟩ := h0
  refine run_loopN (fun m e h => sat h F ∧ e 1 = .str key ∧ ((m = 0 ∧ e 5 = .nilp ∧ findKp key l = none) ∨ ∃ d t, m = d + 1 ∧ e 5 = .ptr t.root 2 0 0 ∧ (∀ h, sat h F → RT d t h) ∧ OKd d t ∧ Srt t.flat ∧ findKp key t.flat = findKp key l))
    m0 ⟨hs, rfl, by simp only [Env.upd_apply, ↓reduceIte]; exact h0⟩ ?_
  rintro m e h ⟨hs, he, hr⟩
  rcases hr with ⟨rfl, he5, hn⟩ | ⟨d, t, rfl, he5, hR, ok, hS, hf⟩
  · simp (disch := omega) only [go_sem, reduceCtorEq, ↓reduceIte, Nat.reduceEqDiff, Nat.reduceAdd, Nat.reduceSub, Nat.reduceMul, Nat.reduceLT, Nat.reduceLeDiff, Int.reduceEq, Int.reduceNe, Int.reduceLT, Int.reduceLE, Int.reduceBEq, Int.reduceBNe, Int.reduceToNat, he, he5]
    simp only [findV, hn]
    exact ⟨trivial, hs⟩
  · obtain ⟨p, iv, kv, is, ks⟩ := t
    replace he5 : e 5 = .ptr p 2 0 0 := he5
    have hN := fun h hs => (hR h hs).nr
    rw [Tr.flat_nd] at hf hS
    have hlen : is.length ≤ 5 := by
      cases d with
      | zero => exact ok.1
      | succ d => exact ok.2.1
    simp (disch := omega) only [go_sem, reduceCtorEq, ↓reduceIte, Nat.reduceEqDiff, Nat.reduceAdd, Nat.reduceSub, Nat.reduceMul, Nat.reduceLT, Nat.reduceLeDiff, Int.reduceEq, Int.reduceNe, Int.reduceLT, Int.reduceLE, Int.reduceBEq, Int.reduceBNe, Int.reduceToNat, he, he5]
    refine call_use (place hs hN (weave_srt _ _ hS) (by omega)) ?_
    rintro r h ⟨j, q, hr, hp, hs⟩
    subst hr
    have hn := hN h hs
    simp (disch := omega) only [go_sem, reduceCtorEq, ↓reduceIte, Nat.reduceEqDiff, Nat.reduceAdd, Nat.reduceSub, Nat.reduceMul, Nat.reduceLT, Nat.reduceLeDiff, Int.reduceEq, Int.reduceNe, Int.reduceLT, Int.reduceLE, Int.reduceBEq, Int.reduceBNe, Int.reduceToNat, he, he5]
    cases q
    · simp (disch := omega) only [go_sem, reduceCtorEq, ↓reduceIte, Nat.reduceEqDiff, Nat.reduceAdd, Nat.reduceSub, Nat.reduceMul, Nat.reduceLT, Nat.reduceLeDiff, Int.reduceEq, Int.reduceNe, Int.reduceLT, Int.reduceLE, Int.reduceBEq, Int.reduceBNe, Int.reduceToNat, he, he5, hn.nd, (hR h hs).kv.len]
      cases d with
      | zero =>
        obtain ⟨o1, rfl⟩ := ok
        simp (disch := omega) only [go_sem, reduceCtorEq, ↓reduceIte, Nat.reduceEqDiff, Nat.reduceAdd, Nat.reduceSub, Nat.reduceMul, Nat.reduceLT, Nat.reduceLeDiff, Int.reduceEq, Int.reduceNe, Int.reduceLT, Int.reduceLE, Int.reduceBEq, Int.reduceBNe, Int.reduceToNat, he, he5]
        refine ⟨?_, hs⟩
        have : findKp key l = none := by
          rw [← hf]
          refine findKp_none fun x hx hxk => ?_
          exact hp.none rfl (by simpa [weave] using hS) x hx hxk
        simp only [findV, this]
      | succ d =>
        obtain ⟨o0, o1, o2, o3⟩ := ok
        have hjk : j < ks.length := by have := hp.le; omega
        have hk := List.getElem?_eq_getElem hjk
        obtain ⟨b, cap, hkv, hb, _⟩ := (hR h hs).kv.row (pt_get' hk)
        have hz : ((ks.length : Int) == 0) = false := by rw [beq_eq_false_iff_ne]; omega
        have hlk : (ks.map fun k => pt k.root).length = ks.length := by simp
        rw [hlk] at hkv
        simp (disch := omega) only [go_sem, reduceCtorEq, ↓reduceIte, Nat.reduceEqDiff, Nat.reduceAdd, Nat.reduceSub, Nat.reduceMul, Nat.reduceLT, Nat.reduceLeDiff, Int.reduceEq, Int.reduceNe, Int.reduceLT, Int.reduceLE, Int.reduceBEq, Int.reduceBNe, Int.reduceToNat, he, he5, hz, hn.nd, hkv, ia_go hjk, hb, pt_get' hk]
        refine ⟨d + 1, by omega, hs, .inr ⟨d, ks[j], rfl, rfl, fun h hs => (hR h hs).2.2 _ (List.getElem_mem hjk), (o3 _ (List.getElem_mem hjk)).1, ?_, ?_⟩⟩
        · exact weave_srt2 _ _ _ (by simpa using o2) (List.mem_map_of_mem (List.getElem_mem hjk)) hS
        · rw [← hf]
          obtain ⟨A, C, h1, _, _, h2, _, h3, _⟩ := hp.cut (by simpa using o2) hS
          rw [h1, findKp_mid h2 (h3 rfl)]
          simp [hk]
    · obtain ⟨a, ha⟩ := hp.yes rfl
      have hj := (List.getElem?_eq_some_iff.1 ha).1
      obtain ⟨b, cap, rfl, hb⟩ := hn.arr ha
      simp (disch := omega) only [go_sem, reduceCtorEq, ↓reduceIte, Nat.reduceEqDiff, Nat.reduceAdd, Nat.reduceSub, Nat.reduceMul, Nat.reduceLT, Nat.reduceLeDiff, Int.reduceEq, Int.reduceNe, Int.reduceLT, Int.reduceLE, Int.reduceBEq, Int.reduceBNe, Int.reduceToNat, he, he5, hn.nd, ia_go hj, hb, kpt_get ha]
      refine ⟨?_, hs⟩
      have : findKp key l = some (a, key) := by
        rw [← hf]
        exact findKp_mem (x := (a, key)) hS (mem_weave _ _ (List.mem_of_getElem? ha))
      simp only [findV, this]
end
end Go.Proofs.Ytnojalihnajkbaa
/- walk. -/
set_option linter.unusedSimpArgs false
set_option linter.unusedVariables false
set_option maxRecDepth 10000
namespace Go.Proofs.Ytnojalihnajkbaa
open Go.Hz

section
theorem walk0 {h : Hp} {F : List Asr} (hs : sat h F) (lo hi : Key) (f : AV) : Triple Try.prog 25 [.nilp, .str lo, .str hi, f] h (fun r h => sat h F) := by
  refine t25 (Nat.le_of_ble_eq_true rfl) ?_
  simp (disch := omega) only [F25, go_sem, reduceCtorEq, ↓reduceIte, Nat.reduceEqDiff, Nat.reduceAdd, Nat.reduceSub, Nat.reduceMul, Nat.reduceLT, Nat.reduceLeDiff, Int.reduceEq, Int.reduceNe, Int.reduceLT, Int.reduceLE, Int.reduceBEq, Int.reduceBNe, Int.reduceToNat]
  exact hs

theorem walkN {F : List Asr} {f : Nat} {caps : List AV} {lo hi : Key} {full : List Kp} {A : List Kp → Asr} (hf : okFn Try.prog f = true)
    (hc : ∀ done x h, (done ++ [x]) <+: full → sat h (A done :: F) → Triple Try.prog f (.ptr x.1 2 0 0 :: caps) h fun r h => sat h (A (done ++ [x]) :: F))
    {p : Nat} {iv kv : AV} {is : List Kp} {ks : List Tr} {pre : List Kp} {h : Hp} (h5 : is.length ≤ 5) (hl : ks.map Tr.flat = [] ∨ (ks.map Tr.flat).length = is.length + 1) (hS : Srt (weave (ks.map Tr.flat) is))
    (hN : ∀ h, sat h F → NR p iv kv is h) (hK : ∀ h, sat h F → Ow 1 kv (ks.map fun k => pt k.root) h) (hpre : (pre ++ (weave (ks.map Tr.flat) is).filter (rngK lo hi)) <+: full) (hs : sat h (A pre :: F))
    (ih : ∀ k ∈ ks, ∀ pre h, Srt k.flat → (pre ++ k.flat.filter (rngK lo hi)) <+: full → sat h (A pre :: F) → Triple Try.prog 25 [.ptr k.root 2 0 0, .str lo, .str hi, .fn f caps] h (fun r h => sat h (A (pre ++ k.flat.filter (rngK lo hi)) :: F))) :
    Triple Try.prog 25 [.ptr p 2 0 0, .str lo, .str hi, .fn f caps] h (fun r h => sat h (A (pre ++ (weave (ks.map Tr.flat) is).filter (rngK lo hi)) :: F)) := by
  refine t25 (Nat.le_of_ble_eq_true rfl) ?_
  simp (disch := omega) only [F25, go_sem, reduceCtorEq, ↓reduceIte, Nat.reduceEqDiff, Nat.reduceAdd, Nat.reduceSub, Nat.reduceMul, Nat.reduceLT, Nat.reduceLeDiff, Int.reduceEq, Int.reduceNe, Int.reduceLT, Int.reduceLE, Int.reduceBEq, Int.reduceBNe, Int.reduceToNat]
  refine call_use (place hs (fun h hs => hN h hs.drop) (weave_srt _ _ hS) (by omega)) ?_
  rintro r h ⟨j, q, hr, hp, hs⟩
  subst hr
  have hlo := ahd_lo hp hl hS hi
  simp (disch := omega) only [go_sem, reduceCtorEq, ↓reduceIte, Nat.reduceEqDiff, Nat.reduceAdd, Nat.reduceSub, Nat.reduceMul, Nat.reduceLT, Nat.reduceLeDiff, Int.reduceEq, Int.reduceNe, Int.reduceLT, Int.reduceLE, Int.reduceBEq, Int.reduceBNe, Int.reduceToNat]
  refine run_loopN (fun m e h => ∃ i : Nat, j ≤ i ∧ i ≤ is.length ∧ m = is.length - i ∧ sat h (A (pre ++ (ahd (ks.map Tr.flat) is i).filter (rngK lo hi)) :: F) ∧
    (e 0 = .ptr p 2 0 0 ∧ e 1 = .str lo ∧ e 2 = .str hi ∧ e 3 = .fn f caps ∧ e 8 = .int .i64 i)) (is.length - j) ⟨j, Nat.le_refl _, hp.le, rfl, by rw [hlo]; simpa using hs, rfl, rfl, rfl, rfl, rfl⟩ ?_
  rintro m e h ⟨i, hji, hi2, rfl, hs, he⟩
  obtain ⟨C, hw, hC⟩ := ahd_cut hl hi2
  rw [hw] at hS hpre ⊢
  simp (disch := omega) only [go_sem, reduceCtorEq, ↓reduceIte, Nat.reduceEqDiff, Nat.reduceAdd, Nat.reduceSub, Nat.reduceMul, Nat.reduceLT, Nat.reduceLeDiff, Int.reduceEq, Int.reduceNe, Int.reduceLT, Int.reduceLE, Int.reduceBEq, Int.reduceBNe, Int.reduceToNat, he, (hN h hs.drop).nd, (hK h hs.drop).len]
  refine cnd_join (Q := fun e h => sat h (A (pre ++ (ahd (ks.map Tr.flat) is i ++ (ks.map Tr.flat).getD i []).filter (rngK lo hi)) :: F) ∧ (e 0 = .ptr p 2 0 0 ∧ e 1 = .str lo ∧ e 2 = .str hi ∧ e 3 = .fn f caps ∧ e 8 = .int .i64 i)) ?_ ?_
  · refine cnd_dec (fun hlt => ?_) (fun hge => ?_)
    · have hjk : i < ks.length := by
        rcases hl with hl | hl
        · simp at hl; subst hl; simp at hlt
        · simp at hl; omega
      have hk := List.getElem?_eq_getElem hjk
      have hlk : (ks.map fun k => pt k.root).length = ks.length := by simp
      obtain ⟨b, cap, hkv, hb, _⟩ := (hK h hs.drop).row (pt_get' hk)
      rw [hlk] at hkv
      simp (disch := omega) only [go_sem, reduceCtorEq, ↓reduceIte, Nat.reduceEqDiff, Nat.reduceAdd, Nat.reduceSub, Nat.reduceMul, Nat.reduceLT, Nat.reduceLeDiff, Int.reduceEq, Int.reduceNe, Int.reduceLT, Int.reduceLE, Int.reduceBEq, Int.reduceBNe, Int.reduceToNat, he, (hN h hs.drop).nd, hkv, ia_go hjk, hb, pt_get' hk]
      have eg : (ks.map Tr.flat).getD i [] = ks[i].flat := by simp [hk]
      rw [eg] at hS hpre ⊢
      refine call_use (ih ks[i] (List.getElem_mem hjk) _ _ (Srt.app.1 (Srt.app.1 hS).1).2.1 ?_ hs) ?_
      · refine List.IsPrefix.trans ⟨C.filter (rngK lo hi), ?_⟩ hpre
        simp
      · intro r h hs
        simp (disch := omega) only [go_sem, reduceCtorEq, ↓reduceIte, Nat.reduceEqDiff, Nat.reduceAdd, Nat.reduceSub, Nat.reduceMul, Nat.reduceLT, Nat.reduceLeDiff, Int.reduceEq, Int.reduceNe, Int.reduceLT, Int.reduceLE, Int.reduceBEq, Int.reduceBNe, Int.reduceToNat, he]
        simpa using hs
    · have hk0 : ks = [] := by
        cases ks with
        | nil => rfl
        | cons k ks => simp at hge
      subst hk0
      simp (disch := omega) only [go_sem, reduceCtorEq, ↓reduceIte, Nat.reduceEqDiff, Nat.reduceAdd, Nat.reduceSub, Nat.reduceMul, Nat.reduceLT, Nat.reduceLeDiff, Int.reduceEq, Int.reduceNe, Int.reduceLT, Int.reduceLE, Int.reduceBEq, Int.reduceBNe, Int.reduceToNat, he]
      simpa using hs
  · rintro e h ⟨hs, he⟩
    simp (disch := omega) only [go_sem, reduceCtorEq, ↓reduceIte, Nat.reduceEqDiff, Nat.reduceAdd, Nat.reduceSub, Nat.reduceMul, Nat.reduceLT, Nat.reduceLeDiff, Int.reduceEq, Int.reduceNe, Int.reduceLT, Int.reduceLE, Int.reduceBEq, Int.reduceBNe, Int.reduceToNat, he, (hN h hs.drop).nd, (hN h hs.drop).len]
    by_cases hin : i = is.length
    · have hb : ((i : Int) == (is.length : Int)) = true := by simp [hin]
      simp (disch := omega) only [go_sem, reduceCtorEq, ↓reduceIte, Nat.reduceEqDiff, Nat.reduceAdd, Nat.reduceSub, Nat.reduceMul, Nat.reduceLT, Nat.reduceLeDiff, Int.reduceEq, Int.reduceNe, Int.reduceLT, Int.reduceLE, Int.reduceBEq, Int.reduceBNe, Int.reduceToNat, he, hb]
      have : C = [] := by
        rw [hin] at hC; simpa using hC
      subst this
      simpa using hs
    · have hb : ((i : Int) == (is.length : Int)) = false := by rw [beq_eq_false_iff_ne]; omega
      have hi3 : i < is.length := by omega
      have hx := List.getElem?_eq_getElem hi3
      have hrr : ∀ h, (∀ y : Kp, y = is[i] → rngK lo hi y = true) → sat h (A (pre ++ (ahd (ks.map Tr.flat) is i ++ (ks.map Tr.flat).getD i []).filter (rngK lo hi) ++ [is[i]]) :: F) → sat h (A (pre ++ (ahd (ks.map Tr.flat) is (i + 1)).filter (rngK lo hi)) :: F) := by
        intro h hr hs
        simp only [ahd, hx, Option.toList_some]
        rw [List.filter_append _ [is[i]], List.filter_cons_of_pos (hr _ rfl)]
        simpa using hs
      obtain ⟨C', rfl⟩ : ∃ C', C = is[i] :: C' := by
        rw [hx] at hC
        cases C with
        | nil => cases hC
        | cons c C => cases hC; exact ⟨_, rfl⟩
      have hnlo : ltK is[i].2 lo = false := hp.hi i _ hx hji
      have hpr : rngK lo hi is[i] = true → (pre ++ (ahd (ks.map Tr.flat) is i ++ (ks.map Tr.flat).getD i []).filter (rngK lo hi) ++ [is[i]]) <+: full := fun hr => by
        refine List.IsPrefix.trans ⟨C'.filter (rngK lo hi), ?_⟩ hpre
        rw [List.filter_append _ (is[i] :: C'), List.filter_cons_of_pos hr]
        simp
      by_cases hh : hi = []
      · subst hh
        have hr : rngK lo [] is[i] = true := by simp [rngK, hnlo]
        obtain ⟨b, cap, hiv, hbb⟩ := (hN h hs.drop).arr hx
        have hbn : (([] : Key) != []) = false := rfl
        simp (disch := omega) only [go_sem, reduceCtorEq, ↓reduceIte, Nat.reduceEqDiff, Nat.reduceAdd, Nat.reduceSub, Nat.reduceMul, Nat.reduceLT, Nat.reduceLeDiff, Int.reduceEq, Int.reduceNe, Int.reduceLT, Int.reduceLE, Int.reduceBEq, Int.reduceBNe, Int.reduceToNat, he, hb, hbn, (hN h hs.drop).nd, hiv, ia_go hi3, hbb, kpt_get hx]
        refine callv_use hf (hc _ _ _ (hpr hr) hs) ?_
        intro r h hs
        simp (disch := omega) only [go_sem, reduceCtorEq, ↓reduceIte, Nat.reduceEqDiff, Nat.reduceAdd, Nat.reduceSub, Nat.reduceMul, Nat.reduceLT, Nat.reduceLeDiff, Int.reduceEq, Int.reduceNe, Int.reduceLT, Int.reduceLE, Int.reduceBEq, Int.reduceBNe, Int.reduceToNat, he]
        exact ⟨is.length - (i + 1), by omega, i + 1, by omega, by omega, rfl, hrr h (fun y hy => by rw [hy]; exact hr) hs, rfl⟩
      · have hbn : (hi != []) = true := by simpa using hh
        obtain ⟨b, cap, hiv, hbb⟩ := (hN h hs.drop).arr hx
        obtain ⟨mv, hm⟩ := (hN h hs.drop).ks _ (List.getElem_mem hi3)
        simp (disch := omega) only [go_sem, reduceCtorEq, ↓reduceIte, Nat.reduceEqDiff, Nat.reduceAdd, Nat.reduceSub, Nat.reduceMul, Nat.reduceLT, Nat.reduceLeDiff, Int.reduceEq, Int.reduceNe, Int.reduceLT, Int.reduceLE, Int.reduceBEq, Int.reduceBNe, Int.reduceToNat, he, hb, hbn, (hN h hs.drop).nd, hiv, ia_go hi3, hbb, kpt_get hx, hm]
        cases hlt : Op.bytesLess is[i].2 hi
        · simp (disch := omega) only [go_sem, reduceCtorEq, ↓reduceIte, Nat.reduceEqDiff, Nat.reduceAdd, Nat.reduceSub, Nat.reduceMul, Nat.reduceLT, Nat.reduceLeDiff, Int.reduceEq, Int.reduceNe, Int.reduceLT, Int.reduceLE, Int.reduceBEq, Int.reduceBNe, Int.reduceToNat, he]
          have := rng_hi (lo := lo) (Srt.app.1 hS).2.1 rfl hh hlt
          rw [List.filter_append _ (is[i] :: C'), this]
          simpa using hs
        · have hlt2 : ltK is[i].2 hi = true := hlt
          have hr : rngK lo hi is[i] = true := by simp [rngK, hnlo, hlt2]
          simp (disch := omega) only [go_sem, reduceCtorEq, ↓reduceIte, Nat.reduceEqDiff, Nat.reduceAdd, Nat.reduceSub, Nat.reduceMul, Nat.reduceLT, Nat.reduceLeDiff, Int.reduceEq, Int.reduceNe, Int.reduceLT, Int.reduceLE, Int.reduceBEq, Int.reduceBNe, Int.reduceToNat, he, hb, hbn, (hN h hs.drop).nd, hiv, ia_go hi3, hbb, kpt_get hx]
          refine callv_use hf (hc _ _ _ (hpr hr) hs) ?_
          intro r h hs
          simp (disch := omega) only [go_sem, reduceCtorEq, ↓reduceIte, Nat.reduceEqDiff, Nat.reduceAdd, Nat.reduceSub, Nat.reduceMul, Nat.reduceLT, Nat.reduceLeDiff, Int.reduceEq, Int.reduceNe, Int.reduceLT, Int.reduceLE, Int.reduceBEq, Int.reduceBNe, Int.reduceToNat, he]
          exact ⟨is.length - (i + 1), by omega, i + 1, by omega, by omega, rfl, hrr h (fun y hy => by rw [hy]; exact hr) hs, rfl⟩

theorem walk {F : List Asr} {f : Nat} {caps : List AV} {lo hi : Key} {full : List Kp} {A : List Kp → Asr} (hf : okFn Try.prog f = true)
    (hc : ∀ done x h, (done ++ [x]) <+: full → sat h (A done :: F) → Triple Try.prog f (.ptr x.1 2 0 0 :: caps) h fun r h => sat h (A (done ++ [x]) :: F)) :
    ∀ (d : Nat) (t : Tr) (pre : List Kp) (h : Hp), OKd d t → Srt t.flat → (∀ h, sat h F → RT d t h) → (pre ++ t.flat.filter (rngK lo hi)) <+: full → sat h (A pre :: F) →
      Triple Try.prog 25 [.ptr t.root 2 0 0, .str lo, .str hi, .fn f caps] h (fun r h => sat h (A (pre ++ t.flat.filter (rngK lo hi)) :: F)) := by
  intro d
  induction d with
  | zero =>
    rintro ⟨p, iv, kv, is, ks⟩ pre h ⟨ok, rfl⟩ hS hR hpre hs
    rw [Tr.flat_nd] at hS hpre ⊢
    exact walkN hf hc ok (.inl rfl) hS (fun h hs => (hR h hs).nr) (fun h hs => (hR h hs).kv) hpre hs (fun k hk => by cases hk)
  | succ d ih =>
    rintro ⟨p, iv, kv, is, ks⟩ pre h ok hS hR hpre hs
    obtain ⟨o0, o1, o2, o3⟩ := ok
    rw [Tr.flat_nd] at hS hpre ⊢
    exact walkN hf hc o1 (.inr (by simpa using o2)) hS (fun h hs => (hR h hs).nr) (fun h hs => (hR h hs).kv) hpre hs
      (fun k hk pre h hS hpre hs => ih k pre h (o3 k hk).1 hS (fun h hs => (hR h hs).2.2 k hk) hpre hs)
end
end Go.Proofs.Ytnojalihnajkbaa
/- split, insert. -/
set_option linter.unusedSimpArgs false
set_option linter.unusedVariables false
set_option maxRecDepth 10000
namespace Go.Proofs.Ytnojalihnajkbaa
open Go.Hz

section
variable {h : Hp} {F : List Asr}
theorem split_no {p : Nat} {iv kv : AV} {es : List (List AV)} (hs : sat h (pto p (.row 2 [[iv, kv]] 1) :: Ow 1 iv es :: F)) (h5 : es.length ≤ 5) :
    Triple Try.prog 38 [.ptr p 2 0 0] h (fun r h => r = .tup [.nilp, .nilp] ∧ sat h (pto p (.row 2 [[iv, kv]] 1) :: Ow 1 iv es :: F)) := by
  refine t38 (Nat.le_of_ble_eq_true rfl) ?_
  simp (disch := omega) only [F38, go_sem, reduceCtorEq, ↓reduceIte, Nat.reduceEqDiff, Nat.reduceAdd, Nat.reduceSub, Nat.reduceMul, Nat.reduceLT, Nat.reduceLeDiff, Int.reduceEq, Int.reduceNe, Int.reduceLT, Int.reduceLE, Int.reduceBEq, Int.reduceBNe, Int.reduceToNat]
  have hl := hs.drop.owr.len
  have hd : decide ((es.length : Int) ≤ 5) = true := by simp; omega
  simp (disch := omega) only [go_sem, reduceCtorEq, ↓reduceIte, Nat.reduceEqDiff, Nat.reduceAdd, Nat.reduceSub, Nat.reduceMul, Nat.reduceLT, Nat.reduceLeDiff, Int.reduceEq, Int.reduceNe, Int.reduceLT, Int.reduceLE, Int.reduceBEq, Int.reduceBNe, Int.reduceToNat, hs.at, hl, hd]
  exact hs

theorem split_yes {p : Nat} {iv kv : AV} {ps qs : List Nat} (hs : sat h (pto p (.row 2 [[iv, kv]] 1) :: Ow 1 iv (ps.map pt) :: Ow 1 kv (qs.map pt) :: F)) (h6 : ps.length = 6) (h7 : qs = [] ∨ qs.length = 7) {x : Nat} (hx : ps[3]? = some x) :
    Triple Try.prog 38 [.ptr p 2 0 0] h (fun r h => ∃ p2 iv1 kv1 iv2 kv2, r = .tup [.ptr x 2 0 0, .ptr p2 2 0 0] ∧
      sat h (pto p (.row 2 [[iv1, kv1]] 1) :: Ow 1 iv1 ((ps.take 3).map pt) :: Ow 1 kv1 ((qs.take 4).map pt) :: pto p2 (.row 2 [[iv2, kv2]] 1) :: Ow 1 iv2 ((ps.drop 4).map pt) :: Ow 1 kv2 ((qs.drop 4).map pt) :: F)) := by
  refine Triple.view ?_
  refine t38 (Nat.le_of_ble_eq_true rfl) ?_
  simp (disch := omega) only [F38, go_sem, reduceCtorEq, ↓reduceIte, Nat.reduceEqDiff, Nat.reduceAdd, Nat.reduceSub, Nat.reduceMul, Nat.reduceLT, Nat.reduceLeDiff, Int.reduceEq, Int.reduceNe, Int.reduceLT, Int.reduceLE, Int.reduceBEq, Int.reduceBNe, Int.reduceToNat]
  obtain ⟨b, cap, hiv, hb, hcap⟩ := hs.drop.owr.row (pt_get hx)
  rw [List.length_map, h6] at hiv hcap
  subst hiv
  have hl := hs.drop.drop.owr.len
  rw [List.length_map] at hl
  have g1 := (hs.p1.arr).1
  have e1 : (6 : Int).tdiv 2 = 3 := rfl
  have e2 : ((6 : Nat) : Int) = 6 := rfl
  have e3 : decide ((6 : Int) ≤ 5) = false := rfl
  have hia : iaA 1 (.arr b 1 0 6 cap) (.int .i64 3) = some (.ptr b 1 3 0) := by rw [iaA_go (by omega) (by omega)]; rfl
  have hw : IntKind.i64.wrap 3 = 3 := rfl
  have hw4 : IntKind.i64.wrap 4 = 4 := rfl
  have e5 : (3 : Int) + 1 = 4 := rfl
  simp (disch := omega) only [go_sem, reduceCtorEq, ↓reduceIte, Nat.reduceEqDiff, Nat.reduceAdd, Nat.reduceSub, Nat.reduceMul, Nat.reduceLT, Nat.reduceLeDiff, Int.reduceEq, Int.reduceNe, Int.reduceLT, Int.reduceLE, Int.reduceBEq, Int.reduceBNe, Int.reduceToNat, hs.at, e1, e2, e3, hia, hb, pt_get hx, slcL_lo, hw, hw4, e5]
  refine call_use (clone_item g1 (by omega) (by omega)) ?_
  intro iv2 h hs
  have ht : ((ps.drop (0 + 4)).take (6 - 4)) = ps.drop 4 := by rw [List.take_of_length_le (by simp; omega)]
  rw [ht] at hs
  have hc := hs.owr.len
  have hcl : iv2.cells = [iv2] := hs.els.cells
  have hca : iv2.isAtom = true := hs.els.atom
  simp (disch := omega) only [go_sem, reduceCtorEq, ↓reduceIte, Nat.reduceEqDiff, Nat.reduceAdd, Nat.reduceSub, Nat.reduceMul, Nat.reduceLT, Nat.reduceLeDiff, Int.reduceEq, Int.reduceNe, Int.reduceLT, Int.reduceLE, Int.reduceBEq, Int.reduceBNe, Int.reduceToNat, hcl, hca]
  refine new_opq hs fun p2 h hs => ?_
  simp (disch := omega) only [go_sem, reduceCtorEq, ↓reduceIte, Nat.reduceEqDiff, Nat.reduceAdd, Nat.reduceSub, Nat.reduceMul, Nat.reduceLT, Nat.reduceLeDiff, Int.reduceEq, Int.reduceNe, Int.reduceLT, Int.reduceLE, Int.reduceBEq, Int.reduceBNe, Int.reduceToNat, hs.at, hcl, hca]
  have hp := hs.p3.at
  have hia3 : slcL 1 (.arr b 1 0 6 cap) none (some (.int .i64 3)) = some (.arr b 1 0 3 cap) := by rw [slcL_hi (by omega) (by omega) (by omega)]; rfl
  rcases h7 with rfl | h7
  · have hl : lenL kv = some (.int .i64 0) := hl
    simp (disch := omega) only [go_sem, reduceCtorEq, ↓reduceIte, Nat.reduceEqDiff, Nat.reduceAdd, Nat.reduceSub, Nat.reduceMul, Nat.reduceLT, Nat.reduceLeDiff, Int.reduceEq, Int.reduceNe, Int.reduceLT, Int.reduceLE, Int.reduceBEq, Int.reduceBNe, Int.reduceToNat, hp, hl, hia3]
    have g := hs.p3.set (o' := .row 2 [[.arr b 1 0 3 cap, kv]] 1)
    have gb := g.p3
    refine ⟨_, _, GV.trim _ 3 gb.at, ⟨p2, .arr b 1 0 3 cap, kv, iv2, .nils, rfl, ?_⟩⟩
    have g2 := (gb.set (o' := .row 1 ((ps.map pt).take 3) cap))
    have g3 := g2.ow (by simp; omega)
    have e6 : ((ps.map pt).take 3).length = 3 := by simp; omega
    rw [e6] at g3
    rw [show (ps.take 3).map pt = (ps.map pt).take 3 by simp]
    have g4 := (g3.add (A := Ow 1 .nils ((([] : List Nat).drop 4).map pt)) ow_nil)
    exact g4.p4.p4.p5.p4.p5
  · obtain ⟨y, hy⟩ : ∃ y, qs[0]? = some y := ⟨_, List.getElem?_eq_getElem (by omega)⟩
    have g5 := hs.p3.p3.p3.p3.p4
    obtain ⟨bk, ck, hkv, hbk, hck⟩ := g5.owr.row (pt_get hy)
    rw [List.length_map, h7] at hkv hck
    subst hkv
    have gk := (g5.arr).1
    have hp := gk.p3.p3.p3.p4.at
    have hl7 : decide ((0 : Int) < ((7 : Nat) : Int)) = true := rfl
    have hk3 : slcL 1 (.arr bk 1 0 7 ck) (some (.int .i64 4)) none = some (.arr bk 1 4 3 (ck - 4)) := by rw [slcL_lo (by omega) (by omega) (by omega)]; rfl
    have hk4 : slcL 1 (.arr bk 1 0 7 ck) none (some (.int .i64 4)) = some (.arr bk 1 0 4 ck) := by rw [slcL_hi (by omega) (by omega) (by omega)]; rfl
    simp (disch := omega) only [go_sem, reduceCtorEq, ↓reduceIte, Nat.reduceEqDiff, Nat.reduceAdd, Nat.reduceSub, Nat.reduceMul, Nat.reduceLT, Nat.reduceLeDiff, Int.reduceEq, Int.reduceNe, Int.reduceLT, Int.reduceLE, Int.reduceBEq, Int.reduceBNe, Int.reduceToNat, hp, hl7, hk3, hw4, e5]
    refine call_use (clone_node gk (by omega) (by omega)) ?_
    intro kv2 h hs
    have ht : ((qs.drop 4).take 3) = qs.drop 4 := by rw [List.take_of_length_le (by simp; omega)]
    rw [ht] at hs
    have hcl2 : kv2.cells = [kv2] := hs.els.cells
    have hca2 : kv2.isAtom = true := hs.els.atom
    have g6 := hs.p5.p5.p5.p4.p4.p5
    have g7 := (g6.set (o' := .row 2 [[iv2, kv2]] 1))
    have hp := g7.drop.p1.drop.p1.drop.p1.drop.p1.at
    simp (disch := omega) only [go_sem, reduceCtorEq, ↓reduceIte, Nat.reduceEqDiff, Nat.reduceAdd, Nat.reduceSub, Nat.reduceMul, Nat.reduceLT, Nat.reduceLeDiff, Int.reduceEq, Int.reduceNe, Int.reduceLT, Int.reduceLE, Int.reduceBEq, Int.reduceBNe, Int.reduceToNat, g6.at, hcl2, hca2, hp, hk4, hw4, e5]
    have g8 := (g7.p4.p4.p4.p4.p4.p5).set (o' := .row 2 [[.arr b 1 0 6 cap, .arr bk 1 0 4 ck]] 1)
    simp (disch := omega) only [go_sem, reduceCtorEq, ↓reduceIte, Nat.reduceEqDiff, Nat.reduceAdd, Nat.reduceSub, Nat.reduceMul, Nat.reduceLT, Nat.reduceLeDiff, Int.reduceEq, Int.reduceNe, Int.reduceLT, Int.reduceLE, Int.reduceBEq, Int.reduceBNe, Int.reduceToNat, g8.at, hia3]
    have g9 := (g7.p4.p4.p4.p4.p4.p5).set (o' := .row 2 [[.arr b 1 0 3 cap, .arr bk 1 0 4 ck]] 1)
    have gb := g9.p4.p4.p4.p4.p4.p5
    have gk2 := (gb.set (o' := .row 1 ((ps.map pt).take 3) cap)).p5.p4.p4.p4.p4.p5
    refine ⟨_, _, (GV.trim _ 3 gb.at).trans (GV.trim _ 4 gk2.at), ⟨p2, .arr b 1 0 3 cap, .arr bk 1 0 4 ck, iv2, kv2, rfl, ?_⟩⟩
    have ga := (gk2.set (o' := .row 1 ((qs.map pt).take 4) ck)).ow (by simp; omega)
    have gc := (ga.p5.p5.p5.p5.p4.p5).ow (by simp; omega)
    have e6 : ((ps.map pt).take 3).length = 3 := by simp; omega
    have e7 : ((qs.map pt).take 4).length = 4 := by simp; omega
    rw [e6, e7] at gc
    rw [show (ps.take 3).map pt = (ps.map pt).take 3 by simp, show (qs.take 4).map pt = (qs.map pt).take 4 by simp]
    exact gc.p4.p5.p5.p4.p4.p5

/-- How 'insert' answers for a tree that holds an item more. -/
def InsR (d : Nat) (root : Nat) (l : List Kp) (F : List Asr) (r : AV) (h : Hp) : Prop :=
  (∃ t', r = .tup [.nilp, .nilp] ∧ OKd d t' ∧ t'.root = root ∧ t'.flat = l ∧ sat h (t'.asr :: F)) ∨
  ∃ t1 m t2, r = .tup [.ptr (m : Kp).1 2 0 0, .ptr (Tr.root t2) 2 0 0] ∧ OKd d t1 ∧ OKd d t2 ∧ Tr.root t1 = root ∧ t1.flat ++ m :: t2.flat = l ∧ t1.flat ≠ [] ∧ t2.flat ≠ [] ∧ sat h (t1.asr :: t2.asr :: F)

theorem finish {d p : Nat} {iv kv : AV} {is : List Kp} {ks : List Tr} (h6 : is.length ≤ 6) (ok : OKs d is ks) (hs : sat h (Tr.parts p iv kv is ks ++ F)) :
    Triple Try.prog 38 [.ptr p 2 0 0] h (InsR d p (weave (ks.map Tr.flat) is) F) := by
  by_cases h5 : is.length ≤ 5
  · refine (split_no (iv := iv) (kv := kv) (es := is.map kpt) hs (by simpa using h5)).mono ?_
    rintro r h ⟨rfl, hs⟩
    exact .inl ⟨.nd p iv kv is ks, rfl, okd_nd.2 ⟨h5, ok⟩, rfl, Tr.flat_nd, sat_nd.2 hs⟩
  · have h6 : is.length = 6 := by omega
    have hx := List.getElem?_eq_getElem (l := is) (i := 3) (by omega)
    have h7 : ks.map Tr.root = [] ∨ (ks.map Tr.root).length = 7 := by
      cases d with
      | zero => left; rw [show ks = [] from ok]; rfl
      | succ d => right; rw [List.length_map, ok.2.1, h6]
    unfold Tr.parts at hs
    rw [kpt_pt, rt_pt] at hs
    refine (split_yes (x := is[3].1) hs (by simpa using h6) h7 (by simp [hx])).mono ?_
    rintro r h ⟨p2, iv1, kv1, iv2, kv2, rfl, hs⟩
    have hks : ks.map Tr.asr ++ F = (ks.take 4).map Tr.asr ++ ((ks.drop 4).map Tr.asr ++ F) := by
      rw [← List.append_assoc, ← List.map_append, List.take_append_drop]
    have e3 : is = is.take 3 ++ is[3] :: is.drop 4 := by
      rw [← List.drop_eq_getElem_cons, List.take_append_drop]
    refine .inr ⟨.nd p iv1 kv1 (is.take 3) (ks.take 4), is[3], .nd p2 iv2 kv2 (is.drop 4) (ks.drop 4), rfl, ?_, ?_, rfl, ?_, ?_, ?_, ?_⟩
    · refine okd_nd.2 ⟨by simp; omega, ?_⟩
      cases d with
      | zero => simp only [OKs] at ok ⊢; simp [ok]
      | succ d => exact ⟨by simp; omega, by have := ok.2.1; simp; omega, fun k hk => ok.2.2 k (List.mem_of_mem_take hk)⟩
    · refine okd_nd.2 ⟨by simp; omega, ?_⟩
      cases d with
      | zero => simp only [OKs] at ok ⊢; simp [ok]
      | succ d => exact ⟨by simp; omega, by have := ok.2.1; simp; omega, fun k hk => ok.2.2 k (List.mem_of_mem_drop hk)⟩
    · rw [Tr.flat_nd, Tr.flat_nd]
      cases d with
      | zero =>
        have hk : ks = [] := ok
        subst hk
        simp only [List.take_nil, List.drop_nil, List.map_nil, weave_nil]
        exact e3.symm
      | succ d =>
        have := weave_cut ((ks.take 4).map Tr.flat) ((ks.drop 4).map Tr.flat) (is.take 3) (is.drop 4) is[3] (by have := ok.2.1; simp; omega)
        rw [← this, ← List.map_append, List.take_append_drop, ← e3]
    · rw [Tr.flat_nd]; exact weave_ne (by simp; omega)
    · rw [Tr.flat_nd]; exact weave_ne (by simp; omega)
    · refine sat_nd.2 ?_
      have hq : sat h ([pto p (.row 2 [[iv1, kv1]] 1), Ow 1 iv1 ((is.take 3).map kpt), Ow 1 kv1 ((ks.take 4).map fun k => pt k.root)] ++ ((ks.take 4).map Tr.asr ++ (Tr.parts p2 iv2 kv2 (is.drop 4) (ks.drop 4) ++ F))) := by
        have g := hs
        rw [show (((is.map fun x => x.1).take 3).map pt) = (is.take 3).map kpt by rw [kpt_pt]; simp, show (((is.map fun x => x.1).drop 4).map pt) = (is.drop 4).map kpt by rw [kpt_pt]; simp,
          show (((ks.map Tr.root).take 4).map pt) = (ks.take 4).map (fun k => pt k.root) by rw [rt_pt]; simp, show (((ks.map Tr.root).drop 4).map pt) = (ks.drop 4).map (fun k => pt k.root) by rw [rt_pt]; simp] at g
        refine sat.tls (l1 := [pto p (.row 2 [[iv1, kv1]] 1), Ow 1 iv1 ((is.take 3).map kpt), Ow 1 kv1 ((ks.take 4).map fun k => pt k.root)]) g fun h g => ?_
        have g2 : sat h ([pto p2 (.row 2 [[iv2, kv2]] 1), Ow 1 iv2 ((is.drop 4).map kpt), Ow 1 kv2 ((ks.drop 4).map fun k => pt k.root)] ++ ((ks.take 4).map Tr.asr ++ ((ks.drop 4).map Tr.asr ++ F))) := by
          rw [← hks]; exact g
        exact g2.swapl
      have hq2 : sat h (Tr.parts p iv1 kv1 (is.take 3) (ks.take 4) ++ (Tr.parts p2 iv2 kv2 (is.drop 4) (ks.drop 4) ++ F)) := by
        exact hq
      exact hq2.tls fun h g => sat_nd.2 g
end
end Go.Proofs.Ytnojalihnajkbaa
/- insert. -/
set_option linter.unusedSimpArgs false
set_option linter.unusedVariables false
set_option maxRecDepth 10000
namespace Go.Proofs.Ytnojalihnajkbaa
open Go.Hz

section
variable {h : Hp} {F : List Asr}
theorem insK_place {is : List Kp} {x : Kp} {j : Nat} {q : Bool} (hp : PlaceR is x.2 j q) : is.take j ++ x :: is.drop j = insK x is := by
  have := insK_split (x := x) (A := is.take j) (C := is.drop j) (fun y hy => ?_) (fun y hy => ?_)
  · rw [List.take_append_drop] at this; exact this.symm
  · obtain ⟨i, hi⟩ := List.getElem?_of_mem hy
    rw [List.getElem?_take] at hi
    split at hi
    · exact hp.lo i y hi (by assumption)
    · cases hi
  · rw [List.head?_drop] at hy
    exact hp.hi j y hy (Nat.le_refl _)

theorem insert : ∀ (d : Nat) (t : Tr) (x : Kp) {h : Hp} {F : List Asr}, OKd d t → Srt t.flat → sat h (t.asr :: F) → (∀ h, sat h F → IR t.flat h) → (∀ h, sat h F → ∃ mv, h x.1 = some (.row 2 [[.str x.2, mv]] 1)) →
    Triple Try.prog 32 [.ptr t.root 2 0 0, .ptr x.1 2 0 0] h (InsR d t.root (insK x t.flat) F) := by
  intro d
  induction d with
  | zero =>
    rintro ⟨p, iv, kv, is, ks⟩ x h F ⟨h5, rfl⟩ hS hs hI hX
    rw [Tr.flat_nd] at hS hI ⊢
    have hs := sat_nd.1 hs
    have hN : ∀ h, sat h (Tr.parts p iv kv is [] ++ F) → NR p iv kv is h := fun h hs => ⟨hs.at, hs.drop.owr, fun y hy => hI h hs.right y (mem_weave _ _ hy)⟩
    obtain ⟨mv, hx⟩ := hX h hs.right
    refine t32 (Nat.le_of_ble_eq_true rfl) ?_
    simp (disch := omega) only [F32, Tr.root, go_sem, reduceCtorEq, ↓reduceIte, Nat.reduceEqDiff, Nat.reduceAdd, Nat.reduceSub, Nat.reduceMul, Nat.reduceLT, Nat.reduceLeDiff, Int.reduceEq, Int.reduceNe, Int.reduceLT, Int.reduceLE, Int.reduceBEq, Int.reduceBNe, Int.reduceToNat]
    simp (disch := omega) only [go_sem, reduceCtorEq, ↓reduceIte, Nat.reduceEqDiff, Nat.reduceAdd, Nat.reduceSub, Nat.reduceMul, Nat.reduceLT, Nat.reduceLeDiff, Int.reduceEq, Int.reduceNe, Int.reduceLT, Int.reduceLE, Int.reduceBEq, Int.reduceBNe, Int.reduceToNat, hx]
    refine call_use (place hs hN (weave_srt _ _ hS) (by omega)) ?_
    rintro r h ⟨j, q, hr, hp, hs⟩
    subst hr
    have hkl := hs.drop.drop.owr.len
    simp (disch := omega) only [go_sem, reduceCtorEq, ↓reduceIte, Nat.reduceEqDiff, Nat.reduceAdd, Nat.reduceSub, Nat.reduceMul, Nat.reduceLT, Nat.reduceLeDiff, Int.reduceEq, Int.reduceNe, Int.reduceLT, Int.reduceLE, Int.reduceBEq, Int.reduceBNe, Int.reduceToNat, (hN h hs).nd, hkl]
    refine new_opq hs fun bx h hs => ?_
    simp (disch := omega) only [go_sem, reduceCtorEq, ↓reduceIte, Nat.reduceEqDiff, Nat.reduceAdd, Nat.reduceSub, Nat.reduceMul, Nat.reduceLT, Nat.reduceLeDiff, Int.reduceEq, Int.reduceNe, Int.reduceLT, Int.reduceLE, Int.reduceBEq, Int.reduceBNe, Int.reduceToNat, hs.at]
    have hs' : sat h (pto bx (.row 1 [pt x.1] 1) :: pto p (.row 2 [[iv, kv]] 1) :: Ow 1 iv (is.map kpt) :: Ow 1 kv ([] : List (List AV)) :: F) := hs
    rw [kpt_pt] at hs'
    refine call_use (ins_item (x := x.1) (i := j) (hs'.p3.p2.p2.p3) (by simpa using hp.le) (by simp; omega) (Nat.le_refl _)) ?_
    intro iv' h hs
    have hc := hs.els.cells
    have ha := hs.els.atom
    have g := hs.p1
    simp (disch := omega) only [go_sem, reduceCtorEq, ↓reduceIte, Nat.reduceEqDiff, Nat.reduceAdd, Nat.reduceSub, Nat.reduceMul, Nat.reduceLT, Nat.reduceLeDiff, Int.reduceEq, Int.reduceNe, Int.reduceLT, Int.reduceLE, Int.reduceBEq, Int.reduceBNe, Int.reduceToNat, g.at, hc, ha]
    have g2 := g.set (o' := .row 2 [[iv', kv]] 1)
    have e1 : ((is.map fun x => x.1).take j ++ x.1 :: (is.map fun x => x.1).drop j).map pt = (insK x is).map kpt := by
      rw [← insK_place hp, kpt_pt]; simp
    rw [e1] at g2
    refine call_use (finish (d := 0) (is := insK x is) (ks := []) (by rw [insK_len]; omega) rfl g2) ?_
    intro r h hr
    rcases hr with ⟨t', rfl, hr⟩ | ⟨t1, m, t2, rfl, hr⟩
    · simp (disch := omega) only [go_sem, reduceCtorEq, ↓reduceIte, Nat.reduceEqDiff, Nat.reduceAdd, Nat.reduceSub, Nat.reduceMul, Nat.reduceLT, Nat.reduceLeDiff, Int.reduceEq, Int.reduceNe, Int.reduceLT, Int.reduceLE, Int.reduceBEq, Int.reduceBNe, Int.reduceToNat]
      exact .inl ⟨t', rfl, hr⟩
    · simp (disch := omega) only [go_sem, reduceCtorEq, ↓reduceIte, Nat.reduceEqDiff, Nat.reduceAdd, Nat.reduceSub, Nat.reduceMul, Nat.reduceLT, Nat.reduceLeDiff, Int.reduceEq, Int.reduceNe, Int.reduceLT, Int.reduceLE, Int.reduceBEq, Int.reduceBNe, Int.reduceToNat]
      exact .inr ⟨t1, m, t2, rfl, hr⟩
  | succ d ih =>
    rintro ⟨p, iv, kv, is, ks⟩ x h F ⟨o0, o1, o2, o3⟩ hS hs hI hX
    rw [Tr.flat_nd] at hS hI ⊢
    have hs := sat_nd.1 hs
    have hN : ∀ h, sat h (Tr.parts p iv kv is ks ++ F) → NR p iv kv is h := fun h hs => ⟨hs.at, hs.drop.owr, fun y hy => hI h hs.right y (mem_weave _ _ hy)⟩
    obtain ⟨mv, hx⟩ := hX h hs.right
    refine t32 (Nat.le_of_ble_eq_true rfl) ?_
    simp (disch := omega) only [F32, Tr.root, go_sem, reduceCtorEq, ↓reduceIte, Nat.reduceEqDiff, Nat.reduceAdd, Nat.reduceSub, Nat.reduceMul, Nat.reduceLT, Nat.reduceLeDiff, Int.reduceEq, Int.reduceNe, Int.reduceLT, Int.reduceLE, Int.reduceBEq, Int.reduceBNe, Int.reduceToNat]
    simp (disch := omega) only [go_sem, reduceCtorEq, ↓reduceIte, Nat.reduceEqDiff, Nat.reduceAdd, Nat.reduceSub, Nat.reduceMul, Nat.reduceLT, Nat.reduceLeDiff, Int.reduceEq, Int.reduceNe, Int.reduceLT, Int.reduceLE, Int.reduceBEq, Int.reduceBNe, Int.reduceToNat, hx]
    refine call_use (place hs hN (weave_srt _ _ hS) (by omega)) ?_
    rintro r h ⟨j, q, hr, hp, hs⟩
    subst hr
    have hjk : j < ks.length := by have := hp.le; omega
    have hk := List.getElem?_eq_getElem hjk
    have hlk : (ks.map fun k => pt k.root).length = ks.length := by simp
    obtain ⟨b, cap, hkv, hb, _⟩ := hs.drop.drop.owr.row (pt_get' hk)
    rw [hlk] at hkv
    have hz : ((ks.length : Int) == 0) = false := by rw [beq_eq_false_iff_ne]; omega
    simp (disch := omega) only [go_sem, reduceCtorEq, ↓reduceIte, Nat.reduceEqDiff, Nat.reduceAdd, Nat.reduceSub, Nat.reduceMul, Nat.reduceLT, Nat.reduceLeDiff, Int.reduceEq, Int.reduceNe, Int.reduceLT, Int.reduceLE, Int.reduceBEq, Int.reduceBNe, Int.reduceToNat, (hN h hs).nd, hkv, hz, ia_go hjk, hb, pt_get' hk]
    obtain ⟨A, C, w1, w2, w3, cA, cC, _, hC⟩ := hp.cut (by simpa using o2) hS
    have hkf : (ks.map Tr.flat).getD j [] = ks[j].flat := by simp [hk]
    rw [hkf] at w1
    have hins : insK x (weave (ks.map Tr.flat) is) = A ++ insK x ks[j].flat ++ C := by
      rw [w1]; exact insK_mid cA fun y hy => cC y (List.mem_of_mem_head? hy)
    have eks : ks = ks.take j ++ ks[j] :: ks.drop (j + 1) := by rw [← List.drop_eq_getElem_cons, List.take_append_drop]
    have hq : sat h (ks[j].asr :: ([pto p (.row 2 [[iv, kv]] 1), Ow 1 iv (is.map kpt), Ow 1 kv (ks.map fun k => pt k.root)] ++ ((ks.take j).map Tr.asr ++ ((ks.drop (j + 1)).map Tr.asr ++ F)))) := by
      have g : sat h (([pto p (.row 2 [[iv, kv]] 1), Ow 1 iv (is.map kpt), Ow 1 kv (ks.map fun k => pt k.root)] ++ (ks.take j).map Tr.asr) ++ ks[j].asr :: ((ks.drop (j + 1)).map Tr.asr ++ F)) := by
        have e : Tr.parts p iv kv is ks ++ F = ([pto p (.row 2 [[iv, kv]] 1), Ow 1 iv (is.map kpt), Ow 1 kv (ks.map fun k => pt k.root)] ++ (ks.take j).map Tr.asr) ++ ks[j].asr :: ((ks.drop (j + 1)).map Tr.asr ++ F) := by
          have em : ks.map Tr.asr = (ks.take j).map Tr.asr ++ ks[j].asr :: (ks.drop (j + 1)).map Tr.asr := by
            conv => lhs; rw [eks]
            rw [List.map_append, List.map_cons]
          unfold Tr.parts
          rw [em]
          simp only [List.cons_append, List.nil_append, List.append_assoc]
        rw [← e]; exact hs
      have := g.mid
      rw [List.append_assoc] at this
      exact this
    have hnm := List.getElem_mem hjk
    have back : ∀ (t' : Tr) h, t'.root = ks[j].root → sat h (t'.asr :: ([pto p (.row 2 [[iv, kv]] 1), Ow 1 iv (is.map kpt), Ow 1 kv (ks.map fun k => pt k.root)] ++ ((ks.take j).map Tr.asr ++ ((ks.drop (j + 1)).map Tr.asr ++ F)))) →
        sat h (Tr.parts p iv kv is (ks.set j t') ++ F) := by
      intro t' h hroot g
      rw [← List.append_assoc] at g
      have g2 := g.unmid
      have er : (ks.set j t').map (fun k => pt k.root) = ks.map fun k => pt k.root := by
        rw [List.map_set, hroot]
        apply List.ext_getElem (by simp)
        intro i h1 h2
        rw [List.getElem_set]
        split
        · rename_i hij; subst hij; simp
        · rfl
      unfold Tr.parts
      rw [er, List.set_eq_take_append_cons_drop, if_pos hjk]
      simpa using g2
    refine call_use (ih ks[j] x (o3 _ hnm).1 (weave_srt2 _ _ _ (by simpa using o2) (List.mem_map_of_mem hnm) hS) hq (fun h hs => fun y hy => ?_) (fun h hs => ?_)) ?_
    · have := hs.right.right.right
      exact hI h this y (mem_weave2 _ _ ks[j].flat (by simpa using o2) (List.mem_map_of_mem hnm) hy)
    · exact hX h hs.right.right.right
    · intro r h hr
      rcases hr with ⟨t', rfl, okt, hroot, hfl, hs⟩ | ⟨t1, m, t2, rfl, ok1, ok2, hroot, hfl, hne1, hne2, hs⟩
      · have g := back t' h hroot hs
        simp (disch := omega) only [go_sem, reduceCtorEq, ↓reduceIte, Nat.reduceEqDiff, Nat.reduceAdd, Nat.reduceSub, Nat.reduceMul, Nat.reduceLT, Nat.reduceLeDiff, Int.reduceEq, Int.reduceNe, Int.reduceLT, Int.reduceLE, Int.reduceBEq, Int.reduceBNe, Int.reduceToNat]
        have hwf : weave ((ks.set j t').map Tr.flat) is = insK x (weave (ks.map Tr.flat) is) := by
          rw [hins, List.map_set, w2, hfl]
        rw [← hwf]
        refine call_use (finish (d := d + 1) (ks := ks.set j t') (by omega) ⟨o0, by simpa using o2, fun k hk' => ?_⟩ g) ?_
        · rcases List.mem_or_eq_of_mem_set hk' with h1 | h1
          · exact o3 k h1
          · subst h1
            refine ⟨okt, ?_⟩
            rw [hfl]; intro h0
            have := congrArg List.length h0
            rw [insK_len] at this; simp at this
        · intro r h hr
          rcases hr with ⟨t', rfl, hr⟩ | ⟨t1, m, t2, rfl, hr⟩
          · simp (disch := omega) only [go_sem, reduceCtorEq, ↓reduceIte, Nat.reduceEqDiff, Nat.reduceAdd, Nat.reduceSub, Nat.reduceMul, Nat.reduceLT, Nat.reduceLeDiff, Int.reduceEq, Int.reduceNe, Int.reduceLT, Int.reduceLE, Int.reduceBEq, Int.reduceBNe, Int.reduceToNat]
            exact .inl ⟨t', rfl, hr⟩
          · simp (disch := omega) only [go_sem, reduceCtorEq, ↓reduceIte, Nat.reduceEqDiff, Nat.reduceAdd, Nat.reduceSub, Nat.reduceMul, Nat.reduceLT, Nat.reduceLeDiff, Int.reduceEq, Int.reduceNe, Int.reduceLT, Int.reduceLE, Int.reduceBEq, Int.reduceBNe, Int.reduceToNat]
            exact .inr ⟨t1, m, t2, rfl, hr⟩
      · have g0 : sat h (pto p (.row 2 [[iv, kv]] 1) :: Ow 1 iv (is.map kpt) :: Ow 1 kv (ks.map fun k => pt k.root) :: t1.asr :: t2.asr :: ((ks.take j).map Tr.asr ++ ((ks.drop (j + 1)).map Tr.asr ++ F))) :=
          hs.p1.p1.p4.p4.p4
        simp (disch := omega) only [go_sem, reduceCtorEq, ↓reduceIte, Nat.reduceEqDiff, Nat.reduceAdd, Nat.reduceSub, Nat.reduceMul, Nat.reduceLT, Nat.reduceLeDiff, Int.reduceEq, Int.reduceNe, Int.reduceLT, Int.reduceLE, Int.reduceBEq, Int.reduceBNe, Int.reduceToNat, g0.at]
        have hs := g0
        refine new_opq hs fun bx h hs => ?_
        simp (disch := omega) only [go_sem, reduceCtorEq, ↓reduceIte, Nat.reduceEqDiff, Nat.reduceAdd, Nat.reduceSub, Nat.reduceMul, Nat.reduceLT, Nat.reduceLeDiff, Int.reduceEq, Int.reduceNe, Int.reduceLT, Int.reduceLE, Int.reduceBEq, Int.reduceBNe, Int.reduceToNat, hs.at]
        rw [kpt_pt] at hs
        refine call_use (ins_item (x := m.1) (i := j) (hs.p3.p2.p2.p3) (by simpa using hp.le) (by simp; omega) (Nat.le_refl _)) ?_
        intro iv' h hs
        have hc := hs.els.cells
        have ha := hs.els.atom
        have g := hs.p1
        simp (disch := omega) only [go_sem, reduceCtorEq, ↓reduceIte, Nat.reduceEqDiff, Nat.reduceAdd, Nat.reduceSub, Nat.reduceMul, Nat.reduceLT, Nat.reduceLeDiff, Int.reduceEq, Int.reduceNe, Int.reduceLT, Int.reduceLE, Int.reduceBEq, Int.reduceBNe, Int.reduceToNat, g.at, hc, ha]
        have hj1 : (j : Int) + 1 = ((j + 1 : Nat) : Int) := rfl
        have hs := g.set (o' := .row 2 [[iv', kv]] 1)
        simp (disch := omega) only [go_sem, reduceCtorEq, ↓reduceIte, Nat.reduceEqDiff, Nat.reduceAdd, Nat.reduceSub, Nat.reduceMul, Nat.reduceLT, Nat.reduceLeDiff, Int.reduceEq, Int.reduceNe, Int.reduceLT, Int.reduceLE, Int.reduceBEq, Int.reduceBNe, Int.reduceToNat, hs.at, hj1]
        refine new_opq hs fun b2 h hs => ?_
        simp (disch := omega) only [go_sem, reduceCtorEq, ↓reduceIte, Nat.reduceEqDiff, Nat.reduceAdd, Nat.reduceSub, Nat.reduceMul, Nat.reduceLT, Nat.reduceLeDiff, Int.reduceEq, Int.reduceNe, Int.reduceLT, Int.reduceLE, Int.reduceBEq, Int.reduceBNe, Int.reduceToNat, hs.at]
        rw [rt_pt] at hs
        refine call_use (ins_node (x := t2.root) (i := j + 1) (hs.p2.p2.p2.p3) (by simp; omega) (by simp; omega) (Nat.le_refl _)) ?_
        intro kv' h hs
        have hc := hs.els.cells
        have ha := hs.els.atom
        have g := hs.p1
        simp (disch := omega) only [go_sem, reduceCtorEq, ↓reduceIte, Nat.reduceEqDiff, Nat.reduceAdd, Nat.reduceSub, Nat.reduceMul, Nat.reduceLT, Nat.reduceLeDiff, Int.reduceEq, Int.reduceNe, Int.reduceLT, Int.reduceLE, Int.reduceBEq, Int.reduceBNe, Int.reduceToNat, g.at, hc, ha]
        have g2 := g.set (o' := .row 2 [[iv', kv']] 1)
        have e1 : ((is.map fun x => x.1).take j ++ m.1 :: (is.map fun x => x.1).drop j).map pt = (is.take j ++ m :: is.drop j).map kpt := by
          rw [kpt_pt]; simp
        have e2 : ((ks.map Tr.root).take (j + 1) ++ t2.root :: (ks.map Tr.root).drop (j + 1)).map pt = (ks.take j ++ t1 :: t2 :: ks.drop (j + 1)).map fun k => pt k.root := by
          have : (ks.map Tr.root).take (j + 1) = (ks.take j).map Tr.root ++ [t1.root] := by
            rw [List.take_succ_eq_append_getElem (by simpa using hjk), hroot]; simp
          rw [this, rt_pt]; simp
        rw [e1, e2] at g2
        generalize h.set p (.row 2 [[iv', kv']] 1) = hh at g2 ⊢
        have g3 : sat hh (Tr.parts p iv' kv' (is.take j ++ m :: is.drop j) (ks.take j ++ t1 :: t2 :: ks.drop (j + 1)) ++ F) := by
          have e3 : Tr.parts p iv' kv' (is.take j ++ m :: is.drop j) (ks.take j ++ t1 :: t2 :: ks.drop (j + 1)) ++ F =
              [pto p (.row 2 [[iv', kv']] 1), Ow 1 iv' ((is.take j ++ m :: is.drop j).map kpt), Ow 1 kv' ((ks.take j ++ t1 :: t2 :: ks.drop (j + 1)).map fun k => pt k.root)] ++ ((ks.take j).map Tr.asr ++ ([t1.asr, t2.asr] ++ ((ks.drop (j + 1)).map Tr.asr ++ F))) := by
            unfold Tr.parts
            simp only [List.map_append, List.map_cons, List.cons_append, List.nil_append, List.append_assoc]
          rw [e3]
          refine sat.tls (l := [t1.asr, t2.asr] ++ ((ks.take j).map Tr.asr ++ ((ks.drop (j + 1)).map Tr.asr ++ F))) (g2.p4.p4.p3.p4.p4) fun h g => g.swapl
        have hwf : weave ((ks.take j ++ t1 :: t2 :: ks.drop (j + 1)).map Tr.flat) (is.take j ++ m :: is.drop j) = insK x (weave (ks.map Tr.flat) is) := by
          have := w3 t1.flat m t2.flat
          rw [hins, ← hfl]
          simp only [List.map_append, List.map_cons, List.map_take, List.map_drop]
          rw [this]; simp
        rw [← hwf]
        refine call_use (finish (d := d + 1) (by simp; have := hp.le; omega) ⟨by simp; omega, by simp; have := hp.le; omega, fun k hk' => ?_⟩ g3) ?_
        · rcases List.mem_append.1 hk' with h1 | h1
          · exact o3 k (List.mem_of_mem_take h1)
          · rcases List.mem_cons.1 h1 with h1 | h1
            · subst h1; exact ⟨ok1, hne1⟩
            · rcases List.mem_cons.1 h1 with h1 | h1
              · subst h1; exact ⟨ok2, hne2⟩
              · exact o3 k (List.mem_of_mem_drop h1)
        · intro r h hr
          rcases hr with ⟨t', rfl, hr⟩ | ⟨t1, m, t2, rfl, hr⟩
          · simp (disch := omega) only [go_sem, reduceCtorEq, ↓reduceIte, Nat.reduceEqDiff, Nat.reduceAdd, Nat.reduceSub, Nat.reduceMul, Nat.reduceLT, Nat.reduceLeDiff, Int.reduceEq, Int.reduceNe, Int.reduceLT, Int.reduceLE, Int.reduceBEq, Int.reduceBNe, Int.reduceToNat]
            exact .inl ⟨t', rfl, hr⟩
          · simp (disch := omega) only [go_sem, reduceCtorEq, ↓reduceIte, Nat.reduceEqDiff, Nat.reduceAdd, Nat.reduceSub, Nat.reduceMul, Nat.reduceLT, Nat.reduceLeDiff, Int.reduceEq, Int.reduceNe, Int.reduceLT, Int.reduceLE, Int.reduceBEq, Int.reduceBNe, Int.reduceToNat]
            exact .inr ⟨t1, m, t2, rfl, hr⟩
end
end Go.Proofs.Ytnojalihnajkbaa
/- add, New, Len, Height. -/
set_option linter.unusedSimpArgs false
set_option linter.unusedVariables false
set_option maxRecDepth 10000
namespace Go.Proofs.Ytnojalihnajkbaa
open Go.Hz

section
variable {h : Hp} {F : List Asr}
theorem ixNew (hs : sat h F) : Triple Try.prog 9 [] h (fun r h => ∃ b, r = .ptr b 2 0 0 ∧ sat h (IxQ b [] :: F)) := by
  refine t9 (Nat.le_of_ble_eq_true rfl) ?_
  simp (disch := omega) only [F9, go_sem, reduceCtorEq, ↓reduceIte, Nat.reduceEqDiff, Nat.reduceAdd, Nat.reduceSub, Nat.reduceMul, Nat.reduceLT, Nat.reduceLeDiff, Int.reduceEq, Int.reduceNe, Int.reduceLT, Int.reduceLE, Int.reduceBEq, Int.reduceBNe, Int.reduceToNat]
  refine new_opq hs fun b h hs => ?_
  simp (disch := omega) only [go_sem, reduceCtorEq, ↓reduceIte, Nat.reduceEqDiff, Nat.reduceAdd, Nat.reduceSub, Nat.reduceMul, Nat.reduceLT, Nat.reduceLeDiff, Int.reduceEq, Int.reduceNe, Int.reduceLT, Int.reduceLE, Int.reduceBEq, Int.reduceBNe, Int.reduceToNat, hs.at]
  exact ⟨b, rfl, sat_ixq.2 ⟨none, rfl, hs.tl fun _ g => g.add trivial⟩⟩

theorem ixLen {b : Nat} {its : List Ixt} (hs : sat h (IxQ b its :: F)) : Triple Try.prog 15 [.ptr b 2 0 0] h (fun r h => r = .int .i64 its.length ∧ sat h (IxQ b its :: F)) := by
  refine t15 (Nat.le_of_ble_eq_true rfl) ?_
  simp (disch := omega) only [F15, go_sem, reduceCtorEq, ↓reduceIte, Nat.reduceEqDiff, Nat.reduceAdd, Nat.reduceSub, Nat.reduceMul, Nat.reduceLT, Nat.reduceLeDiff, Int.reduceEq, Int.reduceNe, Int.reduceLT, Int.reduceLE, Int.reduceBEq, Int.reduceBNe, Int.reduceToNat]
  obtain ⟨r, h1, g⟩ := sat_ixq.1 hs
  simp (disch := omega) only [go_sem, reduceCtorEq, ↓reduceIte, Nat.reduceEqDiff, Nat.reduceAdd, Nat.reduceSub, Nat.reduceMul, Nat.reduceLT, Nat.reduceLeDiff, Int.reduceEq, Int.reduceNe, Int.reduceLT, Int.reduceLE, Int.reduceBEq, Int.reduceBNe, Int.reduceToNat, g.at]
  exact hs

theorem eqN_root (r : Option (Nat × Tr)) : eqN .ptr (rootV r) .nilp = some r.isNone := by
  cases r <;> rfl
theorem root_cells (r : Option (Nat × Tr)) : (rootV r).cells = [rootV r] := by
  cases r <;> rfl
theorem root_atom (r : Option (Nat × Tr)) : (rootV r).isAtom = true := by
  cases r <;> rfl

theorem ixAdd {b : Nat} {its : List Ixt} {x : Ixt} (hs : sat h (IxQ b its :: x.p :: F)) (hS : SrtI its) (hx : ∀ y ∈ its, y.key ≠ x.key) (hl : its.length ≤ 1000000000) :
    Triple Try.prog 24 [.ptr b 2 0 0, .ptr x.a 2 0 0] h (fun r h => sat h (IxQ b (insIt x its) :: F)) := by
  obtain ⟨r, hok, g⟩ := sat_ixq.1 hs
  refine t24 (Nat.le_of_ble_eq_true rfl) ?_
  simp (disch := omega) only [F24, go_sem, reduceCtorEq, ↓reduceIte, Nat.reduceEqDiff, Nat.reduceAdd, Nat.reduceSub, Nat.reduceMul, Nat.reduceLT, Nat.reduceLeDiff, Int.reduceEq, Int.reduceNe, Int.reduceLT, Int.reduceLE, Int.reduceBEq, Int.reduceBNe, Int.reduceToNat]
  have h1 := g.at
  have en : ((its.length : Int) + 1) = ((its.length + 1 : Nat) : Int) := rfl
  have g1 := g.set (o' := .row 2 [[rootV r, .int .i64 ((its.length + 1 : Nat) : Int)]] 1)
  have hw : IntKind.i64.wrap ((its.length + 1 : Nat) : Int) = ((its.length + 1 : Nat) : Int) := wrap_i64_go (by omega) (by omega)
  simp (disch := omega) only [go_sem, reduceCtorEq, ↓reduceIte, Nat.reduceEqDiff, Nat.reduceAdd, Nat.reduceSub, Nat.reduceMul, Nat.reduceLT, Nat.reduceLeDiff, Int.reduceEq, Int.reduceNe, Int.reduceLT, Int.reduceLE, Int.reduceBEq, Int.reduceBNe, Int.reduceToNat, h1, en, hw, eqN_root]
  refine cnd_join (Q := fun e h => ∃ d t, OKd d t ∧ t.flat = its.map Ixt.kp ∧ sat h (pto b (.row 2 [[.ptr t.root 2 0 0, .int .i64 ((its.length + 1 : Nat) : Int)]] 1) :: t.asr :: (its.map Ixt.p ++ x.p :: F)) ∧ (e 0 = .ptr b 2 0 0 ∧ e 1 = .ptr x.a 2 0 0)) ?_ ?_
  · cases r with
    | none =>
      have hi0 : its.map Ixt.kp = [] := hok
      simp only [rootV] at g1 ⊢
      simp (disch := omega) only [go_sem, reduceCtorEq, ↓reduceIte, Nat.reduceEqDiff, Nat.reduceAdd, Nat.reduceSub, Nat.reduceMul, Nat.reduceLT, Nat.reduceLeDiff, Int.reduceEq, Int.reduceNe, Int.reduceLT, Int.reduceLE, Int.reduceBEq, Int.reduceBNe, Int.reduceToNat, Option.isNone_none]
      have hs := g1
      refine new_opq hs fun p h hs => ?_
      simp (disch := omega) only [go_sem, reduceCtorEq, ↓reduceIte, Nat.reduceEqDiff, Nat.reduceAdd, Nat.reduceSub, Nat.reduceMul, Nat.reduceLT, Nat.reduceLeDiff, Int.reduceEq, Int.reduceNe, Int.reduceLT, Int.reduceLE, Int.reduceBEq, Int.reduceBNe, Int.reduceToNat, hs.at]
      have g2 := hs.p1.set (o' := .row 2 [[.ptr p 2 0 0, .int .i64 ((its.length + 1 : Nat) : Int)]] 1)
      simp (disch := omega) only [go_sem, reduceCtorEq, ↓reduceIte, Nat.reduceEqDiff, Nat.reduceAdd, Nat.reduceSub, Nat.reduceMul, Nat.reduceLT, Nat.reduceLeDiff, Int.reduceEq, Int.reduceNe, Int.reduceLT, Int.reduceLE, Int.reduceBEq, Int.reduceBNe, Int.reduceToNat, hs.p1.at]
      refine ⟨0, .nd p .nils .nils [] [], ⟨by simp, rfl⟩, by rw [hi0, Tr.flat_nd]; rfl, ?_⟩
      refine g2.tl fun h g => sat_nd.2 ?_
      refine g.tl fun h g => ?_
      exact (g.drop.add ow_nil).add ow_nil
    | some dt =>
      obtain ⟨d, t⟩ := dt
      simp (disch := omega) only [go_sem, reduceCtorEq, ↓reduceIte, Nat.reduceEqDiff, Nat.reduceAdd, Nat.reduceSub, Nat.reduceMul, Nat.reduceLT, Nat.reduceLeDiff, Int.reduceEq, Int.reduceNe, Int.reduceLT, Int.reduceLE, Int.reduceBEq, Int.reduceBNe, Int.reduceToNat, Option.isNone_some]
      exact ⟨d, t, hok.1, hok.2, g1⟩
  · rintro e h ⟨d, t, ok, hfl, hs, he⟩
    simp (disch := omega) only [go_sem, reduceCtorEq, ↓reduceIte, Nat.reduceEqDiff, Nat.reduceAdd, Nat.reduceSub, Nat.reduceMul, Nat.reduceLT, Nat.reduceLeDiff, Int.reduceEq, Int.reduceNe, Int.reduceLT, Int.reduceLE, Int.reduceBEq, Int.reduceBNe, Int.reduceToNat, he, hs.at]
    have hS' : Srt t.flat := by rw [hfl]; exact hS
    refine call_use (insert d t x.kp ok hS' (hs.p1) (fun h hs => ?_) (fun h hs => ⟨x.mv, ?_⟩)) ?_
    · rw [hfl]; exact IR.of hs.drop
    · exact ItP.k hs.drop.mid
    · rintro r h (⟨t', rfl, ok', hroot, hfl', hs⟩ | ⟨t1, m, t2, rfl, ok1, ok2, hroot, hfl', hne1, hne2, hs⟩)
      · simp (disch := omega) only [go_sem, reduceCtorEq, ↓reduceIte, Nat.reduceEqDiff, Nat.reduceAdd, Nat.reduceSub, Nat.reduceMul, Nat.reduceLT, Nat.reduceLeDiff, Int.reduceEq, Int.reduceNe, Int.reduceLT, Int.reduceLE, Int.reduceBEq, Int.reduceBNe, Int.reduceToNat, he]
        refine sat_ixq.2 ⟨some (d, t'), ⟨ok', ?_⟩, ?_⟩
        · rw [hfl', insIt_kp, hfl]
        · rw [insIt_len]
          simp only [rootV, rootA, hroot]
          refine hs.p1.tl fun h g => g.tl fun h g => ?_
          have g2 := g.mid
          exact sat.permMap (l := x :: its) (insIt_perm x its).symm g2
      · simp (disch := omega) only [go_sem, reduceCtorEq, ↓reduceIte, Nat.reduceEqDiff, Nat.reduceAdd, Nat.reduceSub, Nat.reduceMul, Nat.reduceLT, Nat.reduceLeDiff, Int.reduceEq, Int.reduceNe, Int.reduceLT, Int.reduceLE, Int.reduceBEq, Int.reduceBNe, Int.reduceToNat, he]
        refine new_opq hs fun bi h hs => ?_
        simp (disch := omega) only [go_sem, reduceCtorEq, ↓reduceIte, Nat.reduceEqDiff, Nat.reduceAdd, Nat.reduceSub, Nat.reduceMul, Nat.reduceLT, Nat.reduceLeDiff, Int.reduceEq, Int.reduceNe, Int.reduceLT, Int.reduceLE, Int.reduceBEq, Int.reduceBNe, Int.reduceToNat, hs.at]
        have hb := hs.p2.p2.p2.p3.at
        simp (disch := omega) only [go_sem, reduceCtorEq, ↓reduceIte, Nat.reduceEqDiff, Nat.reduceAdd, Nat.reduceSub, Nat.reduceMul, Nat.reduceLT, Nat.reduceLeDiff, Int.reduceEq, Int.reduceNe, Int.reduceLT, Int.reduceLE, Int.reduceBEq, Int.reduceBNe, Int.reduceToNat, he, hb]
        refine new_opq hs fun bk h hs => ?_
        simp (disch := omega) only [go_sem, reduceCtorEq, ↓reduceIte, Nat.reduceEqDiff, Nat.reduceAdd, Nat.reduceSub, Nat.reduceMul, Nat.reduceLT, Nat.reduceLeDiff, Int.reduceEq, Int.reduceNe, Int.reduceLT, Int.reduceLE, Int.reduceBEq, Int.reduceBNe, Int.reduceToNat, hs.at]
        refine new_opq hs fun p h hs => ?_
        simp (disch := omega) only [go_sem, reduceCtorEq, ↓reduceIte, Nat.reduceEqDiff, Nat.reduceAdd, Nat.reduceSub, Nat.reduceMul, Nat.reduceLT, Nat.reduceLeDiff, Int.reduceEq, Int.reduceNe, Int.reduceLT, Int.reduceLE, Int.reduceBEq, Int.reduceBNe, Int.reduceToNat, hs.at]
        have g2 := (hs.p4.p4.p4.p4.p4.p5).set (o' := .row 2 [[.ptr p 2 0 0, .int .i64 ((its.length + 1 : Nat) : Int)]] 1)
        simp (disch := omega) only [go_sem, reduceCtorEq, ↓reduceIte, Nat.reduceEqDiff, Nat.reduceAdd, Nat.reduceSub, Nat.reduceMul, Nat.reduceLT, Nat.reduceLeDiff, Int.reduceEq, Int.reduceNe, Int.reduceLT, Int.reduceLE, Int.reduceBEq, Int.reduceBNe, Int.reduceToNat, hs.p4.p4.p4.p4.p4.p5.at]
        refine sat_ixq.2 ⟨some (d + 1, .nd p (.arr bi 1 0 1 1) (.arr bk 1 0 2 2) [m] [t1, t2]), ⟨⟨by simp, by simp, by simp, ?_⟩, ?_⟩, ?_⟩
        · intro k hk
          rcases List.mem_cons.1 hk with rfl | hk
          · exact ⟨ok1, hne1⟩
          · simp at hk; subst hk; exact ⟨ok2, hne2⟩
        · rw [Tr.flat_nd, insIt_kp, ← hfl, ← hfl']; simp [weave]
        · rw [insIt_len]
          refine g2.tl fun h g => ?_
          refine sat_nd.2 ?_
          have g3 : sat h ([pto p (.row 2 [[.arr bi 1 0 1 1, .arr bk 1 0 2 2]] 1), pto bi (.row 1 ([m].map kpt) 1), pto bk (.row 1 ([t1, t2].map fun k => pt k.root) 2), t1.asr, t2.asr] ++ (its.map Ixt.p ++ x.p :: F)) := by
            rw [hroot.symm] at g
            exact g.p4.p4.p3.p4.p4
          have g4 := g3.tls fun h g => sat.permMap (l := x :: its) (insIt_perm x its).symm g.mid
          exact g4.tl fun h g => (g.ow (cap := 1) (by simp)).tl fun h g => g.ow (cap := 2) (by simp)
end
end Go.Proofs.Ytnojalihnajkbaa
