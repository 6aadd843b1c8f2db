/- The texts of functions as the small machine has them. -/
import Derived.Test.YtcpadbcapeiicaaGreatPure
import Derived.Test.YtcpadbcapeiicaaGreatProg
set_option linter.unusedVariables false
set_option linter.unusedSimpArgs false
/- The seat's table of functions: each by its own text, but for one that is run once for all. -/
namespace Go.Proofs.YtcpadbcapeiicaaGreat
open Go Go.Proofs.Am Go.Proofs.Pm

def Tb (T : Tbl) : Prop := ∀ f, f ≠ 7 → T f = T0 Tryz.prog f
end Go.Proofs.YtcpadbcapeiicaaGreat

namespace Go.Proofs.YtcpadbcapeiicaaGreat
open Go Go.Proofs.Am Go.Proofs.Pm
set_option maxRecDepth 100000

abbrev a3_r0 : List AOper := [⟨(some 14), (.move (.t 0)), none⟩, ⟨(some 15), (.call (.f 6) [(.t 14)]), none⟩, ⟨(some 16), (.un .not (.t 15)), none⟩, ⟨(some 17), (.move (.t 16)), none⟩, ⟨(some 18), (.move (.t 1)), (some (3, false))⟩, ⟨(some 19), (.lenS (.t 18)), (some (3, false))⟩, ⟨(some 20), (.bin .gtr (.t 19) (.c (.int .i64 30))), (some (3, false))⟩, ⟨(some 21), (.pick (.t 17) (.c (.bool true)) (.t 20)), none⟩, ⟨(some 22), (.move (.t 21)), none⟩, ⟨(some 23), (.move (.t 1)), (some (8, false))⟩, ⟨(some 24), (.lenS (.t 23)), (some (8, false))⟩, ⟨(some 25), (.bin .eql (.t 24) (.c (.int .i64 0))), (some (8, false))⟩, ⟨(some 26), (.pick (.t 22) (.c (.bool true)) (.t 25)), none⟩, ⟨(some 27), (.move (.t 26)), none⟩, ⟨(some 28), (.call (.f 7) []), (some (13, false))⟩, ⟨(some 29), (.un .not (.t 28)), (some (13, false))⟩, ⟨(some 30), (.pick (.t 27) (.c (.bool true)) (.t 29)), none⟩]
abbrev a3_r1 : List AOper := [⟨(some 31), (.call (.f 7) []), none⟩, ⟨(some 8), (.move (.t 31)), none⟩]
abbrev a3_r2 : List AOper := [⟨(some 32), (.move (.t 2)), none⟩, ⟨(some 33), (.conv .i64 (.t 32)), none⟩, ⟨(some 34), (.move (.t 1)), none⟩, ⟨(some 35), (.lenS (.t 34)), none⟩, ⟨(some 36), (.bin .rem (.t 33) (.t 35)), none⟩, ⟨(some 9), (.move (.t 36)), none⟩]
abbrev a3_r3 : List AOper := [⟨(some 37), (.move (.t 3)), none⟩, ⟨(some 38), (.conv .i64 (.t 37)), none⟩, ⟨(some 39), (.move (.t 1)), none⟩, ⟨(some 40), (.lenS (.t 39)), none⟩, ⟨(some 41), (.bin .add (.t 40) (.c (.int .i64 1))), none⟩, ⟨(some 42), (.bin .rem (.t 38) (.t 41)), none⟩, ⟨(some 10), (.move (.t 42)), none⟩]
abbrev a3_r4 : List AOper := [⟨(some 43), (.row 29 0 [] []), none⟩, ⟨(some 44), (.move (.t 1)), none⟩, ⟨(some 45), (.move (.t 10)), none⟩, ⟨(some 46), (.slice 3 (.t 44) none (some (.t 45)) none), none⟩, ⟨(some 47), (.append 29 3 24 (.t 43) (.t 46)), none⟩, ⟨(some 48), (.move (.t 1)), none⟩, ⟨(some 49), (.move (.t 9)), none⟩, ⟨(some 50), (.indexAddr 3 (.t 48) (.t 49)), none⟩, ⟨(some 51), (.loadN 3 (.t 50)), none⟩, ⟨(some 52), (.row 29 1 [(.int .u64 0), (.int .i64 0), (.int .i64 0)] [(0, (3, (.t 51)))]), none⟩, ⟨(some 53), (.append 29 3 24 (.t 47) (.t 52)), none⟩, ⟨(some 54), (.move (.t 1)), none⟩, ⟨(some 55), (.move (.t 10)), none⟩, ⟨(some 56), (.slice 3 (.t 54) (some (.t 55)) none none), none⟩, ⟨(some 57), (.append 29 3 24 (.t 53) (.t 56)), none⟩, ⟨(some 11), (.move (.t 57)), none⟩]
abbrev a3_r5 : List AOper := [⟨(some 59), (.move (.t 0)), none⟩, ⟨(some 60), (.move (.t 11)), none⟩, ⟨(some 61), (.call (.f 8) [(.t 59), (.t 60)]), none⟩, ⟨(some 58), (.move (.t 61)), none⟩, ⟨(some 62), (.extract (.t 58) 0), none⟩, ⟨(some 63), (.extract (.t 58) 1), none⟩, ⟨(some 12), (.move (.t 62)), none⟩, ⟨(some 13), (.move (.t 63)), none⟩]
abbrev a3_r6 : List AOper := [⟨(some 64), (.move (.t 13)), none⟩, ⟨(some 65), (.bin .eql (.t 64) (.c (.int .i64 1))), none⟩, ⟨(some 66), (.move (.t 65)), none⟩, ⟨(some 67), (.move (.t 0)), (some (2, true))⟩, ⟨(some 68), (.move (.t 11)), (some (2, true))⟩, ⟨(some 69), (.call (.f 9) [(.t 67), (.t 68), (.c (.slice none 0 0)), (.c (.slice none 0 0))]), (some (2, true))⟩, ⟨(some 70), (.bin .eql (.t 69) (.c (.int .i64 1))), (some (2, true))⟩, ⟨(some 71), (.pick (.t 66) (.t 70) (.c (.bool false))), none⟩, ⟨(some 8), (.move (.t 71)), none⟩]
abbrev a3_c0 : ACode := (.seq (.region true a3_r4 [(8, 4)] [12, 13, 14, 15]) (.seq (.region false a3_r5 [] []) (.seq (.region false a3_r6 [] []) .ret)))
abbrev a3_c1 : ACode := (.seq (.seq (.region false a3_r0 [] []) (.cond (.t 30) (.seq (.region false a3_r1 [] []) .ret) .skip)) (.seq (.region false a3_r2 [] []) (.seq (.region false a3_r3 [] []) a3_c0)))
abbrev a3_b : ACode := (.seq (.region false [⟨(some 8), (.move (.c (.bool false))), none⟩] [] []) a3_c1)
def a3 : AFunc := ⟨72, [(.tmp 8)], a3_b⟩
abbrev g3 : List Nat := [0, 1, 2, 3, 8, 9, 10, 11, 13, 30]
theorem c3 : cFunc Tryz.prog Tryz.f3 = some a3 := by kernel_rfl
theorem t3 {T : Tbl} (hT : Tb T) : T 3 = some (.code a3) := (hT 3 (by decide)).trans (T0_code (by kernel_rfl) c3)
theorem e3 {T : Tbl} (hT : Tb T) {args : List PV} {R : Except PV PV → PH → Prop} {H : PH} (h : args.length ≤ 72) (k : RK T false 72 (FnQ [(.tmp 8)] R) a3_b [] (finit 0 args) H) : PEv T (.fn 3) args H R := PEv.fn (t3 hT) ⟨rfl, rfl, Nat.add_sub_of_le h⟩ k

abbrev a4_r0 : List AOper := [⟨(some 10), (.move (.t 0)), none⟩, ⟨(some 11), (.call (.f 6) [(.t 10)]), none⟩, ⟨(some 12), (.un .not (.t 11)), none⟩, ⟨(some 13), (.move (.t 12)), none⟩, ⟨(some 14), (.call (.f 7) []), (some (3, false))⟩, ⟨(some 15), (.un .not (.t 14)), (some (3, false))⟩, ⟨(some 16), (.pick (.t 13) (.c (.bool true)) (.t 15)), none⟩]
abbrev a4_r1 : List AOper := [⟨(some 17), (.call (.f 7) []), none⟩, ⟨(some 6), (.move (.t 17)), none⟩]
abbrev a4_r2 : List AOper := [⟨(some 19), (.move (.t 0)), none⟩, ⟨(some 20), (.call (.f 8) [(.t 19), (.c (.slice none 0 0))]), none⟩, ⟨(some 18), (.move (.t 20)), none⟩, ⟨(some 21), (.extract (.t 18) 0), none⟩, ⟨(some 22), (.extract (.t 18) 1), none⟩, ⟨(some 7), (.move (.t 21)), none⟩, ⟨(some 8), (.move (.t 22)), none⟩]
abbrev a4_r3 : List AOper := [⟨(some 23), (.move (.t 8)), none⟩, ⟨(some 24), (.bin .neq (.t 23) (.c (.int .i64 0))), none⟩, ⟨(some 25), (.move (.t 24)), none⟩, ⟨(some 26), (.move (.t 7)), (some (2, false))⟩, ⟨(some 27), (.lenS (.t 26)), (some (2, false))⟩, ⟨(some 28), (.bin .neq (.t 27) (.c (.int .i64 1))), (some (2, false))⟩, ⟨(some 29), (.pick (.t 25) (.c (.bool true)) (.t 28)), none⟩, ⟨(some 30), (.move (.t 29)), none⟩, ⟨(some 31), (.move (.t 0)), (some (7, false))⟩, ⟨(some 32), (.call (.f 9) [(.t 31), (.c (.slice none 0 0)), (.c (.slice none 0 0)), (.c (.slice none 0 0))]), (some (7, false))⟩, ⟨(some 33), (.bin .neq (.t 32) (.c (.int .i64 0))), (some (7, false))⟩, ⟨(some 34), (.pick (.t 30) (.c (.bool true)) (.t 33)), none⟩]
abbrev a4_c0 : ACode := (.cond (.t 34) (.seq (.region false [⟨(some 6), (.move (.c (.bool false))), none⟩] [] []) .ret) .skip)
abbrev a4_r4 : List AOper := [⟨(some 35), (.move (.t 1)), none⟩, ⟨(some 36), (.bin .geq (.t 35) (.c (.int .i64 0))), none⟩, ⟨(some 37), (.move (.t 36)), none⟩, ⟨(some 38), (.move (.t 1)), (some (2, true))⟩, ⟨(some 39), (.move (.t 0)), (some (2, true))⟩, ⟨(some 40), (.lenS (.t 39)), (some (2, true))⟩, ⟨(some 41), (.bin .lss (.t 38) (.t 40)), (some (2, true))⟩, ⟨(some 42), (.pick (.t 37) (.t 41) (.c (.bool false))), none⟩, ⟨(some 43), (.move (.t 42)), none⟩, ⟨(some 44), (.move (.t 2)), (some (8, true))⟩, ⟨(some 45), (.bin .geq (.t 44) (.c (.int .i64 0))), (some (8, true))⟩, ⟨(some 46), (.pick (.t 43) (.t 45) (.c (.bool false))), none⟩, ⟨(some 47), (.move (.t 46)), none⟩, ⟨(some 48), (.move (.t 2)), (some (12, true))⟩, ⟨(some 49), (.move (.t 0)), (some (12, true))⟩, ⟨(some 50), (.move (.t 1)), (some (12, true))⟩, ⟨(some 51), (.indexAddr 1 (.t 49) (.t 50)), (some (12, true))⟩, ⟨(some 52), (.load (.t 51)), (some (12, true))⟩, ⟨(some 53), (.lenS (.t 52)), (some (12, true))⟩, ⟨(some 54), (.bin .lss (.t 48) (.t 53)), (some (12, true))⟩, ⟨(some 55), (.pick (.t 47) (.t 54) (.c (.bool false))), none⟩, ⟨(some 9), (.move (.t 55)), none⟩]
abbrev a4_r5 : List AOper := [⟨(some 56), (.move (.t 9)), none⟩, ⟨(some 57), (.move (.t 56)), none⟩, ⟨(some 58), (.move (.t 0)), (some (1, false))⟩, ⟨(some 59), (.row 3 1 [(.int .i64 0)] [(0, (1, (.c (.int .i64 0))))]), (some (1, false))⟩, ⟨(some 60), (.move (.t 1)), (some (1, false))⟩, ⟨(some 61), (.move (.t 2)), (some (1, false))⟩, ⟨(some 62), (.build [(.int .i64 0), (.int .i64 0), (.int .i64 0), (.int .i64 0), (.int .i64 0), (.int .i64 0), (.int .u64 0), (.slice none 0 0), (.string (bs [])), (.int .i64 0)] [(0, (1, (.t 60))), (1, (1, (.t 61)))]), (some (1, false))⟩, ⟨(some 63), (.row 42 1 [(.int .i64 0), (.int .i64 0), (.int .i64 0), (.int .i64 0), (.int .i64 0), (.int .i64 0), (.int .u64 0), (.slice none 0 0), (.string (bs [])), (.int .i64 0)] [(0, (10, (.t 62)))]), (some (1, false))⟩, ⟨(some 64), (.call (.f 9) [(.t 58), (.c (.slice none 0 0)), (.t 59), (.t 63)]), (some (1, false))⟩, ⟨(some 65), (.bin .eql (.t 64) (.c (.int .i64 3))), (some (1, false))⟩, ⟨(some 66), (.pick (.t 57) (.c (.bool true)) (.t 65)), none⟩, ⟨(some 6), (.move (.t 66)), none⟩]
abbrev a4_c1 : ACode := (.seq (.seq (.region false a4_r3 [] []) a4_c0) (.seq (.region false a4_r4 [] []) (.seq (.region false a4_r5 [] []) .ret)))
abbrev a4_c2 : ACode := (.seq (.seq (.region false a4_r0 [] []) (.cond (.t 16) (.seq (.region false a4_r1 [] []) .ret) .skip)) (.seq (.region false a4_r2 [] []) a4_c1))
abbrev a4_b : ACode := (.seq (.region false [⟨(some 6), (.move (.c (.bool false))), none⟩] [] []) a4_c2)
def a4 : AFunc := ⟨67, [(.tmp 6)], a4_b⟩
abbrev g4 : List Nat := [0, 1, 2, 6, 7, 8, 9, 16, 34]
theorem c4 : cFunc Tryz.prog Tryz.f4 = some a4 := by kernel_rfl
theorem t4 {T : Tbl} (hT : Tb T) : T 4 = some (.code a4) := (hT 4 (by decide)).trans (T0_code (by kernel_rfl) c4)
theorem e4 {T : Tbl} (hT : Tb T) {args : List PV} {R : Except PV PV → PH → Prop} {H : PH} (h : args.length ≤ 67) (k : RK T false 67 (FnQ [(.tmp 6)] R) a4_b [] (finit 0 args) H) : PEv T (.fn 4) args H R := PEv.fn (t4 hT) ⟨rfl, rfl, Nat.add_sub_of_le h⟩ k

abbrev a6_l0_r0 : List AOper := [⟨(some 47), (.move (.t 6)), none⟩, ⟨(some 48), (.move (.t 0)), none⟩, ⟨(some 49), (.move (.t 4)), none⟩, ⟨(some 50), (.indexAddr 1 (.t 48) (.t 49)), none⟩, ⟨(some 51), (.load (.t 50)), none⟩, ⟨(some 52), (.move (.t 5)), none⟩, ⟨(some 53), (.indexAddr 6 (.t 51) (.t 52)), none⟩, ⟨(some 54), (.fieldAddr 1 (.t 53)), none⟩, ⟨(some 55), (.load (.t 54)), none⟩, ⟨(some 56), (.lenS (.t 55)), none⟩, ⟨(some 57), (.bin .lss (.t 47) (.t 56)), none⟩]
abbrev a6_l0_r1 : List AOper := [⟨(some 60), (.move (.t 0)), none⟩, ⟨(some 61), (.move (.t 4)), none⟩, ⟨(some 62), (.indexAddr 1 (.t 60) (.t 61)), none⟩, ⟨(some 63), (.load (.t 62)), none⟩, ⟨(some 64), (.move (.t 5)), none⟩, ⟨(some 65), (.indexAddr 6 (.t 63) (.t 64)), none⟩, ⟨(some 66), (.fieldAddr 1 (.t 65)), none⟩, ⟨(some 67), (.load (.t 66)), none⟩, ⟨(some 68), (.move (.t 6)), none⟩, ⟨(some 69), (.indexAddr 6 (.t 67) (.t 68)), none⟩, ⟨(some 70), (.fieldAddr 4 (.t 69)), none⟩, ⟨(some 71), (.load (.t 70)), none⟩, ⟨(some 72), (.lenStr (.t 71)), none⟩, ⟨(some 73), (.bin .gtr (.t 72) (.c (.int .i64 60))), none⟩, ⟨(some 74), (.move (.t 73)), none⟩, ⟨(some 75), (.move (.t 0)), (some (14, false))⟩, ⟨(some 76), (.move (.t 4)), (some (14, false))⟩, ⟨(some 77), (.indexAddr 1 (.t 75) (.t 76)), (some (14, false))⟩, ⟨(some 78), (.load (.t 77)), (some (14, false))⟩, ⟨(some 79), (.move (.t 5)), (some (14, false))⟩, ⟨(some 80), (.indexAddr 6 (.t 78) (.t 79)), (some (14, false))⟩, ⟨(some 81), (.fieldAddr 1 (.t 80)), (some (14, false))⟩, ⟨(some 82), (.load (.t 81)), (some (14, false))⟩, ⟨(some 83), (.move (.t 6)), (some (14, false))⟩, ⟨(some 84), (.indexAddr 6 (.t 82) (.t 83)), (some (14, false))⟩, ⟨(some 85), (.fieldAddr 5 (.t 84)), (some (14, false))⟩, ⟨(some 86), (.load (.t 85)), (some (14, false))⟩, ⟨(some 87), (.lenStr (.t 86)), (some (14, false))⟩, ⟨(some 88), (.bin .gtr (.t 87) (.c (.int .i64 60))), (some (14, false))⟩, ⟨(some 89), (.pick (.t 74) (.c (.bool true)) (.t 88)), none⟩]
abbrev a6_l0_c0 : ACode := (.cond (.t 89) (.seq (.region false [⟨(some 2), (.move (.c (.bool false))), none⟩] [] []) .ret) .skip)
abbrev a6_l0_r2 : List AOper := [⟨(some 58), (.move (.t 6)), none⟩, ⟨(some 59), (.bin .add (.t 58) (.c (.int .i64 1))), none⟩, ⟨(some 6), (.move (.t 59)), none⟩]
abbrev a6_l0_c1 : ACode := (.seq (.block 5 (.seq (.region false a6_l0_r1 [] []) a6_l0_c0)) (.region false a6_l0_r2 [] []))
abbrev a6_l0 : ACode := (.seq (.seq (.region false a6_l0_r0 [] []) (.cond (.t 57) .skip (.exit 4))) a6_l0_c1)
abbrev a6_l1_r0 : List AOper := [⟨(some 13), (.move (.t 5)), none⟩, ⟨(some 14), (.move (.t 0)), none⟩, ⟨(some 15), (.move (.t 4)), none⟩, ⟨(some 16), (.indexAddr 1 (.t 14) (.t 15)), none⟩, ⟨(some 17), (.load (.t 16)), none⟩, ⟨(some 18), (.lenS (.t 17)), none⟩, ⟨(some 19), (.bin .lss (.t 13) (.t 18)), none⟩]
abbrev a6_l1_r1 : List AOper := [⟨(some 22), (.move (.t 3)), none⟩, ⟨(some 23), (.bin .add (.t 22) (.c (.int .i64 1))), none⟩, ⟨(some 3), (.move (.t 23)), none⟩]
abbrev a6_l1_r2 : List AOper := [⟨(some 24), (.move (.t 0)), none⟩, ⟨(some 25), (.move (.t 4)), none⟩, ⟨(some 26), (.indexAddr 1 (.t 24) (.t 25)), none⟩, ⟨(some 27), (.load (.t 26)), none⟩, ⟨(some 28), (.move (.t 5)), none⟩, ⟨(some 29), (.indexAddr 6 (.t 27) (.t 28)), none⟩, ⟨(some 30), (.fieldAddr 1 (.t 29)), none⟩, ⟨(some 31), (.load (.t 30)), none⟩, ⟨(some 32), (.lenS (.t 31)), none⟩, ⟨(some 33), (.bin .gtr (.t 32) (.c (.int .i64 6))), none⟩, ⟨(some 34), (.move (.t 33)), none⟩, ⟨(some 35), (.move (.t 0)), (some (10, false))⟩, ⟨(some 36), (.move (.t 4)), (some (10, false))⟩, ⟨(some 37), (.indexAddr 1 (.t 35) (.t 36)), (some (10, false))⟩, ⟨(some 38), (.load (.t 37)), (some (10, false))⟩, ⟨(some 39), (.move (.t 5)), (some (10, false))⟩, ⟨(some 40), (.indexAddr 6 (.t 38) (.t 39)), (some (10, false))⟩, ⟨(some 41), (.fieldAddr 2 (.t 40)), (some (10, false))⟩, ⟨(some 42), (.fieldAddr 3 (.t 41)), (some (10, false))⟩, ⟨(some 43), (.load (.t 42)), (some (10, false))⟩, ⟨(some 44), (.lenStr (.t 43)), (some (10, false))⟩, ⟨(some 45), (.bin .gtr (.t 44) (.c (.int .i64 60))), (some (10, false))⟩, ⟨(some 46), (.pick (.t 34) (.c (.bool true)) (.t 45)), none⟩]
abbrev a6_l1_c0 : ACode := (.cond (.t 46) (.seq (.region false [⟨(some 2), (.move (.c (.bool false))), none⟩] [] []) .ret) .skip)
abbrev a6_l1_c1 : ACode := (.seq (.region false [⟨(some 6), (.move (.c (.int .i64 0))), none⟩] [] []) (.block 4 (.loop a6_l0)))
abbrev a6_l1_r3 : List AOper := [⟨(some 20), (.move (.t 5)), none⟩, ⟨(some 21), (.bin .add (.t 20) (.c (.int .i64 1))), none⟩, ⟨(some 5), (.move (.t 21)), none⟩]
abbrev a6_l1_c2 : ACode := (.seq (.block 3 (.seq (.region false a6_l1_r1 [] []) (.seq (.seq (.region false a6_l1_r2 [] []) a6_l1_c0) a6_l1_c1))) (.region false a6_l1_r3 [] []))
abbrev a6_l1 : ACode := (.seq (.seq (.region false a6_l1_r0 [] []) (.cond (.t 19) .skip (.exit 2))) a6_l1_c2)
abbrev a6_l2_r0 : List AOper := [⟨(some 7), (.move (.t 4)), none⟩, ⟨(some 8), (.move (.t 0)), none⟩, ⟨(some 9), (.lenS (.t 8)), none⟩, ⟨(some 10), (.bin .lss (.t 7) (.t 9)), none⟩]
abbrev a6_l2_r1 : List AOper := [⟨(some 11), (.move (.t 4)), none⟩, ⟨(some 12), (.bin .add (.t 11) (.c (.int .i64 1))), none⟩, ⟨(some 4), (.move (.t 12)), none⟩]
abbrev a6_l2_c0 : ACode := (.seq (.block 1 (.seq (.region false [⟨(some 5), (.move (.c (.int .i64 0))), none⟩] [] []) (.block 2 (.loop a6_l1)))) (.region false a6_l2_r1 [] []))
abbrev a6_l2 : ACode := (.seq (.seq (.region false a6_l2_r0 [] []) (.cond (.t 10) .skip (.exit 0))) a6_l2_c0)
abbrev a6_r0 : List AOper := [⟨(some 90), (.move (.t 0)), none⟩, ⟨(some 91), (.lenS (.t 90)), none⟩, ⟨(some 92), (.bin .geq (.t 91) (.c (.int .i64 1))), none⟩, ⟨(some 93), (.move (.t 92)), none⟩, ⟨(some 94), (.move (.t 0)), (some (3, true))⟩, ⟨(some 95), (.lenS (.t 94)), (some (3, true))⟩, ⟨(some 96), (.bin .leq (.t 95) (.c (.int .i64 4))), (some (3, true))⟩, ⟨(some 97), (.pick (.t 93) (.t 96) (.c (.bool false))), none⟩, ⟨(some 98), (.move (.t 97)), none⟩, ⟨(some 99), (.move (.t 3)), (some (8, true))⟩, ⟨(some 100), (.bin .leq (.t 99) (.c (.int .i64 16))), (some (8, true))⟩, ⟨(some 101), (.pick (.t 98) (.t 100) (.c (.bool false))), none⟩, ⟨(some 2), (.move (.t 101)), none⟩]
abbrev a6_c0 : ACode := (.seq (.seq (.region false [⟨(some 4), (.move (.c (.int .i64 0))), none⟩] [] []) (.block 0 (.loop a6_l2))) (.seq (.region false a6_r0 [] []) .ret))
abbrev a6_b : ACode := (.seq (.region false [⟨(some 2), (.move (.c (.bool false))), none⟩] [] []) (.seq (.region false [⟨(some 3), (.move (.c (.int .i64 0))), none⟩] [] []) a6_c0))
def a6 : AFunc := ⟨102, [(.tmp 2)], a6_b⟩
abbrev g6 : List Nat := [0, 2, 3, 4, 5, 6, 10, 19, 46, 57, 89]
theorem c6 : cFunc Tryz.prog Tryz.f6 = some a6 := by kernel_rfl
theorem t6 {T : Tbl} (hT : Tb T) : T 6 = some (.code a6) := (hT 6 (by decide)).trans (T0_code (by kernel_rfl) c6)
theorem e6 {T : Tbl} (hT : Tb T) {args : List PV} {R : Except PV PV → PH → Prop} {H : PH} (h : args.length ≤ 102) (k : RK T false 102 (FnQ [(.tmp 2)] R) a6_b [] (finit 0 args) H) : PEv T (.fn 6) args H R := PEv.fn (t6 hT) ⟨rfl, rfl, Nat.add_sub_of_le h⟩ k

abbrev a8_l0_r0 : List AOper := [⟨(some 27), (.indexAddr 3 (.t 23) (.t 25)), none⟩, ⟨(some 28), (.loadN 3 (.t 27)), none⟩, ⟨(some 9), (.new 29 [(.int .u64 0), (.int .i64 0), (.int .i64 0)]), none⟩, ⟨none, (.store 3 (.t 9) (.t 28)), none⟩]
abbrev a8_l0_r1 : List AOper := [⟨(some 30), (.move (.t 0)), none⟩, ⟨(some 31), (.fieldAddr 0 (.t 9)), none⟩, ⟨(some 32), (.load (.t 31)), none⟩, ⟨(some 33), (.call (.f 15) [(.t 32)]), none⟩, ⟨(some 34), (.call (.f 14) [(.t 30), (.t 33)]), none⟩, ⟨(some 29), (.move (.t 34)), none⟩, ⟨(some 35), (.extract (.t 29) 0), none⟩, ⟨(some 36), (.extract (.t 29) 1), none⟩, ⟨(some 10), (.new 54 [(.int .i64 0), (.slice none 0 0), (.int .i64 0), (.int .i64 0), (.int .i64 0), (.string (bs []))]), none⟩, ⟨none, (.store 6 (.t 10) (.t 35)), none⟩, ⟨(some 11), (.move (.t 36)), none⟩]
abbrev a8_l0_r2 : List AOper := [⟨(some 38), (.move (.t 6)), none⟩, ⟨(some 39), (.fieldAddr 1 (.t 10)), none⟩, ⟨(some 40), (.load (.t 39)), none⟩, ⟨(some 41), (.call (.f 16) [(.t 38), (.t 40)]), none⟩, ⟨(some 37), (.move (.t 41)), none⟩, ⟨(some 42), (.extract (.t 37) 0), none⟩, ⟨(some 43), (.extract (.t 37) 1), none⟩, ⟨(some 44), (.extract (.t 37) 2), none⟩, ⟨(some 12), (.move (.t 42)), none⟩, ⟨(some 13), (.move (.t 43)), none⟩, ⟨(some 14), (.move (.t 44)), none⟩]
abbrev a8_l0_r3 : List AOper := [⟨(some 45), (.fieldAddr 1 (.t 9)), none⟩, ⟨(some 46), (.load (.t 45)), none⟩, ⟨(some 47), (.bin .eql (.t 46) (.c (.int .i64 2))), none⟩, ⟨(some 48), (.move (.t 47)), none⟩, ⟨(some 49), (.move (.t 14)), (some (3, true))⟩, ⟨(some 50), (.bin .eql (.t 49) (.c (.int .i64 0))), (some (3, true))⟩, ⟨(some 51), (.pick (.t 48) (.t 50) (.c (.bool false))), none⟩, ⟨(some 15), (.move (.t 51)), none⟩]
abbrev a8_l0_r4 : List AOper := [⟨(some 52), (.fieldAddr 2 (.t 9)), none⟩, ⟨(some 53), (.load (.t 52)), none⟩, ⟨(some 54), (.move (.t 13)), none⟩, ⟨(some 55), (.bin .neq (.t 53) (.t 54)), none⟩, ⟨(some 56), (.move (.t 55)), none⟩, ⟨(some 57), (.fieldAddr 1 (.t 9)), (some (4, false))⟩, ⟨(some 58), (.load (.t 57)), (some (4, false))⟩, ⟨(some 59), (.move (.t 14)), (some (4, false))⟩, ⟨(some 60), (.bin .neq (.t 58) (.t 59)), (some (4, false))⟩, ⟨(some 61), (.move (.t 60)), (some (4, false))⟩, ⟨(some 62), (.move (.t 15)), (some (9, true))⟩, ⟨(some 63), (.un .not (.t 62)), (some (9, true))⟩, ⟨(some 64), (.pick (.t 61) (.t 63) (.c (.bool false))), (some (4, false))⟩, ⟨(some 65), (.pick (.t 56) (.c (.bool true)) (.t 64)), none⟩]
abbrev a8_l0_r5 : List AOper := [⟨(some 4), (.move (.c (.slice none 0 0))), none⟩, ⟨(some 5), (.move (.c (.int .i64 2))), none⟩]
abbrev a8_l0_r6 : List AOper := [⟨(some 66), (.fieldAddr 1 (.t 9)), none⟩, ⟨(some 67), (.load (.t 66)), none⟩, ⟨(some 68), (.bin .eql (.t 67) (.c (.int .i64 0))), none⟩]
abbrev a8_l0_r7 : List AOper := [⟨(some 69), (.move (.t 12)), none⟩, ⟨(some 6), (.move (.t 69)), none⟩]
abbrev a8_l0_r8 : List AOper := [⟨(some 70), (.move (.t 7)), none⟩, ⟨(some 71), (.move (.t 6)), none⟩, ⟨(some 72), (.row 47 1 [(.slice none 0 0)] [(0, (1, (.t 71)))]), none⟩, ⟨(some 73), (.append 47 1 24 (.t 70) (.t 72)), none⟩, ⟨(some 7), (.move (.t 73)), none⟩]
abbrev a8_l0_c0 : ACode := (.seq (.seq (.region false a8_l0_r6 [] []) (.cond (.t 68) (.region false a8_l0_r7 [] []) .skip)) (.region false a8_l0_r8 [] []))
abbrev a8_l0_c1 : ACode := (.seq (.seq (.region false a8_l0_r4 [] []) (.cond (.t 65) (.seq (.region false a8_l0_r5 [] []) .ret) .skip)) a8_l0_c0)
abbrev a8_l0_c2 : ACode := (.seq (.region false a8_l0_r1 [] []) (.seq (.region false a8_l0_r2 [] []) (.seq (.region false a8_l0_r3 [] []) a8_l0_c1)))
abbrev a8_l0_r9 : List AOper := [⟨(some 74), (.bin .add (.t 25) (.c (.int .i64 1))), none⟩, ⟨(some 25), (.move (.t 74)), none⟩]
abbrev a8_l0_c3 : ACode := (.seq (.block 1 (.seq (.region false a8_l0_r0 [] []) a8_l0_c2)) (.region false a8_l0_r9 [] []))
abbrev a8_l0 : ACode := (.seq (.region false [⟨(some 26), (.bin .lss (.t 25) (.t 24)), none⟩] [] []) (.seq (.cond (.t 26) .skip (.exit 0)) a8_l0_c3))
abbrev a8_r0 : List AOper := [⟨(some 4), (.move (.c (.slice none 0 0))), none⟩, ⟨(some 5), (.move (.c (.int .i64 0))), none⟩]
abbrev a8_r1 : List AOper := [⟨(some 16), (.move (.t 0)), none⟩, ⟨(some 17), (.move (.t 1)), none⟩, ⟨(some 18), (.call (.f 13) [(.t 16), (.t 17)]), none⟩, ⟨(some 19), (.un .not (.t 18)), none⟩]
abbrev a8_r2 : List AOper := [⟨(some 4), (.move (.c (.slice none 0 0))), none⟩, ⟨(some 5), (.move (.c (.int .i64 1))), none⟩]
abbrev a8_r3 : List AOper := [⟨(some 20), (.call (.f 12) []), none⟩, ⟨(some 6), (.move (.t 20)), none⟩]
abbrev a8_r4 : List AOper := [⟨(some 21), (.move (.t 6)), none⟩, ⟨(some 22), (.row 47 1 [(.slice none 0 0)] [(0, (1, (.t 21)))]), none⟩, ⟨(some 7), (.move (.t 22)), none⟩]
abbrev a8_r5 : List AOper := [⟨(some 23), (.move (.t 1)), none⟩, ⟨(some 24), (.lenS (.t 23)), none⟩, ⟨(some 25), (.move (.c (.int .i64 0))), none⟩]
abbrev a8_r6 : List AOper := [⟨(some 75), (.move (.t 7)), none⟩, ⟨(some 4), (.move (.t 75)), none⟩, ⟨(some 5), (.move (.c (.int .i64 0))), none⟩]
abbrev a8_c0 : ACode := (.seq (.seq (.region false a8_r5 [] []) (.block 0 (.loop a8_l0))) (.seq (.region false a8_r6 [] []) .ret))
abbrev a8_c1 : ACode := (.seq (.seq (.region false a8_r1 [] []) (.cond (.t 19) (.seq (.region false a8_r2 [] []) .ret) .skip)) (.seq (.region false a8_r3 [] []) (.seq (.region false a8_r4 [] []) a8_c0)))
abbrev a8_b : ACode := (.seq (.region false a8_r0 [] []) a8_c1)
def a8 : AFunc := ⟨76, [(.tmp 4), (.tmp 5)], a8_b⟩
abbrev g8 : List Nat := [0, 1, 4, 5, 6, 7, 9, 10, 12, 13, 14, 15, 19, 23, 24, 25, 26, 65, 68]
theorem c8 : cFunc Tryz.prog Tryz.f8 = some a8 := by kernel_rfl
theorem t8 {T : Tbl} (hT : Tb T) : T 8 = some (.code a8) := (hT 8 (by decide)).trans (T0_code (by kernel_rfl) c8)
theorem e8 {T : Tbl} (hT : Tb T) {args : List PV} {R : Except PV PV → PH → Prop} {H : PH} (h : args.length ≤ 76) (k : RK T false 76 (FnQ [(.tmp 4), (.tmp 5)] R) a8_b [] (finit 0 args) H) : PEv T (.fn 8) args H R := PEv.fn (t8 hT) ⟨rfl, rfl, Nat.add_sub_of_le h⟩ k

abbrev a9_l0_r0 : List AOper := [⟨(some 36), (.move (.t 34)), none⟩, ⟨(some 37), (.indexAddr 3 (.t 32) (.t 34)), none⟩, ⟨(some 38), (.loadN 3 (.t 37)), none⟩, ⟨(some 13), (.new 29 [(.int .u64 0), (.int .i64 0), (.int .i64 0)]), none⟩, ⟨(some 12), (.move (.t 36)), none⟩, ⟨none, (.store 3 (.t 13) (.t 38)), none⟩]
abbrev a9_l0_r1 : List AOper := [⟨(some 39), (.move (.t 11)), none⟩, ⟨(some 40), (.nilCheck (.t 39)), none⟩, ⟨(some 41), (.fieldAddr 4 (.t 40)), none⟩, ⟨(some 42), (.load (.t 41)), none⟩, ⟨(some 43), (.fieldAddr 0 (.t 13)), none⟩, ⟨(some 44), (.load (.t 43)), none⟩, ⟨(some 45), (.call (.f 15) [(.t 44)]), none⟩, ⟨(some 46), (.move (.t 12)), none⟩, ⟨none, (.update (.st [.int, .int]) (.t 42) (.t 45) (.t 46)), none⟩]
abbrev a9_l0_r2 : List AOper := [⟨(some 47), (.bin .add (.t 34) (.c (.int .i64 1))), none⟩, ⟨(some 34), (.move (.t 47)), none⟩]
abbrev a9_l0_c0 : ACode := (.seq (.block 1 (.seq (.region false a9_l0_r0 [] []) (.region true a9_l0_r1 [(3, 6)] [7, 8]))) (.region false a9_l0_r2 [] []))
abbrev a9_l0 : ACode := (.seq (.region false [⟨(some 35), (.bin .lss (.t 34) (.t 33)), none⟩] [] []) (.seq (.cond (.t 35) .skip (.exit 0)) a9_l0_c0))
abbrev a9_r0 : List AOper := [⟨(some 7), (.box 43 (.t 3)), none⟩, ⟨(some 8), (.move (.c (.int .i64 0))), none⟩]
abbrev a9_r1 : List AOper := [⟨(some 16), (.move (.t 0)), none⟩, ⟨(some 17), (.move (.t 1)), none⟩, ⟨(some 18), (.call (.f 8) [(.t 16), (.t 17)]), none⟩, ⟨(some 15), (.move (.t 18)), none⟩, ⟨(some 19), (.extract (.t 15) 0), none⟩, ⟨(some 20), (.extract (.t 15) 1), none⟩, ⟨(some 9), (.move (.t 19)), none⟩, ⟨(some 10), (.move (.t 20)), none⟩]
abbrev a9_r2 : List AOper := [⟨(some 21), (.move (.t 10)), none⟩, ⟨(some 22), (.bin .neq (.t 21) (.c (.int .i64 0))), none⟩]
abbrev a9_r3 : List AOper := [⟨(some 23), (.move (.t 10)), none⟩, ⟨(some 8), (.move (.t 23)), none⟩]
abbrev a9_r4 : List AOper := [⟨(some 24), (.move (.t 0)), none⟩, ⟨(some 25), (.move (.t 1)), none⟩, ⟨(some 26), (.move (.t 2)), none⟩, ⟨(some 27), (.move (.t 9)), none⟩, ⟨(some 28), .makeMap, none⟩, ⟨(some 29), (.load (.t 7)), none⟩, ⟨(some 30), (.build [(.slice none 0 0), (.slice none 0 0), (.slice none 0 0), (.slice none 0 0), (.map none), (.slice none 0 0)] [(0, (1, (.t 24))), (1, (1, (.t 25))), (2, (1, (.t 26))), (3, (1, (.t 27))), (4, (1, (.t 28))), (5, (1, (.t 29)))]), none⟩, ⟨(some 31), (.box 68 (.t 30)), none⟩, ⟨(some 11), (.move (.t 31)), none⟩]
abbrev a9_r5 : List AOper := [⟨(some 32), (.move (.t 1)), none⟩, ⟨(some 33), (.lenS (.t 32)), none⟩, ⟨(some 34), (.move (.c (.int .i64 0))), none⟩]
abbrev a9_r6 : List AOper := [⟨(some 48), (.func 17 [] [(.t 7)]), none⟩, ⟨(some 14), (.move (.t 48)), none⟩]
abbrev a9_r7 : List AOper := [⟨(some 50), (.move (.t 14)), none⟩, ⟨(some 51), (.move (.t 11)), none⟩, ⟨(some 52), (.func 18 [(.t 51)] []), none⟩, ⟨(some 53), (.call (.t 50) [(.t 52)]), none⟩, ⟨(some 54), (.un .not (.t 53)), none⟩, ⟨(some 49), (.move (.t 54)), none⟩]
abbrev a9_r8 : List AOper := [⟨(some 56), (.move (.t 14)), none⟩, ⟨(some 57), (.move (.t 11)), none⟩, ⟨(some 58), (.func 19 [(.t 57)] []), none⟩, ⟨(some 59), (.call (.t 56) [(.t 58)]), none⟩, ⟨(some 60), (.un .not (.t 59)), none⟩, ⟨(some 55), (.move (.t 60)), none⟩]
abbrev a9_r9 : List AOper := [⟨(some 62), (.move (.t 14)), none⟩, ⟨(some 63), (.move (.t 11)), none⟩, ⟨(some 64), (.func 20 [(.t 63)] []), none⟩, ⟨(some 65), (.call (.t 62) [(.t 64)]), none⟩, ⟨(some 66), (.un .not (.t 65)), none⟩, ⟨(some 61), (.move (.t 66)), none⟩]
abbrev a9_c0 : ACode := (.cond (.t 61) (.seq (.region false [⟨(some 8), (.move (.c (.int .i64 5))), none⟩] [] []) .ret) .skip)
abbrev a9_c1 : ACode := (.cond (.t 55) (.seq (.region false [⟨(some 8), (.move (.c (.int .i64 4))), none⟩] [] []) .ret) (.seq (.region false a9_r9 [] []) a9_c0))
abbrev a9_c2 : ACode := (.cond (.t 49) (.seq (.region false [⟨(some 8), (.move (.c (.int .i64 3))), none⟩] [] []) .ret) (.seq (.region false a9_r8 [] []) a9_c1))
abbrev a9_c3 : ACode := (.seq (.block 2 (.seq (.region false a9_r7 [] []) a9_c2)) (.seq (.region false [⟨(some 8), (.move (.c (.int .i64 0))), none⟩] [] []) .ret))
abbrev a9_c4 : ACode := (.seq (.seq (.region false a9_r5 [] []) (.block 0 (.loop a9_l0))) (.seq (.region false a9_r6 [] []) a9_c3))
abbrev a9_c5 : ACode := (.seq (.seq (.region false a9_r2 [] []) (.cond (.t 22) (.seq (.region false a9_r3 [] []) .ret) .skip)) (.seq (.region false a9_r4 [] []) a9_c4))
abbrev a9_b : ACode := (.seq (.region false a9_r0 [] []) (.seq (.region false a9_r1 [] []) a9_c5))
def a9 : AFunc := ⟨67, [(.tmp 8)], a9_b⟩
abbrev g9 : List Nat := [0, 1, 2, 3, 7, 8, 9, 10, 11, 12, 13, 14, 22, 32, 33, 34, 35, 49, 55, 61]
theorem c9 : cFunc Tryz.prog Tryz.f9 = some a9 := by kernel_rfl
theorem t9 {T : Tbl} (hT : Tb T) : T 9 = some (.code a9) := (hT 9 (by decide)).trans (T0_code (by kernel_rfl) c9)
theorem e9 {T : Tbl} (hT : Tb T) {args : List PV} {R : Except PV PV → PH → Prop} {H : PH} (h : args.length ≤ 67) (k : RK T false 67 (FnQ [(.tmp 8)] R) a9_b [] (finit 0 args) H) : PEv T (.fn 9) args H R := PEv.fn (t9 hT) ⟨rfl, rfl, Nat.add_sub_of_le h⟩ k

abbrev a12_r0 : List AOper := [⟨(some 1), (.build [(.int .i64 0), (.string (bs [])), (.string (bs [])), (.slice none 0 0), (.int .i64 0), (.slice none 0 0)] [(4, (1, (.c (.int .i64 (-1)))))]), none⟩, ⟨(some 2), (.row 73 1 [(.int .i64 0), (.string (bs [])), (.string (bs [])), (.slice none 0 0), (.int .i64 0), (.slice none 0 0)] [(0, (6, (.t 1)))]), none⟩, ⟨(some 0), (.move (.t 2)), none⟩]
abbrev a12_b : ACode := (.seq (.region false [⟨(some 0), (.move (.c (.slice none 0 0))), none⟩] [] []) (.seq (.region false a12_r0 [] []) .ret))
def a12 : AFunc := ⟨3, [(.tmp 0)], a12_b⟩
abbrev g12 : List Nat := [0]
theorem c12 : cFunc Tryz.prog Tryz.f12 = some a12 := by kernel_rfl
theorem t12 {T : Tbl} (hT : Tb T) : T 12 = some (.code a12) := (hT 12 (by decide)).trans (T0_code (by kernel_rfl) c12)
theorem e12 {T : Tbl} (hT : Tb T) {args : List PV} {R : Except PV PV → PH → Prop} {H : PH} (h : args.length ≤ 3) (k : RK T false 3 (FnQ [(.tmp 0)] R) a12_b [] (finit 0 args) H) : PEv T (.fn 12) args H R := PEv.fn (t12 hT) ⟨rfl, rfl, Nat.add_sub_of_le h⟩ k

abbrev a13_l0_r0 : List AOper := [⟨(some 16), (.indexAddr 3 (.t 12) (.t 14)), none⟩, ⟨(some 17), (.loadN 3 (.t 16)), none⟩, ⟨(some 7), (.new 29 [(.int .u64 0), (.int .i64 0), (.int .i64 0)]), none⟩, ⟨none, (.store 3 (.t 7) (.t 17)), none⟩]
abbrev a13_l0_r1 : List AOper := [⟨(some 18), (.fieldAddr 0 (.t 7)), none⟩, ⟨(some 19), (.load (.t 18)), none⟩, ⟨(some 20), (.call (.f 15) [(.t 19)]), none⟩, ⟨(some 8), (.new 61 [(.int .i64 0), (.int .i64 0)]), none⟩, ⟨none, (.store 2 (.t 8) (.t 20)), none⟩]
abbrev a13_l0_r2 : List AOper := [⟨(some 22), (.move (.t 0)), none⟩, ⟨(some 23), (.loadN 2 (.t 8)), none⟩, ⟨(some 24), (.call (.f 14) [(.t 22), (.t 23)]), none⟩, ⟨(some 21), (.move (.t 24)), none⟩, ⟨(some 25), (.extract (.t 21) 0), none⟩, ⟨(some 26), (.extract (.t 21) 1), none⟩, ⟨(some 9), (.new 54 [(.int .i64 0), (.slice none 0 0), (.int .i64 0), (.int .i64 0), (.int .i64 0), (.string (bs []))]), none⟩, ⟨none, (.store 6 (.t 9) (.t 25)), none⟩, ⟨(some 10), (.move (.t 26)), none⟩]
abbrev a13_l0_r3 : List AOper := [⟨(some 27), (.move (.t 10)), none⟩, ⟨(some 28), (.un .not (.t 27)), none⟩, ⟨(some 29), (.move (.t 28)), none⟩, ⟨(some 30), (.fieldAddr 0 (.t 9)), (some (2, false))⟩, ⟨(some 31), (.load (.t 30)), (some (2, false))⟩, ⟨(some 32), (.bin .neq (.t 31) (.c (.int .i64 1))), (some (2, false))⟩, ⟨(some 33), (.pick (.t 29) (.c (.bool true)) (.t 32)), none⟩, ⟨(some 34), (.move (.t 33)), none⟩, ⟨(some 35), (.fieldAddr 1 (.t 8)), (some (7, false))⟩, ⟨(some 36), (.load (.t 35)), (some (7, false))⟩, ⟨(some 37), (.move (.t 5)), (some (7, false))⟩, ⟨(some 38), (.fieldAddr 0 (.t 8)), (some (7, false))⟩, ⟨(some 39), (.load (.t 38)), (some (7, false))⟩, ⟨(some 40), (.lookup (.sc .int) false (.int .i64 0) (.t 37) (.t 39)), (some (7, false))⟩, ⟨(some 41), (.bin .lss (.t 36) (.t 40)), (some (7, false))⟩, ⟨(some 42), (.pick (.t 34) (.c (.bool true)) (.t 41)), none⟩]
abbrev a13_l0_c0 : ACode := (.cond (.t 42) (.seq (.region false [⟨(some 4), (.move (.c (.bool false))), none⟩] [] []) .ret) .skip)
abbrev a13_l0_r4 : List AOper := [⟨(some 43), (.move (.t 5)), none⟩, ⟨(some 44), (.fieldAddr 0 (.t 8)), none⟩, ⟨(some 45), (.load (.t 44)), none⟩, ⟨(some 46), (.fieldAddr 1 (.t 8)), none⟩, ⟨(some 47), (.load (.t 46)), none⟩, ⟨(some 48), (.bin .add (.t 47) (.c (.int .i64 1))), none⟩, ⟨none, (.update (.sc .int) (.t 43) (.t 45) (.t 48)), none⟩]
abbrev a13_l0_c1 : ACode := (.seq (.seq (.region false a13_l0_r2 [] []) (.seq (.region false a13_l0_r3 [] []) a13_l0_c0)) (.region false a13_l0_r4 [] []))
abbrev a13_l0_r5 : List AOper := [⟨(some 49), (.bin .add (.t 14) (.c (.int .i64 1))), none⟩, ⟨(some 14), (.move (.t 49)), none⟩]
abbrev a13_l0_c2 : ACode := (.seq (.block 1 (.seq (.region false a13_l0_r0 [] []) (.seq (.region false a13_l0_r1 [] []) a13_l0_c1))) (.region false a13_l0_r5 [] []))
abbrev a13_l0 : ACode := (.seq (.region false [⟨(some 15), (.bin .lss (.t 14) (.t 13)), none⟩] [] []) (.seq (.cond (.t 15) .skip (.exit 0)) a13_l0_c2))
abbrev a13_r0 : List AOper := [⟨(some 11), .makeMap, none⟩, ⟨(some 5), (.move (.t 11)), none⟩]
abbrev a13_r1 : List AOper := [⟨(some 12), (.move (.t 1)), none⟩, ⟨(some 13), (.lenS (.t 12)), none⟩, ⟨(some 14), (.move (.c (.int .i64 0))), none⟩]
abbrev a13_c0 : ACode := (.seq (.seq (.region false a13_r1 [] []) (.block 0 (.loop a13_l0))) (.seq (.region false [⟨(some 4), (.move (.c (.bool true))), none⟩] [] []) .ret))
abbrev a13_b : ACode := (.seq (.region false [⟨(some 4), (.move (.c (.bool false))), none⟩] [] []) (.seq (.region false a13_r0 [] []) a13_c0))
def a13 : AFunc := ⟨50, [(.tmp 4)], a13_b⟩
abbrev g13 : List Nat := [0, 1, 4, 5, 7, 8, 9, 10, 12, 13, 14, 15, 42]
theorem c13 : cFunc Tryz.prog Tryz.f13 = some a13 := by kernel_rfl
theorem t13 {T : Tbl} (hT : Tb T) : T 13 = some (.code a13) := (hT 13 (by decide)).trans (T0_code (by kernel_rfl) c13)
theorem e13 {T : Tbl} (hT : Tb T) {args : List PV} {R : Except PV PV → PH → Prop} {H : PH} (h : args.length ≤ 50) (k : RK T false 50 (FnQ [(.tmp 4)] R) a13_b [] (finit 0 args) H) : PEv T (.fn 13) args H R := PEv.fn (t13 hT) ⟨rfl, rfl, Nat.add_sub_of_le h⟩ k

abbrev a14_r0 : List AOper := [⟨(some 3), (.box 61 (.t 1)), none⟩, ⟨(some 4), (.new 54 [(.int .i64 0), (.slice none 0 0), (.int .i64 0), (.int .i64 0), (.int .i64 0), (.string (bs []))]), none⟩, ⟨(some 5), (.move (.c (.bool false))), none⟩]
abbrev a14_r1 : List AOper := [⟨(some 6), (.fieldAddr 0 (.t 3)), none⟩, ⟨(some 7), (.load (.t 6)), none⟩, ⟨(some 8), (.bin .lss (.t 7) (.c (.int .i64 0))), none⟩, ⟨(some 9), (.move (.t 8)), none⟩, ⟨(some 10), (.fieldAddr 0 (.t 3)), (some (3, false))⟩, ⟨(some 11), (.load (.t 10)), (some (3, false))⟩, ⟨(some 12), (.move (.t 0)), (some (3, false))⟩, ⟨(some 13), (.lenS (.t 12)), (some (3, false))⟩, ⟨(some 14), (.bin .geq (.t 11) (.t 13)), (some (3, false))⟩, ⟨(some 15), (.pick (.t 9) (.c (.bool true)) (.t 14)), none⟩, ⟨(some 16), (.move (.t 15)), none⟩, ⟨(some 17), (.fieldAddr 1 (.t 3)), (some (10, false))⟩, ⟨(some 18), (.load (.t 17)), (some (10, false))⟩, ⟨(some 19), (.bin .lss (.t 18) (.c (.int .i64 0))), (some (10, false))⟩, ⟨(some 20), (.pick (.t 16) (.c (.bool true)) (.t 19)), none⟩, ⟨(some 21), (.move (.t 20)), none⟩, ⟨(some 22), (.fieldAddr 1 (.t 3)), (some (15, false))⟩, ⟨(some 23), (.load (.t 22)), (some (15, false))⟩, ⟨(some 24), (.move (.t 0)), (some (15, false))⟩, ⟨(some 25), (.fieldAddr 0 (.t 3)), (some (15, false))⟩, ⟨(some 26), (.load (.t 25)), (some (15, false))⟩, ⟨(some 27), (.indexAddr 1 (.t 24) (.t 26)), (some (15, false))⟩, ⟨(some 28), (.load (.t 27)), (some (15, false))⟩, ⟨(some 29), (.lenS (.t 28)), (some (15, false))⟩, ⟨(some 30), (.bin .geq (.t 23) (.t 29)), (some (15, false))⟩, ⟨(some 31), (.pick (.t 21) (.c (.bool true)) (.t 30)), none⟩]
abbrev a14_r2 : List AOper := [⟨(some 32), (.build [(.int .i64 0), (.slice none 0 0), (.int .i64 0), (.int .i64 0), (.int .i64 0), (.string (bs []))] []), none⟩, ⟨none, (.store 6 (.t 4) (.t 32)), none⟩, ⟨(some 5), (.move (.c (.bool false))), none⟩]
abbrev a14_r3 : List AOper := [⟨(some 33), (.move (.t 0)), none⟩, ⟨(some 34), (.fieldAddr 0 (.t 3)), none⟩, ⟨(some 35), (.load (.t 34)), none⟩, ⟨(some 36), (.indexAddr 1 (.t 33) (.t 35)), none⟩, ⟨(some 37), (.load (.t 36)), none⟩, ⟨(some 38), (.fieldAddr 1 (.t 3)), none⟩, ⟨(some 39), (.load (.t 38)), none⟩, ⟨(some 40), (.indexAddr 6 (.t 37) (.t 39)), none⟩, ⟨(some 41), (.loadN 6 (.t 40)), none⟩, ⟨none, (.store 6 (.t 4) (.t 41)), none⟩, ⟨(some 5), (.move (.c (.bool true))), none⟩]
abbrev a14_c0 : ACode := (.seq (.seq (.region true a14_r1 [] [0, 1, 2, 3, 6, 7, 8, 9, 10, 11, 12, 13, 14, 15, 19, 20, 21, 22, 23, 24, 25]) (.cond (.t 31) (.seq (.region false a14_r2 [] []) .ret) .skip)) (.seq (.region true a14_r3 [] [5, 6, 7, 8, 9, 10]) .ret))
abbrev a14_b : ACode := (.seq (.region false a14_r0 [] []) a14_c0)
def a14 : AFunc := ⟨42, [(.cell 4 (some 6)), (.tmp 5)], a14_b⟩
abbrev g14 : List Nat := [0, 1, 3, 4, 5, 31]
theorem c14 : cFunc Tryz.prog Tryz.f14 = some a14 := by kernel_rfl
theorem t14 {T : Tbl} (hT : Tb T) : T 14 = some (.code a14) := (hT 14 (by decide)).trans (T0_code (by kernel_rfl) c14)
theorem e14 {T : Tbl} (hT : Tb T) {args : List PV} {R : Except PV PV → PH → Prop} {H : PH} (h : args.length ≤ 42) (k : RK T false 42 (FnQ [(.cell 4 (some 6)), (.tmp 5)] R) a14_b [] (finit 0 args) H) : PEv T (.fn 14) args H R := PEv.fn (t14 hT) ⟨rfl, rfl, Nat.add_sub_of_le h⟩ k

abbrev a15_r0 : List AOper := [⟨(some 4), (.move (.t 0)), none⟩, ⟨(some 5), (.call (.f 28) [(.t 4)]), none⟩, ⟨(some 3), (.move (.t 5)), none⟩, ⟨(some 6), (.extract (.t 3) 0), none⟩, ⟨(some 7), (.extract (.t 3) 1), none⟩, ⟨(some 8), (.fieldAddr 0 (.t 2)), none⟩, ⟨none, (.store 1 (.t 8) (.t 6)), none⟩, ⟨(some 9), (.fieldAddr 1 (.t 2)), none⟩, ⟨none, (.store 1 (.t 9) (.t 7)), none⟩]
abbrev a15_r1 : List AOper := [⟨(some 10), (.loadN 2 (.t 2)), none⟩, ⟨none, (.store 2 (.t 2) (.t 10)), none⟩]
abbrev a15_b : ACode := (.seq (.region false [⟨(some 2), (.new 61 [(.int .i64 0), (.int .i64 0)]), none⟩] [] []) (.seq (.region false a15_r0 [] []) (.seq (.region false a15_r1 [] []) .ret)))
def a15 : AFunc := ⟨11, [(.cell 2 (some 2))], a15_b⟩
abbrev g15 : List Nat := [0, 2]
theorem c15 : cFunc Tryz.prog Tryz.f15 = some a15 := by kernel_rfl
theorem t15 {T : Tbl} (hT : Tb T) : T 15 = some (.code a15) := (hT 15 (by decide)).trans (T0_code (by kernel_rfl) c15)
theorem e15 {T : Tbl} (hT : Tb T) {args : List PV} {R : Except PV PV → PH → Prop} {H : PH} (h : args.length ≤ 11) (k : RK T false 11 (FnQ [(.cell 2 (some 2))] R) a15_b [] (finit 0 args) H) : PEv T (.fn 15) args H R := PEv.fn (t15 hT) ⟨rfl, rfl, Nat.add_sub_of_le h⟩ k

abbrev a17_l0_r0 : List AOper := [⟨(some 10), (.indexAddr 10 (.t 6) (.t 8)), none⟩, ⟨(some 11), (.loadN 10 (.t 10)), none⟩, ⟨(some 5), (.new 42 [(.int .i64 0), (.int .i64 0), (.int .i64 0), (.int .i64 0), (.int .i64 0), (.int .i64 0), (.int .u64 0), (.slice none 0 0), (.string (bs [])), (.int .i64 0)]), none⟩, ⟨none, (.store 10 (.t 5) (.t 11)), none⟩]
abbrev a17_l0_r1 : List AOper := [⟨(some 12), (.move (.t 0)), none⟩, ⟨(some 13), (.loadN 10 (.t 5)), none⟩, ⟨(some 14), (.call (.t 12) [(.t 13)]), none⟩, ⟨(some 15), (.un .not (.t 14)), none⟩]
abbrev a17_l0_c0 : ACode := (.cond (.t 15) (.seq (.region false [⟨(some 3), (.move (.c (.bool false))), none⟩] [] []) .ret) .skip)
abbrev a17_l0_r2 : List AOper := [⟨(some 16), (.bin .add (.t 8) (.c (.int .i64 1))), none⟩, ⟨(some 8), (.move (.t 16)), none⟩]
abbrev a17_l0_c1 : ACode := (.seq (.block 1 (.seq (.region false a17_l0_r0 [] []) (.seq (.region false a17_l0_r1 [] []) a17_l0_c0))) (.region false a17_l0_r2 [] []))
abbrev a17_l0 : ACode := (.seq (.region false [⟨(some 9), (.bin .lss (.t 8) (.t 7)), none⟩] [] []) (.seq (.cond (.t 9) .skip (.exit 0)) a17_l0_c1))
abbrev a17_r0 : List AOper := [⟨(some 6), (.load (.t 1)), none⟩, ⟨(some 7), (.lenS (.t 6)), none⟩, ⟨(some 8), (.move (.c (.int .i64 0))), none⟩]
abbrev a17_c0 : ACode := (.seq (.seq (.region false a17_r0 [] []) (.block 0 (.loop a17_l0))) (.seq (.region false [⟨(some 3), (.move (.c (.bool true))), none⟩] [] []) .ret))
abbrev a17_b : ACode := (.seq (.region false [⟨(some 3), (.move (.c (.bool false))), none⟩] [] []) a17_c0)
def a17 : AFunc := ⟨17, [(.tmp 3)], a17_b⟩
abbrev g17 : List Nat := [0, 1, 3, 5, 6, 7, 8, 9, 15]
theorem c17 : cFunc Tryz.prog Tryz.f17 = some a17 := by kernel_rfl
theorem t17 {T : Tbl} (hT : Tb T) : T 17 = some (.code a17) := (hT 17 (by decide)).trans (T0_code (by kernel_rfl) c17)
theorem e17 {T : Tbl} (hT : Tb T) {args : List PV} {R : Except PV PV → PH → Prop} {H : PH} (h : args.length ≤ 17) (k : RK T false 17 (FnQ [(.tmp 3)] R) a17_b [] (finit 0 args) H) : PEv T (.fn 17) args H R := PEv.fn (t17 hT) ⟨rfl, rfl, Nat.add_sub_of_le h⟩ k

abbrev a18_r0 : List AOper := [⟨(some 3), (.box 42 (.t 1)), none⟩, ⟨(some 4), (.move (.c (.bool false))), none⟩]
abbrev a18_r1 : List AOper := [⟨(some 9), (.move (.t 0)), none⟩, ⟨(some 10), (.loadN 10 (.t 3)), none⟩, ⟨(some 11), (.call (.f 30) [(.t 9), (.t 10)]), none⟩, ⟨(some 8), (.move (.t 11)), none⟩, ⟨(some 12), (.extract (.t 8) 0), none⟩, ⟨(some 13), (.extract (.t 8) 1), none⟩, ⟨(some 5), (.new 54 [(.int .i64 0), (.slice none 0 0), (.int .i64 0), (.int .i64 0), (.int .i64 0), (.string (bs []))]), none⟩, ⟨none, (.store 6 (.t 5) (.t 12)), none⟩, ⟨(some 6), (.move (.t 13)), none⟩]
abbrev a18_r2 : List AOper := [⟨(some 14), (.move (.t 6)), none⟩, ⟨(some 15), (.un .not (.t 14)), none⟩, ⟨(some 16), (.move (.t 15)), none⟩, ⟨(some 17), (.fieldAddr 0 (.t 5)), (some (2, false))⟩, ⟨(some 18), (.load (.t 17)), (some (2, false))⟩, ⟨(some 19), (.bin .neq (.t 18) (.c (.int .i64 1))), (some (2, false))⟩, ⟨(some 20), (.pick (.t 16) (.c (.bool true)) (.t 19)), none⟩]
abbrev a18_r3 : List AOper := [⟨(some 21), (.move (.t 6)), none⟩, ⟨(some 4), (.move (.t 21)), none⟩]
abbrev a18_r4 : List AOper := [⟨(some 22), (.move (.t 0)), none⟩, ⟨(some 23), (.loadN 10 (.t 3)), none⟩, ⟨(some 24), (.call (.f 31) [(.t 22), (.t 23)]), none⟩, ⟨(some 7), (.move (.t 24)), none⟩]
abbrev a18_r5 : List AOper := [⟨(some 25), (.move (.t 7)), none⟩, ⟨(some 26), (.bin .eql (.t 25) (.c (.int .i64 (-1)))), none⟩]
abbrev a18_r6 : List AOper := [⟨(some 27), (.fieldAddr 4 (.t 3)), none⟩, ⟨(some 28), (.fieldAddr 0 (.t 27)), none⟩, ⟨(some 29), (.load (.t 28)), none⟩, ⟨(some 30), (.bin .eql (.t 29) (.c (.int .i64 150))), none⟩, ⟨(some 4), (.move (.t 30)), none⟩]
abbrev a18_r7 : List AOper := [⟨(some 31), (.fieldAddr 4 (.t 3)), none⟩, ⟨(some 32), (.fieldAddr 0 (.t 31)), none⟩, ⟨(some 33), (.load (.t 32)), none⟩, ⟨(some 34), (.move (.t 0)), none⟩, ⟨(some 35), (.nilCheck (.t 34)), none⟩, ⟨(some 36), (.fieldAddr 1 (.t 35)), none⟩, ⟨(some 37), (.load (.t 36)), none⟩, ⟨(some 38), (.move (.t 7)), none⟩, ⟨(some 39), (.indexAddr 3 (.t 37) (.t 38)), none⟩, ⟨(some 40), (.fieldAddr 1 (.t 39)), none⟩, ⟨(some 41), (.load (.t 40)), none⟩, ⟨(some 42), (.bin .eql (.t 33) (.t 41)), none⟩, ⟨(some 43), (.move (.t 42)), none⟩, ⟨(some 44), (.fieldAddr 4 (.t 3)), (some (12, true))⟩, ⟨(some 45), (.fieldAddr 1 (.t 44)), (some (12, true))⟩, ⟨(some 46), (.load (.t 45)), (some (12, true))⟩, ⟨(some 47), (.move (.t 0)), (some (12, true))⟩, ⟨(some 48), (.nilCheck (.t 47)), (some (12, true))⟩, ⟨(some 49), (.fieldAddr 1 (.t 48)), (some (12, true))⟩, ⟨(some 50), (.load (.t 49)), (some (12, true))⟩, ⟨(some 51), (.move (.t 7)), (some (12, true))⟩, ⟨(some 52), (.indexAddr 3 (.t 50) (.t 51)), (some (12, true))⟩, ⟨(some 53), (.fieldAddr 2 (.t 52)), (some (12, true))⟩, ⟨(some 54), (.load (.t 53)), (some (12, true))⟩, ⟨(some 55), (.bin .eql (.t 46) (.t 54)), (some (12, true))⟩, ⟨(some 56), (.pick (.t 43) (.t 55) (.c (.bool false))), none⟩, ⟨(some 4), (.move (.t 56)), none⟩]
abbrev a18_c0 : ACode := (.seq (.seq (.region false a18_r5 [] []) (.cond (.t 26) (.seq (.region false a18_r6 [] []) .ret) .skip)) (.seq (.region true a18_r7 [] [7, 8, 9, 10, 11, 12, 20, 21, 22, 23, 24, 25, 26]) .ret))
abbrev a18_c1 : ACode := (.seq (.seq (.region false a18_r2 [] []) (.cond (.t 20) (.seq (.region false a18_r3 [] []) .ret) .skip)) (.seq (.region false a18_r4 [] []) a18_c0))
abbrev a18_b : ACode := (.seq (.region false a18_r0 [] []) (.seq (.region false a18_r1 [] []) a18_c1))
def a18 : AFunc := ⟨57, [(.tmp 4)], a18_b⟩
abbrev g18 : List Nat := [0, 1, 3, 4, 5, 6, 7, 20, 26]
theorem c18 : cFunc Tryz.prog Tryz.f18 = some a18 := by kernel_rfl
theorem t18 {T : Tbl} (hT : Tb T) : T 18 = some (.code a18) := (hT 18 (by decide)).trans (T0_code (by kernel_rfl) c18)
theorem e18 {T : Tbl} (hT : Tb T) {args : List PV} {R : Except PV PV → PH → Prop} {H : PH} (h : args.length ≤ 57) (k : RK T false 57 (FnQ [(.tmp 4)] R) a18_b [] (finit 0 args) H) : PEv T (.fn 18) args H R := PEv.fn (t18 hT) ⟨rfl, rfl, Nat.add_sub_of_le h⟩ k

abbrev a28_r0 : List AOper := [⟨(some 2), (.move (.c (.int .i64 0))), none⟩, ⟨(some 3), (.move (.c (.int .i64 0))), none⟩]
abbrev a28_r1 : List AOper := [⟨(some 4), (.move (.t 0)), none⟩, ⟨(some 5), (.bin .shr (.t 4) (.c (.int .u64 16))), none⟩, ⟨(some 6), (.conv .i64 (.t 5)), none⟩, ⟨(some 7), (.move (.t 0)), none⟩, ⟨(some 8), (.bin .and (.t 7) (.c (.int .u64 65535))), none⟩, ⟨(some 9), (.conv .i64 (.t 8)), none⟩, ⟨(some 2), (.move (.t 6)), none⟩, ⟨(some 3), (.move (.t 9)), none⟩]
abbrev a28_b : ACode := (.seq (.region false a28_r0 [] []) (.seq (.region false a28_r1 [] []) .ret))
def a28 : AFunc := ⟨10, [(.tmp 2), (.tmp 3)], a28_b⟩
abbrev g28 : List Nat := [0, 2, 3]
theorem c28 : cFunc Tryz.prog Tryz.f28 = some a28 := by kernel_rfl
theorem t28 {T : Tbl} (hT : Tb T) : T 28 = some (.code a28) := (hT 28 (by decide)).trans (T0_code (by kernel_rfl) c28)
theorem e28 {T : Tbl} (hT : Tb T) {args : List PV} {R : Except PV PV → PH → Prop} {H : PH} (h : args.length ≤ 10) (k : RK T false 10 (FnQ [(.tmp 2), (.tmp 3)] R) a28_b [] (finit 0 args) H) : PEv T (.fn 28) args H R := PEv.fn (t28 hT) ⟨rfl, rfl, Nat.add_sub_of_le h⟩ k

abbrev a30_r0 : List AOper := [⟨(some 3), (.box 42 (.t 1)), none⟩, ⟨(some 4), (.new 54 [(.int .i64 0), (.slice none 0 0), (.int .i64 0), (.int .i64 0), (.int .i64 0), (.string (bs []))]), none⟩, ⟨(some 5), (.move (.c (.bool false))), none⟩]
abbrev a30_r1 : List AOper := [⟨(some 6), (.move (.t 0)), none⟩, ⟨(some 7), (.nilCheck (.t 6)), none⟩, ⟨(some 8), (.fieldAddr 0 (.t 7)), none⟩, ⟨(some 9), (.load (.t 8)), none⟩, ⟨(some 10), (.fieldAddr 0 (.t 3)), none⟩, ⟨(some 11), (.load (.t 10)), none⟩, ⟨(some 12), (.fieldAddr 1 (.t 3)), none⟩, ⟨(some 13), (.load (.t 12)), none⟩, ⟨(some 14), (.build [(.int .i64 0), (.int .i64 0)] [(0, (1, (.t 11))), (1, (1, (.t 13)))]), none⟩, ⟨(some 15), (.call (.f 14) [(.t 9), (.t 14)]), none⟩, ⟨(some 16), (.extract (.t 15) 0), none⟩, ⟨(some 17), (.extract (.t 15) 1), none⟩, ⟨none, (.store 6 (.t 4) (.t 16)), none⟩, ⟨(some 5), (.move (.t 17)), none⟩]
abbrev a30_b : ACode := (.seq (.region false a30_r0 [] []) (.seq (.region true a30_r1 [] [6, 7, 8, 9, 11, 12, 13]) .ret))
def a30 : AFunc := ⟨18, [(.cell 4 (some 6)), (.tmp 5)], a30_b⟩
abbrev g30 : List Nat := [0, 1, 3, 4, 5]
theorem c30 : cFunc Tryz.prog Tryz.f30 = some a30 := by kernel_rfl
theorem t30 {T : Tbl} (hT : Tb T) : T 30 = some (.code a30) := (hT 30 (by decide)).trans (T0_code (by kernel_rfl) c30)
theorem e30 {T : Tbl} (hT : Tb T) {args : List PV} {R : Except PV PV → PH → Prop} {H : PH} (h : args.length ≤ 18) (k : RK T false 18 (FnQ [(.cell 4 (some 6)), (.tmp 5)] R) a30_b [] (finit 0 args) H) : PEv T (.fn 30) args H R := PEv.fn (t30 hT) ⟨rfl, rfl, Nat.add_sub_of_le h⟩ k

end Go.Proofs.YtcpadbcapeiicaaGreat

/- The data of the history laws, and how it lies in pure values. -/
namespace Go.Proofs.YtcpadbcapeiicaaGreat
open Go Go.Proofs.Am Go.Proofs.Pm

abbrev Str := List UInt8
abbrev i64 (n : Int) : PV := .int .i64 n
abbrev u64 (n : Int) : PV := .int .u64 n

structure OpD where
  (kind id to at_ : Int) (name text : Str)
structure QD where
  (kind id by_ : Int) (text : Str)
structure CallD where
  kind : Int
  ops : List OpD
  q : QD
structure EntD where
  (item e place : Int)

def OpD.cs (o : OpD) : List PV := [i64 o.kind, i64 o.id, i64 o.to, i64 o.at_, .str o.name, .str o.text]
def OpD.pv (o : OpD) : PV := .agg o.cs
def QD.cs (q : QD) : List PV := [i64 q.kind, i64 q.id, i64 q.by_, .str q.text]
def CallD.cs (c : CallD) : List PV := [i64 c.kind, .lst 6 false (c.ops.map OpD.pv), i64 c.q.kind, i64 c.q.id, i64 c.q.by_, .str c.q.text]
def CallD.pv (c : CallD) : PV := .agg c.cs
def rowPV (r : List CallD) : PV := .lst 6 false (r.map CallD.pv)
def callsPV (l : List (List CallD)) : PV := .lst 1 false (l.map rowPV)
def EntD.cs (x : EntD) : List PV := [u64 x.item, i64 x.e, i64 x.place]
def EntD.pv (x : EntD) : PV := .agg x.cs
def logPV (l : List EntD) : PV := .lst 3 false (l.map EntD.pv)

theorem wrap64' {n : Int} (h : -9223372036854775808 ≤ n ∧ n < 9223372036854775808) : IntKind.wrap .i64 n = n := by
  simp only [IntKind.wrap, IntKind.bits, IntKind.signed, Bool.true_and]
  split
  · rename_i h1; simp at h1; omega
  · rename_i h1; simp at h1; omega

theorem isD_op (o : OpD) : isD o.pv = true := by simp [OpD.pv, OpD.cs, isD, isDL]
theorem isD_call (c : CallD) : isD c.pv = true := by simp [CallD.pv, CallD.cs, isD, isDL, isDL_map isD_op]
theorem isD_row (r : List CallD) : isD (rowPV r) = true := by simp [rowPV, isD, isDL_map isD_call]
theorem isD_calls (l : List (List CallD)) : isD (callsPV l) = true := by simp [callsPV, isD, isDL_map isD_row]
theorem isD_ent (x : EntD) : isD x.pv = true := by simp [EntD.pv, EntD.cs, isD, isDL]
theorem isD_log (l : List EntD) : isD (logPV l) = true := by simp [logPV, isD, isDL_map isD_ent]

/-- The call of a name. -/
def callAt (l : List (List CallD)) (id at_ : Int) : Option CallD :=
  if 0 ≤ id ∧ 0 ≤ at_ then
    match l[id.toNat]? with
    | some r => r[at_.toNat]?
    | none => none
  else none
def noCall : CallD := ⟨0, [], ⟨0, 0, 0, []⟩⟩
def namePV (id at_ : Int) : PV := .agg [i64 id, i64 at_]

/-- Entries that are of Submits, each client's in their order. -/
def orderedG (l : List (List CallD)) : List EntD → MapD → Bool
  | [], _ => true
  | x :: xs, m => match callAt l (x.item / 65536) (x.item % 65536) with
    | some c => decide (c.kind = 1) && decide (¬ (x.item % 65536 < mget m (x.item / 65536))) && orderedG l xs (mput m (x.item / 65536) (x.item % 65536 + 1))
    | none => false

/-- Sizes that a machine holds. -/
structure Sized (l : List (List CallD)) : Prop where
  len : l.length < 200000000000000
  rows : ∀ r ∈ l, r.length < 200000000000000
  ops : ∀ r ∈ l, ∀ c ∈ r, c.ops.length < 200000000000000

def opFew (o : OpD) : Bool := decide (o.name.length ≤ 60) && decide (o.text.length ≤ 60)
def callFew (c : CallD) : Bool := decide (c.ops.length ≤ 6) && decide (c.q.text.length ≤ 60) && c.ops.all opFew
def few (l : List (List CallD)) : Bool := l.all (·.all callFew) && decide (1 ≤ l.length) && decide (l.length ≤ 4) && decide (l.flatten.length ≤ 16)

end Go.Proofs.YtcpadbcapeiicaaGreat
