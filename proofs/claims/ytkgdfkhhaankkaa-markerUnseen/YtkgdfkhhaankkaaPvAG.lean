
import Derived.Test.YtkgdfkhhaankkaaPvAF
set_option linter.all false
set_option linter.unusedVariables false
set_option maxRecDepth 100000
namespace Pv
open Go
def c7 : Pv.Fn := ⟨2, [0, 1, 2, 3, 5, 6, 7, 8, 9, 10, 11, 12, 13, 14, 15, 16, 17, 18], [], [.t 4],
 (.seq (.reg [
 ⟨(.assign true), [.c (.one (.sc (.bool false)))], (some 4), none⟩]
 [0, 1])
 (.seq (.seq (.reg [
 ⟨(.call [] 5019 false), [.c (.one (.clo 10 [] []))], (some 19), none⟩,
 ⟨(.un .not), [.t 19], (some 20), none⟩]
 [0, 1, 20])
 (.cond (.t 20) (.seq (.reg [
 ⟨(.assign true), [.c (.one (.sc (.bool false)))], (some 4), none⟩]
 [4])
 .ret)
 .skip))
 (.seq (.reg [
 ⟨.move, [.t 0], (some 22), none⟩,
 ⟨.move, [.t 1], (some 23), none⟩,
 ⟨(.call [] 5024 false), [.c (.one (.clo 14 [] [])), .t 22, .t 23], (some 24), none⟩,
 ⟨.move, [.t 24], (some 21), none⟩,
 ⟨(.ext 0), [.t 21], (some 25), none⟩,
 ⟨(.ext 1), [.t 21], (some 26), none⟩,
 ⟨(.assign false), [.t 25], (some 5), none⟩,
 ⟨(.assign false), [.t 26], (some 6), none⟩]
 [5, 6])
 (.seq (.reg [
 ⟨.move, [.t 5], (some 27), none⟩,
 ⟨.len, [.t 27], (some 28), none⟩,
 ⟨(.assign false), [.t 28], (some 7), none⟩]
 [5, 6, 7])
 (.seq (.reg [
 ⟨.move, [.t 5], (some 30), none⟩,
 ⟨(.call [] 5031 false), [.c (.one (.clo 11 [] [])), .t 30], (some 31), none⟩,
 ⟨.move, [.t 31], (some 29), none⟩,
 ⟨(.ext 0), [.t 29], (some 32), none⟩,
 ⟨(.ext 1), [.t 29], (some 33), none⟩,
 ⟨(.alloc 5008 [(.sl .own 1 []), (.sl .own 1 []), (.sl .own 1 []), (.sl .own 1 []), (.sl .own 1 []), (.sl .own 1 []), (.sl .own 1 [])]), [], (some 8), none⟩,
 ⟨(.store false 7), [.t 8, .t 32], none, none⟩,
 ⟨(.assign false), [.t 33], (some 9), none⟩]
 [5, 6, 7, 8, 9, 5008])
 (.seq (.reg [
 ⟨.move, [.t 5], (some 35), none⟩,
 ⟨(.call [] 5036 false), [.c (.one (.clo 11 [] [])), .t 35], (some 36), none⟩,
 ⟨.move, [.t 36], (some 34), none⟩,
 ⟨(.ext 0), [.t 34], (some 37), none⟩,
 ⟨(.ext 1), [.t 34], (some 38), none⟩,
 ⟨(.alloc 5010 [(.sl .own 1 []), (.sl .own 1 []), (.sl .own 1 []), (.sl .own 1 []), (.sl .own 1 []), (.sl .own 1 []), (.sl .own 1 [])]), [], (some 10), none⟩,
 ⟨(.store false 7), [.t 10, .t 37], none, none⟩,
 ⟨(.assign false), [.t 38], (some 11), none⟩]
 [6, 7, 8, 9, 10, 11, 5008, 5010])
 (.seq (.seq (.reg [
 ⟨.move, [.t 9], (some 39), none⟩,
 ⟨(.bin .neq), [.t 39, .c (.one (.sc (.int .i64 (0))))], (some 40), none⟩,
 ⟨.move, [.t 40], (some 41), none⟩,
 ⟨.move, [.t 11], (some 42), some (41, false)⟩,
 ⟨(.bin .neq), [.t 42, .c (.one (.sc (.int .i64 (0))))], (some 43), some (41, false)⟩,
 ⟨.pick, [.t 41, .c (.one (.sc (.bool true))), .t 43], (some 44), none⟩]
 [6, 7, 8, 10, 44, 5008, 5010])
 (.cond (.t 44) (.seq (.reg [
 ⟨(.assign true), [.c (.one (.sc (.bool false)))], (some 4), none⟩]
 [4])
 .ret)
 .skip))
 (.seq (.seq (.reg [
 ⟨(.assign false), [.c (.one (.sc (.int .i64 (0))))], (some 12), none⟩]
 [6, 7, 8, 10, 12, 5008, 5010])
 (.block 0
 (.loop [6, 7, 8, 10, 12, 5008, 5010]
 (.seq (.seq (.reg [
 ⟨.move, [.t 12], (some 45), none⟩,
 ⟨.move, [.t 6], (some 46), none⟩,
 ⟨.len, [.t 46], (some 47), none⟩,
 ⟨(.bin .lss), [.t 45, .t 47], (some 48), none⟩]
 [6, 7, 8, 10, 12, 48, 5008, 5010])
 (.cond (.t 48) .skip
 (.exit 0)))
 (.seq (.block 1
 (.seq (.drw [
 ⟨(.load (some 7)), [.t 8], (some 52), none⟩,
 ⟨.move, [.t 6], (some 53), none⟩,
 ⟨.move, [.t 12], (some 54), none⟩,
 ⟨(.ida 4), [.t 53, .t 54], (some 55), none⟩,
 ⟨(.load (some 4)), [.t 55], (some 56), none⟩,
 ⟨(.call [] 5057 false), [.c (.one (.clo 15 [] [])), .t 52, .t 56], (some 57), none⟩,
 ⟨.move, [.t 57], (some 51), none⟩,
 ⟨(.ext 0), [.t 51], (some 58), none⟩,
 ⟨(.ext 1), [.t 51], (some 59), none⟩,
 ⟨(.alloc 5013 [(.sl .own 1 []), (.sl .own 1 []), (.sl .own 1 []), (.sl .own 1 []), (.sl .own 1 []), (.sl .own 1 []), (.sl .own 1 [])]), [], (some 13), none⟩,
 ⟨(.store false 7), [.t 13, .t 58], none, none⟩,
 ⟨(.assign false), [.t 59], (some 14), none⟩]
 [⟨[8, 52, 5008], [], [52], []⟩, ⟨[6, 53], [], [53], []⟩, ⟨[12, 54], [], [54], []⟩, ⟨[6, 53, 54, 55], [], [55], []⟩, ⟨[6, 55, 56], [], [56], []⟩, ⟨[52, 56, 57, 5008, 35700, 35701], [], [57, 35700, 35701], []⟩, ⟨[51, 57, 35100, 35101, 35700, 35701], [], [51, 35100, 35101, 35700], []⟩, ⟨[58, 35100], [], [58, 35100], []⟩, ⟨[59, 35101], [], [59], []⟩, ⟨[13, 5013], [], [13, 5013], []⟩, ⟨[13, 58, 5013], [], [58, 5013], []⟩, ⟨[14, 59], [], [14], []⟩] [6, 7, 8, 10, 12, 13, 14, 5008, 5010, 5013])
 (.seq (.seq (.reg [
 ⟨.move, [.t 14], (some 60), none⟩,
 ⟨(.bin .neq), [.t 60, .c (.one (.sc (.int .i64 (0))))], (some 61), none⟩]
 [6, 7, 8, 10, 12, 13, 61, 5008, 5010, 5013])
 (.cond (.t 61) (.exit 1)
 .skip))
 (.seq (.drw [
 ⟨.move, [.t 6], (some 62), none⟩,
 ⟨.move, [.t 12], (some 63), none⟩,
 ⟨(.ida 4), [.t 62, .t 63], (some 64), none⟩,
 ⟨(.fld 1), [.t 64], (some 65), none⟩,
 ⟨(.load none), [.t 65], (some 66), none⟩,
 ⟨.move, [.t 7], (some 67), none⟩,
 ⟨(.bin .mul), [.t 66, .t 67], (some 68), none⟩,
 ⟨.move, [.t 6], (some 69), none⟩,
 ⟨.move, [.t 12], (some 70), none⟩,
 ⟨(.ida 4), [.t 69, .t 70], (some 71), none⟩,
 ⟨(.fld 2), [.t 71], (some 72), none⟩,
 ⟨(.load none), [.t 72], (some 73), none⟩,
 ⟨(.bin .add), [.t 68, .t 73], (some 74), none⟩,
 ⟨(.assign false), [.t 74], (some 15), none⟩]
 [⟨[6, 62], [], [62], []⟩, ⟨[12, 63], [], [63], []⟩, ⟨[6, 62, 63, 64], [], [64], []⟩, ⟨[6, 64, 65], [], [65], []⟩, ⟨[6, 65, 66], [], [66], []⟩, ⟨[7, 67], [], [67], []⟩, ⟨[66, 67, 68], [], [68], []⟩, ⟨[6, 69], [], [69], []⟩, ⟨[12, 70], [], [70], []⟩, ⟨[6, 69, 70, 71], [], [71], []⟩, ⟨[6, 71, 72], [], [72], []⟩, ⟨[6, 72, 73], [], [73], []⟩, ⟨[68, 73, 74], [], [74], []⟩, ⟨[15, 74], [], [15], []⟩] [6, 7, 8, 10, 12, 13, 15, 5008, 5010, 5013])
 (.seq (.reg [
 ⟨.move, [.t 6], (some 75), none⟩,
 ⟨.move, [.t 12], (some 76), none⟩,
 ⟨(.ida 4), [.t 75, .t 76], (some 77), none⟩,
 ⟨(.fld 0), [.t 77], (some 78), none⟩,
 ⟨(.load none), [.t 78], (some 79), none⟩,
 ⟨(.bin .eql), [.t 79, .c (.one (.sc (.int .i64 (1))))], (some 80), none⟩,
 ⟨(.assign false), [.t 80], (some 16), none⟩]
 [6, 7, 8, 10, 12, 13, 15, 16, 5008, 5010, 5013])
 (.seq (.seq (.reg [
 ⟨.move, [.t 6], (some 81), none⟩,
 ⟨.move, [.t 12], (some 82), none⟩,
 ⟨(.ida 4), [.t 81, .t 82], (some 83), none⟩,
 ⟨(.fld 0), [.t 83], (some 84), none⟩,
 ⟨(.load none), [.t 84], (some 85), none⟩,
 ⟨(.bin .eql), [.t 85, .c (.one (.sc (.int .i64 (2))))], (some 86), none⟩]
 [6, 7, 8, 10, 12, 13, 15, 16, 86, 5008, 5010, 5013])
 (.cond (.t 86) (.seq (.seq (.reg [
 ⟨.move, [.t 15], (some 87), none⟩,
 ⟨(.fld 2), [.t 8], (some 88), none⟩,
 ⟨(.load none), [.t 88], (some 89), none⟩,
 ⟨.len, [.t 89], (some 90), none⟩,
 ⟨(.bin .geq), [.t 87, .t 90], (some 91), none⟩,
 ⟨.move, [.t 91], (some 92), none⟩,
 ⟨(.fld 2), [.t 8], (some 93), some (92, false)⟩,
 ⟨(.load none), [.t 93], (some 94), some (92, false)⟩,
 ⟨.move, [.t 15], (some 95), some (92, false)⟩,
 ⟨(.ida 1), [.t 94, .t 95], (some 96), some (92, false)⟩,
 ⟨(.load none), [.t 96], (some 97), some (92, false)⟩,
 ⟨.len, [.t 97], (some 98), some (92, false)⟩,
 ⟨(.bin .eql), [.t 98, .c (.one (.sc (.int .i64 (0))))], (some 99), some (92, false)⟩,
 ⟨.pick, [.t 92, .c (.one (.sc (.bool true))), .t 99], (some 100), none⟩]
 [6, 7, 8, 10, 12, 13, 15, 100, 5008, 5010, 5013])
 (.cond (.t 100) (.seq (.reg [
 ⟨(.assign true), [.c (.one (.sc (.bool false)))], (some 4), none⟩]
 [4])
 .ret)
 .skip))
 (.reg [
 ⟨(.fld 2), [.t 8], (some 101), none⟩,
 ⟨(.load none), [.t 101], (some 102), none⟩,
 ⟨.move, [.t 15], (some 103), none⟩,
 ⟨(.ida 1), [.t 102, .t 103], (some 104), none⟩,
 ⟨(.load none), [.t 104], (some 105), none⟩,
 ⟨(.ida 2), [.t 105, .c (.one (.sc (.int .i64 (0))))], (some 106), none⟩,
 ⟨(.fld 0), [.t 106], (some 107), none⟩,
 ⟨(.load none), [.t 107], (some 108), none⟩,
 ⟨(.un .not), [.t 108], (some 109), none⟩,
 ⟨(.assign false), [.t 109], (some 16), none⟩]
 [6, 7, 8, 10, 12, 13, 16, 5008, 5010, 5013]))
 .skip))
 (.seq (.reg [
 ⟨(.load (some 7)), [.t 13], (some 110), none⟩,
 ⟨(.store false 7), [.t 8, .t 110], none, none⟩]
 [6, 7, 8, 10, 12, 16, 5008, 5010])
 (.seq (.reg [
 ⟨.move, [.t 16], (some 111), none⟩]
 [6, 7, 8, 10, 12, 111, 5008, 5010])
 (.cond (.t 111) (.seq (.drw [
 ⟨(.load (some 7)), [.t 10], (some 113), none⟩,
 ⟨.move, [.t 6], (some 114), none⟩,
 ⟨.move, [.t 12], (some 115), none⟩,
 ⟨(.ida 4), [.t 114, .t 115], (some 116), none⟩,
 ⟨(.load (some 4)), [.t 116], (some 117), none⟩,
 ⟨(.call [] 5118 false), [.c (.one (.clo 15 [] [])), .t 113, .t 117], (some 118), none⟩,
 ⟨.move, [.t 118], (some 112), none⟩,
 ⟨(.ext 0), [.t 112], (some 119), none⟩,
 ⟨(.ext 1), [.t 112], (some 120), none⟩,
 ⟨(.alloc 5017 [(.sl .own 1 []), (.sl .own 1 []), (.sl .own 1 []), (.sl .own 1 []), (.sl .own 1 []), (.sl .own 1 []), (.sl .own 1 [])]), [], (some 17), none⟩,
 ⟨(.store false 7), [.t 17, .t 119], none, none⟩,
 ⟨(.assign false), [.t 120], (some 18), none⟩]
 [⟨[10, 113, 5010], [], [113], []⟩, ⟨[6, 114], [], [114], []⟩, ⟨[12, 115], [], [115], []⟩, ⟨[6, 114, 115, 116], [], [116], []⟩, ⟨[6, 116, 117], [], [117], []⟩, ⟨[113, 117, 118, 5010, 41800, 41801], [], [118, 41800, 41801], []⟩, ⟨[112, 118, 41200, 41201, 41800, 41801], [], [112, 41200, 41201, 41800], []⟩, ⟨[119, 41200], [], [119, 41200], []⟩, ⟨[120, 41201], [], [120], []⟩, ⟨[17, 5017], [], [17, 5017], []⟩, ⟨[17, 119, 5017], [], [119, 5017], []⟩, ⟨[18, 120], [], [18], []⟩] [6, 7, 8, 10, 12, 17, 18, 5008, 5010, 5017])
 (.seq (.seq (.reg [
 ⟨.move, [.t 18], (some 121), none⟩,
 ⟨(.bin .neq), [.t 121, .c (.one (.sc (.int .i64 (0))))], (some 122), none⟩]
 [6, 7, 8, 10, 12, 17, 122, 5008, 5010, 5017])
 (.cond (.t 122) (.seq (.reg [
 ⟨(.assign true), [.c (.one (.sc (.bool false)))], (some 4), none⟩]
 [4])
 .ret)
 .skip))
 (.reg [
 ⟨(.load (some 7)), [.t 17], (some 123), none⟩,
 ⟨(.store false 7), [.t 10, .t 123], none, none⟩]
 [6, 7, 8, 10, 12, 5008, 5010])))
 .skip)))))))))
 (.reg [
 ⟨.move, [.t 12], (some 49), none⟩,
 ⟨(.bin .add), [.t 49, .c (.one (.sc (.int .i64 (1))))], (some 50), none⟩,
 ⟨(.assign false), [.t 50], (some 12), none⟩]
 [6, 7, 8, 10, 12, 5008, 5010]))))))
 (.seq (.reg [
 ⟨(.fld 0), [.t 8], (some 124), none⟩,
 ⟨(.load none), [.t 124], (some 125), none⟩,
 ⟨(.fld 0), [.t 10], (some 126), none⟩,
 ⟨(.load none), [.t 126], (some 127), none⟩,
 ⟨(.call [] 5128 false), [.c (.one (.clo 21 [] [])), .t 125, .t 127], (some 128), none⟩,
 ⟨.move, [.t 128], (some 129), none⟩,
 ⟨(.fld 1), [.t 8], (some 130), some (129, true)⟩,
 ⟨(.load none), [.t 130], (some 131), some (129, true)⟩,
 ⟨(.fld 1), [.t 10], (some 132), some (129, true)⟩,
 ⟨(.load none), [.t 132], (some 133), some (129, true)⟩,
 ⟨(.call [] 5134 false), [.c (.one (.clo 21 [] [])), .t 131, .t 133], (some 134), some (129, true)⟩,
 ⟨.pick, [.t 129, .t 134, .c (.one (.sc (.bool false)))], (some 135), none⟩,
 ⟨(.assign true), [.t 135], (some 4), none⟩]
 [4])
 .ret)))))))))⟩
def c10 : Pv.Fn := ⟨0, [1, 2, 3, 4, 5, 6], [], [.t 0],
 (.seq (.reg [
 ⟨(.assign true), [.c (.one (.sc (.bool false)))], (some 0), none⟩]
 [])
 (.seq (.reg [
 ⟨(.bsl 1 [(.sc (.int .i64 (0)))] 2 [0, 1]), [.c (.one (.sc (.int .i64 (5)))), .c (.one (.sc (.int .i64 (7))))], (some 8), none⟩,
 ⟨(.call [] 5009 false), [.c (.one (.clo 11 [] [])), .t 8], (some 9), none⟩,
 ⟨.move, [.t 9], (some 7), none⟩,
 ⟨(.ext 0), [.t 7], (some 10), none⟩,
 ⟨(.ext 1), [.t 7], (some 11), none⟩,
 ⟨(.alloc 5001 [(.sl .own 1 []), (.sl .own 1 []), (.sl .own 1 []), (.sl .own 1 []), (.sl .own 1 []), (.sl .own 1 []), (.sl .own 1 [])]), [], (some 1), none⟩,
 ⟨(.store false 7), [.t 1, .t 10], none, none⟩,
 ⟨(.assign false), [.t 11], (some 2), none⟩]
 [1, 2, 5001])
 (.seq (.reg [
 ⟨(.build [(.sc (.int .i64 (0))), (.sc (.int .i64 (0))), (.sc (.int .i64 (0))), (.sc (.int .i64 (0)))] [(0, 1), (1, 1), (2, 1), (3, 1)]), [.c (.one (.sc (.int .i64 (1)))), .c (.one (.sc (.int .i64 (0)))), .c (.one (.sc (.int .i64 (1)))), .c (.one (.sc (.int .i64 (2))))], (some 12), none⟩,
 ⟨(.build [(.sc (.int .i64 (0))), (.sc (.int .i64 (0))), (.sc (.int .i64 (0))), (.sc (.int .i64 (0)))] [(0, 1)]), [.c (.one (.sc (.int .i64 (3))))], (some 13), none⟩,
 ⟨(.build [(.sc (.int .i64 (0))), (.sc (.int .i64 (0))), (.sc (.int .i64 (0))), (.sc (.int .i64 (0)))] [(0, 1), (1, 1), (2, 1)]), [.c (.one (.sc (.int .i64 (2)))), .c (.one (.sc (.int .i64 (0)))), .c (.one (.sc (.int .i64 (1))))], (some 14), none⟩,
 ⟨(.build [(.sc (.int .i64 (0))), (.sc (.int .i64 (0))), (.sc (.int .i64 (0))), (.sc (.int .i64 (0)))] [(0, 1), (1, 1), (2, 1)]), [.c (.one (.sc (.int .i64 (2)))), .c (.one (.sc (.int .i64 (0)))), .c (.one (.sc (.int .i64 (1))))], (some 15), none⟩,
 ⟨(.build [(.sc (.int .i64 (0))), (.sc (.int .i64 (0))), (.sc (.int .i64 (0))), (.sc (.int .i64 (0)))] [(0, 1), (1, 1), (2, 1)]), [.c (.one (.sc (.int .i64 (2)))), .c (.one (.sc (.int .i64 (1)))), .c (.one (.sc (.int .i64 (0))))], (some 16), none⟩,
 ⟨(.bsl 4 [(.sc (.int .i64 (0))), (.sc (.int .i64 (0))), (.sc (.int .i64 (0))), (.sc (.int .i64 (0)))] 5 [0, 1, 2, 3, 4]), [.t 12, .t 13, .t 14, .t 15, .t 16], (some 17), none⟩,
 ⟨(.assign false), [.t 17], (some 3), none⟩]
 [1, 2, 3, 5001])
 (.seq (.seq (.reg [
 ⟨(.assign false), [.c (.one (.sc (.int .i64 (0))))], (some 4), none⟩]
 [1, 2, 3, 4, 5001])
 (.block 0
 (.loop [1, 2, 3, 4, 5001]
 (.seq (.seq (.reg [
 ⟨.move, [.t 4], (some 18), none⟩,
 ⟨.move, [.t 3], (some 19), none⟩,
 ⟨.len, [.t 19], (some 20), none⟩,
 ⟨(.bin .lss), [.t 18, .t 20], (some 21), none⟩,
 ⟨.move, [.t 21], (some 22), none⟩,
 ⟨.move, [.t 2], (some 23), some (22, true)⟩,
 ⟨(.bin .eql), [.t 23, .c (.one (.sc (.int .i64 (0))))], (some 24), some (22, true)⟩,
 ⟨.pick, [.t 22, .t 24, .c (.one (.sc (.bool false)))], (some 25), none⟩]
 [1, 2, 3, 4, 25, 5001])
 (.cond (.t 25) .skip
 (.exit 0)))
 (.seq (.block 1
 (.drw [
 ⟨(.load (some 7)), [.t 1], (some 29), none⟩,
 ⟨.move, [.t 3], (some 30), none⟩,
 ⟨.move, [.t 4], (some 31), none⟩,
 ⟨(.ida 4), [.t 30, .t 31], (some 32), none⟩,
 ⟨(.load (some 4)), [.t 32], (some 33), none⟩,
 ⟨(.call [] 5034 true), [.c (.one (.clo 15 [] [])), .t 29, .t 33], (some 34), none⟩,
 ⟨.move, [.t 34], (some 28), none⟩,
 ⟨(.ext 0), [.t 28], (some 35), none⟩,
 ⟨(.ext 1), [.t 28], (some 36), none⟩,
 ⟨(.store false 7), [.t 1, .t 35], none, none⟩,
 ⟨(.assign false), [.t 36], (some 2), none⟩]
 [⟨[1, 29, 5001], [], [29], []⟩, ⟨[3, 30], [], [30], []⟩, ⟨[4, 31], [], [31], []⟩, ⟨[3, 30, 31, 32], [], [32], []⟩, ⟨[3, 32, 33], [], [33], []⟩, ⟨[29, 33, 34, 5001, 33400, 33401], [], [34, 33400, 33401], []⟩, ⟨[28, 34, 32800, 32801, 33400, 33401], [], [28, 32800, 32801, 33400], []⟩, ⟨[35, 32800], [], [35, 32800], []⟩, ⟨[36, 32801], [], [36], []⟩, ⟨[1, 35, 5001], [], [35, 5001], []⟩, ⟨[2, 36], [], [2], []⟩] [1, 2, 3, 4, 5001]))
 (.reg [
 ⟨.move, [.t 4], (some 26), none⟩,
 ⟨(.bin .add), [.t 26, .c (.one (.sc (.int .i64 (1))))], (some 27), none⟩,
 ⟨(.assign false), [.t 27], (some 4), none⟩]
 [1, 2, 3, 4, 5001]))))))
 (.seq (.reg [
 ⟨(.load (some 7)), [.t 1], (some 38), none⟩,
 ⟨(.call [] 5039 false), [.c (.one (.clo 17 [] [])), .t 38], (some 39), none⟩,
 ⟨.move, [.t 39], (some 37), none⟩,
 ⟨(.ext 0), [.t 37], (some 40), none⟩,
 ⟨(.ext 1), [.t 37], (some 41), none⟩,
 ⟨(.assign false), [.t 40], (some 5), none⟩,
 ⟨(.assign false), [.t 41], (some 6), none⟩]
 [1, 2, 5, 6, 5001])
 (.seq (.reg [
 ⟨.move, [.t 2], (some 42), none⟩,
 ⟨(.bin .eql), [.t 42, .c (.one (.sc (.int .i64 (0))))], (some 43), none⟩,
 ⟨.move, [.t 43], (some 44), none⟩,
 ⟨(.load (some 7)), [.t 1], (some 45), some (44, true)⟩,
 ⟨(.call [] 5046 false), [.c (.one (.clo 19 [] [])), .t 45], (some 46), some (44, true)⟩,
 ⟨.pick, [.t 44, .t 46, .c (.one (.sc (.bool false)))], (some 47), none⟩,
 ⟨.move, [.t 47], (some 48), none⟩,
 ⟨.move, [.t 5], (some 49), some (48, true)⟩,
 ⟨(.bin .eql), [.t 49, .c (.one (.sc (.int .i64 (12))))], (some 50), some (48, true)⟩,
 ⟨.pick, [.t 48, .t 50, .c (.one (.sc (.bool false)))], (some 51), none⟩,
 ⟨.move, [.t 51], (some 52), none⟩,
 ⟨.move, [.t 6], (some 53), some (52, true)⟩,
 ⟨(.bin .eql), [.t 53, .c (.one (.sc (.int .i64 (12))))], (some 54), some (52, true)⟩,
 ⟨.pick, [.t 52, .t 54, .c (.one (.sc (.bool false)))], (some 55), none⟩,
 ⟨.move, [.t 55], (some 56), none⟩,
 ⟨(.fld 4), [.t 1], (some 57), some (56, true)⟩,
 ⟨(.load none), [.t 57], (some 58), some (56, true)⟩,
 ⟨.len, [.t 58], (some 59), some (56, true)⟩,
 ⟨(.bin .eql), [.t 59, .c (.one (.sc (.int .i64 (2))))], (some 60), some (56, true)⟩,
 ⟨.pick, [.t 56, .t 60, .c (.one (.sc (.bool false)))], (some 61), none⟩,
 ⟨.move, [.t 61], (some 62), none⟩,
 ⟨(.fld 4), [.t 1], (some 63), some (62, true)⟩,
 ⟨(.load none), [.t 63], (some 64), some (62, true)⟩,
 ⟨(.ida 1), [.t 64, .c (.one (.sc (.int .i64 (0))))], (some 65), some (62, true)⟩,
 ⟨(.load none), [.t 65], (some 66), some (62, true)⟩,
 ⟨(.bin .eql), [.t 66, .c (.one (.sc (.int .i64 (3))))], (some 67), some (62, true)⟩,
 ⟨.pick, [.t 62, .t 67, .c (.one (.sc (.bool false)))], (some 68), none⟩,
 ⟨.move, [.t 68], (some 69), none⟩,
 ⟨(.fld 4), [.t 1], (some 70), some (69, true)⟩,
 ⟨(.load none), [.t 70], (some 71), some (69, true)⟩,
 ⟨(.ida 1), [.t 71, .c (.one (.sc (.int .i64 (1))))], (some 72), some (69, true)⟩,
 ⟨(.load none), [.t 72], (some 73), some (69, true)⟩,
 ⟨(.bin .eql), [.t 73, .c (.one (.sc (.int .i64 (9))))], (some 74), some (69, true)⟩,
 ⟨.pick, [.t 69, .t 74, .c (.one (.sc (.bool false)))], (some 75), none⟩,
 ⟨(.assign true), [.t 75], (some 0), none⟩]
 [0])
 .ret))))))⟩
def c11 : Pv.Fn := ⟨1, [0, 1, 4, 5, 6], [], [.c 2 (some 7), .t 3],
 (.seq (.reg [
 ⟨(.alloc 5002 [(.sl .own 1 []), (.sl .own 1 []), (.sl .own 1 []), (.sl .own 1 []), (.sl .own 1 []), (.sl .own 1 []), (.sl .own 1 [])]), [], (some 2), none⟩,
 ⟨(.assign true), [.c (.one (.sc (.int .i64 (0))))], (some 3), none⟩]
 [0, 2, 5002])
 (.seq (.reg [
 ⟨.move, [.t 0], (some 7), none⟩,
 ⟨.len, [.t 7], (some 8), none⟩,
 ⟨(.assign false), [.t 8], (some 4), none⟩]
 [0, 2, 4, 5002])
 (.seq (.seq (.reg [
 ⟨.move, [.t 4], (some 9), none⟩,
 ⟨(.bin .lss), [.t 9, .c (.one (.sc (.int .i64 (1))))], (some 10), none⟩,
 ⟨.move, [.t 10], (some 11), none⟩,
 ⟨.move, [.t 4], (some 12), some (11, false)⟩,
 ⟨(.bin .gtr), [.t 12, .c (.one (.sc (.int .i64 (5))))], (some 13), some (11, false)⟩,
 ⟨.pick, [.t 11, .c (.one (.sc (.bool true))), .t 13], (some 14), none⟩]
 [0, 2, 4, 14, 5002])
 (.cond (.t 14) (.seq (.reg [
 ⟨(.build [(.sl .own 1 []), (.sl .own 1 []), (.sl .own 1 []), (.sl .own 1 []), (.sl .own 1 []), (.sl .own 1 []), (.sl .own 1 [])] []), [], (some 15), none⟩,
 ⟨(.store true 7), [.t 2, .t 15], none, none⟩,
 ⟨(.assign true), [.c (.one (.sc (.int .i64 (3))))], (some 3), none⟩]
 [2, 3, 5002])
 .ret)
 .skip))
 (.seq (.drw [
 ⟨.move, [.t 0], (some 16), none⟩,
 ⟨(.app 1 8), [.c (.one (.sl .own 1 [])), .t 16], (some 17), none⟩,
 ⟨.move, [.t 4], (some 18), none⟩,
 ⟨(.mks 1 [(.sc (.int .i64 (0)))] 8), [.t 18, .t 18], (some 19), none⟩,
 ⟨.move, [.t 4], (some 20), none⟩,
 ⟨.move, [.t 4], (some 21), none⟩,
 ⟨(.bin .mul), [.t 20, .t 21], (some 22), none⟩,
 ⟨(.mks 1 [(.sl .own 2 [])] 24), [.t 22, .t 22], (some 23), none⟩,
 ⟨.move, [.t 4], (some 24), none⟩,
 ⟨(.mks 1 [(.sc (.int .i64 (0)))] 8), [.t 24, .t 24], (some 25), none⟩,
 ⟨.move, [.t 4], (some 26), none⟩,
 ⟨(.mks 1 [(.sc (.int .i64 (0)))] 8), [.t 26, .t 26], (some 27), none⟩,
 ⟨.move, [.t 4], (some 28), none⟩,
 ⟨.move, [.t 4], (some 29), none⟩,
 ⟨(.bin .mul), [.t 28, .t 29], (some 30), none⟩,
 ⟨(.mks 1 [(.sc (.bool false))] 1), [.t 30, .t 30], (some 31), none⟩,
 ⟨.move, [.t 4], (some 32), none⟩,
 ⟨.move, [.t 4], (some 33), none⟩,
 ⟨(.bin .mul), [.t 32, .t 33], (some 34), none⟩,
 ⟨(.mks 1 [(.sl .own 1 [])] 24), [.t 34, .t 34], (some 35), none⟩,
 ⟨(.build [(.sl .own 1 []), (.sl .own 1 []), (.sl .own 1 []), (.sl .own 1 []), (.sl .own 1 []), (.sl .own 1 []), (.sl .own 1 [])] [(0, 1), (1, 1), (2, 1), (3, 1), (4, 1), (5, 1), (6, 1)]), [.t 17, .t 19, .t 23, .t 25, .t 27, .t 31, .t 35], (some 36), none⟩,
 ⟨(.alloc 5005 [(.sl .own 1 []), (.sl .own 1 []), (.sl .own 1 []), (.sl .own 1 []), (.sl .own 1 []), (.sl .own 1 []), (.sl .own 1 [])]), [], (some 5), none⟩,
 ⟨(.store false 7), [.t 5, .t 36], none, none⟩]
 [⟨[0, 16], [], [16], []⟩, ⟨[16, 17], [], [17], []⟩, ⟨[4, 18], [], [18], []⟩, ⟨[18, 19], [], [19], []⟩, ⟨[4, 20], [], [20], []⟩, ⟨[4, 21], [], [21], []⟩, ⟨[20, 21, 22], [], [22], []⟩, ⟨[22, 23], [], [23], []⟩, ⟨[4, 24], [], [24], []⟩, ⟨[24, 25], [], [25], []⟩, ⟨[4, 26], [], [26], []⟩, ⟨[26, 27], [], [27], []⟩, ⟨[4, 28], [], [28], []⟩, ⟨[4, 29], [], [29], []⟩, ⟨[28, 29, 30], [], [30], []⟩, ⟨[30, 31], [], [31], []⟩, ⟨[4, 32], [], [32], []⟩, ⟨[4, 33], [], [33], []⟩, ⟨[32, 33, 34], [], [34], []⟩, ⟨[34, 35], [], [35], []⟩, ⟨[17, 19, 23, 25, 27, 31, 35, 36], [], [17, 19, 23, 25, 27, 31, 35, 36], []⟩, ⟨[5, 5005], [], [5, 5005], []⟩, ⟨[5, 36, 5005], [], [36, 5005], []⟩] [2, 5, 5002, 5005])
 (.seq (.seq (.reg [
 ⟨(.fld 3), [.t 5], (some 37), none⟩,
 ⟨(.load none), [.t 37], (some 38), none⟩,
 ⟨.len, [.t 38], (some 39), none⟩,
 ⟨.move, [.c (.one (.sc (.int .i64 (0))))], (some 40), none⟩]
 [2, 5, 39, 40, 5002, 5005])
 (.block 0
 (.loop [2, 5, 39, 40, 5002, 5005]
 (.seq (.reg [
 ⟨(.bin .lss), [.t 40, .t 39], (some 41), none⟩]
 [2, 5, 39, 40, 41, 5002, 5005])
 (.seq (.cond (.t 41) .skip
 (.exit 0))
 (.seq (.block 1
 (.seq (.reg [
 ⟨.move, [.t 40], (some 42), none⟩,
 ⟨(.assign false), [.t 42], (some 6), none⟩]
 [2, 5, 6, 39, 40, 5002, 5005])
 (.reg [
 ⟨(.fld 3), [.t 5], (some 43), none⟩,
 ⟨(.load none), [.t 43], (some 44), none⟩,
 ⟨.move, [.t 6], (some 45), none⟩,
 ⟨(.ida 1), [.t 44, .t 45], (some 46), none⟩,
 ⟨(.store false 1), [.t 46, .c (.one (.sc (.int .i64 (-1))))], none, none⟩]
 [2, 5, 39, 40, 5002, 5005])))
 (.reg [
 ⟨(.bin .add), [.t 40, .c (.one (.sc (.int .i64 (1))))], (some 47), none⟩,
 ⟨.move, [.t 47], (some 40), none⟩]
 [2, 5, 39, 40, 5002, 5005])))))))
 (.seq (.reg [
 ⟨(.load (some 7)), [.t 5], (some 48), none⟩,
 ⟨(.store true 7), [.t 2, .t 48], none, none⟩,
 ⟨(.assign true), [.c (.one (.sc (.int .i64 (0))))], (some 3), none⟩]
 [2, 3, 5002])
 .ret))))))⟩
def c12 : Pv.Fn := ⟨1, [0, 1, 4, 5, 6], [], [.c 2 (some 7), .t 3],
 (.seq (.reg [
 ⟨(.alloc 5002 [(.sl .own 1 []), (.sl .own 1 []), (.sl .own 1 []), (.sl .own 1 []), (.sl .own 1 []), (.sl .own 1 []), (.sl .own 1 [])]), [], (some 2), none⟩,
 ⟨(.assign true), [.c (.one (.sc (.int .i64 (0))))], (some 3), none⟩]
 [0, 2, 5002])
 (.seq (.reg [
 ⟨.move, [.t 0], (some 7), none⟩,
 ⟨.len, [.t 7], (some 8), none⟩,
 ⟨(.assign false), [.t 8], (some 4), none⟩]
 [0, 2, 4, 5002])
 (.seq (.seq (.reg [
 ⟨.move, [.t 4], (some 9), none⟩,
 ⟨(.bin .lss), [.t 9, .c (.one (.sc (.int .i64 (1))))], (some 10), none⟩,
 ⟨.move, [.t 10], (some 11), none⟩,
 ⟨.move, [.t 4], (some 12), some (11, false)⟩,
 ⟨(.bin .gtr), [.t 12, .c (.one (.sc (.int .i64 (5))))], (some 13), some (11, false)⟩,
 ⟨.pick, [.t 11, .c (.one (.sc (.bool true))), .t 13], (some 14), none⟩]
 [0, 2, 4, 14, 5002])
 (.cond (.t 14) (.seq (.reg [
 ⟨(.build [(.sl .own 1 []), (.sl .own 1 []), (.sl .own 1 []), (.sl .own 1 []), (.sl .own 1 []), (.sl .own 1 []), (.sl .own 1 [])] []), [], (some 15), none⟩,
 ⟨(.store true 7), [.t 2, .t 15], none, none⟩,
 ⟨(.assign true), [.c (.one (.sc (.int .i64 (3))))], (some 3), none⟩]
 [2, 3, 5002])
 .ret)
 .skip))
 (.seq (.drw [
 ⟨.move, [.t 0], (some 16), none⟩,
 ⟨(.app 1 8), [.c (.one (.sl .own 1 [])), .t 16], (some 17), none⟩,
 ⟨.move, [.t 4], (some 18), none⟩,
 ⟨(.mks 1 [(.sc (.int .i64 (0)))] 8), [.t 18, .t 18], (some 19), none⟩,
 ⟨.move, [.t 4], (some 20), none⟩,
 ⟨.move, [.t 4], (some 21), none⟩,
 ⟨(.bin .mul), [.t 20, .t 21], (some 22), none⟩,
 ⟨(.mks 1 [(.sl .own 2 [])] 24), [.t 22, .t 22], (some 23), none⟩,
 ⟨.move, [.t 4], (some 24), none⟩,
 ⟨(.mks 1 [(.sc (.int .i64 (0)))] 8), [.t 24, .t 24], (some 25), none⟩,
 ⟨.move, [.t 4], (some 26), none⟩,
 ⟨.move, [.t 4], (some 27), none⟩,
 ⟨(.bin .mul), [.t 26, .t 27], (some 28), none⟩,
 ⟨(.mks 1 [(.sc (.bool false))] 1), [.t 28, .t 28], (some 29), none⟩,
 ⟨.move, [.t 4], (some 30), none⟩,
 ⟨.move, [.t 4], (some 31), none⟩,
 ⟨(.bin .mul), [.t 30, .t 31], (some 32), none⟩,
 ⟨(.mks 1 [(.sl .own 1 [])] 24), [.t 32, .t 32], (some 33), none⟩,
 ⟨(.build [(.sl .own 1 []), (.sl .own 1 []), (.sl .own 1 []), (.sl .own 1 []), (.sl .own 1 []), (.sl .own 1 []), (.sl .own 1 [])] [(0, 1), (1, 1), (2, 1), (4, 1), (5, 1), (6, 1)]), [.t 17, .t 19, .t 23, .t 25, .t 29, .t 33], (some 34), none⟩,
 ⟨(.alloc 5005 [(.sl .own 1 []), (.sl .own 1 []), (.sl .own 1 []), (.sl .own 1 []), (.sl .own 1 []), (.sl .own 1 []), (.sl .own 1 [])]), [], (some 5), none⟩,
 ⟨(.store false 7), [.t 5, .t 34], none, none⟩]
 [⟨[0, 16], [], [16], []⟩, ⟨[16, 17], [], [17], []⟩, ⟨[4, 18], [], [18], []⟩, ⟨[18, 19], [], [19], []⟩, ⟨[4, 20], [], [20], []⟩, ⟨[4, 21], [], [21], []⟩, ⟨[20, 21, 22], [], [22], []⟩, ⟨[22, 23], [], [23], []⟩, ⟨[4, 24], [], [24], []⟩, ⟨[24, 25], [], [25], []⟩, ⟨[4, 26], [], [26], []⟩, ⟨[4, 27], [], [27], []⟩, ⟨[26, 27, 28], [], [28], []⟩, ⟨[28, 29], [], [29], []⟩, ⟨[4, 30], [], [30], []⟩, ⟨[4, 31], [], [31], []⟩, ⟨[30, 31, 32], [], [32], []⟩, ⟨[32, 33], [], [33], []⟩, ⟨[17, 19, 23, 25, 29, 33, 34], [], [17, 19, 23, 25, 29, 33, 34], []⟩, ⟨[5, 5005], [], [5, 5005], []⟩, ⟨[5, 34, 5005], [], [34, 5005], []⟩] [2, 4, 5, 5002, 5005])
 (.seq (.seq (.reg [
 ⟨(.assign false), [.c (.one (.sc (.int .i64 (0))))], (some 6), none⟩]
 [2, 4, 5, 6, 5002, 5005])
 (.block 0
 (.loop [2, 4, 5, 6, 5002, 5005]
 (.seq (.seq (.reg [
 ⟨.move, [.t 6], (some 35), none⟩,
 ⟨.move, [.t 4], (some 36), none⟩,
 ⟨(.bin .lss), [.t 35, .t 36], (some 37), none⟩]
 [2, 4, 5, 6, 37, 5002, 5005])
 (.cond (.t 37) .skip
 (.exit 0)))
 (.seq (.block 1
 (.reg [
 ⟨(.fld 3), [.t 5], (some 40), none⟩,
 ⟨(.load none), [.t 40], (some 41), none⟩,
 ⟨(.bsl 1 [(.sc (.int .i64 (0)))] 1 [0]), [.c (.one (.sc (.int .i64 (-1))))], (some 42), none⟩,
 ⟨(.app 1 8), [.t 41, .t 42], (some 43), none⟩,
 ⟨(.fld 3), [.t 5], (some 44), none⟩,
 ⟨(.store false 1), [.t 44, .t 43], none, none⟩]
 [2, 4, 5, 6, 5002, 5005]))
 (.reg [
 ⟨.move, [.t 6], (some 38), none⟩,
 ⟨(.bin .add), [.t 38, .c (.one (.sc (.int .i64 (1))))], (some 39), none⟩,
 ⟨(.assign false), [.t 39], (some 6), none⟩]
 [2, 4, 5, 6, 5002, 5005]))))))
 (.seq (.reg [
 ⟨(.load (some 7)), [.t 5], (some 45), none⟩,
 ⟨(.store true 7), [.t 2, .t 45], none, none⟩,
 ⟨(.assign true), [.c (.one (.sc (.int .i64 (0))))], (some 3), none⟩]
 [2, 3, 5002])
 .ret))))))⟩
def c13 : Pv.Fn := ⟨2, [0, 1, 2, 3, 5, 6], [], [.t 4],
 (.seq (.reg [
 ⟨(.box 5002), [.t 0], (some 2), none⟩,
 ⟨(.box 5003), [.t 1], (some 3), none⟩,
 ⟨(.assign true), [.c (.one (.sc (.bool false)))], (some 4), none⟩]
 [2, 3, 5002, 5003])
 (.seq (.seq (.reg [
 ⟨(.fld 0), [.t 2], (some 7), none⟩,
 ⟨(.load none), [.t 7], (some 8), none⟩,
 ⟨(.fld 0), [.t 3], (some 9), none⟩,
 ⟨(.load none), [.t 9], (some 10), none⟩,
 ⟨(.call [] 5011 false), [.c (.one (.clo 21 [] [])), .t 8, .t 10], (some 11), none⟩,
 ⟨(.un .not), [.t 11], (some 12), none⟩,
 ⟨.move, [.t 12], (some 13), none⟩,
 ⟨(.fld 1), [.t 2], (some 14), some (13, false)⟩,
 ⟨(.load none), [.t 14], (some 15), some (13, false)⟩,
 ⟨(.fld 1), [.t 3], (some 16), some (13, false)⟩,
 ⟨(.load none), [.t 16], (some 17), some (13, false)⟩,
 ⟨(.call [] 5018 false), [.c (.one (.clo 21 [] [])), .t 15, .t 17], (some 18), some (13, false)⟩,
 ⟨(.un .not), [.t 18], (some 19), some (13, false)⟩,
 ⟨.pick, [.t 13, .c (.one (.sc (.bool true))), .t 19], (some 20), none⟩,
 ⟨.move, [.t 20], (some 21), none⟩,
 ⟨(.fld 3), [.t 2], (some 22), some (21, false)⟩,
 ⟨(.load none), [.t 22], (some 23), some (21, false)⟩,
 ⟨(.fld 3), [.t 3], (some 24), some (21, false)⟩,
 ⟨(.load none), [.t 24], (some 25), some (21, false)⟩,
 ⟨(.call [] 5026 false), [.c (.one (.clo 21 [] [])), .t 23, .t 25], (some 26), some (21, false)⟩,
 ⟨(.un .not), [.t 26], (some 27), some (21, false)⟩,
 ⟨.pick, [.t 21, .c (.one (.sc (.bool true))), .t 27], (some 28), none⟩,
 ⟨.move, [.t 28], (some 29), none⟩,
 ⟨(.fld 4), [.t 2], (some 30), some (29, false)⟩,
 ⟨(.load none), [.t 30], (some 31), some (29, false)⟩,
 ⟨(.fld 4), [.t 3], (some 32), some (29, false)⟩,
 ⟨(.load none), [.t 32], (some 33), some (29, false)⟩,
 ⟨(.call [] 5034 false), [.c (.one (.clo 21 [] [])), .t 31, .t 33], (some 34), some (29, false)⟩,
 ⟨(.un .not), [.t 34], (some 35), some (29, false)⟩,
 ⟨.pick, [.t 29, .c (.one (.sc (.bool true))), .t 35], (some 36), none⟩,
 ⟨.move, [.t 36], (some 37), none⟩,
 ⟨(.fld 5), [.t 2], (some 38), some (37, false)⟩,
 ⟨(.load none), [.t 38], (some 39), some (37, false)⟩,
 ⟨(.fld 5), [.t 3], (some 40), some (37, false)⟩,
 ⟨(.load none), [.t 40], (some 41), some (37, false)⟩,
 ⟨(.call [] 5042 false), [.c (.one (.clo 28 [] [])), .t 39, .t 41], (some 42), some (37, false)⟩,
 ⟨(.un .not), [.t 42], (some 43), some (37, false)⟩,
 ⟨.pick, [.t 37, .c (.one (.sc (.bool true))), .t 43], (some 44), none⟩,
 ⟨.move, [.t 44], (some 45), none⟩,
 ⟨(.fld 6), [.t 2], (some 46), some (45, false)⟩,
 ⟨(.load none), [.t 46], (some 47), some (45, false)⟩,
 ⟨(.fld 6), [.t 3], (some 48), some (45, false)⟩,
 ⟨(.load none), [.t 48], (some 49), some (45, false)⟩,
 ⟨(.call [] 5050 false), [.c (.one (.clo 27 [] [])), .t 47, .t 49], (some 50), some (45, false)⟩,
 ⟨(.un .not), [.t 50], (some 51), some (45, false)⟩,
 ⟨.pick, [.t 45, .c (.one (.sc (.bool true))), .t 51], (some 52), none⟩,
 ⟨.move, [.t 52], (some 53), none⟩,
 ⟨(.fld 2), [.t 2], (some 54), some (53, false)⟩,
 ⟨(.load none), [.t 54], (some 55), some (53, false)⟩,
 ⟨.len, [.t 55], (some 56), some (53, false)⟩,
 ⟨(.fld 2), [.t 3], (some 57), some (53, false)⟩,
 ⟨(.load none), [.t 57], (some 58), some (53, false)⟩,
 ⟨.len, [.t 58], (some 59), some (53, false)⟩,
 ⟨(.bin .neq), [.t 56, .t 59], (some 60), some (53, false)⟩,
 ⟨.pick, [.t 53, .c (.one (.sc (.bool true))), .t 60], (some 61), none⟩]
 [2, 3, 61, 5002, 5003])
 (.cond (.t 61) (.seq (.reg [
 ⟨(.assign true), [.c (.one (.sc (.bool false)))], (some 4), none⟩]
 [4])
 .ret)
 .skip))
 (.seq (.seq (.reg [
 ⟨(.assign false), [.c (.one (.sc (.int .i64 (0))))], (some 5), none⟩]
 [2, 3, 5, 5002, 5003])
 (.block 0
 (.loop [2, 3, 5, 5002, 5003]
 (.seq (.seq (.reg [
 ⟨.move, [.t 5], (some 62), none⟩,
 ⟨(.fld 2), [.t 2], (some 63), none⟩,
 ⟨(.load none), [.t 63], (some 64), none⟩,
 ⟨.len, [.t 64], (some 65), none⟩,
 ⟨(.bin .lss), [.t 62, .t 65], (some 66), none⟩]
 [2, 3, 5, 66, 5002, 5003])
 (.cond (.t 66) .skip
 (.exit 0)))
 (.seq (.block 1
 (.seq (.seq (.drw [
 ⟨(.fld 2), [.t 2], (some 69), none⟩,
 ⟨(.load none), [.t 69], (some 70), none⟩,
 ⟨.move, [.t 5], (some 71), none⟩,
 ⟨(.ida 1), [.t 70, .t 71], (some 72), none⟩,
 ⟨(.load none), [.t 72], (some 73), none⟩,
 ⟨.len, [.t 73], (some 74), none⟩,
 ⟨(.fld 2), [.t 3], (some 75), none⟩,
 ⟨(.load none), [.t 75], (some 76), none⟩,
 ⟨.move, [.t 5], (some 77), none⟩,
 ⟨(.ida 1), [.t 76, .t 77], (some 78), none⟩,
 ⟨(.load none), [.t 78], (some 79), none⟩,
 ⟨.len, [.t 79], (some 80), none⟩,
 ⟨(.bin .neq), [.t 74, .t 80], (some 81), none⟩]
 [⟨[2, 69], [], [69], []⟩, ⟨[69, 70, 5002], [], [70], []⟩, ⟨[5, 71], [], [71], []⟩, ⟨[70, 71, 72], [], [72], []⟩, ⟨[72, 73], [], [73], []⟩, ⟨[73, 74], [], [74], []⟩, ⟨[3, 75], [], [75], []⟩, ⟨[75, 76, 5003], [], [76], []⟩, ⟨[5, 77], [], [77], []⟩, ⟨[76, 77, 78], [], [78], []⟩, ⟨[78, 79], [], [79], []⟩, ⟨[79, 80], [], [80], []⟩, ⟨[74, 80, 81], [], [81], []⟩] [2, 3, 5, 81, 5002, 5003])
 (.cond (.t 81) (.seq (.reg [
 ⟨(.assign true), [.c (.one (.sc (.bool false)))], (some 4), none⟩]
 [4])
 .ret)
 .skip))
 (.seq (.reg [
 ⟨(.assign false), [.c (.one (.sc (.int .i64 (0))))], (some 6), none⟩]
 [2, 3, 5, 6, 5002, 5003])
 (.block 2
 (.loop [2, 3, 5, 6, 5002, 5003]
 (.seq (.seq (.reg [
 ⟨.move, [.t 6], (some 82), none⟩,
 ⟨(.fld 2), [.t 2], (some 83), none⟩,
 ⟨(.load none), [.t 83], (some 84), none⟩,
 ⟨.move, [.t 5], (some 85), none⟩,
 ⟨(.ida 1), [.t 84, .t 85], (some 86), none⟩,
 ⟨(.load none), [.t 86], (some 87), none⟩,
 ⟨.len, [.t 87], (some 88), none⟩,
 ⟨(.bin .lss), [.t 82, .t 88], (some 89), none⟩]
 [2, 3, 5, 6, 89, 5002, 5003])
 (.cond (.t 89) .skip
 (.exit 2)))
 (.seq (.block 3
 (.seq (.drw [
 ⟨(.fld 2), [.t 2], (some 92), none⟩,
 ⟨(.load none), [.t 92], (some 93), none⟩,
 ⟨.move, [.t 5], (some 94), none⟩,
 ⟨(.ida 1), [.t 93, .t 94], (some 95), none⟩,
 ⟨(.load none), [.t 95], (some 96), none⟩,
 ⟨.move, [.t 6], (some 97), none⟩,
 ⟨(.ida 2), [.t 96, .t 97], (some 98), none⟩,
 ⟨(.load (some 2)), [.t 98], (some 99), none⟩,
 ⟨(.fld 2), [.t 3], (some 100), none⟩,
 ⟨(.load none), [.t 100], (some 101), none⟩,
 ⟨.move, [.t 5], (some 102), none⟩,
 ⟨(.ida 1), [.t 101, .t 102], (some 103), none⟩,
 ⟨(.load none), [.t 103], (some 104), none⟩,
 ⟨.move, [.t 6], (some 105), none⟩,
 ⟨(.ida 2), [.t 104, .t 105], (some 106), none⟩,
 ⟨(.load (some 2)), [.t 106], (some 107), none⟩,
 ⟨(.eq true [true, false]), [.t 99, .t 107], (some 108), none⟩]
 [⟨[2, 92], [], [92], []⟩, ⟨[92, 93, 5002], [], [93], []⟩, ⟨[5, 94], [], [94], []⟩, ⟨[93, 94, 95], [], [95], []⟩, ⟨[95, 96], [], [96], []⟩, ⟨[6, 97], [], [97], []⟩, ⟨[96, 97, 98], [], [98], []⟩, ⟨[98, 99], [], [99], []⟩, ⟨[3, 100], [], [100], []⟩, ⟨[100, 101, 5003], [], [101], []⟩, ⟨[5, 102], [], [102], []⟩, ⟨[101, 102, 103], [], [103], []⟩, ⟨[103, 104], [], [104], []⟩, ⟨[6, 105], [], [105], []⟩, ⟨[104, 105, 106], [], [106], []⟩, ⟨[106, 107], [], [107], []⟩, ⟨[99, 107, 108], [], [108], []⟩] [2, 3, 5, 6, 108, 5002, 5003])
 (.cond (.t 108) (.seq (.reg [
 ⟨(.assign true), [.c (.one (.sc (.bool false)))], (some 4), none⟩]
 [4])
 .ret)
 .skip)))
 (.reg [
 ⟨.move, [.t 6], (some 90), none⟩,
 ⟨(.bin .add), [.t 90, .c (.one (.sc (.int .i64 (1))))], (some 91), none⟩,
 ⟨(.assign false), [.t 91], (some 6), none⟩]
 [2, 3, 5, 6, 5002, 5003]))))))))
 (.reg [
 ⟨.move, [.t 5], (some 67), none⟩,
 ⟨(.bin .add), [.t 67, .c (.one (.sc (.int .i64 (1))))], (some 68), none⟩,
 ⟨(.assign false), [.t 68], (some 5), none⟩]
 [2, 3, 5, 5002, 5003]))))))
 (.seq (.reg [
 ⟨(.assign true), [.c (.one (.sc (.bool true)))], (some 4), none⟩]
 [4])
 .ret))))⟩
def c14 : Pv.Fn := ⟨2, [0, 1, 2, 3, 6, 7, 8, 9, 10], [], [.t 4, .t 5],
 (.seq (.reg [
 ⟨(.assign true), [.c (.one (.sl .own 1 []))], (some 4), none⟩,
 ⟨(.assign true), [.c (.one (.sl .own 4 []))], (some 5), none⟩]
 [0, 1])
 (.seq (.reg [
 ⟨.move, [.t 1], (some 11), none⟩,
 ⟨(.call [] 5012 false), [.c (.one (.clo 29 [] [])), .t 11, .c (.one (.sc (.int .i64 (160))))], (some 12), none⟩,
 ⟨(.assign false), [.t 12], (some 6), none⟩]
 [0, 6, 5012])
 (.seq (.reg [
 ⟨.move, [.t 6], (some 13), none⟩,
 ⟨(.call [] 5014 false), [.c (.one (.clo 30 [] [])), .t 13, .c (.one (.sc (.int .i64 (3))))], (some 14), none⟩,
 ⟨(.bin .add), [.c (.one (.sc (.int .i64 (2)))), .t 14], (some 15), none⟩,
 ⟨(.assign false), [.t 15], (some 7), none⟩]
 [0, 6, 7, 5012])
 (.seq (.reg [
 ⟨(.assign false), [.c (.one (.sl .own 1 []))], (some 8), none⟩]
 [0, 6, 7, 8, 5012])
 (.seq (.seq (.reg [
 ⟨(.assign false), [.c (.one (.sc (.int .i64 (0))))], (some 9), none⟩]
 [0, 6, 7, 8, 9, 5012])
 (.block 0
 (.loop [0, 6, 7, 8, 9, 5012]
 (.seq (.seq (.reg [
 ⟨.move, [.t 9], (some 16), none⟩,
 ⟨.move, [.t 7], (some 17), none⟩,
 ⟨(.bin .lss), [.t 16, .t 17], (some 18), none⟩]
 [0, 6, 7, 8, 9, 18, 5012])
 (.cond (.t 18) .skip
 (.exit 0)))
 (.seq (.block 1
 (.seq (.reg [
 ⟨.move, [.t 9], (some 21), none⟩,
 ⟨(.bin .mul), [.c (.one (.sc (.int .i64 (10)))), .t 21], (some 22), none⟩,
 ⟨(.assign false), [.t 22], (some 10), none⟩]
 [0, 6, 7, 8, 9, 10, 5012])
 (.seq (.seq (.reg [
 ⟨.move, [.t 9], (some 23), none⟩,
 ⟨.move, [.t 0], (some 24), none⟩,
 ⟨.len, [.t 24], (some 25), none⟩,
 ⟨(.bin .lss), [.t 23, .t 25], (some 26), none⟩]
 [0, 6, 7, 8, 9, 10, 26, 5012])
 (.cond (.t 26) (.reg [
 ⟨.move, [.t 0], (some 27), none⟩,
 ⟨.move, [.t 9], (some 28), none⟩,
 ⟨(.ida 1), [.t 27, .t 28], (some 29), none⟩,
 ⟨(.load none), [.t 29], (some 30), none⟩,
 ⟨(.assign false), [.t 30], (some 10), none⟩]
 [0, 6, 7, 8, 9, 10, 5012])
 .skip))
 (.reg [
 ⟨.move, [.t 8], (some 31), none⟩,
 ⟨.move, [.t 10], (some 32), none⟩,
 ⟨(.bsl 1 [(.sc (.int .i64 (0)))] 1 [0]), [.t 32], (some 33), none⟩,
 ⟨(.app 1 8), [.t 31, .t 33], (some 34), none⟩,
 ⟨(.assign false), [.t 34], (some 8), none⟩]
 [0, 6, 7, 8, 9, 5012]))))
 (.reg [
 ⟨.move, [.t 9], (some 19), none⟩,
 ⟨(.bin .add), [.t 19, .c (.one (.sc (.int .i64 (1))))], (some 20), none⟩,
 ⟨(.assign false), [.t 20], (some 9), none⟩]
 [0, 6, 7, 8, 9, 5012]))))))
 (.seq (.reg [
 ⟨.move, [.t 8], (some 35), none⟩,
 ⟨.move, [.t 6], (some 36), none⟩,
 ⟨.move, [.t 7], (some 37), none⟩,
 ⟨(.call [] 5038 false), [.c (.one (.clo 31 [] [])), .t 36, .t 37, .c (.one (.sc (.int .i64 (50))))], (some 38), none⟩,
 ⟨(.assign true), [.t 35], (some 4), none⟩,
 ⟨(.assign true), [.t 38], (some 5), none⟩]
 [4, 5])
 .ret))))))⟩
def c15 : Pv.Fn := ⟨2, [0, 1, 2, 3, 6, 7, 8, 9, 10], [], [.c 4 (some 7), .t 5],
 (.seq (.reg [
 ⟨(.box 5002), [.t 0], (some 2), none⟩,
 ⟨(.box 5003), [.t 1], (some 3), none⟩,
 ⟨(.alloc 5004 [(.sl .own 1 []), (.sl .own 1 []), (.sl .own 1 []), (.sl .own 1 []), (.sl .own 1 []), (.sl .own 1 []), (.sl .own 1 [])]), [], (some 4), none⟩,
 ⟨(.assign true), [.c (.one (.sc (.int .i64 (0))))], (some 5), none⟩]
 [2, 3, 4, 5002, 5003, 5004])
 (.seq (.seq (.reg [
 ⟨(.load (some 7)), [.t 2], (some 11), none⟩,
 ⟨(.call [] 5012 false), [.c (.one (.clo 32 [] [])), .t 11], (some 12), none⟩,
 ⟨(.un .not), [.t 12], (some 13), none⟩]
 [2, 3, 4, 13, 5002, 5003, 5004])
 (.cond (.t 13) (.seq (.reg [
 ⟨(.build [(.sl .own 1 []), (.sl .own 1 []), (.sl .own 1 []), (.sl .own 1 []), (.sl .own 1 []), (.sl .own 1 []), (.sl .own 1 [])] []), [], (some 14), none⟩,
 ⟨(.store true 7), [.t 4, .t 14], none, none⟩,
 ⟨(.assign true), [.c (.one (.sc (.int .i64 (7))))], (some 5), none⟩]
 [4, 5, 5004])
 .ret)
 .skip))
 (.seq (.reg [
 ⟨(.fld 0), [.t 2], (some 15), none⟩,
 ⟨(.load none), [.t 15], (some 16), none⟩,
 ⟨.len, [.t 16], (some 17), none⟩,
 ⟨(.alloc 5006 [(.sc (.int .i64 (0)))]), [], (some 6), none⟩,
 ⟨(.store false 1), [.t 6, .t 17], none, none⟩]
 [2, 3, 4, 6, 5002, 5003, 5004, 5006])
 (.seq (.reg [
 ⟨(.mkf 33 0), [.t 6], (some 18), none⟩,
 ⟨(.assign false), [.t 18], (some 7), none⟩]
 [2, 3, 4, 6, 7, 5002, 5003, 5004, 5006])
 (.seq (.seq (.reg [
 ⟨(.fld 0), [.t 3], (some 19), none⟩,
 ⟨(.load none), [.t 19], (some 20), none⟩]
 [2, 3, 4, 6, 7, 20, 5002, 5003, 5004, 5006])
 (.block 0
 (.seq (.reg [
 ⟨(.bin .eql), [.t 20, .c (.one (.sc (.int .i64 (3))))], (some 23), none⟩,
 ⟨(.assign false), [.t 23], (some 22), none⟩]
 [2, 3, 4, 6, 7, 20, 22, 5002, 5003, 5004, 5006])
 (.cond (.t 22) (.seq (.reg [
 ⟨.move, [.t 7], (some 24), none⟩,
 ⟨(.fld 1), [.t 3], (some 25), none⟩,
 ⟨(.load none), [.t 25], (some 26), none⟩,
 ⟨(.call [] 5027 false), [.t 24, .t 26], (some 27), none⟩,
 ⟨(.un .not), [.t 27], (some 28), none⟩]
 [2, 3, 4, 6, 28, 5002, 5003, 5004, 5006])
 (.cond (.t 28) (.seq (.reg [
 ⟨(.build [(.sl .own 1 []), (.sl .own 1 []), (.sl .own 1 []), (.sl .own 1 []), (.sl .own 1 []), (.sl .own 1 []), (.sl .own 1 [])] []), [], (some 29), none⟩,
 ⟨(.store true 7), [.t 4, .t 29], none, none⟩,
 ⟨(.assign true), [.c (.one (.sc (.int .i64 (3))))], (some 5), none⟩]
 [4, 5, 5004])
 .ret)
 .skip))
 (.seq (.seq (.reg [
 ⟨(.bin .eql), [.t 20, .c (.one (.sc (.int .i64 (1))))], (some 31), none⟩,
 ⟨(.assign false), [.t 31], (some 30), none⟩]
 [2, 3, 4, 6, 7, 20, 30, 5002, 5003, 5004, 5006])
 (.cond (.t 30) .skip
 (.reg [
 ⟨(.bin .eql), [.t 20, .c (.one (.sc (.int .i64 (2))))], (some 32), none⟩,
 ⟨(.assign false), [.t 32], (some 30), none⟩]
 [2, 3, 4, 6, 7, 30, 5002, 5003, 5004, 5006])))
 (.cond (.t 30) (.seq (.reg [
 ⟨.move, [.t 7], (some 33), none⟩,
 ⟨(.fld 1), [.t 3], (some 34), none⟩,
 ⟨(.load none), [.t 34], (some 35), none⟩,
 ⟨(.call [] 5036 false), [.t 33, .t 35], (some 36), none⟩,
 ⟨(.un .not), [.t 36], (some 37), none⟩,
 ⟨.move, [.t 37], (some 38), none⟩,
 ⟨.move, [.t 7], (some 39), some (38, false)⟩,
 ⟨(.fld 2), [.t 3], (some 40), some (38, false)⟩,
 ⟨(.load none), [.t 40], (some 41), some (38, false)⟩,
 ⟨(.call [] 5042 false), [.t 39, .t 41], (some 42), some (38, false)⟩,
 ⟨(.un .not), [.t 42], (some 43), some (38, false)⟩,
 ⟨.pick, [.t 38, .c (.one (.sc (.bool true))), .t 43], (some 44), none⟩,
 ⟨.move, [.t 44], (some 45), none⟩,
 ⟨(.fld 1), [.t 3], (some 46), some (45, false)⟩,
 ⟨(.load none), [.t 46], (some 47), some (45, false)⟩,
 ⟨(.fld 2), [.t 3], (some 48), some (45, false)⟩,
 ⟨(.load none), [.t 48], (some 49), some (45, false)⟩,
 ⟨(.bin .eql), [.t 47, .t 49], (some 50), some (45, false)⟩,
 ⟨.pick, [.t 45, .c (.one (.sc (.bool true))), .t 50], (some 51), none⟩]
 [2, 3, 4, 6, 51, 5002, 5003, 5004, 5006])
 (.cond (.t 51) (.seq (.reg [
 ⟨(.build [(.sl .own 1 []), (.sl .own 1 []), (.sl .own 1 []), (.sl .own 1 []), (.sl .own 1 []), (.sl .own 1 []), (.sl .own 1 [])] []), [], (some 52), none⟩,
 ⟨(.store true 7), [.t 4, .t 52], none, none⟩,
 ⟨(.assign true), [.c (.one (.sc (.int .i64 (3))))], (some 5), none⟩]
 [4, 5, 5004])
 .ret)
 .skip))
 (.seq (.reg [
 ⟨(.build [(.sl .own 1 []), (.sl .own 1 []), (.sl .own 1 []), (.sl .own 1 []), (.sl .own 1 []), (.sl .own 1 []), (.sl .own 1 [])] []), [], (some 21), none⟩,
 ⟨(.store true 7), [.t 4, .t 21], none, none⟩,
 ⟨(.assign true), [.c (.one (.sc (.int .i64 (3))))], (some 5), none⟩]
 [4, 5, 5004])
 .ret)))))))
 (.seq (.reg [
 ⟨(.assign false), [.c (.one (.sc (.int .i64 (0))))], (some 8), none⟩]
 [2, 3, 4, 6, 8, 5002, 5003, 5004, 5006])
 (.seq (.seq (.reg [
 ⟨(.fld 0), [.t 3], (some 53), none⟩,
 ⟨(.load none), [.t 53], (some 54), none⟩,
 ⟨(.bin .neq), [.t 54, .c (.one (.sc (.int .i64 (3))))], (some 55), none⟩]
 [2, 3, 4, 6, 8, 55, 5002, 5003, 5004, 5006])
 (.cond (.t 55) (.reg [
 ⟨(.fld 1), [.t 3], (some 56), none⟩,
 ⟨(.load none), [.t 56], (some 57), none⟩,
 ⟨(.load none), [.t 6], (some 58), none⟩,
 ⟨(.bin .mul), [.t 57, .t 58], (some 59), none⟩,
 ⟨(.fld 2), [.t 3], (some 60), none⟩,
 ⟨(.load none), [.t 60], (some 61), none⟩,
 ⟨(.bin .add), [.t 59, .t 61], (some 62), none⟩,
 ⟨(.assign false), [.t 62], (some 8), none⟩]
 [2, 3, 4, 8, 5002, 5003, 5004])
 .skip))
 (.seq (.seq (.reg [
 ⟨(.fld 0), [.t 3], (some 63), none⟩,
 ⟨(.load none), [.t 63], (some 64), none⟩,
 ⟨(.bin .eql), [.t 64, .c (.one (.sc (.int .i64 (1))))], (some 65), none⟩,
 ⟨.move, [.t 65], (some 66), none⟩,
 ⟨(.fld 2), [.t 2], (some 67), some (66, true)⟩,
 ⟨(.load none), [.t 67], (some 68), some (66, true)⟩,
 ⟨.move, [.t 8], (some 69), some (66, true)⟩,
 ⟨(.ida 1), [.t 68, .t 69], (some 70), some (66, true)⟩,
 ⟨(.load none), [.t 70], (some 71), some (66, true)⟩,
 ⟨.len, [.t 71], (some 72), some (66, true)⟩,
 ⟨(.bin .geq), [.t 72, .c (.one (.sc (.int .i64 (256))))], (some 73), some (66, true)⟩,
 ⟨.pick, [.t 66, .t 73, .c (.one (.sc (.bool false)))], (some 74), none⟩]
 [2, 3, 4, 8, 74, 5002, 5003, 5004])
 (.cond (.t 74) (.seq (.reg [
 ⟨(.build [(.sl .own 1 []), (.sl .own 1 []), (.sl .own 1 []), (.sl .own 1 []), (.sl .own 1 []), (.sl .own 1 []), (.sl .own 1 [])] []), [], (some 75), none⟩,
 ⟨(.store true 7), [.t 4, .t 75], none, none⟩,
 ⟨(.assign true), [.c (.one (.sc (.int .i64 (4))))], (some 5), none⟩]
 [4, 5, 5004])
 .ret)
 .skip))
 (.seq (.seq (.reg [
 ⟨(.fld 0), [.t 3], (some 76), none⟩,
 ⟨(.load none), [.t 76], (some 77), none⟩,
 ⟨(.bin .eql), [.t 77, .c (.one (.sc (.int .i64 (2))))], (some 78), none⟩,
 ⟨.move, [.t 78], (some 79), none⟩,
 ⟨(.fld 2), [.t 2], (some 80), some (79, true)⟩,
 ⟨(.load none), [.t 80], (some 81), some (79, true)⟩,
 ⟨.move, [.t 8], (some 82), some (79, true)⟩,
 ⟨(.ida 1), [.t 81, .t 82], (some 83), some (79, true)⟩,
 ⟨(.load none), [.t 83], (some 84), some (79, true)⟩,
 ⟨.len, [.t 84], (some 85), some (79, true)⟩,
 ⟨(.bin .eql), [.t 85, .c (.one (.sc (.int .i64 (0))))], (some 86), some (79, true)⟩,
 ⟨.pick, [.t 79, .t 86, .c (.one (.sc (.bool false)))], (some 87), none⟩]
 [2, 3, 4, 8, 87, 5002, 5003, 5004])
 (.cond (.t 87) (.seq (.reg [
 ⟨(.build [(.sl .own 1 []), (.sl .own 1 []), (.sl .own 1 []), (.sl .own 1 []), (.sl .own 1 []), (.sl .own 1 []), (.sl .own 1 [])] []), [], (some 88), none⟩,
 ⟨(.store true 7), [.t 4, .t 88], none, none⟩,
 ⟨(.assign true), [.c (.one (.sc (.int .i64 (11))))], (some 5), none⟩]
 [4, 5, 5004])
 .ret)
 .skip))
 (.seq (.reg [
 ⟨(.load (some 7)), [.t 2], (some 89), none⟩,
 ⟨(.call [] 5090 false), [.c (.one (.clo 34 [] [])), .t 89], (some 90), none⟩,
 ⟨(.alloc 5009 [(.sl .own 1 []), (.sl .own 1 []), (.sl .own 1 []), (.sl .own 1 []), (.sl .own 1 []), (.sl .own 1 []), (.sl .own 1 [])]), [], (some 9), none⟩,
 ⟨(.store false 7), [.t 9, .t 90], none, none⟩]
 [3, 4, 8, 9, 5003, 5004, 5009])
 (.seq (.seq (.reg [
 ⟨(.fld 0), [.t 3], (some 91), none⟩,
 ⟨(.load none), [.t 91], (some 92), none⟩]
 [3, 4, 8, 9, 92, 5003, 5004, 5009])
 (.block 1
 (.seq (.reg [
 ⟨(.bin .eql), [.t 92, .c (.one (.sc (.int .i64 (1))))], (some 94), none⟩,
 ⟨(.assign false), [.t 94], (some 93), none⟩]
 [3, 4, 8, 9, 92, 93, 5003, 5004, 5009])
 (.cond (.t 93) (.seq (.drw [
 ⟨(.fld 0), [.t 9], (some 95), none⟩,
 ⟨(.load none), [.t 95], (some 96), none⟩,
 ⟨(.fld 1), [.t 3], (some 97), none⟩,
 ⟨(.load none), [.t 97], (some 98), none⟩,
 ⟨(.ida 1), [.t 96, .t 98], (some 99), none⟩,
 ⟨(.load none), [.t 99], (some 100), none⟩,
 ⟨(.fld 3), [.t 3], (some 101), none⟩,
 ⟨(.load none), [.t 101], (some 102), none⟩,
 ⟨(.bin .sub), [.t 100, .t 102], (some 103), none⟩,
 ⟨(.ida 1), [.t 96, .t 98], (some 104), none⟩,
 ⟨(.store false 1), [.t 104, .t 103], none, none⟩]
 [⟨[9, 95], [], [95], []⟩, ⟨[95, 96], [5009], [96], []⟩, ⟨[3, 97], [], [97], []⟩, ⟨[97, 98, 5003], [], [98], []⟩, ⟨[96, 98, 99, 5009], [], [99], []⟩, ⟨[99, 100, 5009], [], [100], []⟩, ⟨[3, 101], [], [101], []⟩, ⟨[101, 102, 5003], [], [102], []⟩, ⟨[100, 102, 103], [], [103], []⟩, ⟨[96, 98, 104, 5009], [], [104], []⟩, ⟨[103, 104, 5009], [], [5009], [5009]⟩] [3, 4, 8, 9, 5003, 5004, 5009])
 (.seq (.drw [
 ⟨(.fld 2), [.t 9], (some 105), none⟩,
 ⟨(.load none), [.t 105], (some 106), none⟩,
 ⟨.move, [.t 8], (some 107), none⟩,
 ⟨(.fld 2), [.t 9], (some 108), none⟩,
 ⟨(.load none), [.t 108], (some 109), none⟩,
 ⟨.move, [.t 8], (some 110), none⟩,
 ⟨(.ida 1), [.t 109, .t 110], (some 111), none⟩,
 ⟨(.load none), [.t 111], (some 112), none⟩,
 ⟨(.fld 3), [.t 3], (some 113), none⟩,
 ⟨(.load none), [.t 113], (some 114), none⟩,
 ⟨(.build [(.sc (.bool false)), (.sc (.int .i64 (0)))] [(1, 1)]), [.t 114], (some 115), none⟩,
 ⟨(.bsl 2 [(.sc (.bool false)), (.sc (.int .i64 (0)))] 1 [0]), [.t 115], (some 116), none⟩,
 ⟨(.app 2 16), [.t 112, .t 116], (some 117), none⟩,
 ⟨(.ida 1), [.t 106, .t 107], (some 118), none⟩,
 ⟨(.store false 1), [.t 118, .t 117], none, none⟩]
 [⟨[9, 105], [], [105], []⟩, ⟨[105, 106], [5009], [106], []⟩, ⟨[8, 107], [], [107], []⟩, ⟨[9, 108], [], [108], []⟩, ⟨[108, 109], [5009], [109], []⟩, ⟨[8, 110], [], [110], []⟩, ⟨[109, 110, 111, 5009], [], [111], []⟩, ⟨[111, 112, 5009], [], [112], []⟩, ⟨[3, 113], [], [113], []⟩, ⟨[113, 114, 5003], [], [114], []⟩, ⟨[114, 115], [], [115], []⟩, ⟨[115, 116], [], [116], []⟩, ⟨[112, 116, 117, 5009], [], [117, 5009], [5009]⟩, ⟨[106, 107, 118, 5009], [], [118], []⟩, ⟨[117, 118, 5009], [], [117, 5009], []⟩] [3, 4, 9, 5003, 5004, 5009])
 (.reg [
 ⟨(.fld 1), [.t 9], (some 119), none⟩,
 ⟨(.load none), [.t 119], (some 120), none⟩,
 ⟨(.fld 1), [.t 3], (some 121), none⟩,
 ⟨(.load none), [.t 121], (some 122), none⟩,
 ⟨(.ida 1), [.t 120, .t 122], (some 123), none⟩,
 ⟨(.load none), [.t 123], (some 124), none⟩,
 ⟨(.bin .add), [.t 124, .c (.one (.sc (.int .i64 (1))))], (some 125), none⟩,
 ⟨(.ida 1), [.t 120, .t 122], (some 126), none⟩,
 ⟨(.store false 1), [.t 126, .t 125], none, none⟩]
 [4, 9, 5004, 5009])))
 (.seq (.reg [
 ⟨(.bin .eql), [.t 92, .c (.one (.sc (.int .i64 (2))))], (some 128), none⟩,
 ⟨(.assign false), [.t 128], (some 127), none⟩]
 [3, 4, 8, 9, 92, 127, 5003, 5004, 5009])
 (.cond (.t 127) (.seq (.reg [
 ⟨(.fld 2), [.t 9], (some 129), none⟩,
 ⟨(.load none), [.t 129], (some 130), none⟩,
 ⟨.move, [.t 8], (some 131), none⟩,
 ⟨(.ida 1), [.t 130, .t 131], (some 132), none⟩,
 ⟨(.load none), [.t 132], (some 133), none⟩,
 ⟨(.ida 2), [.t 133, .c (.one (.sc (.int .i64 (0))))], (some 134), none⟩,
 ⟨(.load (some 2)), [.t 134], (some 135), none⟩,
 ⟨(.alloc 5010 [(.sc (.bool false)), (.sc (.int .i64 (0)))]), [], (some 10), none⟩,
 ⟨(.store false 2), [.t 10, .t 135], none, none⟩]
 [3, 4, 8, 9, 10, 5003, 5004, 5009, 5010])
 (.seq (.drw [
 ⟨(.fld 2), [.t 9], (some 136), none⟩,
 ⟨(.load none), [.t 136], (some 137), none⟩,
 ⟨.move, [.t 8], (some 138), none⟩,
 ⟨(.fld 2), [.t 9], (some 139), none⟩,
 ⟨(.load none), [.t 139], (some 140), none⟩,
 ⟨.move, [.t 8], (some 141), none⟩,
 ⟨(.ida 1), [.t 140, .t 141], (some 142), none⟩,
 ⟨(.load none), [.t 142], (some 143), none⟩,
 ⟨(.slc 2 true false false), [.t 143, .c (.one (.sc (.int .i64 (1))))], (some 144), none⟩,
 ⟨(.app 2 16), [.c (.one (.sl .own 2 [])), .t 144], (some 145), none⟩,
 ⟨(.ida 1), [.t 137, .t 138], (some 146), none⟩,
 ⟨(.store false 1), [.t 146, .t 145], none, none⟩]
 [⟨[9, 136], [], [136], []⟩, ⟨[136, 137], [5009], [137], []⟩, ⟨[8, 138], [], [138], []⟩, ⟨[9, 139], [], [139], []⟩, ⟨[139, 140], [5009], [140], []⟩, ⟨[8, 141], [], [141], []⟩, ⟨[140, 141, 142, 5009], [], [142], []⟩, ⟨[142, 143, 5009], [], [143], []⟩, ⟨[143, 144, 5009], [], [144], []⟩, ⟨[144, 145, 5009], [], [145], []⟩, ⟨[137, 138, 146, 5009], [], [146], []⟩, ⟨[145, 146, 5009], [], [145, 5009], []⟩] [3, 4, 8, 9, 10, 5003, 5004, 5009, 5010])
 (.seq (.seq (.reg [
 ⟨(.fld 0), [.t 10], (some 147), none⟩,
 ⟨(.load none), [.t 147], (some 148), none⟩]
 [3, 4, 8, 9, 10, 148, 5003, 5004, 5009, 5010])
 (.cond (.t 148) (.seq (.seq (.reg [
 ⟨(.fld 3), [.t 9], (some 149), none⟩,
 ⟨(.load none), [.t 149], (some 150), none⟩,
 ⟨(.fld 2), [.t 3], (some 151), none⟩,
 ⟨(.load none), [.t 151], (some 152), none⟩,
 ⟨(.ida 1), [.t 150, .t 152], (some 153), none⟩,
 ⟨(.load none), [.t 153], (some 154), none⟩,
 ⟨(.bin .eql), [.t 154, .c (.one (.sc (.int .i64 (-1))))], (some 155), none⟩]
 [3, 4, 8, 9, 155, 5003, 5004, 5009])
 (.cond (.t 155) (.reg [
 ⟨(.load (some 7)), [.t 9], (some 156), none⟩,
 ⟨(.fld 2), [.t 3], (some 157), none⟩,
 ⟨(.load none), [.t 157], (some 158), none⟩,
 ⟨(.call [0] 5159 false), [.c (.one (.clo 35 [] [])), .t 156, .t 158], (some 159), none⟩]
 [4, 8, 9, 5004, 5009])
 .skip))
 (.seq (.reg [
 ⟨(.fld 5), [.t 9], (some 160), none⟩,
 ⟨(.load none), [.t 160], (some 161), none⟩,
 ⟨.move, [.t 8], (some 162), none⟩,
 ⟨(.ida 1), [.t 161, .t 162], (some 163), none⟩,
 ⟨(.store false 1), [.t 163, .c (.one (.sc (.bool false)))], none, none⟩]
 [4, 9, 5004, 5009])
 (.exit 1)))
 .skip))
 (.seq (.drw [
 ⟨(.fld 0), [.t 9], (some 164), none⟩,
 ⟨(.load none), [.t 164], (some 165), none⟩,
 ⟨(.fld 2), [.t 3], (some 166), none⟩,
 ⟨(.load none), [.t 166], (some 167), none⟩,
 ⟨(.ida 1), [.t 165, .t 167], (some 168), none⟩,
 ⟨(.load none), [.t 168], (some 169), none⟩,
 ⟨(.fld 1), [.t 10], (some 170), none⟩,
 ⟨(.load none), [.t 170], (some 171), none⟩,
 ⟨(.bin .add), [.t 169, .t 171], (some 172), none⟩,
 ⟨(.ida 1), [.t 165, .t 167], (some 173), none⟩,
 ⟨(.store false 1), [.t 173, .t 172], none, none⟩]
 [⟨[9, 164], [], [164], []⟩, ⟨[164, 165], [5009], [165], []⟩, ⟨[3, 166], [], [166], []⟩, ⟨[166, 167, 5003], [], [167], []⟩, ⟨[165, 167, 168, 5009], [], [168], []⟩, ⟨[168, 169, 5009], [], [169], []⟩, ⟨[10, 170], [], [170], []⟩, ⟨[170, 171, 5010], [], [171], []⟩, ⟨[169, 171, 172], [], [172], []⟩, ⟨[165, 167, 173, 5009], [], [173], []⟩, ⟨[172, 173, 5009], [], [5009], [5009]⟩] [3, 4, 8, 9, 10, 5003, 5004, 5009, 5010])
 (.seq (.reg [
 ⟨(.fld 1), [.t 9], (some 174), none⟩,
 ⟨(.load none), [.t 174], (some 175), none⟩,
 ⟨(.fld 2), [.t 3], (some 176), none⟩,
 ⟨(.load none), [.t 176], (some 177), none⟩,
 ⟨(.ida 1), [.t 175, .t 177], (some 178), none⟩,
 ⟨(.load none), [.t 178], (some 179), none⟩,
 ⟨(.bin .add), [.t 179, .c (.one (.sc (.int .i64 (1))))], (some 180), none⟩,
 ⟨(.ida 1), [.t 175, .t 177], (some 181), none⟩,
 ⟨(.store false 1), [.t 181, .t 180], none, none⟩]
 [4, 8, 9, 10, 5004, 5009, 5010])
 (.seq (.reg [
 ⟨(.fld 5), [.t 9], (some 182), none⟩,
 ⟨(.load none), [.t 182], (some 183), none⟩,
 ⟨.move, [.t 8], (some 184), none⟩,
 ⟨(.ida 1), [.t 183, .t 184], (some 185), none⟩,
 ⟨(.load none), [.t 185], (some 186), none⟩]
 [4, 8, 9, 10, 186, 5004, 5009, 5010])
 (.cond (.t 186) (.drw [
 ⟨(.fld 6), [.t 9], (some 187), none⟩,
 ⟨(.load none), [.t 187], (some 188), none⟩,
 ⟨.move, [.t 8], (some 189), none⟩,
 ⟨(.fld 6), [.t 9], (some 190), none⟩,
 ⟨(.load none), [.t 190], (some 191), none⟩,
 ⟨.move, [.t 8], (some 192), none⟩,
 ⟨(.ida 1), [.t 191, .t 192], (some 193), none⟩,
 ⟨(.load none), [.t 193], (some 194), none⟩,
 ⟨(.fld 1), [.t 10], (some 195), none⟩,
 ⟨(.load none), [.t 195], (some 196), none⟩,
 ⟨(.bsl 1 [(.sc (.int .i64 (0)))] 1 [0]), [.t 196], (some 197), none⟩,
 ⟨(.app 1 8), [.t 194, .t 197], (some 198), none⟩,
 ⟨(.ida 1), [.t 188, .t 189], (some 199), none⟩,
 ⟨(.store false 1), [.t 199, .t 198], none, none⟩]
 [⟨[9, 187], [], [187], []⟩, ⟨[187, 188], [5009], [188], []⟩, ⟨[8, 189], [], [189], []⟩, ⟨[9, 190], [], [190], []⟩, ⟨[190, 191], [5009], [191], []⟩, ⟨[8, 192], [], [192], []⟩, ⟨[191, 192, 193, 5009], [], [193], []⟩, ⟨[193, 194, 5009], [], [194], []⟩, ⟨[10, 195], [], [195], []⟩, ⟨[195, 196, 5010], [], [196], []⟩, ⟨[196, 197], [], [197], []⟩, ⟨[194, 197, 198, 5009], [], [198, 5009], [5009]⟩, ⟨[188, 189, 199, 5009], [], [199], []⟩, ⟨[198, 199, 5009], [], [198, 5009], []⟩] [4, 9, 5004, 5009])
 .skip)))))))
 (.seq (.reg [
 ⟨(.bin .eql), [.t 92, .c (.one (.sc (.int .i64 (3))))], (some 201), none⟩,
 ⟨(.assign false), [.t 201], (some 200), none⟩]
 [3, 4, 9, 200, 5003, 5004, 5009])
 (.cond (.t 200) (.seq (.reg [
 ⟨(.fld 3), [.t 9], (some 202), none⟩,
 ⟨(.load none), [.t 202], (some 203), none⟩,
 ⟨(.fld 1), [.t 3], (some 204), none⟩,
 ⟨(.load none), [.t 204], (some 205), none⟩,
 ⟨(.ida 1), [.t 203, .t 205], (some 206), none⟩,
 ⟨(.load none), [.t 206], (some 207), none⟩,
 ⟨(.bin .eql), [.t 207, .c (.one (.sc (.int .i64 (-1))))], (some 208), none⟩]
 [3, 4, 9, 208, 5003, 5004, 5009])
 (.cond (.t 208) (.reg [
 ⟨(.load (some 7)), [.t 9], (some 209), none⟩,
 ⟨(.fld 1), [.t 3], (some 210), none⟩,
 ⟨(.load none), [.t 210], (some 211), none⟩,
 ⟨(.call [0] 5212 false), [.c (.one (.clo 35 [] [])), .t 209, .t 211], (some 212), none⟩]
 [4, 9, 5004, 5009])
 .skip))
 .skip))))))))
 (.seq (.reg [
 ⟨(.load (some 7)), [.t 9], (some 213), none⟩,
 ⟨(.store true 7), [.t 4, .t 213], none, none⟩,
 ⟨(.assign true), [.c (.one (.sc (.int .i64 (0))))], (some 5), none⟩]
 [4, 5, 5004])
 .ret))))))))))))⟩
def c16 : Pv.Fn := ⟨2, [0, 1, 2, 3, 6, 7, 8, 9, 10], [], [.c 4 (some 7), .t 5],
 (.seq (.reg [
 ⟨(.box 5002), [.t 0], (some 2), none⟩,
 ⟨(.box 5003), [.t 1], (some 3), none⟩,
 ⟨(.alloc 5004 [(.sl .own 1 []), (.sl .own 1 []), (.sl .own 1 []), (.sl .own 1 []), (.sl .own 1 []), (.sl .own 1 []), (.sl .own 1 [])]), [], (some 4), none⟩,
 ⟨(.assign true), [.c (.one (.sc (.int .i64 (0))))], (some 5), none⟩]
 [2, 3, 4, 5002, 5003, 5004])
 (.seq (.seq (.reg [
 ⟨(.load (some 7)), [.t 2], (some 11), none⟩,
 ⟨(.load (some 4)), [.t 3], (some 12), none⟩,
 ⟨(.call [] 5013 false), [.c (.one (.clo 36 [] [])), .t 11, .t 12], (some 13), none⟩,
 ⟨(.assign false), [.t 13], (some 6), none⟩]
 [2, 3, 4, 6, 5002, 5003, 5004])
 (.seq (.reg [
 ⟨.move, [.t 6], (some 14), none⟩,
 ⟨(.bin .neq), [.t 14, .c (.one (.sc (.int .i64 (0))))], (some 15), none⟩]
 [2, 3, 4, 6, 15, 5002, 5003, 5004])
 (.cond (.t 15) (.seq (.reg [
 ⟨(.build [(.sl .own 1 []), (.sl .own 1 []), (.sl .own 1 []), (.sl .own 1 []), (.sl .own 1 []), (.sl .own 1 []), (.sl .own 1 [])] []), [], (some 16), none⟩,
 ⟨.move, [.t 6], (some 17), none⟩,
 ⟨(.store true 7), [.t 4, .t 16], none, none⟩,
 ⟨(.assign true), [.t 17], (some 5), none⟩]
 [4, 5, 5004])
 .ret)
 .skip)))
 (.seq (.reg [
 ⟨(.load (some 7)), [.t 2], (some 18), none⟩,
 ⟨(.call [] 5019 false), [.c (.one (.clo 37 [] [])), .t 18], (some 19), none⟩,
 ⟨(.alloc 5007 [(.sl .own 1 []), (.sl .own 1 []), (.sl .own 1 []), (.sl .own 1 []), (.sl .own 1 []), (.sl .own 1 []), (.sl .own 1 [])]), [], (some 7), none⟩,
 ⟨(.store false 7), [.t 7, .t 19], none, none⟩]
 [2, 3, 4, 7, 5002, 5003, 5004, 5007])
 (.seq (.reg [
 ⟨(.fld 0), [.t 2], (some 20), none⟩,
 ⟨(.load none), [.t 20], (some 21), none⟩,
 ⟨.len, [.t 21], (some 22), none⟩,
 ⟨(.assign false), [.t 22], (some 8), none⟩]
 [3, 4, 7, 8, 5003, 5004, 5007])
 (.seq (.reg [
 ⟨(.fld 1), [.t 3], (some 23), none⟩,
 ⟨(.load none), [.t 23], (some 24), none⟩,
 ⟨.move, [.t 8], (some 25), none⟩,
 ⟨(.bin .mul), [.t 24, .t 25], (some 26), none⟩,
 ⟨(.fld 2), [.t 3], (some 27), none⟩,
 ⟨(.load none), [.t 27], (some 28), none⟩,
 ⟨(.bin .add), [.t 26, .t 28], (some 29), none⟩,
 ⟨(.assign false), [.t 29], (some 9), none⟩]
 [3, 4, 7, 9, 5003, 5004, 5007])
 (.seq (.seq (.reg [
 ⟨(.fld 0), [.t 3], (some 30), none⟩,
 ⟨(.load none), [.t 30], (some 31), none⟩,
 ⟨(.bin .eql), [.t 31, .c (.one (.sc (.int .i64 (3))))], (some 32), none⟩]
 [3, 4, 7, 9, 32, 5003, 5004, 5007])
 (.cond (.t 32) (.seq (.seq (.reg [
 ⟨(.fld 3), [.t 7], (some 33), none⟩,
 ⟨(.load none), [.t 33], (some 34), none⟩,
 ⟨(.fld 1), [.t 3], (some 35), none⟩,
 ⟨(.load none), [.t 35], (some 36), none⟩,
 ⟨(.ida 1), [.t 34, .t 36], (some 37), none⟩,
 ⟨(.load none), [.t 37], (some 38), none⟩,
 ⟨(.bin .lss), [.t 38, .c (.one (.sc (.int .i64 (0))))], (some 39), none⟩]
 [3, 4, 7, 39, 5003, 5004, 5007])
 (.cond (.t 39) (.reg [
 ⟨(.fld 1), [.t 3], (some 40), none⟩,
 ⟨(.load none), [.t 40], (some 41), none⟩,
 ⟨(.call [] 5042 false), [.c (.one (.clo 38 [] [])), .t 7, .t 41], (some 42), none⟩]
 [4, 7, 5004, 5007])
 .skip))
 (.seq (.reg [
 ⟨(.load (some 7)), [.t 7], (some 43), none⟩,
 ⟨(.store true 7), [.t 4, .t 43], none, none⟩,
 ⟨(.assign true), [.c (.one (.sc (.int .i64 (0))))], (some 5), none⟩]
 [4, 5, 5004])
 .ret))
 .skip))
 (.seq (.seq (.reg [
 ⟨(.fld 0), [.t 3], (some 44), none⟩,
 ⟨(.load none), [.t 44], (some 45), none⟩,
 ⟨(.bin .eql), [.t 45, .c (.one (.sc (.int .i64 (1))))], (some 46), none⟩]
 [3, 4, 7, 9, 46, 5003, 5004, 5007])
 (.cond (.t 46) (.seq (.drw [
 ⟨(.fld 0), [.t 7], (some 47), none⟩,
 ⟨(.load none), [.t 47], (some 48), none⟩,
 ⟨(.fld 1), [.t 3], (some 49), none⟩,
 ⟨(.load none), [.t 49], (some 50), none⟩,
 ⟨(.ida 1), [.t 48, .t 50], (some 51), none⟩,
 ⟨(.load none), [.t 51], (some 52), none⟩,
 ⟨(.fld 3), [.t 3], (some 53), none⟩,
 ⟨(.load none), [.t 53], (some 54), none⟩,
 ⟨(.bin .sub), [.t 52, .t 54], (some 55), none⟩,
 ⟨(.ida 1), [.t 48, .t 50], (some 56), none⟩,
 ⟨(.store false 1), [.t 56, .t 55], none, none⟩]
 [⟨[7, 47], [], [47], []⟩, ⟨[47, 48], [5007], [48], []⟩, ⟨[3, 49], [], [49], []⟩, ⟨[49, 50, 5003], [], [50], []⟩, ⟨[48, 50, 51, 5007], [], [51], []⟩, ⟨[51, 52, 5007], [], [52], []⟩, ⟨[3, 53], [], [53], []⟩, ⟨[53, 54, 5003], [], [54], []⟩, ⟨[52, 54, 55], [], [55], []⟩, ⟨[48, 50, 56, 5007], [], [56], []⟩, ⟨[55, 56, 5007], [], [5007], [5007]⟩] [3, 4, 7, 9, 5003, 5004, 5007])
 (.seq (.reg [
 ⟨(.fld 1), [.t 7], (some 57), none⟩,
 ⟨(.load none), [.t 57], (some 58), none⟩,
 ⟨(.fld 1), [.t 3], (some 59), none⟩,
 ⟨(.load none), [.t 59], (some 60), none⟩,
 ⟨(.ida 1), [.t 58, .t 60], (some 61), none⟩,
 ⟨(.load none), [.t 61], (some 62), none⟩,
 ⟨(.bin .add), [.t 62, .c (.one (.sc (.int .i64 (1))))], (some 63), none⟩,
 ⟨(.ida 1), [.t 58, .t 60], (some 64), none⟩,
 ⟨(.store false 1), [.t 64, .t 63], none, none⟩]
 [3, 4, 7, 9, 5003, 5004, 5007])
 (.seq (.drw [
 ⟨(.fld 2), [.t 7], (some 65), none⟩,
 ⟨(.load none), [.t 65], (some 66), none⟩,
 ⟨.move, [.t 9], (some 67), none⟩,
 ⟨(.fld 2), [.t 7], (some 68), none⟩,
 ⟨(.load none), [.t 68], (some 69), none⟩,
 ⟨.move, [.t 9], (some 70), none⟩,
 ⟨(.ida 1), [.t 69, .t 70], (some 71), none⟩,
 ⟨(.load none), [.t 71], (some 72), none⟩,
 ⟨(.fld 3), [.t 3], (some 73), none⟩,
 ⟨(.load none), [.t 73], (some 74), none⟩,
 ⟨(.build [(.sc (.bool false)), (.sc (.int .i64 (0)))] [(1, 1)]), [.t 74], (some 75), none⟩,
 ⟨(.bsl 2 [(.sc (.bool false)), (.sc (.int .i64 (0)))] 1 [0]), [.t 75], (some 76), none⟩,
 ⟨(.app 2 16), [.t 72, .t 76], (some 77), none⟩,
 ⟨(.ida 1), [.t 66, .t 67], (some 78), none⟩,
 ⟨(.store false 1), [.t 78, .t 77], none, none⟩]
 [⟨[7, 65], [], [65], []⟩, ⟨[65, 66], [5007], [66], []⟩, ⟨[9, 67], [], [67], []⟩, ⟨[7, 68], [], [68], []⟩, ⟨[68, 69], [5007], [69], []⟩, ⟨[9, 70], [], [70], []⟩, ⟨[69, 70, 71, 5007], [], [71], []⟩, ⟨[71, 72, 5007], [], [72], []⟩, ⟨[3, 73], [], [73], []⟩, ⟨[73, 74, 5003], [], [74], []⟩, ⟨[74, 75], [], [75], []⟩, ⟨[75, 76], [], [76], []⟩, ⟨[72, 76, 77, 5007], [], [77, 5007], [5007]⟩, ⟨[66, 67, 78, 5007], [], [78], []⟩, ⟨[77, 78, 5007], [], [77, 5007], []⟩] [4, 7, 5004, 5007])
 (.seq (.reg [
 ⟨(.load (some 7)), [.t 7], (some 79), none⟩,
 ⟨(.store true 7), [.t 4, .t 79], none, none⟩,
 ⟨(.assign true), [.c (.one (.sc (.int .i64 (0))))], (some 5), none⟩]
 [4, 5, 5004])
 .ret))))
 .skip))
 (.seq (.reg [
 ⟨(.fld 2), [.t 7], (some 80), none⟩,
 ⟨(.load none), [.t 80], (some 81), none⟩,
 ⟨.move, [.t 9], (some 82), none⟩,
 ⟨(.ida 1), [.t 81, .t 82], (some 83), none⟩,
 ⟨(.load none), [.t 83], (some 84), none⟩,
 ⟨(.ida 2), [.t 84, .c (.one (.sc (.int .i64 (0))))], (some 85), none⟩,
 ⟨(.load (some 2)), [.t 85], (some 86), none⟩,
 ⟨(.alloc 5010 [(.sc (.bool false)), (.sc (.int .i64 (0)))]), [], (some 10), none⟩,
 ⟨(.store false 2), [.t 10, .t 86], none, none⟩]
 [3, 4, 7, 9, 10, 5003, 5004, 5007, 5010])
 (.seq (.drw [
 ⟨(.fld 2), [.t 7], (some 87), none⟩,
 ⟨(.load none), [.t 87], (some 88), none⟩,
 ⟨.move, [.t 9], (some 89), none⟩,
 ⟨(.fld 2), [.t 7], (some 90), none⟩,
 ⟨(.load none), [.t 90], (some 91), none⟩,
 ⟨.move, [.t 9], (some 92), none⟩,
 ⟨(.ida 1), [.t 91, .t 92], (some 93), none⟩,
 ⟨(.load none), [.t 93], (some 94), none⟩,
 ⟨(.slc 2 true false false), [.t 94, .c (.one (.sc (.int .i64 (1))))], (some 95), none⟩,
 ⟨(.ida 1), [.t 88, .t 89], (some 96), none⟩,
 ⟨(.store false 1), [.t 96, .t 95], none, none⟩]
 [⟨[7, 87], [], [87], []⟩, ⟨[87, 88], [5007], [88], []⟩, ⟨[9, 89], [], [89], []⟩, ⟨[7, 90], [], [90], []⟩, ⟨[90, 91], [5007], [91], []⟩, ⟨[9, 92], [], [92], []⟩, ⟨[91, 92, 93, 5007], [], [93], []⟩, ⟨[93, 94, 5007], [], [94], []⟩, ⟨[94, 95, 5007], [], [95], []⟩, ⟨[88, 89, 96, 5007], [], [96], []⟩, ⟨[95, 96, 5007], [], [5007], []⟩] [3, 4, 7, 9, 10, 5003, 5004, 5007, 5010])
 (.seq (.seq (.reg [
 ⟨(.fld 0), [.t 10], (some 97), none⟩,
 ⟨(.load none), [.t 97], (some 98), none⟩]
 [3, 4, 7, 9, 10, 98, 5003, 5004, 5007, 5010])
 (.cond (.t 98) (.seq (.seq (.reg [
 ⟨(.fld 3), [.t 7], (some 99), none⟩,
 ⟨(.load none), [.t 99], (some 100), none⟩,
 ⟨(.fld 2), [.t 3], (some 101), none⟩,
 ⟨(.load none), [.t 101], (some 102), none⟩,
 ⟨(.ida 1), [.t 100, .t 102], (some 103), none⟩,
 ⟨(.load none), [.t 103], (some 104), none⟩,
 ⟨(.bin .lss), [.t 104, .c (.one (.sc (.int .i64 (0))))], (some 105), none⟩]
 [3, 4, 7, 9, 105, 5003, 5004, 5007])
 (.cond (.t 105) (.reg [
 ⟨(.fld 2), [.t 3], (some 106), none⟩,
 ⟨(.load none), [.t 106], (some 107), none⟩,
 ⟨(.call [] 5108 false), [.c (.one (.clo 38 [] [])), .t 7, .t 107], (some 108), none⟩]
 [4, 7, 9, 5004, 5007])
 .skip))
 (.seq (.reg [
 ⟨(.fld 5), [.t 7], (some 109), none⟩,
 ⟨(.load none), [.t 109], (some 110), none⟩,
 ⟨.move, [.t 9], (some 111), none⟩,
 ⟨(.ida 1), [.t 110, .t 111], (some 112), none⟩,
 ⟨(.store false 1), [.t 112, .c (.one (.sc (.bool false)))], none, none⟩]
 [4, 7, 5004, 5007])
 (.seq (.reg [
 ⟨(.load (some 7)), [.t 7], (some 113), none⟩,
 ⟨(.store true 7), [.t 4, .t 113], none, none⟩,
 ⟨(.assign true), [.c (.one (.sc (.int .i64 (0))))], (some 5), none⟩]
 [4, 5, 5004])
 .ret)))
 .skip))
 (.seq (.drw [
 ⟨(.fld 0), [.t 7], (some 114), none⟩,
 ⟨(.load none), [.t 114], (some 115), none⟩,
 ⟨(.fld 2), [.t 3], (some 116), none⟩,
 ⟨(.load none), [.t 116], (some 117), none⟩,
 ⟨(.ida 1), [.t 115, .t 117], (some 118), none⟩,
 ⟨(.load none), [.t 118], (some 119), none⟩,
 ⟨(.fld 1), [.t 10], (some 120), none⟩,
 ⟨(.load none), [.t 120], (some 121), none⟩,
 ⟨(.bin .add), [.t 119, .t 121], (some 122), none⟩,
 ⟨(.ida 1), [.t 115, .t 117], (some 123), none⟩,
 ⟨(.store false 1), [.t 123, .t 122], none, none⟩]
 [⟨[7, 114], [], [114], []⟩, ⟨[114, 115], [5007], [115], []⟩, ⟨[3, 116], [], [116], []⟩, ⟨[116, 117, 5003], [], [117], []⟩, ⟨[115, 117, 118, 5007], [], [118], []⟩, ⟨[118, 119, 5007], [], [119], []⟩, ⟨[10, 120], [], [120], []⟩, ⟨[120, 121, 5010], [], [121], []⟩, ⟨[119, 121, 122], [], [122], []⟩, ⟨[115, 117, 123, 5007], [], [123], []⟩, ⟨[122, 123, 5007], [], [5007], [5007]⟩] [3, 4, 7, 9, 10, 5003, 5004, 5007, 5010])
 (.seq (.reg [
 ⟨(.fld 1), [.t 7], (some 124), none⟩,
 ⟨(.load none), [.t 124], (some 125), none⟩,
 ⟨(.fld 2), [.t 3], (some 126), none⟩,
 ⟨(.load none), [.t 126], (some 127), none⟩,
 ⟨(.ida 1), [.t 125, .t 127], (some 128), none⟩,
 ⟨(.load none), [.t 128], (some 129), none⟩,
 ⟨(.bin .add), [.t 129, .c (.one (.sc (.int .i64 (1))))], (some 130), none⟩,
 ⟨(.ida 1), [.t 125, .t 127], (some 131), none⟩,
 ⟨(.store false 1), [.t 131, .t 130], none, none⟩]
 [4, 7, 9, 10, 5004, 5007, 5010])
 (.seq (.seq (.reg [
 ⟨(.fld 5), [.t 7], (some 132), none⟩,
 ⟨(.load none), [.t 132], (some 133), none⟩,
 ⟨.move, [.t 9], (some 134), none⟩,
 ⟨(.ida 1), [.t 133, .t 134], (some 135), none⟩,
 ⟨(.load none), [.t 135], (some 136), none⟩]
 [4, 7, 9, 10, 136, 5004, 5007, 5010])
 (.cond (.t 136) (.drw [
 ⟨(.fld 6), [.t 7], (some 137), none⟩,
 ⟨(.load none), [.t 137], (some 138), none⟩,
 ⟨.move, [.t 9], (some 139), none⟩,
 ⟨(.fld 6), [.t 7], (some 140), none⟩,
 ⟨(.load none), [.t 140], (some 141), none⟩,
 ⟨.move, [.t 9], (some 142), none⟩,
 ⟨(.ida 1), [.t 141, .t 142], (some 143), none⟩,
 ⟨(.load none), [.t 143], (some 144), none⟩,
 ⟨(.fld 1), [.t 10], (some 145), none⟩,
 ⟨(.load none), [.t 145], (some 146), none⟩,
 ⟨(.bsl 1 [(.sc (.int .i64 (0)))] 1 [0]), [.t 146], (some 147), none⟩,
 ⟨(.app 1 8), [.t 144, .t 147], (some 148), none⟩,
 ⟨(.ida 1), [.t 138, .t 139], (some 149), none⟩,
 ⟨(.store false 1), [.t 149, .t 148], none, none⟩]
 [⟨[7, 137], [], [137], []⟩, ⟨[137, 138], [5007], [138], []⟩, ⟨[9, 139], [], [139], []⟩, ⟨[7, 140], [], [140], []⟩, ⟨[140, 141], [5007], [141], []⟩, ⟨[9, 142], [], [142], []⟩, ⟨[141, 142, 143, 5007], [], [143], []⟩, ⟨[143, 144, 5007], [], [144], []⟩, ⟨[10, 145], [], [145], []⟩, ⟨[145, 146, 5010], [], [146], []⟩, ⟨[146, 147], [], [147], []⟩, ⟨[144, 147, 148, 5007], [], [148, 5007], [5007]⟩, ⟨[138, 139, 149, 5007], [], [149], []⟩, ⟨[148, 149, 5007], [], [148, 5007], []⟩] [4, 7, 5004, 5007])
 .skip))
 (.seq (.reg [
 ⟨(.load (some 7)), [.t 7], (some 150), none⟩,
 ⟨(.store true 7), [.t 4, .t 150], none, none⟩,
 ⟨(.assign true), [.c (.one (.sc (.int .i64 (0))))], (some 5), none⟩]
 [4, 5, 5004])
 .ret))))))))))))))⟩
def c17 : Pv.Fn := ⟨1, [0, 1, 2, 3, 4, 5, 6, 7, 8, 9, 10, 11, 12, 13, 14, 15], [], [.t 2, .t 3],
 (.seq (.reg [
 ⟨(.box 5001), [.t 0], (some 1), none⟩,
 ⟨(.assign true), [.c (.one (.sc (.int .i64 (0))))], (some 2), none⟩,
 ⟨(.assign true), [.c (.one (.sc (.int .i64 (0))))], (some 3), none⟩]
 [1, 2, 3, 5001])
 (.seq (.seq (.reg [
 ⟨(.fld 0), [.t 1], (some 16), none⟩,
 ⟨(.load none), [.t 16], (some 17), none⟩,
 ⟨.len, [.t 17], (some 18), none⟩,
 ⟨.move, [.c (.one (.sc (.int .i64 (0))))], (some 19), none⟩]
 [1, 2, 3, 17, 18, 19, 5001])
 (.block 0
 (.loop [1, 2, 3, 17, 18, 19, 5001]
 (.seq (.reg [
 ⟨(.bin .lss), [.t 19, .t 18], (some 20), none⟩]
 [1, 2, 3, 17, 18, 19, 20, 5001])
 (.seq (.cond (.t 20) .skip
 (.exit 0))
 (.seq (.block 1
 (.seq (.reg [
 ⟨(.ida 1), [.t 17, .t 19], (some 21), none⟩,
 ⟨(.load none), [.t 21], (some 22), none⟩,
 ⟨(.assign false), [.t 22], (some 5), none⟩]
 [1, 2, 3, 5, 17, 18, 19, 5001])
 (.reg [
 ⟨.move, [.t 2], (some 23), none⟩,
 ⟨.move, [.t 5], (some 24), none⟩,
 ⟨(.bin .add), [.t 23, .t 24], (some 25), none⟩,
 ⟨(.assign true), [.t 25], (some 2), none⟩]
 [1, 2, 3, 17, 18, 19, 5001])))
 (.reg [
 ⟨(.bin .add), [.t 19, .c (.one (.sc (.int .i64 (1))))], (some 26), none⟩,
 ⟨.move, [.t 26], (some 19), none⟩]
 [1, 2, 3, 17, 18, 19, 5001])))))))
 (.seq (.seq (.reg [
 ⟨(.fld 2), [.t 1], (some 27), none⟩,
 ⟨(.load none), [.t 27], (some 28), none⟩,
 ⟨.len, [.t 28], (some 29), none⟩,
 ⟨.move, [.c (.one (.sc (.int .i64 (0))))], (some 30), none⟩]
 [1, 2, 3, 28, 29, 30, 5001])
 (.block 2
 (.loop [1, 2, 3, 28, 29, 30, 5001]
 (.seq (.reg [
 ⟨(.bin .lss), [.t 30, .t 29], (some 31), none⟩]
 [1, 2, 3, 28, 29, 30, 31, 5001])
 (.seq (.cond (.t 31) .skip
 (.exit 2))
 (.seq (.block 3
 (.seq (.reg [
 ⟨(.ida 1), [.t 28, .t 30], (some 32), none⟩,
 ⟨(.load none), [.t 32], (some 33), none⟩,
 ⟨(.assign false), [.t 33], (some 7), none⟩]
 [1, 2, 3, 7, 28, 29, 30, 5001])
 (.seq (.reg [
 ⟨.move, [.t 7], (some 34), none⟩,
 ⟨.len, [.t 34], (some 35), none⟩,
 ⟨.move, [.c (.one (.sc (.int .i64 (0))))], (some 36), none⟩]
 [1, 2, 3, 7, 28, 29, 30, 34, 35, 36, 5001])
 (.block 4
 (.loop [1, 2, 3, 7, 28, 29, 30, 34, 35, 36, 5001]
 (.seq (.reg [
 ⟨(.bin .lss), [.t 36, .t 35], (some 37), none⟩]
 [1, 2, 3, 7, 28, 29, 30, 34, 35, 36, 37, 5001])
 (.seq (.cond (.t 37) .skip
 (.exit 4))
 (.seq (.block 5
 (.seq (.reg [
 ⟨(.ida 2), [.t 34, .t 36], (some 38), none⟩,
 ⟨(.load (some 2)), [.t 38], (some 39), none⟩,
 ⟨(.alloc 5009 [(.sc (.bool false)), (.sc (.int .i64 (0)))]), [], (some 9), none⟩,
 ⟨(.store false 2), [.t 9, .t 39], none, none⟩]
 [1, 2, 3, 7, 9, 28, 29, 30, 34, 35, 36, 5001, 5009])
 (.seq (.reg [
 ⟨(.fld 0), [.t 9], (some 40), none⟩,
 ⟨(.load none), [.t 40], (some 41), none⟩,
 ⟨(.un .not), [.t 41], (some 42), none⟩]
 [1, 2, 3, 7, 9, 28, 29, 30, 34, 35, 36, 42, 5001, 5009])
 (.cond (.t 42) (.reg [
 ⟨.move, [.t 2], (some 43), none⟩,
 ⟨(.fld 1), [.t 9], (some 44), none⟩,
 ⟨(.load none), [.t 44], (some 45), none⟩,
 ⟨(.bin .add), [.t 43, .t 45], (some 46), none⟩,
 ⟨(.assign true), [.t 46], (some 2), none⟩]
 [1, 2, 3, 7, 28, 29, 30, 34, 35, 36, 5001])
 .skip))))
 (.reg [
 ⟨(.bin .add), [.t 36, .c (.one (.sc (.int .i64 (1))))], (some 47), none⟩,
 ⟨.move, [.t 47], (some 36), none⟩]
 [1, 2, 3, 7, 28, 29, 30, 34, 35, 36, 5001])))))))))
 (.reg [
 ⟨(.bin .add), [.t 30, .c (.one (.sc (.int .i64 (1))))], (some 48), none⟩,
 ⟨.move, [.t 48], (some 30), none⟩]
 [1, 2, 3, 28, 29, 30, 5001])))))))
 (.seq (.seq (.reg [
 ⟨(.fld 4), [.t 1], (some 49), none⟩,
 ⟨(.load none), [.t 49], (some 50), none⟩,
 ⟨.len, [.t 50], (some 51), none⟩,
 ⟨.move, [.c (.one (.sc (.int .i64 (0))))], (some 52), none⟩]
 [1, 2, 3, 50, 51, 52, 5001])
 (.block 6
 (.loop [1, 2, 3, 50, 51, 52, 5001]
 (.seq (.reg [
 ⟨(.bin .lss), [.t 52, .t 51], (some 53), none⟩]
 [1, 2, 3, 50, 51, 52, 53, 5001])
 (.seq (.cond (.t 53) .skip
 (.exit 6))
 (.seq (.block 7
 (.seq (.reg [
 ⟨(.ida 1), [.t 50, .t 52], (some 54), none⟩,
 ⟨(.load none), [.t 54], (some 55), none⟩,
 ⟨(.assign false), [.t 55], (some 11), none⟩]
 [1, 2, 3, 11, 50, 51, 52, 5001])
 (.reg [
 ⟨.move, [.t 3], (some 56), none⟩,
 ⟨.move, [.t 11], (some 57), none⟩,
 ⟨(.bin .add), [.t 56, .t 57], (some 58), none⟩,
 ⟨(.assign true), [.t 58], (some 3), none⟩]
 [1, 2, 3, 50, 51, 52, 5001])))
 (.reg [
 ⟨(.bin .add), [.t 52, .c (.one (.sc (.int .i64 (1))))], (some 59), none⟩,
 ⟨.move, [.t 59], (some 52), none⟩]
 [1, 2, 3, 50, 51, 52, 5001])))))))
 (.seq (.seq (.reg [
 ⟨(.fld 6), [.t 1], (some 60), none⟩,
 ⟨(.load none), [.t 60], (some 61), none⟩,
 ⟨.len, [.t 61], (some 62), none⟩,
 ⟨.move, [.c (.one (.sc (.int .i64 (0))))], (some 63), none⟩]
 [2, 3, 61, 62, 63, 5001])
 (.block 8
 (.loop [2, 3, 61, 62, 63, 5001]
 (.seq (.reg [
 ⟨(.bin .lss), [.t 63, .t 62], (some 64), none⟩]
 [2, 3, 61, 62, 63, 64, 5001])
 (.seq (.cond (.t 64) .skip
 (.exit 8))
 (.seq (.block 9
 (.seq (.reg [
 ⟨(.ida 1), [.t 61, .t 63], (some 65), none⟩,
 ⟨(.load none), [.t 65], (some 66), none⟩,
 ⟨(.assign false), [.t 66], (some 13), none⟩]
 [2, 3, 13, 61, 62, 63, 5001])
 (.seq (.reg [
 ⟨.move, [.t 13], (some 67), none⟩,
 ⟨.len, [.t 67], (some 68), none⟩,
 ⟨.move, [.c (.one (.sc (.int .i64 (0))))], (some 69), none⟩]
 [2, 3, 13, 61, 62, 63, 67, 68, 69, 5001])
 (.block 10
 (.loop [2, 3, 13, 61, 62, 63, 67, 68, 69, 5001]
 (.seq (.reg [
 ⟨(.bin .lss), [.t 69, .t 68], (some 70), none⟩]
 [2, 3, 13, 61, 62, 63, 67, 68, 69, 70, 5001])
 (.seq (.cond (.t 70) .skip
 (.exit 10))
 (.seq (.block 11
 (.seq (.reg [
 ⟨(.ida 1), [.t 67, .t 69], (some 71), none⟩,
 ⟨(.load none), [.t 71], (some 72), none⟩,
 ⟨(.assign false), [.t 72], (some 15), none⟩]
 [2, 3, 13, 15, 61, 62, 63, 67, 68, 69, 5001])
 (.reg [
 ⟨.move, [.t 3], (some 73), none⟩,
 ⟨.move, [.t 15], (some 74), none⟩,
 ⟨(.bin .add), [.t 73, .t 74], (some 75), none⟩,
 ⟨(.assign true), [.t 75], (some 3), none⟩]
 [2, 3, 13, 61, 62, 63, 67, 68, 69, 5001])))
 (.reg [
 ⟨(.bin .add), [.t 69, .c (.one (.sc (.int .i64 (1))))], (some 76), none⟩,
 ⟨.move, [.t 76], (some 69), none⟩]
 [2, 3, 13, 61, 62, 63, 67, 68, 69, 5001])))))))))
 (.reg [
 ⟨(.bin .add), [.t 63, .c (.one (.sc (.int .i64 (1))))], (some 77), none⟩,
 ⟨.move, [.t 77], (some 63), none⟩]
 [2, 3, 61, 62, 63, 5001])))))))
 (.seq (.reg [
 ⟨.move, [.t 2], (some 78), none⟩,
 ⟨.move, [.t 3], (some 79), none⟩,
 ⟨(.assign true), [.t 78], (some 2), none⟩,
 ⟨(.assign true), [.t 79], (some 3), none⟩]
 [2, 3])
 .ret))))))⟩
def c18 : Pv.Fn := ⟨1, [0, 1, 4, 5, 6, 7, 8, 9, 10], [], [.t 2, .t 3],
 (.seq (.reg [
 ⟨(.box 5001), [.t 0], (some 1), none⟩,
 ⟨(.assign true), [.c (.one (.sc (.int .i64 (0))))], (some 2), none⟩,
 ⟨(.assign true), [.c (.one (.sc (.int .i64 (0))))], (some 3), none⟩]
 [1, 5001])
 (.seq (.reg [
 ⟨(.assign false), [.c (.one (.sc (.int .i64 (0))))], (some 4), none⟩,
 ⟨(.assign false), [.c (.one (.sc (.int .i64 (0))))], (some 5), none⟩]
 [1, 4, 5, 5001])
 (.seq (.seq (.reg [
 ⟨(.assign false), [.c (.one (.sc (.int .i64 (0))))], (some 6), none⟩]
 [1, 4, 5, 6, 5001])
 (.block 0
 (.loop [1, 4, 5, 6, 5001]
 (.seq (.seq (.reg [
 ⟨.move, [.t 6], (some 11), none⟩,
 ⟨(.fld 0), [.t 1], (some 12), none⟩,
 ⟨(.load none), [.t 12], (some 13), none⟩,
 ⟨.len, [.t 13], (some 14), none⟩,
 ⟨(.bin .lss), [.t 11, .t 14], (some 15), none⟩]
 [1, 4, 5, 6, 15, 5001])
 (.cond (.t 15) .skip
 (.exit 0)))
 (.seq (.block 1
 (.seq (.reg [
 ⟨.move, [.t 4], (some 18), none⟩,
 ⟨(.fld 0), [.t 1], (some 19), none⟩,
 ⟨(.load none), [.t 19], (some 20), none⟩,
 ⟨.move, [.t 6], (some 21), none⟩,
 ⟨(.ida 1), [.t 20, .t 21], (some 22), none⟩,
 ⟨(.load none), [.t 22], (some 23), none⟩,
 ⟨(.bin .add), [.t 18, .t 23], (some 24), none⟩,
 ⟨(.assign false), [.t 24], (some 4), none⟩]
 [1, 4, 5, 6, 5001])
 (.reg [
 ⟨.move, [.t 5], (some 25), none⟩,
 ⟨(.fld 4), [.t 1], (some 26), none⟩,
 ⟨(.load none), [.t 26], (some 27), none⟩,
 ⟨.move, [.t 6], (some 28), none⟩,
 ⟨(.ida 1), [.t 27, .t 28], (some 29), none⟩,
 ⟨(.load none), [.t 29], (some 30), none⟩,
 ⟨(.bin .add), [.t 25, .t 30], (some 31), none⟩,
 ⟨(.assign false), [.t 31], (some 5), none⟩]
 [1, 4, 5, 6, 5001])))
 (.reg [
 ⟨.move, [.t 6], (some 16), none⟩,
 ⟨(.bin .add), [.t 16, .c (.one (.sc (.int .i64 (1))))], (some 17), none⟩,
 ⟨(.assign false), [.t 17], (some 6), none⟩]
 [1, 4, 5, 6, 5001]))))))
 (.seq (.seq (.reg [
 ⟨(.assign false), [.c (.one (.sc (.int .i64 (0))))], (some 7), none⟩]
 [1, 4, 5, 7, 5001])
 (.block 2
 (.loop [1, 4, 5, 7, 5001]
 (.seq (.seq (.reg [
 ⟨.move, [.t 7], (some 32), none⟩,
 ⟨(.fld 2), [.t 1], (some 33), none⟩,
 ⟨(.load none), [.t 33], (some 34), none⟩,
 ⟨.len, [.t 34], (some 35), none⟩,
 ⟨(.bin .lss), [.t 32, .t 35], (some 36), none⟩]
 [1, 4, 5, 7, 36, 5001])
 (.cond (.t 36) .skip
 (.exit 2)))
 (.seq (.block 3
 (.seq (.reg [
 ⟨(.assign false), [.c (.one (.sc (.int .i64 (0))))], (some 8), none⟩]
 [1, 4, 5, 7, 8, 5001])
 (.block 4
 (.loop [1, 4, 5, 7, 8, 5001]
 (.seq (.seq (.reg [
 ⟨.move, [.t 8], (some 39), none⟩,
 ⟨(.fld 2), [.t 1], (some 40), none⟩,
 ⟨(.load none), [.t 40], (some 41), none⟩,
 ⟨.move, [.t 7], (some 42), none⟩,
 ⟨(.ida 1), [.t 41, .t 42], (some 43), none⟩,
 ⟨(.load none), [.t 43], (some 44), none⟩,
 ⟨.len, [.t 44], (some 45), none⟩,
 ⟨(.bin .lss), [.t 39, .t 45], (some 46), none⟩]
 [1, 4, 5, 7, 8, 46, 5001])
 (.cond (.t 46) .skip
 (.exit 4)))
 (.seq (.block 5
 (.seq (.reg [
 ⟨(.fld 2), [.t 1], (some 49), none⟩,
 ⟨(.load none), [.t 49], (some 50), none⟩,
 ⟨.move, [.t 7], (some 51), none⟩,
 ⟨(.ida 1), [.t 50, .t 51], (some 52), none⟩,
 ⟨(.load none), [.t 52], (some 53), none⟩,
 ⟨.move, [.t 8], (some 54), none⟩,
 ⟨(.ida 2), [.t 53, .t 54], (some 55), none⟩,
 ⟨(.fld 0), [.t 55], (some 56), none⟩,
 ⟨(.load none), [.t 56], (some 57), none⟩,
 ⟨(.un .not), [.t 57], (some 58), none⟩]
 [1, 4, 5, 7, 8, 58, 5001])
 (.cond (.t 58) (.reg [
 ⟨.move, [.t 4], (some 59), none⟩,
 ⟨(.fld 2), [.t 1], (some 60), none⟩,
 ⟨(.load none), [.t 60], (some 61), none⟩,
 ⟨.move, [.t 7], (some 62), none⟩,
 ⟨(.ida 1), [.t 61, .t 62], (some 63), none⟩,
 ⟨(.load none), [.t 63], (some 64), none⟩,
 ⟨.move, [.t 8], (some 65), none⟩,
 ⟨(.ida 2), [.t 64, .t 65], (some 66), none⟩,
 ⟨(.fld 1), [.t 66], (some 67), none⟩,
 ⟨(.load none), [.t 67], (some 68), none⟩,
 ⟨(.bin .add), [.t 59, .t 68], (some 69), none⟩,
 ⟨(.assign false), [.t 69], (some 4), none⟩]
 [1, 4, 5, 7, 8, 5001])
 .skip)))
 (.reg [
 ⟨.move, [.t 8], (some 47), none⟩,
 ⟨(.bin .add), [.t 47, .c (.one (.sc (.int .i64 (1))))], (some 48), none⟩,
 ⟨(.assign false), [.t 48], (some 8), none⟩]
 [1, 4, 5, 7, 8, 5001])))))))
 (.reg [
 ⟨.move, [.t 7], (some 37), none⟩,
 ⟨(.bin .add), [.t 37, .c (.one (.sc (.int .i64 (1))))], (some 38), none⟩,
 ⟨(.assign false), [.t 38], (some 7), none⟩]
 [1, 4, 5, 7, 5001]))))))
 (.seq (.seq (.reg [
 ⟨(.assign false), [.c (.one (.sc (.int .i64 (0))))], (some 9), none⟩]
 [1, 4, 5, 9, 5001])
 (.block 6
 (.loop [1, 4, 5, 9, 5001]
 (.seq (.seq (.reg [
 ⟨.move, [.t 9], (some 70), none⟩,
 ⟨(.fld 6), [.t 1], (some 71), none⟩,
 ⟨(.load none), [.t 71], (some 72), none⟩,
 ⟨.len, [.t 72], (some 73), none⟩,
 ⟨(.bin .lss), [.t 70, .t 73], (some 74), none⟩]
 [1, 4, 5, 9, 74, 5001])
 (.cond (.t 74) .skip
 (.exit 6)))
 (.seq (.block 7
 (.seq (.reg [
 ⟨(.assign false), [.c (.one (.sc (.int .i64 (0))))], (some 10), none⟩]
 [1, 4, 5, 9, 10, 5001])
 (.block 8
 (.loop [1, 4, 5, 9, 10, 5001]
 (.seq (.seq (.reg [
 ⟨.move, [.t 10], (some 77), none⟩,
 ⟨(.fld 6), [.t 1], (some 78), none⟩,
 ⟨(.load none), [.t 78], (some 79), none⟩,
 ⟨.move, [.t 9], (some 80), none⟩,
 ⟨(.ida 1), [.t 79, .t 80], (some 81), none⟩,
 ⟨(.load none), [.t 81], (some 82), none⟩,
 ⟨.len, [.t 82], (some 83), none⟩,
 ⟨(.bin .lss), [.t 77, .t 83], (some 84), none⟩]
 [1, 4, 5, 9, 10, 84, 5001])
 (.cond (.t 84) .skip
 (.exit 8)))
 (.seq (.block 9
 (.reg [
 ⟨.move, [.t 5], (some 87), none⟩,
 ⟨(.fld 6), [.t 1], (some 88), none⟩,
 ⟨(.load none), [.t 88], (some 89), none⟩,
 ⟨.move, [.t 9], (some 90), none⟩,
 ⟨(.ida 1), [.t 89, .t 90], (some 91), none⟩,
 ⟨(.load none), [.t 91], (some 92), none⟩,
 ⟨.move, [.t 10], (some 93), none⟩,
 ⟨(.ida 1), [.t 92, .t 93], (some 94), none⟩,
 ⟨(.load none), [.t 94], (some 95), none⟩,
 ⟨(.bin .add), [.t 87, .t 95], (some 96), none⟩,
 ⟨(.assign false), [.t 96], (some 5), none⟩]
 [1, 4, 5, 9, 10, 5001]))
 (.reg [
 ⟨.move, [.t 10], (some 85), none⟩,
 ⟨(.bin .add), [.t 85, .c (.one (.sc (.int .i64 (1))))], (some 86), none⟩,
 ⟨(.assign false), [.t 86], (some 10), none⟩]
 [1, 4, 5, 9, 10, 5001])))))))
 (.reg [
 ⟨.move, [.t 9], (some 75), none⟩,
 ⟨(.bin .add), [.t 75, .c (.one (.sc (.int .i64 (1))))], (some 76), none⟩,
 ⟨(.assign false), [.t 76], (some 9), none⟩]
 [1, 4, 5, 9, 5001]))))))
 (.seq (.reg [
 ⟨.move, [.t 4], (some 97), none⟩,
 ⟨.move, [.t 5], (some 98), none⟩,
 ⟨(.assign true), [.t 97], (some 2), none⟩,
 ⟨(.assign true), [.t 98], (some 3), none⟩]
 [2, 3])
 .ret))))))⟩
def c19 : Pv.Fn := ⟨1, [0, 1, 3, 4, 5, 6], [], [.t 2],
 (.seq (.reg [
 ⟨(.box 5001), [.t 0], (some 1), none⟩,
 ⟨(.assign true), [.c (.one (.sc (.bool false)))], (some 2), none⟩]
 [1, 5001])
 (.seq (.seq (.reg [
 ⟨(.fld 3), [.t 1], (some 7), none⟩,
 ⟨(.load none), [.t 7], (some 8), none⟩,
 ⟨.len, [.t 8], (some 9), none⟩,
 ⟨.move, [.c (.one (.sc (.int .i64 (0))))], (some 10), none⟩]
 [1, 8, 9, 10, 5001])
 (.block 0
 (.loop [1, 8, 9, 10, 5001]
 (.seq (.reg [
 ⟨(.bin .lss), [.t 10, .t 9], (some 11), none⟩]
 [1, 8, 9, 10, 11, 5001])
 (.seq (.cond (.t 11) .skip
 (.exit 0))
 (.seq (.block 1
 (.seq (.reg [
 ⟨(.ida 1), [.t 8, .t 10], (some 12), none⟩,
 ⟨(.load none), [.t 12], (some 13), none⟩,
 ⟨(.assign false), [.t 13], (some 4), none⟩]
 [1, 4, 8, 9, 10, 5001])
 (.seq (.reg [
 ⟨.move, [.t 4], (some 14), none⟩,
 ⟨(.bin .eql), [.t 14, .c (.one (.sc (.int .i64 (-1))))], (some 15), none⟩]
 [1, 8, 9, 10, 15, 5001])
 (.cond (.t 15) (.seq (.reg [
 ⟨(.assign true), [.c (.one (.sc (.bool false)))], (some 2), none⟩]
 [2])
 .ret)
 .skip))))
 (.reg [
 ⟨(.bin .add), [.t 10, .c (.one (.sc (.int .i64 (1))))], (some 16), none⟩,
 ⟨.move, [.t 16], (some 10), none⟩]
 [1, 8, 9, 10, 5001])))))))
 (.seq (.seq (.reg [
 ⟨(.fld 5), [.t 1], (some 17), none⟩,
 ⟨(.load none), [.t 17], (some 18), none⟩,
 ⟨.len, [.t 18], (some 19), none⟩,
 ⟨.move, [.c (.one (.sc (.int .i64 (0))))], (some 20), none⟩]
 [18, 19, 20, 5001])
 (.block 2
 (.loop [18, 19, 20, 5001]
 (.seq (.reg [
 ⟨(.bin .lss), [.t 20, .t 19], (some 21), none⟩]
 [18, 19, 20, 21, 5001])
 (.seq (.cond (.t 21) .skip
 (.exit 2))
 (.seq (.block 3
 (.seq (.reg [
 ⟨(.ida 1), [.t 18, .t 20], (some 22), none⟩,
 ⟨(.load none), [.t 22], (some 23), none⟩,
 ⟨(.assign false), [.t 23], (some 6), none⟩]
 [6, 18, 19, 20, 5001])
 (.seq (.reg [
 ⟨.move, [.t 6], (some 24), none⟩]
 [18, 19, 20, 24, 5001])
 (.cond (.t 24) (.seq (.reg [
 ⟨(.assign true), [.c (.one (.sc (.bool false)))], (some 2), none⟩]
 [2])
 .ret)
 .skip))))
 (.reg [
 ⟨(.bin .add), [.t 20, .c (.one (.sc (.int .i64 (1))))], (some 25), none⟩,
 ⟨.move, [.t 25], (some 20), none⟩]
 [18, 19, 20, 5001])))))))
 (.seq (.reg [
 ⟨(.assign true), [.c (.one (.sc (.bool true)))], (some 2), none⟩]
 [2])
 .ret))))⟩
def c20 : Pv.Fn := ⟨1, [0, 1, 3, 4], [], [.t 2],
 (.seq (.reg [
 ⟨(.box 5001), [.t 0], (some 1), none⟩,
 ⟨(.assign true), [.c (.one (.sc (.bool false)))], (some 2), none⟩]
 [1, 5001])
 (.seq (.seq (.reg [
 ⟨(.assign false), [.c (.one (.sc (.int .i64 (0))))], (some 3), none⟩]
 [1, 3, 5001])
 (.block 0
 (.loop [1, 3, 5001]
 (.seq (.seq (.reg [
 ⟨.move, [.t 3], (some 5), none⟩,
 ⟨(.fld 3), [.t 1], (some 6), none⟩,
 ⟨(.load none), [.t 6], (some 7), none⟩,
 ⟨.len, [.t 7], (some 8), none⟩,
 ⟨(.bin .lss), [.t 5, .t 8], (some 9), none⟩]
 [1, 3, 9, 5001])
 (.cond (.t 9) .skip
 (.exit 0)))
 (.seq (.block 1
 (.seq (.reg [
 ⟨(.fld 3), [.t 1], (some 12), none⟩,
 ⟨(.load none), [.t 12], (some 13), none⟩,
 ⟨.move, [.t 3], (some 14), none⟩,
 ⟨(.ida 1), [.t 13, .t 14], (some 15), none⟩,
 ⟨(.load none), [.t 15], (some 16), none⟩,
 ⟨(.bin .lss), [.t 16, .c (.one (.sc (.int .i64 (0))))], (some 17), none⟩]
 [1, 3, 17, 5001])
 (.cond (.t 17) (.seq (.reg [
 ⟨(.assign true), [.c (.one (.sc (.bool false)))], (some 2), none⟩]
 [2])
 .ret)
 .skip)))
 (.reg [
 ⟨.move, [.t 3], (some 10), none⟩,
 ⟨(.bin .add), [.t 10, .c (.one (.sc (.int .i64 (1))))], (some 11), none⟩,
 ⟨(.assign false), [.t 11], (some 3), none⟩]
 [1, 3, 5001]))))))
 (.seq (.seq (.reg [
 ⟨(.assign false), [.c (.one (.sc (.int .i64 (0))))], (some 4), none⟩]
 [1, 4, 5001])
 (.block 2
 (.loop [1, 4, 5001]
 (.seq (.seq (.reg [
 ⟨.move, [.t 4], (some 18), none⟩,
 ⟨(.fld 5), [.t 1], (some 19), none⟩,
 ⟨(.load none), [.t 19], (some 20), none⟩,
 ⟨.len, [.t 20], (some 21), none⟩,
 ⟨(.bin .lss), [.t 18, .t 21], (some 22), none⟩]
 [1, 4, 22, 5001])
 (.cond (.t 22) .skip
 (.exit 2)))
 (.seq (.block 3
 (.seq (.reg [
 ⟨(.fld 5), [.t 1], (some 25), none⟩,
 ⟨(.load none), [.t 25], (some 26), none⟩,
 ⟨.move, [.t 4], (some 27), none⟩,
 ⟨(.ida 1), [.t 26, .t 27], (some 28), none⟩,
 ⟨(.load none), [.t 28], (some 29), none⟩]
 [1, 4, 29, 5001])
 (.cond (.t 29) (.seq (.reg [
 ⟨(.assign true), [.c (.one (.sc (.bool false)))], (some 2), none⟩]
 [2])
 .ret)
 .skip)))
 (.reg [
 ⟨.move, [.t 4], (some 23), none⟩,
 ⟨(.bin .add), [.t 23, .c (.one (.sc (.int .i64 (1))))], (some 24), none⟩,
 ⟨(.assign false), [.t 24], (some 4), none⟩]
 [1, 4, 5001]))))))
 (.seq (.reg [
 ⟨(.assign true), [.c (.one (.sc (.bool true)))], (some 2), none⟩]
 [2])
 .ret))))⟩
def c21 : Pv.Fn := ⟨2, [0, 1, 2, 3, 5], [], [.t 4],
 (.seq (.reg [
 ⟨(.assign true), [.c (.one (.sc (.bool false)))], (some 4), none⟩]
 [0, 1])
 (.seq (.seq (.reg [
 ⟨.move, [.t 0], (some 6), none⟩,
 ⟨.len, [.t 6], (some 7), none⟩,
 ⟨.move, [.t 1], (some 8), none⟩,
 ⟨.len, [.t 8], (some 9), none⟩,
 ⟨(.bin .neq), [.t 7, .t 9], (some 10), none⟩]
 [0, 1, 10])
 (.cond (.t 10) (.seq (.reg [
 ⟨(.assign true), [.c (.one (.sc (.bool false)))], (some 4), none⟩]
 [4])
 .ret)
 .skip))
 (.seq (.seq (.reg [
 ⟨(.assign false), [.c (.one (.sc (.int .i64 (0))))], (some 5), none⟩]
 [0, 1, 5])
 (.block 0
 (.loop [0, 1, 5]
 (.seq (.seq (.reg [
 ⟨.move, [.t 5], (some 11), none⟩,
 ⟨.move, [.t 0], (some 12), none⟩,
 ⟨.len, [.t 12], (some 13), none⟩,
 ⟨(.bin .lss), [.t 11, .t 13], (some 14), none⟩]
 [0, 1, 5, 14])
 (.cond (.t 14) .skip
 (.exit 0)))
 (.seq (.block 1
 (.seq (.drw [
 ⟨.move, [.t 0], (some 17), none⟩,
 ⟨.move, [.t 5], (some 18), none⟩,
 ⟨(.ida 1), [.t 17, .t 18], (some 19), none⟩,
 ⟨(.load none), [.t 19], (some 20), none⟩,
 ⟨.move, [.t 1], (some 21), none⟩,
 ⟨.move, [.t 5], (some 22), none⟩,
 ⟨(.ida 1), [.t 21, .t 22], (some 23), none⟩,
 ⟨(.load none), [.t 23], (some 24), none⟩,
 ⟨(.bin .neq), [.t 20, .t 24], (some 25), none⟩]
 [⟨[0, 17], [], [17], []⟩, ⟨[5, 18], [], [18], []⟩, ⟨[17, 18, 19], [], [19], []⟩, ⟨[19, 20], [], [20], []⟩, ⟨[1, 21], [], [21], []⟩, ⟨[5, 22], [], [22], []⟩, ⟨[21, 22, 23], [], [23], []⟩, ⟨[23, 24], [], [24], []⟩, ⟨[20, 24, 25], [], [25], []⟩] [0, 1, 5, 25])
 (.cond (.t 25) (.seq (.reg [
 ⟨(.assign true), [.c (.one (.sc (.bool false)))], (some 4), none⟩]
 [4])
 .ret)
 .skip)))
 (.reg [
 ⟨.move, [.t 5], (some 15), none⟩,
 ⟨(.bin .add), [.t 15, .c (.one (.sc (.int .i64 (1))))], (some 16), none⟩,
 ⟨(.assign false), [.t 16], (some 5), none⟩]
 [0, 1, 5]))))))
 (.seq (.reg [
 ⟨(.assign true), [.c (.one (.sc (.bool true)))], (some 4), none⟩]
 [4])
 .ret))))⟩
def c27 : Pv.Fn := ⟨2, [0, 1, 2, 3, 5], [], [.t 4],
 (.seq (.reg [
 ⟨(.assign true), [.c (.one (.sc (.bool false)))], (some 4), none⟩]
 [0, 1])
 (.seq (.seq (.reg [
 ⟨.move, [.t 0], (some 6), none⟩,
 ⟨.len, [.t 6], (some 7), none⟩,
 ⟨.move, [.t 1], (some 8), none⟩,
 ⟨.len, [.t 8], (some 9), none⟩,
 ⟨(.bin .neq), [.t 7, .t 9], (some 10), none⟩]
 [0, 1, 10])
 (.cond (.t 10) (.seq (.reg [
 ⟨(.assign true), [.c (.one (.sc (.bool false)))], (some 4), none⟩]
 [4])
 .ret)
 .skip))
 (.seq (.seq (.reg [
 ⟨(.assign false), [.c (.one (.sc (.int .i64 (0))))], (some 5), none⟩]
 [0, 1, 5])
 (.block 0
 (.loop [0, 1, 5]
 (.seq (.seq (.reg [
 ⟨.move, [.t 5], (some 11), none⟩,
 ⟨.move, [.t 0], (some 12), none⟩,
 ⟨.len, [.t 12], (some 13), none⟩,
 ⟨(.bin .lss), [.t 11, .t 13], (some 14), none⟩]
 [0, 1, 5, 14])
 (.cond (.t 14) .skip
 (.exit 0)))
 (.seq (.block 1
 (.seq (.drw [
 ⟨.move, [.t 0], (some 17), none⟩,
 ⟨.move, [.t 5], (some 18), none⟩,
 ⟨(.ida 1), [.t 17, .t 18], (some 19), none⟩,
 ⟨(.load none), [.t 19], (some 20), none⟩,
 ⟨.move, [.t 1], (some 21), none⟩,
 ⟨.move, [.t 5], (some 22), none⟩,
 ⟨(.ida 1), [.t 21, .t 22], (some 23), none⟩,
 ⟨(.load none), [.t 23], (some 24), none⟩,
 ⟨(.call [] 5025 false), [.c (.one (.clo 21 [] [])), .t 20, .t 24], (some 25), none⟩,
 ⟨(.un .not), [.t 25], (some 26), none⟩]
 [⟨[0, 17], [], [17], []⟩, ⟨[5, 18], [], [18], []⟩, ⟨[17, 18, 19], [], [19], []⟩, ⟨[19, 20], [], [20], []⟩, ⟨[1, 21], [], [21], []⟩, ⟨[5, 22], [], [22], []⟩, ⟨[21, 22, 23], [], [23], []⟩, ⟨[23, 24], [], [24], []⟩, ⟨[20, 24, 25], [], [25], []⟩, ⟨[25, 26], [], [26], []⟩] [0, 1, 5, 26])
 (.cond (.t 26) (.seq (.reg [
 ⟨(.assign true), [.c (.one (.sc (.bool false)))], (some 4), none⟩]
 [4])
 .ret)
 .skip)))
 (.reg [
 ⟨.move, [.t 5], (some 15), none⟩,
 ⟨(.bin .add), [.t 15, .c (.one (.sc (.int .i64 (1))))], (some 16), none⟩,
 ⟨(.assign false), [.t 16], (some 5), none⟩]
 [0, 1, 5]))))))
 (.seq (.reg [
 ⟨(.assign true), [.c (.one (.sc (.bool true)))], (some 4), none⟩]
 [4])
 .ret))))⟩
def c28 : Pv.Fn := ⟨2, [0, 1, 2, 3, 5], [], [.t 4],
 (.seq (.reg [
 ⟨(.assign true), [.c (.one (.sc (.bool false)))], (some 4), none⟩]
 [0, 1])
 (.seq (.seq (.reg [
 ⟨.move, [.t 0], (some 6), none⟩,
 ⟨.len, [.t 6], (some 7), none⟩,
 ⟨.move, [.t 1], (some 8), none⟩,
 ⟨.len, [.t 8], (some 9), none⟩,
 ⟨(.bin .neq), [.t 7, .t 9], (some 10), none⟩]
 [0, 1, 10])
 (.cond (.t 10) (.seq (.reg [
 ⟨(.assign true), [.c (.one (.sc (.bool false)))], (some 4), none⟩]
 [4])
 .ret)
 .skip))
 (.seq (.seq (.reg [
 ⟨(.assign false), [.c (.one (.sc (.int .i64 (0))))], (some 5), none⟩]
 [0, 1, 5])
 (.block 0
 (.loop [0, 1, 5]
 (.seq (.seq (.reg [
 ⟨.move, [.t 5], (some 11), none⟩,
 ⟨.move, [.t 0], (some 12), none⟩,
 ⟨.len, [.t 12], (some 13), none⟩,
 ⟨(.bin .lss), [.t 11, .t 13], (some 14), none⟩]
 [0, 1, 5, 14])
 (.cond (.t 14) .skip
 (.exit 0)))
 (.seq (.block 1
 (.seq (.drw [
 ⟨.move, [.t 0], (some 17), none⟩,
 ⟨.move, [.t 5], (some 18), none⟩,
 ⟨(.ida 1), [.t 17, .t 18], (some 19), none⟩,
 ⟨(.load none), [.t 19], (some 20), none⟩,
 ⟨.move, [.t 1], (some 21), none⟩,
 ⟨.move, [.t 5], (some 22), none⟩,
 ⟨(.ida 1), [.t 21, .t 22], (some 23), none⟩,
 ⟨(.load none), [.t 23], (some 24), none⟩,
 ⟨(.binB true), [.t 20, .t 24], (some 25), none⟩]
 [⟨[0, 17], [], [17], []⟩, ⟨[5, 18], [], [18], []⟩, ⟨[17, 18, 19], [], [19], []⟩, ⟨[19, 20], [], [20], []⟩, ⟨[1, 21], [], [21], []⟩, ⟨[5, 22], [], [22], []⟩, ⟨[21, 22, 23], [], [23], []⟩, ⟨[23, 24], [], [24], []⟩, ⟨[20, 24, 25], [], [25], []⟩] [0, 1, 5, 25])
 (.cond (.t 25) (.seq (.reg [
 ⟨(.assign true), [.c (.one (.sc (.bool false)))], (some 4), none⟩]
 [4])
 .ret)
 .skip)))
 (.reg [
 ⟨.move, [.t 5], (some 15), none⟩,
 ⟨(.bin .add), [.t 15, .c (.one (.sc (.int .i64 (1))))], (some 16), none⟩,
 ⟨(.assign false), [.t 16], (some 5), none⟩]
 [0, 1, 5]))))))
 (.seq (.reg [
 ⟨(.assign true), [.c (.one (.sc (.bool true)))], (some 4), none⟩]
 [4])
 .ret))))⟩
def c29 : Pv.Fn := ⟨2, [0, 1, 2, 3], [], [.t 4],
 (.seq (.reg [
 ⟨(.assign true), [.c (.one (.sc (.pointer none)))], (some 4), none⟩]
 [0, 1])
 (.seq (.seq (.reg [
 ⟨.move, [.t 0], (some 5), none⟩,
 ⟨.len, [.t 5], (some 6), none⟩,
 ⟨.move, [.t 1], (some 7), none⟩,
 ⟨(.bin .gtr), [.t 6, .t 7], (some 8), none⟩]
 [0, 1, 8])
 (.cond (.t 8) (.reg [
 ⟨.move, [.t 0], (some 9), none⟩,
 ⟨.move, [.t 1], (some 10), none⟩,
 ⟨(.slc 1 false true false), [.t 9, .t 10], (some 11), none⟩,
 ⟨(.assign false), [.t 11], (some 0), none⟩]
 [0])
 .skip))
 (.seq (.reg [
 ⟨.move, [.t 0], (some 12), none⟩,
 ⟨(.build [(.sl .own 1 []), (.sc (.int .i64 (0)))] [(0, 1)]), [.t 12], (some 13), none⟩,
 ⟨(.box 5014), [.t 13], (some 14), none⟩,
 ⟨(.assign true), [.t 14], (some 4), none⟩]
 [4, 5014])
 .ret)))⟩
def c30 : Pv.Fn := ⟨2, [0, 1, 2, 3], [], [.t 4],
 (.seq (.reg [
 ⟨(.assign true), [.c (.one (.sc (.int .i64 (0))))], (some 4), none⟩]
 [0, 1])
 (.seq (.seq (.reg [
 ⟨.move, [.t 0], (some 5), none⟩,
 ⟨(.call [] 5006 false), [.c (.one (.clo 44 [] [])), .t 5], (some 6), none⟩,
 ⟨(.un .not), [.t 6], (some 7), none⟩]
 [0, 1, 7])
 (.cond (.t 7) (.seq (.reg [
 ⟨(.assign true), [.c (.one (.sc (.int .i64 (0))))], (some 4), none⟩]
 [4])
 .ret)
 .skip))
 (.seq (.reg [
 ⟨.move, [.t 0], (some 8), none⟩,
 ⟨.nilchk, [.t 8], (some 9), none⟩,
 ⟨(.fld 1), [.t 9], (some 10), none⟩,
 ⟨(.load none), [.t 10], (some 11), none⟩,
 ⟨(.bin .add), [.t 11, .c (.one (.sc (.int .i64 (1))))], (some 12), none⟩,
 ⟨.nilchk, [.t 8], (some 13), none⟩,
 ⟨(.fld 1), [.t 13], (some 14), none⟩,
 ⟨(.store false 1), [.t 14, .t 12], none, none⟩]
 [0, 1])
 (.seq (.drw [
 ⟨.move, [.t 0], (some 15), none⟩,
 ⟨.nilchk, [.t 15], (some 16), none⟩,
 ⟨(.fld 0), [.t 16], (some 17), none⟩,
 ⟨(.load none), [.t 17], (some 18), none⟩,
 ⟨.move, [.t 0], (some 19), none⟩,
 ⟨.nilchk, [.t 19], (some 20), none⟩,
 ⟨(.fld 1), [.t 20], (some 21), none⟩,
 ⟨(.load none), [.t 21], (some 22), none⟩,
 ⟨(.bin .sub), [.t 22, .c (.one (.sc (.int .i64 (1))))], (some 23), none⟩,
 ⟨(.ida 1), [.t 18, .t 23], (some 24), none⟩,
 ⟨(.load none), [.t 24], (some 25), none⟩,
 ⟨(.conv .i64), [.t 25], (some 26), none⟩,
 ⟨.move, [.t 1], (some 27), none⟩,
 ⟨(.bin .rem), [.t 26, .t 27], (some 28), none⟩,
 ⟨(.assign true), [.t 28], (some 4), none⟩]
 [⟨[0, 15], [], [15], []⟩, ⟨[15, 16], [], [16], []⟩, ⟨[16, 17], [], [17], []⟩, ⟨[17, 18, 10000], [], [18], []⟩, ⟨[0, 19], [], [19], []⟩, ⟨[19, 20], [], [20], []⟩, ⟨[20, 21], [], [21], []⟩, ⟨[21, 22, 10000], [], [22], []⟩, ⟨[22, 23], [], [23], []⟩, ⟨[18, 23, 24], [], [24], []⟩, ⟨[24, 25], [], [25], []⟩, ⟨[25, 26], [], [26], []⟩, ⟨[1, 27], [], [27], []⟩, ⟨[26, 27, 28], [], [28], []⟩, ⟨[4, 28], [], [4], []⟩] [4])
 .ret))))⟩
def c31 : Pv.Fn := ⟨3, [0, 1, 2, 3, 4, 5, 7, 8, 9, 10], [], [.t 6],
 (.seq (.reg [
 ⟨(.assign true), [.c (.one (.sl .own 4 []))], (some 6), none⟩]
 [0, 1, 2])
 (.seq (.reg [
 ⟨(.assign false), [.c (.one (.sl .own 4 []))], (some 7), none⟩]
 [0, 1, 2, 7])
 (.seq (.block 0
 (.loop [0, 1, 2, 7]
 (.seq (.seq (.reg [
 ⟨.move, [.t 7], (some 11), none⟩,
 ⟨.len, [.t 11], (some 12), none⟩,
 ⟨.move, [.t 2], (some 13), none⟩,
 ⟨(.bin .lss), [.t 12, .t 13], (some 14), none⟩,
 ⟨.move, [.t 14], (some 15), none⟩,
 ⟨.move, [.t 0], (some 16), some (15, true)⟩,
 ⟨(.call [] 5017 false), [.c (.one (.clo 44 [] [])), .t 16], (some 17), some (15, true)⟩,
 ⟨.pick, [.t 15, .t 17, .c (.one (.sc (.bool false)))], (some 18), none⟩]
 [0, 1, 2, 7, 18])
 (.cond (.t 18) .skip
 (.exit 0)))
 (.block 1
 (.seq (.reg [
 ⟨.move, [.t 0], (some 19), none⟩,
 ⟨(.call [] 5020 false), [.c (.one (.clo 30 [] [])), .t 19, .c (.one (.sc (.int .i64 (16))))], (some 20), none⟩,
 ⟨(.assign false), [.t 20], (some 8), none⟩]
 [0, 1, 2, 7, 8])
 (.seq (.reg [
 ⟨.move, [.t 0], (some 21), none⟩,
 ⟨.move, [.t 1], (some 22), none⟩,
 ⟨(.call [] 5023 false), [.c (.one (.clo 30 [] [])), .t 21, .t 22], (some 23), none⟩,
 ⟨(.assign false), [.t 23], (some 9), none⟩]
 [0, 1, 2, 7, 8, 9])
 (.seq (.reg [
 ⟨.move, [.t 9], (some 24), none⟩,
 ⟨(.bin .add), [.t 24, .c (.one (.sc (.int .i64 (1))))], (some 25), none⟩,
 ⟨.move, [.t 0], (some 26), none⟩,
 ⟨.move, [.t 1], (some 27), none⟩,
 ⟨(.bin .sub), [.t 27, .c (.one (.sc (.int .i64 (1))))], (some 28), none⟩,
 ⟨.mx, [.t 28, .c (.one (.sc (.int .i64 (1))))], (some 29), none⟩,
 ⟨(.call [] 5030 false), [.c (.one (.clo 30 [] [])), .t 26, .t 29], (some 30), none⟩,
 ⟨(.bin .add), [.t 25, .t 30], (some 31), none⟩,
 ⟨.move, [.t 1], (some 32), none⟩,
 ⟨(.bin .rem), [.t 31, .t 32], (some 33), none⟩,
 ⟨(.assign false), [.t 33], (some 10), none⟩]
 [0, 1, 2, 7, 8, 9, 10])
 (.block 2
 (.seq (.reg [
 ⟨.move, [.t 8], (some 45), none⟩,
 ⟨(.bin .lss), [.t 45, .c (.one (.sc (.int .i64 (6))))], (some 46), none⟩,
 ⟨(.assign false), [.t 46], (some 44), none⟩]
 [0, 1, 2, 7, 8, 9, 10, 44])
 (.cond (.t 44) (.reg [
 ⟨.move, [.t 7], (some 47), none⟩,
 ⟨.move, [.t 9], (some 48), none⟩,
 ⟨.move, [.t 10], (some 49), none⟩,
 ⟨.move, [.t 0], (some 50), none⟩,
 ⟨(.call [] 5051 false), [.c (.one (.clo 45 [] [])), .t 50], (some 51), none⟩,
 ⟨(.build [(.sc (.int .i64 (0))), (.sc (.int .i64 (0))), (.sc (.int .i64 (0))), (.sc (.int .i64 (0)))] [(0, 1), (1, 1), (2, 1), (3, 1)]), [.c (.one (.sc (.int .i64 (1)))), .t 48, .t 49, .t 51], (some 52), none⟩,
 ⟨(.bsl 4 [(.sc (.int .i64 (0))), (.sc (.int .i64 (0))), (.sc (.int .i64 (0))), (.sc (.int .i64 (0)))] 1 [0]), [.t 52], (some 53), none⟩,
 ⟨(.app 4 32), [.t 47, .t 53], (some 54), none⟩,
 ⟨(.assign false), [.t 54], (some 7), none⟩]
 [0, 1, 2, 7])
 (.seq (.reg [
 ⟨.move, [.t 8], (some 56), none⟩,
 ⟨(.bin .lss), [.t 56, .c (.one (.sc (.int .i64 (14))))], (some 57), none⟩,
 ⟨(.assign false), [.t 57], (some 55), none⟩]
 [0, 1, 2, 7, 8, 9, 10, 55])
 (.cond (.t 55) (.reg [
 ⟨.move, [.t 7], (some 58), none⟩,
 ⟨.move, [.t 9], (some 59), none⟩,
 ⟨.move, [.t 10], (some 60), none⟩,
 ⟨(.build [(.sc (.int .i64 (0))), (.sc (.int .i64 (0))), (.sc (.int .i64 (0))), (.sc (.int .i64 (0)))] [(0, 1), (1, 1), (2, 1)]), [.c (.one (.sc (.int .i64 (2)))), .t 59, .t 60], (some 61), none⟩,
 ⟨(.bsl 4 [(.sc (.int .i64 (0))), (.sc (.int .i64 (0))), (.sc (.int .i64 (0))), (.sc (.int .i64 (0)))] 1 [0]), [.t 61], (some 62), none⟩,
 ⟨(.app 4 32), [.t 58, .t 62], (some 63), none⟩,
 ⟨(.assign false), [.t 63], (some 7), none⟩]
 [0, 1, 2, 7])
 (.seq (.reg [
 ⟨.move, [.t 8], (some 65), none⟩,
 ⟨(.bin .eql), [.t 65, .c (.one (.sc (.int .i64 (14))))], (some 66), none⟩,
 ⟨(.assign false), [.t 66], (some 64), none⟩]
 [0, 1, 2, 7, 9, 64])
 (.cond (.t 64) (.reg [
 ⟨.move, [.t 7], (some 67), none⟩,
 ⟨.move, [.t 9], (some 68), none⟩,
 ⟨(.build [(.sc (.int .i64 (0))), (.sc (.int .i64 (0))), (.sc (.int .i64 (0))), (.sc (.int .i64 (0)))] [(0, 1), (1, 1)]), [.c (.one (.sc (.int .i64 (3)))), .t 68], (some 69), none⟩,
 ⟨(.bsl 4 [(.sc (.int .i64 (0))), (.sc (.int .i64 (0))), (.sc (.int .i64 (0))), (.sc (.int .i64 (0)))] 1 [0]), [.t 69], (some 70), none⟩,
 ⟨(.app 4 32), [.t 67, .t 70], (some 71), none⟩,
 ⟨(.assign false), [.t 71], (some 7), none⟩]
 [0, 1, 2, 7])
 (.reg [
 ⟨.move, [.t 7], (some 34), none⟩,
 ⟨.move, [.t 0], (some 35), none⟩,
 ⟨(.call [] 5036 false), [.c (.one (.clo 45 [] [])), .t 35], (some 36), none⟩,
 ⟨.move, [.t 0], (some 37), none⟩,
 ⟨(.call [] 5038 false), [.c (.one (.clo 45 [] [])), .t 37], (some 38), none⟩,
 ⟨.move, [.t 0], (some 39), none⟩,
 ⟨(.call [] 5040 false), [.c (.one (.clo 45 [] [])), .t 39], (some 40), none⟩,
 ⟨(.build [(.sc (.int .i64 (0))), (.sc (.int .i64 (0))), (.sc (.int .i64 (0))), (.sc (.int .i64 (0)))] [(0, 1), (1, 1), (2, 1), (3, 1)]), [.t 36, .t 38, .t 40, .c (.one (.sc (.int .i64 (1))))], (some 41), none⟩,
 ⟨(.bsl 4 [(.sc (.int .i64 (0))), (.sc (.int .i64 (0))), (.sc (.int .i64 (0))), (.sc (.int .i64 (0)))] 1 [0]), [.t 41], (some 42), none⟩,
 ⟨(.app 4 32), [.t 34, .t 42], (some 43), none⟩,
 ⟨(.assign false), [.t 43], (some 7), none⟩]
 [0, 1, 2, 7])))))))))))))))
 (.seq (.reg [
 ⟨.move, [.t 7], (some 72), none⟩,
 ⟨(.assign true), [.t 72], (some 6), none⟩]
 [6])
 .ret))))⟩
def c32 : Pv.Fn := ⟨1, [0, 1, 3], [], [.t 2],
 (.seq (.reg [
 ⟨(.box 5001), [.t 0], (some 1), none⟩,
 ⟨(.assign true), [.c (.one (.sc (.bool false)))], (some 2), none⟩]
 [1, 5001])
 (.seq (.reg [
 ⟨(.fld 0), [.t 1], (some 4), none⟩,
 ⟨(.load none), [.t 4], (some 5), none⟩,
 ⟨.len, [.t 5], (some 6), none⟩,
 ⟨(.assign false), [.t 6], (some 3), none⟩]
 [1, 3, 5001])
 (.seq (.seq (.reg [
 ⟨.move, [.t 3], (some 7), none⟩,
 ⟨(.bin .lss), [.t 7, .c (.one (.sc (.int .i64 (1))))], (some 8), none⟩,
 ⟨.move, [.t 8], (some 9), none⟩,
 ⟨.move, [.t 3], (some 10), some (9, false)⟩,
 ⟨(.bin .gtr), [.t 10, .c (.one (.sc (.int .i64 (5))))], (some 11), some (9, false)⟩,
 ⟨.pick, [.t 9, .c (.one (.sc (.bool true))), .t 11], (some 12), none⟩]
 [1, 3, 12, 5001])
 (.cond (.t 12) (.seq (.reg [
 ⟨(.assign true), [.c (.one (.sc (.bool false)))], (some 2), none⟩]
 [2])
 .ret)
 .skip))
 (.seq (.reg [
 ⟨(.fld 1), [.t 1], (some 13), none⟩,
 ⟨(.load none), [.t 13], (some 14), none⟩,
 ⟨.len, [.t 14], (some 15), none⟩,
 ⟨.move, [.t 3], (some 16), none⟩,
 ⟨(.bin .eql), [.t 15, .t 16], (some 17), none⟩,
 ⟨.move, [.t 17], (some 18), none⟩,
 ⟨(.fld 3), [.t 1], (some 19), some (18, true)⟩,
 ⟨(.load none), [.t 19], (some 20), some (18, true)⟩,
 ⟨.len, [.t 20], (some 21), some (18, true)⟩,
 ⟨.move, [.t 3], (some 22), some (18, true)⟩,
 ⟨(.bin .eql), [.t 21, .t 22], (some 23), some (18, true)⟩,
 ⟨.pick, [.t 18, .t 23, .c (.one (.sc (.bool false)))], (some 24), none⟩,
 ⟨.move, [.t 24], (some 25), none⟩,
 ⟨(.fld 4), [.t 1], (some 26), some (25, true)⟩,
 ⟨(.load none), [.t 26], (some 27), some (25, true)⟩,
 ⟨.len, [.t 27], (some 28), some (25, true)⟩,
 ⟨.move, [.t 3], (some 29), some (25, true)⟩,
 ⟨(.bin .eql), [.t 28, .t 29], (some 30), some (25, true)⟩,
 ⟨.pick, [.t 25, .t 30, .c (.one (.sc (.bool false)))], (some 31), none⟩,
 ⟨.move, [.t 31], (some 32), none⟩,
 ⟨(.fld 2), [.t 1], (some 33), some (32, true)⟩,
 ⟨(.load none), [.t 33], (some 34), some (32, true)⟩,
 ⟨.len, [.t 34], (some 35), some (32, true)⟩,
 ⟨.move, [.t 3], (some 36), some (32, true)⟩,
 ⟨.move, [.t 3], (some 37), some (32, true)⟩,
 ⟨(.bin .mul), [.t 36, .t 37], (some 38), some (32, true)⟩,
 ⟨(.bin .eql), [.t 35, .t 38], (some 39), some (32, true)⟩,
 ⟨.pick, [.t 32, .t 39, .c (.one (.sc (.bool false)))], (some 40), none⟩,
 ⟨.move, [.t 40], (some 41), none⟩,
 ⟨(.fld 5), [.t 1], (some 42), some (41, true)⟩,
 ⟨(.load none), [.t 42], (some 43), some (41, true)⟩,
 ⟨.len, [.t 43], (some 44), some (41, true)⟩,
 ⟨.move, [.t 3], (some 45), some (41, true)⟩,
 ⟨.move, [.t 3], (some 46), some (41, true)⟩,
 ⟨(.bin .mul), [.t 45, .t 46], (some 47), some (41, true)⟩,
 ⟨(.bin .eql), [.t 44, .t 47], (some 48), some (41, true)⟩,
 ⟨.pick, [.t 41, .t 48, .c (.one (.sc (.bool false)))], (some 49), none⟩,
 ⟨.move, [.t 49], (some 50), none⟩,
 ⟨(.fld 6), [.t 1], (some 51), some (50, true)⟩,
 ⟨(.load none), [.t 51], (some 52), some (50, true)⟩,
 ⟨.len, [.t 52], (some 53), some (50, true)⟩,
 ⟨.move, [.t 3], (some 54), some (50, true)⟩,
 ⟨.move, [.t 3], (some 55), some (50, true)⟩,
 ⟨(.bin .mul), [.t 54, .t 55], (some 56), some (50, true)⟩,
 ⟨(.bin .eql), [.t 53, .t 56], (some 57), some (50, true)⟩,
 ⟨.pick, [.t 50, .t 57, .c (.one (.sc (.bool false)))], (some 58), none⟩,
 ⟨(.assign true), [.t 58], (some 2), none⟩]
 [2])
 .ret))))⟩
def c33 : Pv.Fn := ⟨2, [0, 2], [], [.t 3],
 (.seq (.reg [
 ⟨(.assign true), [.c (.one (.sc (.bool false)))], (some 3), none⟩]
 [0, 1])
 (.seq (.reg [
 ⟨.move, [.t 0], (some 4), none⟩,
 ⟨(.bin .geq), [.t 4, .c (.one (.sc (.int .i64 (0))))], (some 5), none⟩,
 ⟨.move, [.t 5], (some 6), none⟩,
 ⟨.move, [.t 0], (some 7), some (6, true)⟩,
 ⟨(.load none), [.t 1], (some 8), some (6, true)⟩,
 ⟨(.bin .lss), [.t 7, .t 8], (some 9), some (6, true)⟩,
 ⟨.pick, [.t 6, .t 9, .c (.one (.sc (.bool false)))], (some 10), none⟩,
 ⟨(.assign true), [.t 10], (some 3), none⟩]
 [3])
 .ret))⟩
def c34 : Pv.Fn := ⟨1, [0, 1, 3, 4], [], [.c 2 (some 7)],
 (.seq (.reg [
 ⟨(.box 5001), [.t 0], (some 1), none⟩,
 ⟨(.alloc 5002 [(.sl .own 1 []), (.sl .own 1 []), (.sl .own 1 []), (.sl .own 1 []), (.sl .own 1 []), (.sl .own 1 []), (.sl .own 1 [])]), [], (some 2), none⟩]
 [1, 2, 5001, 5002])
 (.seq (.drw [
 ⟨(.fld 0), [.t 1], (some 5), none⟩,
 ⟨(.load none), [.t 5], (some 6), none⟩,
 ⟨(.app 1 8), [.c (.one (.sl .own 1 [])), .t 6], (some 7), none⟩,
 ⟨(.fld 1), [.t 1], (some 8), none⟩,
 ⟨(.load none), [.t 8], (some 9), none⟩,
 ⟨(.app 1 8), [.c (.one (.sl .own 1 [])), .t 9], (some 10), none⟩,
 ⟨(.fld 3), [.t 1], (some 11), none⟩,
 ⟨(.load none), [.t 11], (some 12), none⟩,
 ⟨(.app 1 8), [.c (.one (.sl .own 1 [])), .t 12], (some 13), none⟩,
 ⟨(.fld 4), [.t 1], (some 14), none⟩,
 ⟨(.load none), [.t 14], (some 15), none⟩,
 ⟨(.app 1 8), [.c (.one (.sl .own 1 [])), .t 15], (some 16), none⟩,
 ⟨(.fld 5), [.t 1], (some 17), none⟩,
 ⟨(.load none), [.t 17], (some 18), none⟩,
 ⟨(.app 1 1), [.c (.one (.sl .own 1 [])), .t 18], (some 19), none⟩,
 ⟨(.build [(.sl .own 1 []), (.sl .own 1 []), (.sl .own 1 []), (.sl .own 1 []), (.sl .own 1 []), (.sl .own 1 []), (.sl .own 1 [])] [(0, 1), (1, 1), (3, 1), (4, 1), (5, 1)]), [.t 7, .t 10, .t 13, .t 16, .t 19], (some 20), none⟩,
 ⟨(.alloc 5003 [(.sl .own 1 []), (.sl .own 1 []), (.sl .own 1 []), (.sl .own 1 []), (.sl .own 1 []), (.sl .own 1 []), (.sl .own 1 [])]), [], (some 3), none⟩,
 ⟨(.store false 7), [.t 3, .t 20], none, none⟩]
 [⟨[1, 5], [], [5], []⟩, ⟨[5, 6, 5001], [], [6], []⟩, ⟨[6, 7], [], [7], []⟩, ⟨[1, 8], [], [8], []⟩, ⟨[8, 9, 5001], [], [9], []⟩, ⟨[9, 10], [], [10], []⟩, ⟨[1, 11], [], [11], []⟩, ⟨[11, 12, 5001], [], [12], []⟩, ⟨[12, 13], [], [13], []⟩, ⟨[1, 14], [], [14], []⟩, ⟨[14, 15, 5001], [], [15], []⟩, ⟨[15, 16], [], [16], []⟩, ⟨[1, 17], [], [17], []⟩, ⟨[17, 18, 5001], [], [18], []⟩, ⟨[18, 19], [], [19], []⟩, ⟨[7, 10, 13, 16, 19, 20], [], [7, 10, 13, 16, 19, 20], []⟩, ⟨[3, 5003], [], [3, 5003], []⟩, ⟨[3, 20, 5003], [], [20, 5003], []⟩] [1, 2, 3, 5001, 5002, 5003])
 (.seq (.seq (.reg [
 ⟨(.fld 2), [.t 1], (some 21), none⟩,
 ⟨(.load none), [.t 21], (some 22), none⟩,
 ⟨.len, [.t 22], (some 23), none⟩,
 ⟨.move, [.c (.one (.sc (.int .i64 (0))))], (some 24), none⟩]
 [1, 2, 3, 23, 24, 5001, 5002, 5003])
 (.block 0
 (.loop [1, 2, 3, 23, 24, 5001, 5002, 5003]
 (.seq (.reg [
 ⟨(.bin .lss), [.t 24, .t 23], (some 25), none⟩]
 [1, 2, 3, 23, 24, 25, 5001, 5002, 5003])
 (.seq (.cond (.t 25) .skip
 (.exit 0))
 (.seq (.block 1
 (.seq (.reg [
 ⟨.move, [.t 24], (some 26), none⟩,
 ⟨(.assign false), [.t 26], (some 4), none⟩]
 [1, 2, 3, 4, 23, 24, 5001, 5002, 5003])
 (.seq (.drw [
 ⟨(.fld 2), [.t 3], (some 27), none⟩,
 ⟨(.load none), [.t 27], (some 28), none⟩,
 ⟨(.fld 2), [.t 1], (some 29), none⟩,
 ⟨(.load none), [.t 29], (some 30), none⟩,
 ⟨.move, [.t 4], (some 31), none⟩,
 ⟨(.ida 1), [.t 30, .t 31], (some 32), none⟩,
 ⟨(.load none), [.t 32], (some 33), none⟩,
 ⟨(.app 2 16), [.c (.one (.sl .own 2 [])), .t 33], (some 34), none⟩,
 ⟨(.bsl 1 [(.sl .own 2 [])] 1 [0]), [.t 34], (some 35), none⟩,
 ⟨(.app 1 24), [.t 28, .t 35], (some 36), none⟩,
 ⟨(.fld 2), [.t 3], (some 37), none⟩,
 ⟨(.store false 1), [.t 37, .t 36], none, none⟩]
 [⟨[3, 27], [], [27], []⟩, ⟨[27, 28], [5003], [28], []⟩, ⟨[1, 29], [], [29], []⟩, ⟨[29, 30, 5001], [], [30], []⟩, ⟨[4, 31], [], [31], []⟩, ⟨[30, 31, 32], [], [32], []⟩, ⟨[32, 33], [], [33], []⟩, ⟨[33, 34], [], [34], []⟩, ⟨[34, 35], [], [34, 35], []⟩, ⟨[28, 35, 36, 5003], [], [35, 36, 5003], []⟩, ⟨[3, 37], [], [37], []⟩, ⟨[36, 37, 5003], [], [36, 5003], []⟩] [1, 2, 3, 4, 23, 24, 5001, 5002, 5003])
 (.drw [
 ⟨(.fld 6), [.t 3], (some 38), none⟩,
 ⟨(.load none), [.t 38], (some 39), none⟩,
 ⟨(.fld 6), [.t 1], (some 40), none⟩,
 ⟨(.load none), [.t 40], (some 41), none⟩,
 ⟨.move, [.t 4], (some 42), none⟩,
 ⟨(.ida 1), [.t 41, .t 42], (some 43), none⟩,
 ⟨(.load none), [.t 43], (some 44), none⟩,
 ⟨(.app 1 8), [.c (.one (.sl .own 1 [])), .t 44], (some 45), none⟩,
 ⟨(.bsl 1 [(.sl .own 1 [])] 1 [0]), [.t 45], (some 46), none⟩,
 ⟨(.app 1 24), [.t 39, .t 46], (some 47), none⟩,
 ⟨(.fld 6), [.t 3], (some 48), none⟩,
 ⟨(.store false 1), [.t 48, .t 47], none, none⟩]
 [⟨[3, 38], [], [38], []⟩, ⟨[38, 39], [5003], [39], []⟩, ⟨[1, 40], [], [40], []⟩, ⟨[40, 41, 5001], [], [41], []⟩, ⟨[4, 42], [], [42], []⟩, ⟨[41, 42, 43], [], [43], []⟩, ⟨[43, 44], [], [44], []⟩, ⟨[44, 45], [], [45], []⟩, ⟨[45, 46], [], [45, 46], []⟩, ⟨[39, 46, 47, 5003], [], [46, 47, 5003], []⟩, ⟨[3, 48], [], [48], []⟩, ⟨[47, 48, 5003], [], [47, 5003], []⟩] [1, 2, 3, 23, 24, 5001, 5002, 5003]))))
 (.reg [
 ⟨(.bin .add), [.t 24, .c (.one (.sc (.int .i64 (1))))], (some 49), none⟩,
 ⟨.move, [.t 49], (some 24), none⟩]
 [1, 2, 3, 23, 24, 5001, 5002, 5003])))))))
 (.seq (.reg [
 ⟨(.load (some 7)), [.t 3], (some 50), none⟩,
 ⟨(.store true 7), [.t 2, .t 50], none, none⟩]
 [2, 5002])
 .ret))))⟩
def c35 : Pv.Fn := ⟨2, [0, 1, 2, 3, 4, 5, 6, 7], [(0, 5002, true)], [],
 (.seq (.reg [
 ⟨(.box 5002), [.t 0], (some 2), none⟩]
 [1, 2, 5002])
 (.seq (.reg [
 ⟨(.fld 0), [.t 2], (some 8), none⟩,
 ⟨(.load none), [.t 8], (some 9), none⟩,
 ⟨.len, [.t 9], (some 10), none⟩,
 ⟨(.assign false), [.t 10], (some 4), none⟩]
 [1, 2, 4, 5002])
 (.seq (.drw [
 ⟨(.fld 4), [.t 2], (some 11), none⟩,
 ⟨(.load none), [.t 11], (some 12), none⟩,
 ⟨.move, [.t 1], (some 13), none⟩,
 ⟨(.fld 0), [.t 2], (some 14), none⟩,
 ⟨(.load none), [.t 14], (some 15), none⟩,
 ⟨.move, [.t 1], (some 16), none⟩,
 ⟨(.ida 1), [.t 15, .t 16], (some 17), none⟩,
 ⟨(.load none), [.t 17], (some 18), none⟩,
 ⟨(.ida 1), [.t 12, .t 13], (some 19), none⟩,
 ⟨(.store false 1), [.t 19, .t 18], none, none⟩]
 [⟨[2, 11], [], [11], []⟩, ⟨[11, 12], [5002], [12], []⟩, ⟨[1, 13], [], [13], []⟩, ⟨[2, 14], [], [14], []⟩, ⟨[14, 15], [5002], [15], []⟩, ⟨[1, 16], [], [16], []⟩, ⟨[15, 16, 17, 5002], [], [17], []⟩, ⟨[17, 18, 5002], [], [18], []⟩, ⟨[12, 13, 19, 5002], [], [19], []⟩, ⟨[18, 19, 5002], [], [5002], [5002]⟩] [1, 2, 4, 5002])
 (.seq (.drw [
 ⟨(.fld 3), [.t 2], (some 20), none⟩,
 ⟨(.load none), [.t 20], (some 21), none⟩,
 ⟨.move, [.t 1], (some 22), none⟩,
 ⟨(.fld 1), [.t 2], (some 23), none⟩,
 ⟨(.load none), [.t 23], (some 24), none⟩,
 ⟨.move, [.t 1], (some 25), none⟩,
 ⟨(.ida 1), [.t 24, .t 25], (some 26), none⟩,
 ⟨(.load none), [.t 26], (some 27), none⟩,
 ⟨(.ida 1), [.t 21, .t 22], (some 28), none⟩,
 ⟨(.store false 1), [.t 28, .t 27], none, none⟩]
 [⟨[2, 20], [], [20], []⟩, ⟨[20, 21], [5002], [21], []⟩, ⟨[1, 22], [], [22], []⟩, ⟨[2, 23], [], [23], []⟩, ⟨[23, 24], [5002], [24], []⟩, ⟨[1, 25], [], [25], []⟩, ⟨[24, 25, 26, 5002], [], [26], []⟩, ⟨[26, 27, 5002], [], [27], []⟩, ⟨[21, 22, 28, 5002], [], [28], []⟩, ⟨[27, 28, 5002], [], [5002], [5002]⟩] [1, 2, 4, 5002])
 (.seq (.reg [
 ⟨.move, [.t 4], (some 29), none⟩,
 ⟨.move, [.c (.one (.sc (.int .i64 (0))))], (some 30), none⟩]
 [1, 2, 4, 29, 30, 5002])
 (.block 0
 (.loop [1, 2, 4, 29, 30, 5002]
 (.seq (.reg [
 ⟨(.bin .lss), [.t 30, .t 29], (some 31), none⟩]
 [1, 2, 4, 29, 30, 31, 5002])
 (.seq (.cond (.t 31) .skip
 (.exit 0))
 (.seq (.block 1
 (.seq (.reg [
 ⟨.move, [.t 30], (some 32), none⟩,
 ⟨(.assign false), [.t 32], (some 5), none⟩]
 [1, 2, 4, 5, 29, 30, 5002])
 (.seq (.seq (.reg [
 ⟨.move, [.t 5], (some 33), none⟩,
 ⟨.move, [.t 1], (some 34), none⟩,
 ⟨(.bin .eql), [.t 33, .t 34], (some 35), none⟩]
 [1, 2, 4, 5, 29, 30, 35, 5002])
 (.cond (.t 35) (.exit 1)
 .skip))
 (.seq (.reg [
 ⟨.move, [.t 1], (some 36), none⟩,
 ⟨.move, [.t 4], (some 37), none⟩,
 ⟨(.bin .mul), [.t 36, .t 37], (some 38), none⟩,
 ⟨.move, [.t 5], (some 39), none⟩,
 ⟨(.bin .add), [.t 38, .t 39], (some 40), none⟩,
 ⟨.move, [.t 5], (some 41), none⟩,
 ⟨.move, [.t 4], (some 42), none⟩,
 ⟨(.bin .mul), [.t 41, .t 42], (some 43), none⟩,
 ⟨.move, [.t 1], (some 44), none⟩,
 ⟨(.bin .add), [.t 43, .t 44], (some 45), none⟩,
 ⟨(.assign false), [.t 40], (some 6), none⟩,
 ⟨(.assign false), [.t 45], (some 7), none⟩]
 [1, 2, 4, 6, 7, 29, 30, 5002])
 (.seq (.drw [
 ⟨(.fld 2), [.t 2], (some 46), none⟩,
 ⟨(.load none), [.t 46], (some 47), none⟩,
 ⟨.move, [.t 6], (some 48), none⟩,
 ⟨(.fld 2), [.t 2], (some 49), none⟩,
 ⟨(.load none), [.t 49], (some 50), none⟩,
 ⟨.move, [.t 6], (some 51), none⟩,
 ⟨(.ida 1), [.t 50, .t 51], (some 52), none⟩,
 ⟨(.load none), [.t 52], (some 53), none⟩,
 ⟨(.build [(.sc (.bool false)), (.sc (.int .i64 (0)))] [(0, 1)]), [.c (.one (.sc (.bool true)))], (some 54), none⟩,
 ⟨(.bsl 2 [(.sc (.bool false)), (.sc (.int .i64 (0)))] 1 [0]), [.t 54], (some 55), none⟩,
 ⟨(.app 2 16), [.t 53, .t 55], (some 56), none⟩,
 ⟨(.ida 1), [.t 47, .t 48], (some 57), none⟩,
 ⟨(.store false 1), [.t 57, .t 56], none, none⟩]
 [⟨[2, 46], [], [46], []⟩, ⟨[46, 47], [5002], [47], []⟩, ⟨[6, 48], [], [48], []⟩, ⟨[2, 49], [], [49], []⟩, ⟨[49, 50], [5002], [50], []⟩, ⟨[6, 51], [], [51], []⟩, ⟨[50, 51, 52, 5002], [], [52], []⟩, ⟨[52, 53, 5002], [], [53], []⟩, ⟨[54], [], [54], []⟩, ⟨[54, 55], [], [55], []⟩, ⟨[53, 55, 56, 5002], [], [56, 5002], [5002]⟩, ⟨[47, 48, 57, 5002], [], [57], []⟩, ⟨[56, 57, 5002], [], [56, 5002], []⟩] [1, 2, 4, 7, 29, 30, 5002])
 (.reg [
 ⟨(.fld 5), [.t 2], (some 58), none⟩,
 ⟨(.load none), [.t 58], (some 59), none⟩,
 ⟨.move, [.t 7], (some 60), none⟩,
 ⟨(.ida 1), [.t 59, .t 60], (some 61), none⟩,
 ⟨(.store false 1), [.t 61, .c (.one (.sc (.bool true)))], none, none⟩]
 [1, 2, 4, 29, 30, 5002]))))))
 (.reg [
 ⟨(.bin .add), [.t 30, .c (.one (.sc (.int .i64 (1))))], (some 62), none⟩,
 ⟨.move, [.t 62], (some 30), none⟩]
 [1, 2, 4, 29, 30, 5002])))))))))))⟩
def c36 : Pv.Fn := ⟨2, [0, 1, 2, 3, 5], [], [.t 4],
 (.seq (.reg [
 ⟨(.box 5002), [.t 0], (some 2), none⟩,
 ⟨(.box 5003), [.t 1], (some 3), none⟩,
 ⟨(.assign true), [.c (.one (.sc (.int .i64 (0))))], (some 4), none⟩]
 [2, 3, 5002, 5003])
 (.seq (.reg [
 ⟨(.fld 0), [.t 2], (some 6), none⟩,
 ⟨(.load none), [.t 6], (some 7), none⟩,
 ⟨.len, [.t 7], (some 8), none⟩,
 ⟨(.assign false), [.t 8], (some 5), none⟩]
 [2, 3, 5, 5002, 5003])
 (.seq (.seq (.reg [
 ⟨(.fld 0), [.t 3], (some 9), none⟩,
 ⟨(.load none), [.t 9], (some 10), none⟩,
 ⟨(.bin .lss), [.t 10, .c (.one (.sc (.int .i64 (1))))], (some 11), none⟩,
 ⟨.move, [.t 11], (some 12), none⟩,
 ⟨(.fld 0), [.t 3], (some 13), some (12, false)⟩,
 ⟨(.load none), [.t 13], (some 14), some (12, false)⟩,
 ⟨(.bin .gtr), [.t 14, .c (.one (.sc (.int .i64 (3))))], (some 15), some (12, false)⟩,
 ⟨.pick, [.t 12, .c (.one (.sc (.bool true))), .t 15], (some 16), none⟩,
 ⟨.move, [.t 16], (some 17), none⟩,
 ⟨(.fld 1), [.t 3], (some 18), some (17, false)⟩,
 ⟨(.load none), [.t 18], (some 19), some (17, false)⟩,
 ⟨(.bin .lss), [.t 19, .c (.one (.sc (.int .i64 (0))))], (some 20), some (17, false)⟩,
 ⟨.pick, [.t 17, .c (.one (.sc (.bool true))), .t 20], (some 21), none⟩,
 ⟨.move, [.t 21], (some 22), none⟩,
 ⟨(.fld 1), [.t 3], (some 23), some (22, false)⟩,
 ⟨(.load none), [.t 23], (some 24), some (22, false)⟩,
 ⟨.move, [.t 5], (some 25), some (22, false)⟩,
 ⟨(.bin .geq), [.t 24, .t 25], (some 26), some (22, false)⟩,
 ⟨.pick, [.t 22, .c (.one (.sc (.bool true))), .t 26], (some 27), none⟩]
 [2, 3, 5, 27, 5002, 5003])
 (.cond (.t 27) (.seq (.reg [
 ⟨(.assign true), [.c (.one (.sc (.int .i64 (3))))], (some 4), none⟩]
 [4])
 .ret)
 .skip))
 (.seq (.seq (.reg [
 ⟨(.fld 0), [.t 3], (some 28), none⟩,
 ⟨(.load none), [.t 28], (some 29), none⟩,
 ⟨(.bin .eql), [.t 29, .c (.one (.sc (.int .i64 (3))))], (some 30), none⟩]
 [2, 3, 5, 30, 5002, 5003])
 (.cond (.t 30) (.seq (.reg [
 ⟨(.assign true), [.c (.one (.sc (.int .i64 (0))))], (some 4), none⟩]
 [4])
 .ret)
 .skip))
 (.seq (.seq (.reg [
 ⟨(.fld 2), [.t 3], (some 31), none⟩,
 ⟨(.load none), [.t 31], (some 32), none⟩,
 ⟨(.bin .lss), [.t 32, .c (.one (.sc (.int .i64 (0))))], (some 33), none⟩,
 ⟨.move, [.t 33], (some 34), none⟩,
 ⟨(.fld 2), [.t 3], (some 35), some (34, false)⟩,
 ⟨(.load none), [.t 35], (some 36), some (34, false)⟩,
 ⟨.move, [.t 5], (some 37), some (34, false)⟩,
 ⟨(.bin .geq), [.t 36, .t 37], (some 38), some (34, false)⟩,
 ⟨.pick, [.t 34, .c (.one (.sc (.bool true))), .t 38], (some 39), none⟩,
 ⟨.move, [.t 39], (some 40), none⟩,
 ⟨(.fld 2), [.t 3], (some 41), some (40, false)⟩,
 ⟨(.load none), [.t 41], (some 42), some (40, false)⟩,
 ⟨(.fld 1), [.t 3], (some 43), some (40, false)⟩,
 ⟨(.load none), [.t 43], (some 44), some (40, false)⟩,
 ⟨(.bin .eql), [.t 42, .t 44], (some 45), some (40, false)⟩,
 ⟨.pick, [.t 40, .c (.one (.sc (.bool true))), .t 45], (some 46), none⟩]
 [2, 3, 5, 46, 5002, 5003])
 (.cond (.t 46) (.seq (.reg [
 ⟨(.assign true), [.c (.one (.sc (.int .i64 (3))))], (some 4), none⟩]
 [4])
 .ret)
 .skip))
 (.seq (.seq (.reg [
 ⟨(.fld 0), [.t 3], (some 47), none⟩,
 ⟨(.load none), [.t 47], (some 48), none⟩,
 ⟨(.bin .eql), [.t 48, .c (.one (.sc (.int .i64 (1))))], (some 49), none⟩,
 ⟨.move, [.t 49], (some 50), none⟩,
 ⟨(.fld 2), [.t 2], (some 51), some (50, true)⟩,
 ⟨(.load none), [.t 51], (some 52), some (50, true)⟩,
 ⟨(.fld 1), [.t 3], (some 53), some (50, true)⟩,
 ⟨(.load none), [.t 53], (some 54), some (50, true)⟩,
 ⟨.move, [.t 5], (some 55), some (50, true)⟩,
 ⟨(.bin .mul), [.t 54, .t 55], (some 56), some (50, true)⟩,
 ⟨(.fld 2), [.t 3], (some 57), some (50, true)⟩,
 ⟨(.load none), [.t 57], (some 58), some (50, true)⟩,
 ⟨(.bin .add), [.t 56, .t 58], (some 59), some (50, true)⟩,
 ⟨(.ida 1), [.t 52, .t 59], (some 60), some (50, true)⟩,
 ⟨(.load none), [.t 60], (some 61), some (50, true)⟩,
 ⟨.len, [.t 61], (some 62), some (50, true)⟩,
 ⟨(.bin .geq), [.t 62, .c (.one (.sc (.int .i64 (256))))], (some 63), some (50, true)⟩,
 ⟨.pick, [.t 50, .t 63, .c (.one (.sc (.bool false)))], (some 64), none⟩]
 [2, 3, 5, 64, 5002, 5003])
 (.cond (.t 64) (.seq (.reg [
 ⟨(.assign true), [.c (.one (.sc (.int .i64 (4))))], (some 4), none⟩]
 [4])
 .ret)
 .skip))
 (.seq (.seq (.reg [
 ⟨(.fld 0), [.t 3], (some 65), none⟩,
 ⟨(.load none), [.t 65], (some 66), none⟩,
 ⟨(.bin .eql), [.t 66, .c (.one (.sc (.int .i64 (2))))], (some 67), none⟩,
 ⟨.move, [.t 67], (some 68), none⟩,
 ⟨(.fld 2), [.t 2], (some 69), some (68, true)⟩,
 ⟨(.load none), [.t 69], (some 70), some (68, true)⟩,
 ⟨(.fld 1), [.t 3], (some 71), some (68, true)⟩,
 ⟨(.load none), [.t 71], (some 72), some (68, true)⟩,
 ⟨.move, [.t 5], (some 73), some (68, true)⟩,
 ⟨(.bin .mul), [.t 72, .t 73], (some 74), some (68, true)⟩,
 ⟨(.fld 2), [.t 3], (some 75), some (68, true)⟩,
 ⟨(.load none), [.t 75], (some 76), some (68, true)⟩,
 ⟨(.bin .add), [.t 74, .t 76], (some 77), some (68, true)⟩,
 ⟨(.ida 1), [.t 70, .t 77], (some 78), some (68, true)⟩,
 ⟨(.load none), [.t 78], (some 79), some (68, true)⟩,
 ⟨.len, [.t 79], (some 80), some (68, true)⟩,
 ⟨(.bin .eql), [.t 80, .c (.one (.sc (.int .i64 (0))))], (some 81), some (68, true)⟩,
 ⟨.pick, [.t 68, .t 81, .c (.one (.sc (.bool false)))], (some 82), none⟩]
 [82])
 (.cond (.t 82) (.seq (.reg [
 ⟨(.assign true), [.c (.one (.sc (.int .i64 (11))))], (some 4), none⟩]
 [4])
 .ret)
 .skip))
 (.seq (.reg [
 ⟨(.assign true), [.c (.one (.sc (.int .i64 (0))))], (some 4), none⟩]
 [4])
 .ret))))))))⟩
def c37 : Pv.Fn := ⟨1, [0, 1, 3, 4, 5], [], [.c 2 (some 7)],
 (.seq (.reg [
 ⟨(.box 5001), [.t 0], (some 1), none⟩,
 ⟨(.alloc 5002 [(.sl .own 1 []), (.sl .own 1 []), (.sl .own 1 []), (.sl .own 1 []), (.sl .own 1 []), (.sl .own 1 []), (.sl .own 1 [])]), [], (some 2), none⟩]
 [1, 2, 5001, 5002])
 (.seq (.drw [
 ⟨(.fld 0), [.t 1], (some 6), none⟩,
 ⟨(.load none), [.t 6], (some 7), none⟩,
 ⟨(.app 1 8), [.c (.one (.sl .own 1 [])), .t 7], (some 8), none⟩,
 ⟨(.fld 1), [.t 1], (some 9), none⟩,
 ⟨(.load none), [.t 9], (some 10), none⟩,
 ⟨(.app 1 8), [.c (.one (.sl .own 1 [])), .t 10], (some 11), none⟩,
 ⟨(.fld 3), [.t 1], (some 12), none⟩,
 ⟨(.load none), [.t 12], (some 13), none⟩,
 ⟨(.app 1 8), [.c (.one (.sl .own 1 [])), .t 13], (some 14), none⟩,
 ⟨(.fld 4), [.t 1], (some 15), none⟩,
 ⟨(.load none), [.t 15], (some 16), none⟩,
 ⟨(.app 1 8), [.c (.one (.sl .own 1 [])), .t 16], (some 17), none⟩,
 ⟨(.fld 5), [.t 1], (some 18), none⟩,
 ⟨(.load none), [.t 18], (some 19), none⟩,
 ⟨(.app 1 1), [.c (.one (.sl .own 1 [])), .t 19], (some 20), none⟩,
 ⟨(.build [(.sl .own 1 []), (.sl .own 1 []), (.sl .own 1 []), (.sl .own 1 []), (.sl .own 1 []), (.sl .own 1 []), (.sl .own 1 [])] [(0, 1), (1, 1), (3, 1), (4, 1), (5, 1)]), [.t 8, .t 11, .t 14, .t 17, .t 20], (some 21), none⟩,
 ⟨(.alloc 5003 [(.sl .own 1 []), (.sl .own 1 []), (.sl .own 1 []), (.sl .own 1 []), (.sl .own 1 []), (.sl .own 1 []), (.sl .own 1 [])]), [], (some 3), none⟩,
 ⟨(.store false 7), [.t 3, .t 21], none, none⟩]
 [⟨[1, 6], [], [6], []⟩, ⟨[6, 7, 5001], [], [7], []⟩, ⟨[7, 8], [], [8], []⟩, ⟨[1, 9], [], [9], []⟩, ⟨[9, 10, 5001], [], [10], []⟩, ⟨[10, 11], [], [11], []⟩, ⟨[1, 12], [], [12], []⟩, ⟨[12, 13, 5001], [], [13], []⟩, ⟨[13, 14], [], [14], []⟩, ⟨[1, 15], [], [15], []⟩, ⟨[15, 16, 5001], [], [16], []⟩, ⟨[16, 17], [], [17], []⟩, ⟨[1, 18], [], [18], []⟩, ⟨[18, 19, 5001], [], [19], []⟩, ⟨[19, 20], [], [20], []⟩, ⟨[8, 11, 14, 17, 20, 21], [], [8, 11, 14, 17, 20, 21], []⟩, ⟨[3, 5003], [], [3, 5003], []⟩, ⟨[3, 21, 5003], [], [21, 5003], []⟩] [1, 2, 3, 5001, 5002, 5003])
 (.seq (.seq (.reg [
 ⟨(.assign false), [.c (.one (.sc (.int .i64 (0))))], (some 4), none⟩]
 [1, 2, 3, 4, 5001, 5002, 5003])
 (.block 0
 (.loop [1, 2, 3, 4, 5001, 5002, 5003]
 (.seq (.seq (.reg [
 ⟨.move, [.t 4], (some 22), none⟩,
 ⟨(.fld 2), [.t 1], (some 23), none⟩,
 ⟨(.load none), [.t 23], (some 24), none⟩,
 ⟨.len, [.t 24], (some 25), none⟩,
 ⟨(.bin .lss), [.t 22, .t 25], (some 26), none⟩]
 [1, 2, 3, 4, 26, 5001, 5002, 5003])
 (.cond (.t 26) .skip
 (.exit 0)))
 (.seq (.block 1
 (.drw [
 ⟨(.fld 2), [.t 3], (some 29), none⟩,
 ⟨(.load none), [.t 29], (some 30), none⟩,
 ⟨(.fld 2), [.t 1], (some 31), none⟩,
 ⟨(.load none), [.t 31], (some 32), none⟩,
 ⟨.move, [.t 4], (some 33), none⟩,
 ⟨(.ida 1), [.t 32, .t 33], (some 34), none⟩,
 ⟨(.load none), [.t 34], (some 35), none⟩,
 ⟨(.app 2 16), [.c (.one (.sl .own 2 [])), .t 35], (some 36), none⟩,
 ⟨(.bsl 1 [(.sl .own 2 [])] 1 [0]), [.t 36], (some 37), none⟩,
 ⟨(.app 1 24), [.t 30, .t 37], (some 38), none⟩,
 ⟨(.fld 2), [.t 3], (some 39), none⟩,
 ⟨(.store false 1), [.t 39, .t 38], none, none⟩]
 [⟨[3, 29], [], [29], []⟩, ⟨[29, 30], [5003], [30], []⟩, ⟨[1, 31], [], [31], []⟩, ⟨[31, 32, 5001], [], [32], []⟩, ⟨[4, 33], [], [33], []⟩, ⟨[32, 33, 34], [], [34], []⟩, ⟨[34, 35], [], [35], []⟩, ⟨[35, 36], [], [36], []⟩, ⟨[36, 37], [], [36, 37], []⟩, ⟨[30, 37, 38, 5003], [], [37, 38, 5003], []⟩, ⟨[3, 39], [], [39], []⟩, ⟨[38, 39, 5003], [], [38, 5003], []⟩] [1, 2, 3, 4, 5001, 5002, 5003]))
 (.reg [
 ⟨.move, [.t 4], (some 27), none⟩,
 ⟨(.bin .add), [.t 27, .c (.one (.sc (.int .i64 (1))))], (some 28), none⟩,
 ⟨(.assign false), [.t 28], (some 4), none⟩]
 [1, 2, 3, 4, 5001, 5002, 5003]))))))
 (.seq (.seq (.reg [
 ⟨(.assign false), [.c (.one (.sc (.int .i64 (0))))], (some 5), none⟩]
 [1, 2, 3, 5, 5001, 5002, 5003])
 (.block 2
 (.loop [1, 2, 3, 5, 5001, 5002, 5003]
 (.seq (.seq (.reg [
 ⟨.move, [.t 5], (some 40), none⟩,
 ⟨(.fld 6), [.t 1], (some 41), none⟩,
 ⟨(.load none), [.t 41], (some 42), none⟩,
 ⟨.len, [.t 42], (some 43), none⟩,
 ⟨(.bin .lss), [.t 40, .t 43], (some 44), none⟩]
 [1, 2, 3, 5, 44, 5001, 5002, 5003])
 (.cond (.t 44) .skip
 (.exit 2)))
 (.seq (.block 3
 (.drw [
 ⟨(.fld 6), [.t 3], (some 47), none⟩,
 ⟨(.load none), [.t 47], (some 48), none⟩,
 ⟨(.fld 6), [.t 1], (some 49), none⟩,
 ⟨(.load none), [.t 49], (some 50), none⟩,
 ⟨.move, [.t 5], (some 51), none⟩,
 ⟨(.ida 1), [.t 50, .t 51], (some 52), none⟩,
 ⟨(.load none), [.t 52], (some 53), none⟩,
 ⟨(.app 1 8), [.c (.one (.sl .own 1 [])), .t 53], (some 54), none⟩,
 ⟨(.bsl 1 [(.sl .own 1 [])] 1 [0]), [.t 54], (some 55), none⟩,
 ⟨(.app 1 24), [.t 48, .t 55], (some 56), none⟩,
 ⟨(.fld 6), [.t 3], (some 57), none⟩,
 ⟨(.store false 1), [.t 57, .t 56], none, none⟩]
 [⟨[3, 47], [], [47], []⟩, ⟨[47, 48], [5003], [48], []⟩, ⟨[1, 49], [], [49], []⟩, ⟨[49, 50, 5001], [], [50], []⟩, ⟨[5, 51], [], [51], []⟩, ⟨[50, 51, 52], [], [52], []⟩, ⟨[52, 53], [], [53], []⟩, ⟨[53, 54], [], [54], []⟩, ⟨[54, 55], [], [54, 55], []⟩, ⟨[48, 55, 56, 5003], [], [55, 56, 5003], []⟩, ⟨[3, 57], [], [57], []⟩, ⟨[56, 57, 5003], [], [56, 5003], []⟩] [1, 2, 3, 5, 5001, 5002, 5003]))
 (.reg [
 ⟨.move, [.t 5], (some 45), none⟩,
 ⟨(.bin .add), [.t 45, .c (.one (.sc (.int .i64 (1))))], (some 46), none⟩,
 ⟨(.assign false), [.t 46], (some 5), none⟩]
 [1, 2, 3, 5, 5001, 5002, 5003]))))))
 (.seq (.reg [
 ⟨(.load (some 7)), [.t 3], (some 58), none⟩,
 ⟨(.store true 7), [.t 2, .t 58], none, none⟩]
 [2, 5002])
 .ret)))))⟩
def c38 : Pv.Fn := ⟨2, [0, 1, 2, 3, 4, 5], [], [],
 (.seq (.reg [
 ⟨.move, [.t 0], (some 6), none⟩,
 ⟨.nilchk, [.t 6], (some 7), none⟩,
 ⟨(.fld 0), [.t 7], (some 8), none⟩,
 ⟨(.load none), [.t 8], (some 9), none⟩,
 ⟨.len, [.t 9], (some 10), none⟩,
 ⟨(.assign false), [.t 10], (some 4), none⟩]
 [0, 1, 4])
 (.seq (.drw [
 ⟨.move, [.t 0], (some 11), none⟩,
 ⟨.nilchk, [.t 11], (some 12), none⟩,
 ⟨(.fld 4), [.t 12], (some 13), none⟩,
 ⟨(.load none), [.t 13], (some 14), none⟩,
 ⟨.move, [.t 1], (some 15), none⟩,
 ⟨.move, [.t 0], (some 16), none⟩,
 ⟨.nilchk, [.t 16], (some 17), none⟩,
 ⟨(.fld 3), [.t 17], (some 18), none⟩,
 ⟨(.load none), [.t 18], (some 19), none⟩,
 ⟨.move, [.t 1], (some 20), none⟩,
 ⟨.move, [.t 0], (some 21), none⟩,
 ⟨.nilchk, [.t 21], (some 22), none⟩,
 ⟨(.fld 0), [.t 22], (some 23), none⟩,
 ⟨(.load none), [.t 23], (some 24), none⟩,
 ⟨.move, [.t 1], (some 25), none⟩,
 ⟨(.ida 1), [.t 24, .t 25], (some 26), none⟩,
 ⟨(.load none), [.t 26], (some 27), none⟩,
 ⟨.move, [.t 0], (some 28), none⟩,
 ⟨.nilchk, [.t 28], (some 29), none⟩,
 ⟨(.fld 1), [.t 29], (some 30), none⟩,
 ⟨(.load none), [.t 30], (some 31), none⟩,
 ⟨.move, [.t 1], (some 32), none⟩,
 ⟨(.ida 1), [.t 31, .t 32], (some 33), none⟩,
 ⟨(.load none), [.t 33], (some 34), none⟩,
 ⟨(.ida 1), [.t 14, .t 15], (some 35), none⟩,
 ⟨(.store false 1), [.t 35, .t 27], none, none⟩,
 ⟨(.ida 1), [.t 19, .t 20], (some 36), none⟩,
 ⟨(.store false 1), [.t 36, .t 34], none, none⟩]
 [⟨[0, 11], [], [11], []⟩, ⟨[11, 12], [], [12], []⟩, ⟨[12, 13], [], [13], []⟩, ⟨[13, 14], [10000], [14], []⟩, ⟨[1, 15], [], [15], []⟩, ⟨[0, 16], [], [16], []⟩, ⟨[16, 17], [], [17], []⟩, ⟨[17, 18], [], [18], []⟩, ⟨[18, 19], [10000], [19], []⟩, ⟨[1, 20], [], [20], []⟩, ⟨[0, 21], [], [21], []⟩, ⟨[21, 22], [], [22], []⟩, ⟨[22, 23], [], [23], []⟩, ⟨[23, 24], [10000], [24], []⟩, ⟨[1, 25], [], [25], []⟩, ⟨[24, 25, 26, 10000], [], [26], []⟩, ⟨[26, 27, 10000], [], [27], []⟩, ⟨[0, 28], [], [28], []⟩, ⟨[28, 29], [], [29], []⟩, ⟨[29, 30], [], [30], []⟩, ⟨[30, 31], [10000], [31], []⟩, ⟨[1, 32], [], [32], []⟩, ⟨[31, 32, 33, 10000], [], [33], []⟩, ⟨[33, 34, 10000], [], [34], []⟩, ⟨[14, 15, 35, 10000], [], [35], []⟩, ⟨[27, 35, 10000], [], [10000], [10000]⟩, ⟨[19, 20, 36, 10000], [], [36], []⟩, ⟨[34, 36, 10000], [], [10000], [10000]⟩] [0, 1, 4])
 (.seq (.reg [
 ⟨(.assign false), [.c (.one (.sc (.int .i64 (0))))], (some 5), none⟩]
 [0, 1, 4, 5])
 (.block 0
 (.loop [0, 1, 4, 5]
 (.seq (.seq (.reg [
 ⟨.move, [.t 5], (some 37), none⟩,
 ⟨.move, [.t 4], (some 38), none⟩,
 ⟨(.bin .lss), [.t 37, .t 38], (some 39), none⟩]
 [0, 1, 4, 5, 39])
 (.cond (.t 39) .skip
 (.exit 0)))
 (.seq (.block 1
 (.seq (.reg [
 ⟨.move, [.t 5], (some 42), none⟩,
 ⟨.move, [.t 1], (some 43), none⟩,
 ⟨(.bin .neq), [.t 42, .t 43], (some 44), none⟩]
 [0, 1, 4, 5, 44])
 (.cond (.t 44) (.seq (.drw [
 ⟨.move, [.t 0], (some 45), none⟩,
 ⟨.nilchk, [.t 45], (some 46), none⟩,
 ⟨(.fld 2), [.t 46], (some 47), none⟩,
 ⟨(.load none), [.t 47], (some 48), none⟩,
 ⟨.move, [.t 1], (some 49), none⟩,
 ⟨.move, [.t 4], (some 50), none⟩,
 ⟨(.bin .mul), [.t 49, .t 50], (some 51), none⟩,
 ⟨.move, [.t 5], (some 52), none⟩,
 ⟨(.bin .add), [.t 51, .t 52], (some 53), none⟩,
 ⟨.move, [.t 0], (some 54), none⟩,
 ⟨.nilchk, [.t 54], (some 55), none⟩,
 ⟨(.fld 2), [.t 55], (some 56), none⟩,
 ⟨(.load none), [.t 56], (some 57), none⟩,
 ⟨.move, [.t 1], (some 58), none⟩,
 ⟨.move, [.t 4], (some 59), none⟩,
 ⟨(.bin .mul), [.t 58, .t 59], (some 60), none⟩,
 ⟨.move, [.t 5], (some 61), none⟩,
 ⟨(.bin .add), [.t 60, .t 61], (some 62), none⟩,
 ⟨(.ida 1), [.t 57, .t 62], (some 63), none⟩,
 ⟨(.load none), [.t 63], (some 64), none⟩,
 ⟨(.build [(.sc (.bool false)), (.sc (.int .i64 (0)))] [(0, 1)]), [.c (.one (.sc (.bool true)))], (some 65), none⟩,
 ⟨(.bsl 2 [(.sc (.bool false)), (.sc (.int .i64 (0)))] 1 [0]), [.t 65], (some 66), none⟩,
 ⟨(.app 2 16), [.t 64, .t 66], (some 67), none⟩,
 ⟨(.ida 1), [.t 48, .t 53], (some 68), none⟩,
 ⟨(.store false 1), [.t 68, .t 67], none, none⟩]
 [⟨[0, 45], [], [45], []⟩, ⟨[45, 46], [], [46], []⟩, ⟨[46, 47], [], [47], []⟩, ⟨[47, 48], [10000], [48], []⟩, ⟨[1, 49], [], [49], []⟩, ⟨[4, 50], [], [50], []⟩, ⟨[49, 50, 51], [], [51], []⟩, ⟨[5, 52], [], [52], []⟩, ⟨[51, 52, 53], [], [53], []⟩, ⟨[0, 54], [], [54], []⟩, ⟨[54, 55], [], [55], []⟩, ⟨[55, 56], [], [56], []⟩, ⟨[56, 57], [10000], [57], []⟩, ⟨[1, 58], [], [58], []⟩, ⟨[4, 59], [], [59], []⟩, ⟨[58, 59, 60], [], [60], []⟩, ⟨[5, 61], [], [61], []⟩, ⟨[60, 61, 62], [], [62], []⟩, ⟨[57, 62, 63, 10000], [], [63], []⟩, ⟨[63, 64, 10000], [], [64], []⟩, ⟨[65], [], [65], []⟩, ⟨[65, 66], [], [66], []⟩, ⟨[64, 66, 67, 10000], [], [67, 10000], [10000]⟩, ⟨[48, 53, 68, 10000], [], [68], []⟩, ⟨[67, 68, 10000], [], [67, 10000], []⟩] [0, 1, 4, 5])
 (.reg [
 ⟨.move, [.t 0], (some 69), none⟩,
 ⟨.nilchk, [.t 69], (some 70), none⟩,
 ⟨(.fld 5), [.t 70], (some 71), none⟩,
 ⟨(.load none), [.t 71], (some 72), none⟩,
 ⟨.move, [.t 5], (some 73), none⟩,
 ⟨.move, [.t 4], (some 74), none⟩,
 ⟨(.bin .mul), [.t 73, .t 74], (some 75), none⟩,
 ⟨.move, [.t 1], (some 76), none⟩,
 ⟨(.bin .add), [.t 75, .t 76], (some 77), none⟩,
 ⟨(.ida 1), [.t 72, .t 77], (some 78), none⟩,
 ⟨(.store false 1), [.t 78, .c (.one (.sc (.bool true)))], none, none⟩]
 [0, 1, 4, 5]))
 .skip)))
 (.reg [
 ⟨.move, [.t 5], (some 40), none⟩,
 ⟨(.bin .add), [.t 40, .c (.one (.sc (.int .i64 (1))))], (some 41), none⟩,
 ⟨(.assign false), [.t 41], (some 5), none⟩]
 [0, 1, 4, 5]))))))))⟩
def c44 : Pv.Fn := ⟨1, [0, 1], [], [.t 2],
 (.seq (.reg [
 ⟨(.assign true), [.c (.one (.sc (.bool false)))], (some 2), none⟩]
 [0])
 (.seq (.drw [
 ⟨.move, [.t 0], (some 3), none⟩,
 ⟨.nilchk, [.t 3], (some 4), none⟩,
 ⟨(.fld 1), [.t 4], (some 5), none⟩,
 ⟨(.load none), [.t 5], (some 6), none⟩,
 ⟨.move, [.t 0], (some 7), none⟩,
 ⟨.nilchk, [.t 7], (some 8), none⟩,
 ⟨(.fld 0), [.t 8], (some 9), none⟩,
 ⟨(.load none), [.t 9], (some 10), none⟩,
 ⟨.len, [.t 10], (some 11), none⟩,
 ⟨(.bin .lss), [.t 6, .t 11], (some 12), none⟩,
 ⟨(.assign true), [.t 12], (some 2), none⟩]
 [⟨[0, 3], [], [3], []⟩, ⟨[3, 4], [], [4], []⟩, ⟨[4, 5], [], [5], []⟩, ⟨[5, 6, 10000], [], [6], []⟩, ⟨[0, 7], [], [7], []⟩, ⟨[7, 8], [], [8], []⟩, ⟨[8, 9], [], [9], []⟩, ⟨[9, 10, 10000], [], [10], []⟩, ⟨[10, 11], [], [11], []⟩, ⟨[6, 11, 12], [], [12], []⟩, ⟨[2, 12], [], [2], []⟩] [2])
 .ret))⟩
def c45 : Pv.Fn := ⟨1, [0, 1, 3], [], [.t 2],
 (.seq (.reg [
 ⟨(.assign true), [.c (.one (.sc (.int .i64 (0))))], (some 2), none⟩]
 [0])
 (.seq (.reg [
 ⟨(.bsl 1 [(.sc (.int .i64 (0)))] 10 [0, 1, 2, 3, 4, 5, 6, 7, 8, 9]), [.c (.one (.sc (.int .i64 (9223372036854775807)))), .c (.one (.sc (.int .i64 (-9223372036854775808)))), .c (.one (.sc (.int .i64 (2147483648)))), .c (.one (.sc (.int .i64 (-1)))), .c (.one (.sc (.int .i64 (63)))), .c (.one (.sc (.int .i64 (64)))), .c (.one (.sc (.int .i64 (-65)))), .c (.one (.sc (.int .i64 (127)))), .c (.one (.sc (.int .i64 (128)))), .c (.one (.sc (.int .i64 (1099511627776))))], (some 4), none⟩,
 ⟨(.assign false), [.t 4], (some 3), none⟩]
 [0, 3])
 (.seq (.seq (.reg [
 ⟨.move, [.t 0], (some 5), none⟩,
 ⟨(.call [] 5006 false), [.c (.one (.clo 30 [] [])), .t 5, .c (.one (.sc (.int .i64 (6))))], (some 6), none⟩,
 ⟨(.bin .eql), [.t 6, .c (.one (.sc (.int .i64 (5))))], (some 7), none⟩]
 [0, 3, 7])
 (.cond (.t 7) (.seq (.reg [
 ⟨.move, [.t 3], (some 8), none⟩,
 ⟨.move, [.t 0], (some 9), none⟩,
 ⟨.move, [.t 3], (some 10), none⟩,
 ⟨.len, [.t 10], (some 11), none⟩,
 ⟨(.call [] 5012 false), [.c (.one (.clo 30 [] [])), .t 9, .t 11], (some 12), none⟩,
 ⟨(.ida 1), [.t 8, .t 12], (some 13), none⟩,
 ⟨(.load none), [.t 13], (some 14), none⟩,
 ⟨(.assign true), [.t 14], (some 2), none⟩]
 [2])
 .ret)
 .skip))
 (.seq (.reg [
 ⟨.move, [.t 0], (some 15), none⟩,
 ⟨(.call [] 5016 false), [.c (.one (.clo 30 [] [])), .t 15, .c (.one (.sc (.int .i64 (12))))], (some 16), none⟩,
 ⟨(.bin .sub), [.t 16, .c (.one (.sc (.int .i64 (2))))], (some 17), none⟩,
 ⟨(.assign true), [.t 17], (some 2), none⟩]
 [2])
 .ret))))⟩
end Pv
