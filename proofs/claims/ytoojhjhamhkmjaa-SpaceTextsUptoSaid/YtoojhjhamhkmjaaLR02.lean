import Derived.Test.YtoojhjhamhkmjaaProg
import Derived.Test.YtoojhjhamhkmjaaLE31
set_option linter.unusedVariables false
set_option maxRecDepth 100000
namespace Go.S02
open Go Go.Eng Go.Proofs
/-- loiter/loiterlaw02.SpaceKeeps -/
def r3 : RC := (.sq (.rg [⟨(.n 2), none, (.u .mv (.c (.bool false)))⟩])
 (.sq (.sq (.rg [⟨(.t 15), none, (.call (.f 8) [])⟩,
    ⟨(.t 16), none, (.u .nt (.t 15))⟩])
  (.ite (.t 16) (.sq (.rg [⟨(.n 2), none, (.u .mv (.c (.bool false)))⟩])
   .ret) .skip))
 (.sq (.sq (.rg [⟨(.t 17), none, (.u .mv (.n 0))⟩,
    ⟨(.t 18), none, (.u .lenL (.t 17))⟩,
    ⟨(.t 19), none, (.b (.ar .gtr) (.t 18) (.c (.int .i64 262144)))⟩])
  (.ite (.t 19) (.sq (.rg [⟨(.n 2), none, (.u .mv (.c (.bool true)))⟩])
   .ret) .skip))
 (.sq (.rg [⟨(.t 21), none, (.u .mv (.n 0))⟩,
   ⟨(.t 22), none, (.u .lenL (.t 21))⟩,
   ⟨(.t 23), none, (.b (.ar .mul) (.c (.int .i64 2)) (.t 22))⟩,
   ⟨(.t 24), none, (.call (.f 9) [(.t 23)])⟩,
   ⟨(.t 20), none, (.u .mv (.t 24))⟩,
   ⟨(.t 25), none, (.u (.ex 0) (.t 20))⟩,
   ⟨(.t 26), none, (.u (.ex 1) (.t 20))⟩,
   ⟨(.n 3), none, (.u .mv (.t 25))⟩,
   ⟨(.n 4), none, (.u .mv (.t 26))⟩])
 (.sq (.sq (.rg [⟨(.t 27), none, (.u .mv (.n 3))⟩,
    ⟨(.t 28), none, (.b (.er false 0) (.t 27) (.c (.pointer none)))⟩,
    ⟨(.t 29), none, (.u .mv (.t 28))⟩,
    ⟨(.t 30), (some ((.t 29), false)), (.u .mv (.n 4))⟩,
    ⟨(.t 31), (some ((.t 29), false)), (.b (.ar .neq) (.t 30) (.c (.int .i64 0)))⟩,
    ⟨(.t 32), none, (.pk (.t 29) (.c (.bool true)) (.t 31))⟩])
  (.ite (.t 32) (.sq (.rg [⟨(.n 2), none, (.u .mv (.c (.bool false)))⟩])
   .ret) .skip))
 (.sq (.rg [⟨(.t 33), none, (.u .mv (.n 0))⟩,
   ⟨(.t 34), none, (.call (.f 10) [(.t 33)])⟩,
   ⟨(.n 5), none, (.u .mv (.t 34))⟩])
 (.sq (.rg [⟨(.t 36), none, (.u .mv (.n 3))⟩,
   ⟨(.t 37), none, (.u .mv (.n 5))⟩,
   ⟨(.t 38), none, (.u .mv (.n 0))⟩,
   ⟨(.t 39), none, (.u .lenL (.t 38))⟩,
   ⟨(.t 40), none, (.sll 3 1 (.t 37) none (some (.t 39)))⟩,
   ⟨(.t 41), none, (.call (.f 11) [(.t 36), (.t 40)])⟩,
   ⟨(.t 35), none, (.u .mv (.t 41))⟩,
   ⟨(.t 42), none, (.u (.ex 0) (.t 35))⟩,
   ⟨(.t 43), none, (.u (.ex 1) (.t 35))⟩,
   ⟨(.t 6), none, (.u .mv (.t 42))⟩,
   ⟨(.n 7), none, (.u .mv (.t 43))⟩])
 (.sq (.sq (.rg [⟨(.t 44), none, (.u .mv (.n 7))⟩,
    ⟨(.t 45), none, (.b (.ar .neq) (.t 44) (.c (.int .i64 0)))⟩,
    ⟨(.t 46), none, (.u .mv (.t 45))⟩,
    ⟨(.t 47), (some ((.t 46), false)), (.u .mv (.n 5))⟩,
    ⟨(.t 48), (some ((.t 46), false)), (.u .mv (.n 0))⟩,
    ⟨(.t 49), (some ((.t 46), false)), (.call (.f 12) [(.t 47), (.t 48)])⟩,
    ⟨(.t 50), (some ((.t 46), false)), (.u .nt (.t 49))⟩,
    ⟨(.t 51), none, (.pk (.t 46) (.c (.bool true)) (.t 50))⟩])
  (.ite (.t 51) (.sq (.rg [⟨(.n 2), none, (.u .mv (.c (.bool false)))⟩])
   .ret) .skip))
 (.sq (.sq (.rg [⟨(.n 8), none, (.u .mv (.c (.int .i64 0)))⟩])
  (.blk 0 (.loop (.sq (.sq (.rg [⟨(.t 52), none, (.u .mv (.n 8))⟩,
       ⟨(.t 53), none, (.u .mv (.n 5))⟩,
       ⟨(.t 54), none, (.u .lenL (.t 53))⟩,
       ⟨(.t 55), none, (.b (.ar .lss) (.t 52) (.t 54))⟩])
     (.ite (.t 55) .skip (.exit 0)))
    (.sq (.blk 1 (.rg [⟨(.t 58), none, (.u .mv (.n 5))⟩,
       ⟨(.t 59), none, (.u .mv (.n 8))⟩,
       ⟨(.t 60), none, (.b (.ia 1) (.t 58) (.t 59))⟩,
       ⟨.z, none, (.st 1 (.t 60) (.c (.int .i64 (-1))))⟩]))
    (.rg [⟨(.t 56), none, (.u .mv (.n 8))⟩,
     ⟨(.t 57), none, (.b (.ar .add) (.t 56) (.c (.int .i64 1)))⟩,
     ⟨(.n 8), none, (.u .mv (.t 57))⟩]))))))
 (.sq (.rg [⟨(.t 62), none, (.u .mv (.n 3))⟩,
   ⟨(.t 63), none, (.u .mv (.n 5))⟩,
   ⟨(.t 64), none, (.u .mv (.n 0))⟩,
   ⟨(.t 65), none, (.u .lenL (.t 64))⟩,
   ⟨(.t 66), none, (.sll 3 1 (.t 63) none (some (.t 65)))⟩,
   ⟨(.t 67), none, (.call (.f 11) [(.t 62), (.t 66)])⟩,
   ⟨(.t 61), none, (.u .mv (.t 67))⟩,
   ⟨(.t 68), none, (.u (.ex 0) (.t 61))⟩,
   ⟨(.t 69), none, (.u (.ex 1) (.t 61))⟩,
   ⟨(.n 7), none, (.u .mv (.t 69))⟩])
 (.sq (.sq (.rg [⟨(.n 9), none, (.u .mv (.c (.int .i64 0)))⟩])
  (.blk 2 (.loop (.sq (.sq (.rg [⟨(.t 70), none, (.u .mv (.n 9))⟩,
       ⟨(.t 71), none, (.u .mv (.n 5))⟩,
       ⟨(.t 72), none, (.u .lenL (.t 71))⟩,
       ⟨(.t 73), none, (.b (.ar .lss) (.t 70) (.t 72))⟩])
     (.ite (.t 73) .skip (.exit 2)))
    (.sq (.blk 3 (.rg [⟨(.t 76), none, (.u .mv (.n 5))⟩,
       ⟨(.t 77), none, (.u .mv (.n 9))⟩,
       ⟨(.t 78), none, (.b (.ia 1) (.t 76) (.t 77))⟩,
       ⟨.z, none, (.st 1 (.t 78) (.c (.int .i64 (-2))))⟩]))
    (.rg [⟨(.t 74), none, (.u .mv (.n 9))⟩,
     ⟨(.t 75), none, (.b (.ar .add) (.t 74) (.c (.int .i64 1)))⟩,
     ⟨(.n 9), none, (.u .mv (.t 75))⟩]))))))
 (.sq (.sq (.rg [⟨(.t 79), none, (.u .mv (.n 7))⟩,
    ⟨(.t 80), none, (.b (.ar .neq) (.t 79) (.c (.int .i64 0)))⟩])
  (.ite (.t 80) (.sq (.rg [⟨(.n 2), none, (.u .mv (.c (.bool false)))⟩])
   .ret) .skip))
 (.sq (.sq (.rg [⟨(.n 10), none, (.u .mv (.c (.int .i64 0)))⟩])
  (.blk 4 (.loop (.sq (.sq (.rg [⟨(.t 81), none, (.u .mv (.n 10))⟩,
       ⟨(.t 82), none, (.u .mv (.n 0))⟩,
       ⟨(.t 83), none, (.u .lenL (.t 82))⟩,
       ⟨(.t 84), none, (.b (.ar .lss) (.t 81) (.t 83))⟩])
     (.ite (.t 84) .skip (.exit 4)))
    (.sq (.blk 5 (.sq (.rg [⟨(.t 88), none, (.u .mv (.n 3))⟩,
        ⟨(.t 89), none, (.u .mv (.n 10))⟩,
        ⟨(.t 90), none, (.call (.f 13) [(.t 88), (.t 89)])⟩,
        ⟨(.t 87), none, (.u .mv (.t 90))⟩,
        ⟨(.t 91), none, (.u (.ex 0) (.t 87))⟩,
        ⟨(.t 92), none, (.u (.ex 1) (.t 87))⟩,
        ⟨(.n 11), none, (.u .mv (.t 91))⟩,
        ⟨(.n 12), none, (.u .mv (.t 92))⟩])
      (.sq (.rg [⟨(.t 94), none, (.u .mv (.n 3))⟩,
        ⟨(.t 95), none, (.u .mv (.n 0))⟩,
        ⟨(.t 96), none, (.u .lenL (.t 95))⟩,
        ⟨(.t 97), none, (.u .mv (.n 10))⟩,
        ⟨(.t 98), none, (.b (.ar .add) (.t 96) (.t 97))⟩,
        ⟨(.t 99), none, (.call (.f 13) [(.t 94), (.t 98)])⟩,
        ⟨(.t 93), none, (.u .mv (.t 99))⟩,
        ⟨(.t 100), none, (.u (.ex 0) (.t 93))⟩,
        ⟨(.t 101), none, (.u (.ex 1) (.t 93))⟩,
        ⟨(.n 13), none, (.u .mv (.t 100))⟩,
        ⟨(.n 14), none, (.u .mv (.t 101))⟩])
      (.sq (.rg [⟨(.t 102), none, (.u .mv (.n 11))⟩,
        ⟨(.t 103), none, (.u .mv (.n 0))⟩,
        ⟨(.t 104), none, (.u .mv (.n 10))⟩,
        ⟨(.t 105), none, (.b (.ia 1) (.t 103) (.t 104))⟩,
        ⟨(.t 106), none, (.u .ld (.t 105))⟩,
        ⟨(.t 107), none, (.b (.ar .neq) (.t 102) (.t 106))⟩,
        ⟨(.t 108), none, (.u .mv (.t 107))⟩,
        ⟨(.t 109), (some ((.t 108), false)), (.u .mv (.n 12))⟩,
        ⟨(.t 110), (some ((.t 108), false)), (.b (.ar .neq) (.t 109) (.c (.int .i64 0)))⟩,
        ⟨(.t 111), none, (.pk (.t 108) (.c (.bool true)) (.t 110))⟩,
        ⟨(.t 112), none, (.u .mv (.t 111))⟩,
        ⟨(.t 113), (some ((.t 112), false)), (.u .mv (.n 13))⟩,
        ⟨(.t 114), (some ((.t 112), false)), (.b (.ar .neq) (.t 113) (.c (.int .i64 (-1))))⟩,
        ⟨(.t 115), none, (.pk (.t 112) (.c (.bool true)) (.t 114))⟩,
        ⟨(.t 116), none, (.u .mv (.t 115))⟩,
        ⟨(.t 117), (some ((.t 116), false)), (.u .mv (.n 14))⟩,
        ⟨(.t 118), (some ((.t 116), false)), (.b (.ar .neq) (.t 117) (.c (.int .i64 0)))⟩,
        ⟨(.t 119), none, (.pk (.t 116) (.c (.bool true)) (.t 118))⟩])
      (.ite (.t 119) (.sq (.rg [⟨(.n 2), none, (.u .mv (.c (.bool false)))⟩])
       .ret) .skip)))))
    (.rg [⟨(.t 85), none, (.u .mv (.n 10))⟩,
     ⟨(.t 86), none, (.b (.ar .add) (.t 85) (.c (.int .i64 1)))⟩,
     ⟨(.n 10), none, (.u .mv (.t 86))⟩]))))))
 (.sq (.rg [⟨(.n 2), none, (.u .mv (.c (.bool true)))⟩])
 .ret))))))))))))))
theorem k3 : look1 Try.prog 3 [0, 2, 3, 4, 5, 7, 8, 9, 10, 11, 12, 13, 14] dq = some (r3, [.v (.n 2)]) := by kernel_rfl
/-- loiter/loiterlaw02.SpaceHalves -/
def r4 : RC := (.sq (.rg [⟨(.n 4), none, (.u .mv (.c (.bool false)))⟩])
 (.sq (.sq (.rg [⟨(.t 26), none, (.call (.f 8) [])⟩,
    ⟨(.t 27), none, (.u .nt (.t 26))⟩])
  (.ite (.t 27) (.sq (.rg [⟨(.n 4), none, (.u .mv (.c (.bool false)))⟩])
   .ret) .skip))
 (.sq (.rg [⟨(.t 28), none, (.u .mv (.n 0))⟩,
   ⟨(.t 29), none, (.u .lenL (.t 28))⟩,
   ⟨(.n 5), none, (.u .mv (.t 29))⟩])
 (.sq (.sq (.rg [⟨(.t 30), none, (.u .mv (.n 1))⟩,
    ⟨(.t 31), none, (.u .lenL (.t 30))⟩,
    ⟨(.t 32), none, (.u .mv (.n 5))⟩,
    ⟨(.t 33), none, (.b (.ar .gtr) (.t 31) (.t 32))⟩])
  (.ite (.t 33) (.rg [⟨(.t 34), none, (.u .mv (.n 1))⟩,
    ⟨(.t 35), none, (.u .lenL (.t 34))⟩,
    ⟨(.n 5), none, (.u .mv (.t 35))⟩]) .skip))
 (.sq (.sq (.rg [⟨(.t 36), none, (.u .mv (.n 5))⟩,
    ⟨(.t 37), none, (.b (.ar .gtr) (.t 36) (.c (.int .i64 1048576)))⟩])
  (.ite (.t 37) (.sq (.rg [⟨(.n 4), none, (.u .mv (.c (.bool true)))⟩])
   .ret) .skip))
 (.sq (.rg [⟨(.t 39), none, (.u .mv (.n 5))⟩,
   ⟨(.t 40), none, (.call (.f 9) [(.t 39)])⟩,
   ⟨(.t 38), none, (.u .mv (.t 40))⟩,
   ⟨(.t 41), none, (.u (.ex 0) (.t 38))⟩,
   ⟨(.t 42), none, (.u (.ex 1) (.t 38))⟩,
   ⟨(.n 6), none, (.u .mv (.t 41))⟩,
   ⟨(.n 7), none, (.u .mv (.t 42))⟩])
 (.sq (.sq (.rg [⟨(.t 43), none, (.u .mv (.n 6))⟩,
    ⟨(.t 44), none, (.b (.er false 0) (.t 43) (.c (.pointer none)))⟩,
    ⟨(.t 45), none, (.u .mv (.t 44))⟩,
    ⟨(.t 46), (some ((.t 45), false)), (.u .mv (.n 7))⟩,
    ⟨(.t 47), (some ((.t 45), false)), (.b (.ar .neq) (.t 46) (.c (.int .i64 0)))⟩,
    ⟨(.t 48), none, (.pk (.t 45) (.c (.bool true)) (.t 47))⟩])
  (.ite (.t 48) (.sq (.rg [⟨(.n 4), none, (.u .mv (.c (.bool false)))⟩])
   .ret) .skip))
 (.sq (.sq (.rg [⟨(.n 8), none, (.u .mv (.c (.int .i64 0)))⟩])
  (.blk 0 (.loop (.sq (.sq (.rg [⟨(.t 49), none, (.u .mv (.n 8))⟩,
       ⟨(.t 50), none, (.u .mv (.n 0))⟩,
       ⟨(.t 51), none, (.u .lenL (.t 50))⟩,
       ⟨(.t 52), none, (.b (.ar .lss) (.t 49) (.t 51))⟩])
     (.ite (.t 52) .skip (.exit 0)))
    (.sq (.blk 1 (.sq (.rg [⟨(.t 56), none, (.u .mv (.n 6))⟩,
        ⟨(.t 57), none, (.u .mv (.n 0))⟩,
        ⟨(.t 58), none, (.u .mv (.n 8))⟩,
        ⟨(.t 59), none, (.b (.ia 1) (.t 57) (.t 58))⟩,
        ⟨(.t 60), none, (.u .ld (.t 59))⟩,
        ⟨(.t 61), none, (.bsl 3 1 [(.int .i64 0)] [(0, 1, (.t 60))])⟩,
        ⟨(.t 62), none, (.call (.f 11) [(.t 56), (.t 61)])⟩,
        ⟨(.t 55), none, (.u .mv (.t 62))⟩,
        ⟨(.t 63), none, (.u (.ex 0) (.t 55))⟩,
        ⟨(.t 64), none, (.u (.ex 1) (.t 55))⟩,
        ⟨(.n 9), none, (.u .mv (.t 63))⟩,
        ⟨(.n 10), none, (.u .mv (.t 64))⟩])
      (.sq (.rg [⟨(.t 65), none, (.u .mv (.n 9))⟩,
        ⟨(.t 66), none, (.u .mv (.n 8))⟩,
        ⟨(.t 67), none, (.b (.ar .neq) (.t 65) (.t 66))⟩,
        ⟨(.t 68), none, (.u .mv (.t 67))⟩,
        ⟨(.t 69), (some ((.t 68), false)), (.u .mv (.n 10))⟩,
        ⟨(.t 70), (some ((.t 68), false)), (.b (.ar .neq) (.t 69) (.c (.int .i64 0)))⟩,
        ⟨(.t 71), none, (.pk (.t 68) (.c (.bool true)) (.t 70))⟩])
      (.ite (.t 71) (.sq (.rg [⟨(.n 4), none, (.u .mv (.c (.bool false)))⟩])
       .ret) .skip))))
    (.rg [⟨(.t 53), none, (.u .mv (.n 8))⟩,
     ⟨(.t 54), none, (.b (.ar .add) (.t 53) (.c (.int .i64 1)))⟩,
     ⟨(.n 8), none, (.u .mv (.t 54))⟩]))))))
 (.sq (.rg [⟨(.t 72), none, (.u .mv (.n 6))⟩,
   ⟨(.t 73), none, (.call (.f 14) [(.t 72)])⟩])
 (.sq (.rg [⟨(.t 75), none, (.u .mv (.n 6))⟩,
   ⟨(.t 76), none, (.u .mv (.n 1))⟩,
   ⟨(.t 77), none, (.call (.f 11) [(.t 75), (.t 76)])⟩,
   ⟨(.t 74), none, (.u .mv (.t 77))⟩,
   ⟨(.t 78), none, (.u (.ex 0) (.t 74))⟩,
   ⟨(.t 79), none, (.u (.ex 1) (.t 74))⟩,
   ⟨(.n 11), none, (.u .mv (.t 78))⟩,
   ⟨(.n 12), none, (.u .mv (.t 79))⟩])
 (.sq (.sq (.rg [⟨(.t 80), none, (.u .mv (.n 11))⟩,
    ⟨(.t 81), none, (.b (.ar .neq) (.t 80) (.c (.int .i64 0)))⟩,
    ⟨(.t 82), none, (.u .mv (.t 81))⟩,
    ⟨(.t 83), (some ((.t 82), false)), (.u .mv (.n 12))⟩,
    ⟨(.t 84), (some ((.t 82), false)), (.b (.ar .neq) (.t 83) (.c (.int .i64 0)))⟩,
    ⟨(.t 85), none, (.pk (.t 82) (.c (.bool true)) (.t 84))⟩,
    ⟨(.t 86), none, (.u .mv (.t 85))⟩,
    ⟨(.t 87), (some ((.t 86), false)), (.u .mv (.n 6))⟩,
    ⟨(.t 88), (some ((.t 86), false)), (.call (.f 15) [(.t 87)])⟩,
    ⟨(.t 89), (some ((.t 86), false)), (.u .mv (.n 1))⟩,
    ⟨(.t 90), (some ((.t 86), false)), (.u .lenL (.t 89))⟩,
    ⟨(.t 91), (some ((.t 86), false)), (.b (.ar .neq) (.t 88) (.t 90))⟩,
    ⟨(.t 92), none, (.pk (.t 86) (.c (.bool true)) (.t 91))⟩,
    ⟨(.t 93), none, (.u .mv (.t 92))⟩,
    ⟨(.t 94), (some ((.t 93), false)), (.u .mv (.n 6))⟩,
    ⟨(.t 95), (some ((.t 93), false)), (.call (.f 16) [(.t 94)])⟩,
    ⟨(.t 96), (some ((.t 93), false)), (.b (.ar .neq) (.t 95) (.c (.int .i64 1)))⟩,
    ⟨(.t 97), none, (.pk (.t 93) (.c (.bool true)) (.t 96))⟩,
    ⟨(.t 98), none, (.u .mv (.t 97))⟩,
    ⟨(.t 99), (some ((.t 98), false)), (.u .mv (.n 6))⟩,
    ⟨(.t 100), (some ((.t 98), false)), (.call (.f 17) [(.t 99)])⟩,
    ⟨(.t 101), (some ((.t 98), false)), (.u .mv (.n 5))⟩,
    ⟨(.t 102), (some ((.t 98), false)), (.b (.ar .neq) (.t 100) (.t 101))⟩,
    ⟨(.t 103), none, (.pk (.t 98) (.c (.bool true)) (.t 102))⟩])
  (.ite (.t 103) (.sq (.rg [⟨(.n 4), none, (.u .mv (.c (.bool false)))⟩])
   .ret) .skip))
 (.sq (.sq (.rg [⟨(.n 13), none, (.u .mv (.c (.int .i64 0)))⟩])
  (.blk 2 (.loop (.sq (.sq (.rg [⟨(.t 104), none, (.u .mv (.n 13))⟩,
       ⟨(.t 105), none, (.u .mv (.n 0))⟩,
       ⟨(.t 106), none, (.u .lenL (.t 105))⟩,
       ⟨(.t 107), none, (.b (.ar .lss) (.t 104) (.t 106))⟩])
     (.ite (.t 107) .skip (.exit 2)))
    (.sq (.blk 3 (.sq (.rg [⟨(.t 111), none, (.u .mv (.n 6))⟩,
        ⟨(.t 112), none, (.u .mv (.n 13))⟩,
        ⟨(.t 113), none, (.call (.f 18) [(.t 111), (.t 112)])⟩,
        ⟨(.t 110), none, (.u .mv (.t 113))⟩,
        ⟨(.t 114), none, (.u (.ex 0) (.t 110))⟩,
        ⟨(.t 115), none, (.u (.ex 1) (.t 110))⟩,
        ⟨(.n 14), none, (.u .mv (.t 114))⟩,
        ⟨(.n 15), none, (.u .mv (.t 115))⟩])
      (.sq (.sq (.rg [⟨(.t 116), none, (.u .mv (.n 14))⟩,
         ⟨(.t 117), none, (.u .mv (.n 0))⟩,
         ⟨(.t 118), none, (.u .mv (.n 13))⟩,
         ⟨(.t 119), none, (.b (.ia 1) (.t 117) (.t 118))⟩,
         ⟨(.t 120), none, (.u .ld (.t 119))⟩,
         ⟨(.t 121), none, (.b (.ar .neq) (.t 116) (.t 120))⟩,
         ⟨(.t 122), none, (.u .mv (.t 121))⟩,
         ⟨(.t 123), (some ((.t 122), false)), (.u .mv (.n 15))⟩,
         ⟨(.t 124), (some ((.t 122), false)), (.b (.ar .neq) (.t 123) (.c (.int .i64 0)))⟩,
         ⟨(.t 125), none, (.pk (.t 122) (.c (.bool true)) (.t 124))⟩])
       (.ite (.t 125) (.sq (.rg [⟨(.n 4), none, (.u .mv (.c (.bool false)))⟩])
        .ret) .skip))
      (.sq (.rg [⟨(.t 126), none, (.u .mv (.n 6))⟩,
        ⟨(.t 127), none, (.u .mv (.n 13))⟩,
        ⟨(.t 128), none, (.call (.f 19) [(.t 126), (.t 127), (.c (.int .i64 99))])⟩,
        ⟨(.n 15), none, (.u .mv (.t 128))⟩])
      (.sq (.rg [⟨(.t 129), none, (.u .mv (.n 15))⟩,
        ⟨(.t 130), none, (.b (.ar .neq) (.t 129) (.c (.int .i64 0)))⟩])
      (.ite (.t 130) (.sq (.rg [⟨(.n 4), none, (.u .mv (.c (.bool false)))⟩])
       .ret) .skip))))))
    (.rg [⟨(.t 108), none, (.u .mv (.n 13))⟩,
     ⟨(.t 109), none, (.b (.ar .add) (.t 108) (.c (.int .i64 1)))⟩,
     ⟨(.n 13), none, (.u .mv (.t 109))⟩]))))))
 (.sq (.sq (.rg [⟨(.n 16), none, (.u .mv (.c (.int .i64 0)))⟩])
  (.blk 4 (.loop (.sq (.sq (.rg [⟨(.t 131), none, (.u .mv (.n 16))⟩,
       ⟨(.t 132), none, (.u .mv (.n 1))⟩,
       ⟨(.t 133), none, (.u .lenL (.t 132))⟩,
       ⟨(.t 134), none, (.b (.ar .lss) (.t 131) (.t 133))⟩])
     (.ite (.t 134) .skip (.exit 4)))
    (.sq (.blk 5 (.sq (.rg [⟨(.t 138), none, (.u .mv (.n 6))⟩,
        ⟨(.t 139), none, (.u .mv (.n 16))⟩,
        ⟨(.t 140), none, (.call (.f 13) [(.t 138), (.t 139)])⟩,
        ⟨(.t 137), none, (.u .mv (.t 140))⟩,
        ⟨(.t 141), none, (.u (.ex 0) (.t 137))⟩,
        ⟨(.t 142), none, (.u (.ex 1) (.t 137))⟩,
        ⟨(.n 17), none, (.u .mv (.t 141))⟩,
        ⟨(.n 18), none, (.u .mv (.t 142))⟩])
      (.sq (.rg [⟨(.t 143), none, (.u .mv (.n 17))⟩,
        ⟨(.t 144), none, (.u .mv (.n 1))⟩,
        ⟨(.t 145), none, (.u .mv (.n 16))⟩,
        ⟨(.t 146), none, (.b (.ia 1) (.t 144) (.t 145))⟩,
        ⟨(.t 147), none, (.u .ld (.t 146))⟩,
        ⟨(.t 148), none, (.b (.ar .neq) (.t 143) (.t 147))⟩,
        ⟨(.t 149), none, (.u .mv (.t 148))⟩,
        ⟨(.t 150), (some ((.t 149), false)), (.u .mv (.n 18))⟩,
        ⟨(.t 151), (some ((.t 149), false)), (.b (.ar .neq) (.t 150) (.c (.int .i64 0)))⟩,
        ⟨(.t 152), none, (.pk (.t 149) (.c (.bool true)) (.t 151))⟩])
      (.ite (.t 152) (.sq (.rg [⟨(.n 4), none, (.u .mv (.c (.bool false)))⟩])
       .ret) .skip))))
    (.rg [⟨(.t 135), none, (.u .mv (.n 16))⟩,
     ⟨(.t 136), none, (.b (.ar .add) (.t 135) (.c (.int .i64 1)))⟩,
     ⟨(.n 16), none, (.u .mv (.t 136))⟩]))))))
 (.sq (.rg [⟨(.t 154), none, (.u .mv (.n 6))⟩,
   ⟨(.t 155), none, (.u .mv (.n 1))⟩,
   ⟨(.t 156), none, (.u .lenL (.t 155))⟩,
   ⟨(.t 157), none, (.call (.f 13) [(.t 154), (.t 156)])⟩,
   ⟨(.t 153), none, (.u .mv (.t 157))⟩,
   ⟨(.t 158), none, (.u (.ex 0) (.t 153))⟩,
   ⟨(.t 159), none, (.u (.ex 1) (.t 153))⟩,
   ⟨(.t 19), none, (.u .mv (.t 158))⟩,
   ⟨(.n 20), none, (.u .mv (.t 159))⟩])
 (.sq (.rg [⟨(.t 161), none, (.u .mv (.n 6))⟩,
   ⟨(.t 162), none, (.u .mv (.n 0))⟩,
   ⟨(.t 163), none, (.u .lenL (.t 162))⟩,
   ⟨(.t 164), none, (.call (.f 18) [(.t 161), (.t 163)])⟩,
   ⟨(.t 160), none, (.u .mv (.t 164))⟩,
   ⟨(.t 165), none, (.u (.ex 0) (.t 160))⟩,
   ⟨(.t 166), none, (.u (.ex 1) (.t 160))⟩,
   ⟨(.t 21), none, (.u .mv (.t 165))⟩,
   ⟨(.n 22), none, (.u .mv (.t 166))⟩])
 (.sq (.sq (.rg [⟨(.t 167), none, (.u .mv (.n 20))⟩,
    ⟨(.t 168), none, (.b (.ar .neq) (.t 167) (.c (.int .i64 2)))⟩,
    ⟨(.t 169), none, (.u .mv (.t 168))⟩,
    ⟨(.t 170), (some ((.t 169), false)), (.u .mv (.n 22))⟩,
    ⟨(.t 171), (some ((.t 169), false)), (.b (.ar .neq) (.t 170) (.c (.int .i64 2)))⟩,
    ⟨(.t 172), none, (.pk (.t 169) (.c (.bool true)) (.t 171))⟩])
  (.ite (.t 172) (.sq (.rg [⟨(.n 4), none, (.u .mv (.c (.bool false)))⟩])
   .ret) .skip))
 (.sq (.rg [⟨(.t 173), none, (.u .mv (.n 6))⟩,
   ⟨(.t 174), none, (.call (.f 14) [(.t 173)])⟩])
 (.sq (.sq (.rg [⟨(.n 23), none, (.u .mv (.c (.int .i64 0)))⟩])
  (.blk 6 (.loop (.sq (.sq (.rg [⟨(.t 175), none, (.u .mv (.n 23))⟩,
       ⟨(.t 176), none, (.u .mv (.n 1))⟩,
       ⟨(.t 177), none, (.u .lenL (.t 176))⟩,
       ⟨(.t 178), none, (.b (.ar .lss) (.t 175) (.t 177))⟩])
     (.ite (.t 178) .skip (.exit 6)))
    (.sq (.blk 7 (.sq (.rg [⟨(.t 182), none, (.u .mv (.n 6))⟩,
        ⟨(.t 183), none, (.u .mv (.n 23))⟩,
        ⟨(.t 184), none, (.call (.f 18) [(.t 182), (.t 183)])⟩,
        ⟨(.t 181), none, (.u .mv (.t 184))⟩,
        ⟨(.t 185), none, (.u (.ex 0) (.t 181))⟩,
        ⟨(.t 186), none, (.u (.ex 1) (.t 181))⟩,
        ⟨(.n 24), none, (.u .mv (.t 185))⟩,
        ⟨(.n 25), none, (.u .mv (.t 186))⟩])
      (.sq (.rg [⟨(.t 187), none, (.u .mv (.n 24))⟩,
        ⟨(.t 188), none, (.u .mv (.n 1))⟩,
        ⟨(.t 189), none, (.u .mv (.n 23))⟩,
        ⟨(.t 190), none, (.b (.ia 1) (.t 188) (.t 189))⟩,
        ⟨(.t 191), none, (.u .ld (.t 190))⟩,
        ⟨(.t 192), none, (.b (.ar .neq) (.t 187) (.t 191))⟩,
        ⟨(.t 193), none, (.u .mv (.t 192))⟩,
        ⟨(.t 194), (some ((.t 193), false)), (.u .mv (.n 25))⟩,
        ⟨(.t 195), (some ((.t 193), false)), (.b (.ar .neq) (.t 194) (.c (.int .i64 0)))⟩,
        ⟨(.t 196), none, (.pk (.t 193) (.c (.bool true)) (.t 195))⟩])
      (.ite (.t 196) (.sq (.rg [⟨(.n 4), none, (.u .mv (.c (.bool false)))⟩])
       .ret) .skip))))
    (.rg [⟨(.t 179), none, (.u .mv (.n 23))⟩,
     ⟨(.t 180), none, (.b (.ar .add) (.t 179) (.c (.int .i64 1)))⟩,
     ⟨(.n 23), none, (.u .mv (.t 180))⟩]))))))
 (.sq (.rg [⟨(.t 198), none, (.u .mv (.n 6))⟩,
   ⟨(.t 199), none, (.u .mv (.n 1))⟩,
   ⟨(.t 200), none, (.u .lenL (.t 199))⟩,
   ⟨(.t 201), none, (.call (.f 18) [(.t 198), (.t 200)])⟩,
   ⟨(.t 197), none, (.u .mv (.t 201))⟩,
   ⟨(.t 202), none, (.u (.ex 0) (.t 197))⟩,
   ⟨(.t 203), none, (.u (.ex 1) (.t 197))⟩,
   ⟨(.n 20), none, (.u .mv (.t 203))⟩])
 (.sq (.rg [⟨(.t 204), none, (.u .mv (.n 20))⟩,
   ⟨(.t 205), none, (.b (.ar .eql) (.t 204) (.c (.int .i64 2)))⟩,
   ⟨(.t 206), none, (.u .mv (.t 205))⟩,
   ⟨(.t 207), (some ((.t 206), true)), (.u .mv (.n 6))⟩,
   ⟨(.t 208), (some ((.t 206), true)), (.call (.f 15) [(.t 207)])⟩,
   ⟨(.t 209), (some ((.t 206), true)), (.b (.ar .eql) (.t 208) (.c (.int .i64 0)))⟩,
   ⟨(.t 210), none, (.pk (.t 206) (.t 209) (.c (.bool false)))⟩,
   ⟨(.t 211), none, (.u .mv (.t 210))⟩,
   ⟨(.t 212), (some ((.t 211), true)), (.u .mv (.n 6))⟩,
   ⟨(.t 213), (some ((.t 211), true)), (.call (.f 16) [(.t 212)])⟩,
   ⟨(.t 214), (some ((.t 211), true)), (.b (.ar .eql) (.t 213) (.c (.int .i64 0)))⟩,
   ⟨(.t 215), none, (.pk (.t 211) (.t 214) (.c (.bool false)))⟩,
   ⟨(.n 4), none, (.u .mv (.t 215))⟩])
 .ret))))))))))))))))))))
theorem k4 : look1 Try.prog 4 [0, 1, 4, 5, 6, 7, 8, 9, 10, 11, 12, 13, 14, 15, 16, 17, 18, 20, 22, 23, 24, 25] dq = some (r4, [.v (.n 4)]) := by kernel_rfl
/-- loiter/loiterlaw02.SpaceInts -/
def r5 : RC := (.sq (.rg [⟨(.n 4), none, (.u .mv (.c (.bool false)))⟩])
 (.sq (.sq (.rg [⟨(.t 13), none, (.call (.f 8) [])⟩,
    ⟨(.t 14), none, (.u .nt (.t 13))⟩])
  (.ite (.t 14) (.sq (.rg [⟨(.n 4), none, (.u .mv (.c (.bool false)))⟩])
   .ret) .skip))
 (.sq (.rg [⟨(.t 16), none, (.u .mv (.n 0))⟩,
   ⟨(.t 17), none, (.call (.f 9) [(.t 16)])⟩,
   ⟨(.t 15), none, (.u .mv (.t 17))⟩,
   ⟨(.t 18), none, (.u (.ex 0) (.t 15))⟩,
   ⟨(.t 19), none, (.u (.ex 1) (.t 15))⟩,
   ⟨(.n 5), none, (.u .mv (.t 18))⟩,
   ⟨(.n 6), none, (.u .mv (.t 19))⟩])
 (.sq (.rg [⟨(.t 21), none, (.u .mv (.n 0))⟩,
   ⟨(.t 22), none, (.call (.f 20) [(.t 21)])⟩,
   ⟨(.t 20), none, (.u .mv (.t 22))⟩,
   ⟨(.t 23), none, (.u (.ex 0) (.t 20))⟩,
   ⟨(.t 24), none, (.u (.ex 1) (.t 20))⟩,
   ⟨(.n 7), none, (.u .mv (.t 23))⟩,
   ⟨(.n 8), none, (.u .mv (.t 24))⟩])
 (.sq (.sq (.rg [⟨(.t 25), none, (.u .mv (.n 6))⟩,
    ⟨(.t 26), none, (.u .mv (.n 8))⟩,
    ⟨(.t 27), none, (.b (.ar .neq) (.t 25) (.t 26))⟩,
    ⟨(.t 28), none, (.u .mv (.t 27))⟩,
    ⟨(.t 29), (some ((.t 28), false)), (.u .mv (.n 5))⟩,
    ⟨(.t 30), (some ((.t 28), false)), (.b (.er false 0) (.t 29) (.c (.pointer none)))⟩,
    ⟨(.t 31), (some ((.t 28), false)), (.u .mv (.n 7))⟩,
    ⟨(.t 32), (some ((.t 28), false)), (.b (.er false 0) (.t 31) (.c (.pointer none)))⟩,
    ⟨(.t 33), (some ((.t 28), false)), (.b (.eb true) (.t 30) (.t 32))⟩,
    ⟨(.t 34), none, (.pk (.t 28) (.c (.bool true)) (.t 33))⟩])
  (.ite (.t 34) (.sq (.rg [⟨(.n 4), none, (.u .mv (.c (.bool false)))⟩])
   .ret) .skip))
 (.sq (.sq (.rg [⟨(.n 9), none, (.u .mv (.c (.int .i64 0)))⟩])
  (.blk 0 (.loop (.sq (.sq (.rg [⟨(.t 35), none, (.u .mv (.n 9))⟩,
       ⟨(.t 36), none, (.u .mv (.n 1))⟩,
       ⟨(.t 37), none, (.u .lenL (.t 36))⟩,
       ⟨(.t 38), none, (.b (.ar .lss) (.t 35) (.t 37))⟩,
       ⟨(.t 39), none, (.u .mv (.t 38))⟩,
       ⟨(.t 40), (some ((.t 39), true)), (.u .mv (.n 7))⟩,
       ⟨(.t 41), (some ((.t 39), true)), (.b (.er true 0) (.t 40) (.c (.pointer none)))⟩,
       ⟨(.t 42), none, (.pk (.t 39) (.t 41) (.c (.bool false)))⟩])
     (.ite (.t 42) .skip (.exit 0)))
    (.sq (.blk 1 (.sq (.rg [⟨(.t 45), none, (.u .mv (.n 1))⟩,
        ⟨(.t 46), none, (.u .mv (.n 9))⟩,
        ⟨(.t 47), none, (.b (.ia 4) (.t 45) (.t 46))⟩,
        ⟨(.t 48), none, (.u (.ldn 4) (.t 47))⟩,
        ⟨(.n 10), none, (.al 41 [(.int .i64 0), (.int .i64 0), (.int .i64 0), (.slice none 0 0)])⟩,
        ⟨.z, none, (.st 4 (.n 10) (.t 48))⟩])
      (.sq (.rg [⟨(.n 11), none, (.u .mv (.c (.int .i64 0)))⟩])
      (.sq (.rg [⟨(.n 12), none, (.u .mv (.c (.int .i64 0)))⟩])
      (.sq (.sq (.rg [⟨(.t 49), none, (.u (.fa 0) (.n 10))⟩,
         ⟨(.n 50), none, (.u .ld (.t 49))⟩])
       (.blk 2 (.sq (.rg [⟨(.t 52), none, (.b (.ar .eql) (.n 50) (.c (.int .i64 1)))⟩,
          ⟨(.t 51), none, (.u .mv (.t 52))⟩])
        (.ite (.t 51) (.sq (.rg [⟨(.t 54), none, (.u .mv (.n 7))⟩,
           ⟨(.t 55), none, (.u (.fa 3) (.n 10))⟩,
           ⟨(.t 56), none, (.u .ld (.t 55))⟩,
           ⟨(.t 57), none, (.call (.f 21) [(.t 54), (.t 56)])⟩,
           ⟨(.t 53), none, (.u .mv (.t 57))⟩,
           ⟨(.t 58), none, (.u (.ex 0) (.t 53))⟩,
           ⟨(.t 59), none, (.u (.ex 1) (.t 53))⟩,
           ⟨(.n 12), none, (.u .mv (.t 58))⟩,
           ⟨(.n 8), none, (.u .mv (.t 59))⟩])
         (.rg [⟨(.t 61), none, (.u .mv (.n 5))⟩,
          ⟨(.t 62), none, (.u (.fa 3) (.n 10))⟩,
          ⟨(.t 63), none, (.u .ld (.t 62))⟩,
          ⟨(.t 64), none, (.call (.f 11) [(.t 61), (.t 63)])⟩,
          ⟨(.t 60), none, (.u .mv (.t 64))⟩,
          ⟨(.t 65), none, (.u (.ex 0) (.t 60))⟩,
          ⟨(.t 66), none, (.u (.ex 1) (.t 60))⟩,
          ⟨(.n 11), none, (.u .mv (.t 65))⟩,
          ⟨(.n 6), none, (.u .mv (.t 66))⟩])) (.sq (.rg [⟨(.t 68), none, (.b (.ar .eql) (.n 50) (.c (.int .i64 2)))⟩,
           ⟨(.t 67), none, (.u .mv (.t 68))⟩])
         (.ite (.t 67) (.sq (.rg [⟨(.t 70), none, (.u .mv (.n 7))⟩,
            ⟨(.t 71), none, (.u (.fa 1) (.n 10))⟩,
            ⟨(.t 72), none, (.u .ld (.t 71))⟩,
            ⟨(.t 73), none, (.call (.f 22) [(.t 70), (.t 72)])⟩,
            ⟨(.t 69), none, (.u .mv (.t 73))⟩,
            ⟨(.t 74), none, (.u (.ex 0) (.t 69))⟩,
            ⟨(.t 75), none, (.u (.ex 1) (.t 69))⟩,
            ⟨(.n 12), none, (.u .mv (.t 74))⟩,
            ⟨(.n 8), none, (.u .mv (.t 75))⟩])
          (.rg [⟨(.t 77), none, (.u .mv (.n 5))⟩,
           ⟨(.t 78), none, (.u (.fa 1) (.n 10))⟩,
           ⟨(.t 79), none, (.u .ld (.t 78))⟩,
           ⟨(.t 80), none, (.call (.f 13) [(.t 77), (.t 79)])⟩,
           ⟨(.t 76), none, (.u .mv (.t 80))⟩,
           ⟨(.t 81), none, (.u (.ex 0) (.t 76))⟩,
           ⟨(.t 82), none, (.u (.ex 1) (.t 76))⟩,
           ⟨(.n 11), none, (.u .mv (.t 81))⟩,
           ⟨(.n 6), none, (.u .mv (.t 82))⟩])) (.sq (.rg [⟨(.t 84), none, (.b (.ar .eql) (.n 50) (.c (.int .i64 3)))⟩,
            ⟨(.t 83), none, (.u .mv (.t 84))⟩])
          (.ite (.t 83) (.sq (.rg [⟨(.t 85), none, (.u .mv (.n 7))⟩,
             ⟨(.t 86), none, (.u (.fa 1) (.n 10))⟩,
             ⟨(.t 87), none, (.u .ld (.t 86))⟩,
             ⟨(.t 88), none, (.u (.fa 2) (.n 10))⟩,
             ⟨(.t 89), none, (.u .ld (.t 88))⟩,
             ⟨(.t 90), none, (.call (.f 23) [(.t 85), (.t 87), (.t 89)])⟩,
             ⟨(.n 8), none, (.u .mv (.t 90))⟩])
           (.rg [⟨(.t 91), none, (.u .mv (.n 5))⟩,
            ⟨(.t 92), none, (.u (.fa 1) (.n 10))⟩,
            ⟨(.t 93), none, (.u .ld (.t 92))⟩,
            ⟨(.t 94), none, (.u (.fa 2) (.n 10))⟩,
            ⟨(.t 95), none, (.u .ld (.t 94))⟩,
            ⟨(.t 96), none, (.call (.f 24) [(.t 91), (.t 93), (.t 95)])⟩,
            ⟨(.n 6), none, (.u .mv (.t 96))⟩])) (.sq (.rg [⟨(.t 98), none, (.b (.ar .eql) (.n 50) (.c (.int .i64 4)))⟩,
             ⟨(.t 97), none, (.u .mv (.t 98))⟩])
           (.ite (.t 97) (.sq (.rg [⟨(.t 99), none, (.u .mv (.n 7))⟩,
              ⟨(.t 100), none, (.call (.f 25) [(.t 99)])⟩])
            (.rg [⟨(.t 101), none, (.u .mv (.n 5))⟩,
             ⟨(.t 102), none, (.call (.f 14) [(.t 101)])⟩])) (.sq (.rg [⟨(.t 104), none, (.b (.ar .eql) (.n 50) (.c (.int .i64 5)))⟩,
              ⟨(.t 103), none, (.u .mv (.t 104))⟩])
            (.ite (.t 103) (.sq (.rg [⟨(.t 106), none, (.u .mv (.n 7))⟩,
               ⟨(.t 107), none, (.u (.fa 1) (.n 10))⟩,
               ⟨(.t 108), none, (.u .ld (.t 107))⟩,
               ⟨(.t 109), none, (.call (.f 26) [(.t 106), (.t 108)])⟩,
               ⟨(.t 105), none, (.u .mv (.t 109))⟩,
               ⟨(.t 110), none, (.u (.ex 0) (.t 105))⟩,
               ⟨(.t 111), none, (.u (.ex 1) (.t 105))⟩,
               ⟨(.n 12), none, (.u .mv (.t 110))⟩,
               ⟨(.n 8), none, (.u .mv (.t 111))⟩])
             (.rg [⟨(.t 113), none, (.u .mv (.n 5))⟩,
              ⟨(.t 114), none, (.u (.fa 1) (.n 10))⟩,
              ⟨(.t 115), none, (.u .ld (.t 114))⟩,
              ⟨(.t 116), none, (.call (.f 18) [(.t 113), (.t 115)])⟩,
              ⟨(.t 112), none, (.u .mv (.t 116))⟩,
              ⟨(.t 117), none, (.u (.ex 0) (.t 112))⟩,
              ⟨(.t 118), none, (.u (.ex 1) (.t 112))⟩,
              ⟨(.n 11), none, (.u .mv (.t 117))⟩,
              ⟨(.n 6), none, (.u .mv (.t 118))⟩])) (.sq (.rg [⟨(.t 120), none, (.b (.ar .eql) (.n 50) (.c (.int .i64 6)))⟩,
               ⟨(.t 119), none, (.u .mv (.t 120))⟩])
             (.ite (.t 119) (.sq (.rg [⟨(.t 121), none, (.u .mv (.n 7))⟩,
                ⟨(.t 122), none, (.u (.fa 1) (.n 10))⟩,
                ⟨(.t 123), none, (.u .ld (.t 122))⟩,
                ⟨(.t 124), none, (.u (.fa 2) (.n 10))⟩,
                ⟨(.t 125), none, (.u .ld (.t 124))⟩,
                ⟨(.t 126), none, (.call (.f 27) [(.t 121), (.t 123), (.t 125)])⟩,
                ⟨(.n 8), none, (.u .mv (.t 126))⟩])
              (.rg [⟨(.t 127), none, (.u .mv (.n 5))⟩,
               ⟨(.t 128), none, (.u (.fa 1) (.n 10))⟩,
               ⟨(.t 129), none, (.u .ld (.t 128))⟩,
               ⟨(.t 130), none, (.u (.fa 2) (.n 10))⟩,
               ⟨(.t 131), none, (.u .ld (.t 130))⟩,
               ⟨(.t 132), none, (.call (.f 19) [(.t 127), (.t 129), (.t 131)])⟩,
               ⟨(.n 6), none, (.u .mv (.t 132))⟩])) .skip))))))))))))))
      (.sq (.rg [⟨(.t 133), none, (.u .mv (.n 11))⟩,
        ⟨(.t 134), none, (.u .mv (.n 12))⟩,
        ⟨(.t 135), none, (.b (.ar .neq) (.t 133) (.t 134))⟩,
        ⟨(.t 136), none, (.u .mv (.t 135))⟩,
        ⟨(.t 137), (some ((.t 136), false)), (.u .mv (.n 6))⟩,
        ⟨(.t 138), (some ((.t 136), false)), (.u .mv (.n 8))⟩,
        ⟨(.t 139), (some ((.t 136), false)), (.b (.ar .neq) (.t 137) (.t 138))⟩,
        ⟨(.t 140), none, (.pk (.t 136) (.c (.bool true)) (.t 139))⟩,
        ⟨(.t 141), none, (.u .mv (.t 140))⟩,
        ⟨(.t 142), (some ((.t 141), false)), (.u .mv (.n 5))⟩,
        ⟨(.t 143), (some ((.t 141), false)), (.call (.f 15) [(.t 142)])⟩,
        ⟨(.t 144), (some ((.t 141), false)), (.u .mv (.n 7))⟩,
        ⟨(.t 145), (some ((.t 141), false)), (.call (.f 28) [(.t 144)])⟩,
        ⟨(.t 146), (some ((.t 141), false)), (.b (.ar .neq) (.t 143) (.t 145))⟩,
        ⟨(.t 147), none, (.pk (.t 141) (.c (.bool true)) (.t 146))⟩,
        ⟨(.t 148), none, (.u .mv (.t 147))⟩,
        ⟨(.t 149), (some ((.t 148), false)), (.u .mv (.n 5))⟩,
        ⟨(.t 150), (some ((.t 148), false)), (.call (.f 17) [(.t 149)])⟩,
        ⟨(.t 151), (some ((.t 148), false)), (.u .mv (.n 7))⟩,
        ⟨(.t 152), (some ((.t 148), false)), (.call (.f 29) [(.t 151)])⟩,
        ⟨(.t 153), (some ((.t 148), false)), (.b (.ar .neq) (.t 150) (.t 152))⟩,
        ⟨(.t 154), none, (.pk (.t 148) (.c (.bool true)) (.t 153))⟩,
        ⟨(.t 155), none, (.u .mv (.t 154))⟩,
        ⟨(.t 156), (some ((.t 155), false)), (.u .mv (.n 5))⟩,
        ⟨(.t 157), (some ((.t 155), false)), (.call (.f 16) [(.t 156)])⟩,
        ⟨(.t 158), (some ((.t 155), false)), (.u .mv (.n 7))⟩,
        ⟨(.t 159), (some ((.t 155), false)), (.call (.f 30) [(.t 158)])⟩,
        ⟨(.t 160), (some ((.t 155), false)), (.b (.ar .neq) (.t 157) (.t 159))⟩,
        ⟨(.t 161), none, (.pk (.t 155) (.c (.bool true)) (.t 160))⟩])
      (.ite (.t 161) (.sq (.rg [⟨(.n 4), none, (.u .mv (.c (.bool false)))⟩])
       .ret) .skip)))))))
    (.rg [⟨(.t 43), none, (.u .mv (.n 9))⟩,
     ⟨(.t 44), none, (.b (.ar .add) (.t 43) (.c (.int .i64 1)))⟩,
     ⟨(.n 9), none, (.u .mv (.t 44))⟩]))))))
 (.sq (.rg [⟨(.n 4), none, (.u .mv (.c (.bool true)))⟩])
 .ret)))))))
theorem k5 : look1 Try.prog 5 [0, 1, 4, 5, 6, 7, 8, 9, 10, 11, 12, 50] dq = some (r5, [.v (.n 4)]) := by kernel_rfl
/-- loiter/space.New[int] -/
def r9 : RC := (.sq (.rg [⟨(.n 2), none, (.u .mv (.c (.pointer none)))⟩,
   ⟨(.n 3), none, (.u .mv (.c (.int .i64 0)))⟩])
 (.sq (.sq (.rg [⟨(.t 4), none, (.u .mv (.n 0))⟩,
    ⟨(.t 5), none, (.b (.ar .lss) (.t 4) (.c (.int .i64 0)))⟩,
    ⟨(.t 6), none, (.u .mv (.t 5))⟩,
    ⟨(.t 7), (some ((.t 6), false)), (.u .mv (.n 0))⟩,
    ⟨(.t 8), (some ((.t 6), false)), (.b (.ar .gtr) (.t 7) (.c (.int .i64 1048576)))⟩,
    ⟨(.t 9), none, (.pk (.t 6) (.c (.bool true)) (.t 8))⟩])
  (.ite (.t 9) (.sq (.rg [⟨(.n 2), none, (.u .mv (.c (.pointer none)))⟩,
     ⟨(.n 3), none, (.u .mv (.c (.int .i64 1)))⟩])
   .ret) .skip))
 (.sq (.rg [⟨(.t 10), none, (.u .mv (.n 0))⟩,
   ⟨(.t 11), none, (.bld [(.slice none 0 0), (.slice none 0 0), (.int .i64 0), (.int .i64 0)] [(2, 1, (.t 10))])⟩,
   ⟨(.t 12), none, (.u (.bx 66) (.t 11))⟩,
   ⟨(.n 2), none, (.u .mv (.t 12))⟩,
   ⟨(.n 3), none, (.u .mv (.c (.int .i64 0)))⟩])
 .ret)))
theorem k9 : look1 Try.prog 9 [0, 2, 3] dq = some (r9, [.v (.n 2), .v (.n 3)]) := by kernel_rfl
/-- loiter/loiterref01.Roomy -/
def r10 : RC := (.sq (.rg [⟨(.n 2), none, (.u .mv (.c (.slice none 0 0)))⟩])
 (.sq (.rg [⟨(.t 5), none, (.u .mv (.n 0))⟩,
   ⟨(.t 6), none, (.u .lenL (.t 5))⟩,
   ⟨(.t 7), none, (.b (.ar .add) (.t 6) (.c (.int .i64 20)))⟩,
   ⟨(.t 8), none, (.msl 3 [(.int .i64 0)] 8 (.c (.int .i64 0)) (.t 7))⟩,
   ⟨(.n 3), none, (.u .mv (.t 8))⟩])
 (.sq (.rg [⟨(.t 9), none, (.u .mv (.n 3))⟩,
   ⟨(.t 10), none, (.u .mv (.n 0))⟩,
   ⟨(.t 11), none, (.app false 3 1 8 [(.int .i64 0)] (.t 9) (.t 10))⟩,
   ⟨(.n 3), none, (.u .mv (.t 11))⟩])
 (.sq (.sq (.rg [⟨(.n 4), none, (.u .mv (.c (.int .i64 0)))⟩])
  (.blk 0 (.loop (.sq (.sq (.rg [⟨(.t 12), none, (.u .mv (.n 4))⟩,
       ⟨(.t 13), none, (.b (.ar .lss) (.t 12) (.c (.int .i64 20)))⟩])
     (.ite (.t 13) .skip (.exit 0)))
    (.sq (.blk 1 (.rg [⟨(.t 16), none, (.u .mv (.n 3))⟩,
       ⟨(.t 17), none, (.u .mv (.n 4))⟩,
       ⟨(.t 18), none, (.b (.ar .sub) (.c (.int .i64 (-100))) (.t 17))⟩,
       ⟨(.t 19), none, (.bsl 3 1 [(.int .i64 0)] [(0, 1, (.t 18))])⟩,
       ⟨(.t 20), none, (.app false 3 1 8 [(.int .i64 0)] (.t 16) (.t 19))⟩,
       ⟨(.n 3), none, (.u .mv (.t 20))⟩]))
    (.rg [⟨(.t 14), none, (.u .mv (.n 4))⟩,
     ⟨(.t 15), none, (.b (.ar .add) (.t 14) (.c (.int .i64 1)))⟩,
     ⟨(.n 4), none, (.u .mv (.t 15))⟩]))))))
 (.sq (.rg [⟨(.t 21), none, (.u .mv (.n 3))⟩,
   ⟨(.n 2), none, (.u .mv (.t 21))⟩])
 .ret)))))
theorem k10 : look1 Try.prog 10 [0, 2, 3, 4] dq = some (r10, [.v (.n 2)]) := by kernel_rfl
/-- (*loiter/space.Space[int]).Alloc (1 drawn) -/
def r11 : RC := (.sq (.rg [⟨(.n 4), none, (.u .mv (.c (.int .i64 0)))⟩,
   ⟨(.n 5), none, (.u .mv (.c (.int .i64 0)))⟩])
 (.sq (.sq (.rg [⟨(.t 8), none, (.u .mv (.n 0))⟩,
    ⟨(.t 9), none, (.b (.er false 0) (.t 8) (.c (.pointer none)))⟩])
  (.ite (.t 9) (.sq (.rg [⟨(.n 4), none, (.u .mv (.c (.int .i64 0)))⟩,
     ⟨(.n 5), none, (.u .mv (.c (.int .i64 1)))⟩])
   .ret) .skip))
 (.sq (.dr [(.n 0)] false [⟨⟨(.t 10), none, (.u .mv (.n 0))⟩, 0, false, [], []⟩,
   ⟨⟨(.t 11), none, (.u .mv (.n 0))⟩, 1, false, [], []⟩,
   ⟨⟨(.t 12), none, (.u .nk (.t 11))⟩, 2, false, [], []⟩,
   ⟨⟨(.t 13), none, (.u (.fa 3) (.t 12))⟩, 3, false, [], []⟩,
   ⟨⟨(.t 14), none, (.u .ld (.t 13))⟩, 4, false, [], []⟩,
   ⟨⟨(.t 15), none, (.u .nk (.t 10))⟩, 5, false, [], []⟩,
   ⟨⟨(.t 16), none, (.u (.fa 0) (.t 15))⟩, 6, false, [], []⟩,
   ⟨⟨(.t 17), none, (.b (.aa 2 1) (.t 16) (.t 14))⟩, 7, false, [], []⟩,
   ⟨⟨(.n 6), none, (.u .mv (.t 17))⟩, 8, false, [], []⟩])
 (.sq (.rg [⟨(.t 18), none, (.u .mv (.n 6))⟩,
   ⟨(.t 19), none, (.u .nk (.t 18))⟩,
   ⟨(.t 20), none, (.u (.fa 0) (.t 19))⟩,
   ⟨(.t 21), none, (.u .ld (.t 20))⟩,
   ⟨(.t 22), none, (.u .lenL (.t 21))⟩,
   ⟨(.n 7), none, (.u .mv (.t 22))⟩])
 (.sq (.sq (.rg [⟨(.t 23), none, (.u .mv (.n 1))⟩,
    ⟨(.t 24), none, (.u .lenL (.t 23))⟩,
    ⟨(.t 25), none, (.u .mv (.n 0))⟩,
    ⟨(.t 26), none, (.u .nk (.t 25))⟩,
    ⟨(.t 27), none, (.u (.fa 2) (.t 26))⟩,
    ⟨(.t 28), none, (.u .ld (.t 27))⟩,
    ⟨(.t 29), none, (.u .mv (.n 7))⟩,
    ⟨(.t 30), none, (.b (.ar .sub) (.t 28) (.t 29))⟩,
    ⟨(.t 31), none, (.b (.ar .gtr) (.t 24) (.t 30))⟩])
  (.ite (.t 31) (.sq (.rg [⟨(.n 4), none, (.u .mv (.c (.int .i64 0)))⟩,
     ⟨(.n 5), none, (.u .mv (.c (.int .i64 3)))⟩])
   .ret) .skip))
 (.sq (.rg [⟨(.t 32), none, (.u .mv (.n 6))⟩,
   ⟨(.t 33), none, (.u .mv (.n 6))⟩,
   ⟨(.t 34), none, (.u .nk (.t 33))⟩,
   ⟨(.t 35), none, (.u (.fa 0) (.t 34))⟩,
   ⟨(.t 36), none, (.u .ld (.t 35))⟩,
   ⟨(.t 37), none, (.u .mv (.n 1))⟩,
   ⟨(.t 38), none, (.app false 3 1 8 [(.int .i64 0)] (.t 36) (.t 37))⟩,
   ⟨(.t 39), none, (.u .nk (.t 32))⟩,
   ⟨(.t 40), none, (.u (.fa 0) (.t 39))⟩,
   ⟨.z, none, (.st 1 (.t 40) (.t 38))⟩])
 (.sq (.rg [⟨(.t 41), none, (.u .mv (.n 7))⟩,
   ⟨(.n 4), none, (.u .mv (.t 41))⟩,
   ⟨(.n 5), none, (.u .mv (.c (.int .i64 0)))⟩])
 .ret)))))))
theorem k11 : look1 Try.prog 11 [0, 1, 4, 5, 6, 7] dq = some (r11, [.v (.n 4), .v (.n 5)]) := by kernel_rfl
/-- loiter/loiterref01.Kept -/
def r12 : RC := (.sq (.rg [⟨(.n 4), none, (.u .mv (.c (.bool false)))⟩])
 (.sq (.sq (.rg [⟨(.t 6), none, (.u .mv (.n 0))⟩,
    ⟨(.t 7), none, (.u .lenL (.t 6))⟩,
    ⟨(.t 8), none, (.u .mv (.n 1))⟩,
    ⟨(.t 9), none, (.u .lenL (.t 8))⟩,
    ⟨(.t 10), none, (.b (.ar .add) (.t 9) (.c (.int .i64 20)))⟩,
    ⟨(.t 11), none, (.b (.ar .neq) (.t 7) (.t 10))⟩,
    ⟨(.t 12), none, (.u .mv (.t 11))⟩,
    ⟨(.t 13), (some ((.t 12), false)), (.u .mv (.n 0))⟩,
    ⟨(.t 14), (some ((.t 12), false)), (.u .mv (.n 1))⟩,
    ⟨(.t 15), (some ((.t 12), false)), (.u .lenL (.t 14))⟩,
    ⟨(.t 16), (some ((.t 12), false)), (.sll 3 1 (.t 13) none (some (.t 15)))⟩,
    ⟨(.t 17), (some ((.t 12), false)), (.u .mv (.n 1))⟩,
    ⟨(.t 18), (some ((.t 12), false)), (.call (.f 53) [(.t 16), (.t 17)])⟩,
    ⟨(.t 19), (some ((.t 12), false)), (.u .nt (.t 18))⟩,
    ⟨(.t 20), none, (.pk (.t 12) (.c (.bool true)) (.t 19))⟩])
  (.ite (.t 20) (.sq (.rg [⟨(.n 4), none, (.u .mv (.c (.bool false)))⟩])
   .ret) .skip))
 (.sq (.sq (.rg [⟨(.n 5), none, (.u .mv (.c (.int .i64 0)))⟩])
  (.blk 0 (.loop (.sq (.sq (.rg [⟨(.t 21), none, (.u .mv (.n 5))⟩,
       ⟨(.t 22), none, (.b (.ar .lss) (.t 21) (.c (.int .i64 20)))⟩])
     (.ite (.t 22) .skip (.exit 0)))
    (.sq (.blk 1 (.sq (.rg [⟨(.t 25), none, (.u .mv (.n 0))⟩,
        ⟨(.t 26), none, (.u .mv (.n 1))⟩,
        ⟨(.t 27), none, (.u .lenL (.t 26))⟩,
        ⟨(.t 28), none, (.u .mv (.n 5))⟩,
        ⟨(.t 29), none, (.b (.ar .add) (.t 27) (.t 28))⟩,
        ⟨(.t 30), none, (.b (.ia 1) (.t 25) (.t 29))⟩,
        ⟨(.t 31), none, (.u .ld (.t 30))⟩,
        ⟨(.t 32), none, (.u .mv (.n 5))⟩,
        ⟨(.t 33), none, (.b (.ar .sub) (.c (.int .i64 (-100))) (.t 32))⟩,
        ⟨(.t 34), none, (.b (.ar .neq) (.t 31) (.t 33))⟩])
      (.ite (.t 34) (.sq (.rg [⟨(.n 4), none, (.u .mv (.c (.bool false)))⟩])
       .ret) .skip)))
    (.rg [⟨(.t 23), none, (.u .mv (.n 5))⟩,
     ⟨(.t 24), none, (.b (.ar .add) (.t 23) (.c (.int .i64 1)))⟩,
     ⟨(.n 5), none, (.u .mv (.t 24))⟩]))))))
 (.sq (.rg [⟨(.n 4), none, (.u .mv (.c (.bool true)))⟩])
 .ret))))
theorem k12 : look1 Try.prog 12 [0, 1, 4, 5] dq = some (r12, [.v (.n 4)]) := by kernel_rfl
/-- (*loiter/space.Space[int]).Get (1 drawn) -/
def r13 : RC := (.sq (.rg [⟨(.n 4), none, (.u .mv (.c (.int .i64 0)))⟩,
   ⟨(.n 5), none, (.u .mv (.c (.int .i64 0)))⟩])
 (.sq (.sq (.rg [⟨(.t 6), none, (.u .mv (.n 0))⟩,
    ⟨(.t 7), none, (.b (.er false 0) (.t 6) (.c (.pointer none)))⟩])
  (.ite (.t 7) (.sq (.rg [⟨(.t 8), none, (.u .mv (.n 4))⟩,
     ⟨(.n 4), none, (.u .mv (.t 8))⟩,
     ⟨(.n 5), none, (.u .mv (.c (.int .i64 1)))⟩])
   .ret) .skip))
 (.sq (.dr [(.n 0), (.n 1)] false [⟨⟨(.t 9), none, (.u .mv (.n 0))⟩, 0, false, [], []⟩,
   ⟨⟨(.t 10), none, (.u .mv (.n 0))⟩, 1, false, [], []⟩,
   ⟨⟨(.t 11), none, (.u .nk (.t 10))⟩, 2, false, [], []⟩,
   ⟨⟨(.t 12), none, (.u (.fa 3) (.t 11))⟩, 3, false, [], []⟩,
   ⟨⟨(.t 13), none, (.u .ld (.t 12))⟩, 4, false, [], []⟩,
   ⟨⟨(.t 14), none, (.u .nk (.t 9))⟩, 5, false, [], []⟩,
   ⟨⟨(.t 15), none, (.u (.fa 0) (.t 14))⟩, 6, false, [], []⟩,
   ⟨⟨(.t 16), none, (.b (.aa 2 1) (.t 15) (.t 13))⟩, 7, false, [], []⟩,
   ⟨⟨(.t 17), none, (.u .mv (.n 1))⟩, 8, false, [], []⟩,
   ⟨⟨(.t 18), none, (.call (.f 54) [(.t 16), (.t 17)])⟩, 9, true, [], []⟩,
   ⟨⟨(.t 19), none, (.u (.ex 0) (.t 18))⟩, 10, false, [], []⟩,
   ⟨⟨(.t 20), none, (.u (.ex 1) (.t 18))⟩, 11, false, [], []⟩,
   ⟨⟨(.n 4), none, (.u .mv (.t 19))⟩, 12, false, [], []⟩,
   ⟨⟨(.n 5), none, (.u .mv (.t 20))⟩, 13, false, [], []⟩])
 .ret)))
theorem k13 : look1 Try.prog 13 [0, 1, 4, 5] dq = some (r13, [.v (.n 4), .v (.n 5)]) := by kernel_rfl
/-- (*loiter/space.Space[int]).Flip (1 drawn) -/
def r14 : RC := (.sq (.sq (.rg [⟨(.t 3), none, (.u .mv (.n 0))⟩,
    ⟨(.t 4), none, (.b (.er false 0) (.t 3) (.c (.pointer none)))⟩])
  (.ite (.t 4) .ret .skip))
 (.sq (.rg [⟨(.t 5), none, (.u .mv (.n 0))⟩,
   ⟨(.t 6), none, (.u .mv (.n 0))⟩,
   ⟨(.t 7), none, (.u .nk (.t 6))⟩,
   ⟨(.t 8), none, (.u (.fa 3) (.t 7))⟩,
   ⟨(.t 9), none, (.u .ld (.t 8))⟩,
   ⟨(.t 10), none, (.b (.ar .sub) (.c (.int .i64 1)) (.t 9))⟩,
   ⟨(.t 11), none, (.u .nk (.t 5))⟩,
   ⟨(.t 12), none, (.u (.fa 3) (.t 11))⟩,
   ⟨.z, none, (.st 1 (.t 12) (.t 10))⟩])
 (.sq (.dr [(.n 0)] false [⟨⟨(.t 13), none, (.u .mv (.n 0))⟩, 0, false, [], []⟩,
   ⟨⟨(.t 14), none, (.u .mv (.n 0))⟩, 1, false, [], []⟩,
   ⟨⟨(.t 15), none, (.u .nk (.t 14))⟩, 2, false, [], []⟩,
   ⟨⟨(.t 16), none, (.u (.fa 3) (.t 15))⟩, 3, false, [], []⟩,
   ⟨⟨(.t 17), none, (.u .ld (.t 16))⟩, 4, false, [], []⟩,
   ⟨⟨(.t 18), none, (.u .nk (.t 13))⟩, 5, false, [], []⟩,
   ⟨⟨(.t 19), none, (.u (.fa 0) (.t 18))⟩, 6, false, [], []⟩,
   ⟨⟨(.t 20), none, (.b (.aa 2 1) (.t 19) (.t 17))⟩, 7, false, [], []⟩,
   ⟨⟨(.n 2), none, (.u .mv (.t 20))⟩, 8, false, [], []⟩])
 (.sq (.rg [⟨(.t 21), none, (.u .mv (.n 2))⟩,
   ⟨(.t 22), none, (.u .nk (.t 21))⟩,
   ⟨(.t 23), none, (.u (.fa 0) (.t 22))⟩,
   ⟨(.t 24), none, (.u .ld (.t 23))⟩,
   ⟨.z, none, (.clr 3 [(.int .i64 0)] (.t 24))⟩])
 (.rg [⟨(.t 25), none, (.u .mv (.n 2))⟩,
  ⟨(.t 26), none, (.u .mv (.n 2))⟩,
  ⟨(.t 27), none, (.u .nk (.t 26))⟩,
  ⟨(.t 28), none, (.u (.fa 0) (.t 27))⟩,
  ⟨(.t 29), none, (.u .ld (.t 28))⟩,
  ⟨(.t 30), none, (.sll 3 1 (.t 29) none (some (.c (.int .i64 0))))⟩,
  ⟨(.t 31), none, (.u .nk (.t 25))⟩,
  ⟨(.t 32), none, (.u (.fa 0) (.t 31))⟩,
  ⟨.z, none, (.st 1 (.t 32) (.t 30))⟩])))))
theorem k14 : look1 Try.prog 14 [0, 2] dq = some (r14, []) := by kernel_rfl
/-- (*loiter/space.Space[int]).Used (1 drawn) -/
def r15 : RC := (.sq (.rg [⟨(.n 2), none, (.u .mv (.c (.int .i64 0)))⟩])
 (.sq (.sq (.rg [⟨(.t 3), none, (.u .mv (.n 0))⟩,
    ⟨(.t 4), none, (.b (.er false 0) (.t 3) (.c (.pointer none)))⟩])
  (.ite (.t 4) (.sq (.rg [⟨(.n 2), none, (.u .mv (.c (.int .i64 0)))⟩])
   .ret) .skip))
 (.sq (.dr [(.n 0)] false [⟨⟨(.t 5), none, (.u .mv (.n 0))⟩, 0, false, [], []⟩,
   ⟨⟨(.t 6), none, (.u .mv (.n 0))⟩, 1, false, [], []⟩,
   ⟨⟨(.t 7), none, (.u .nk (.t 6))⟩, 2, false, [], []⟩,
   ⟨⟨(.t 8), none, (.u (.fa 3) (.t 7))⟩, 3, false, [], []⟩,
   ⟨⟨(.t 9), none, (.u .ld (.t 8))⟩, 4, false, [], []⟩,
   ⟨⟨(.t 10), none, (.u .nk (.t 5))⟩, 5, false, [], []⟩,
   ⟨⟨(.t 11), none, (.u (.fa 0) (.t 10))⟩, 6, false, [], []⟩,
   ⟨⟨(.t 12), none, (.b (.aa 2 1) (.t 11) (.t 9))⟩, 7, false, [], []⟩,
   ⟨⟨(.t 13), none, (.u (.fa 0) (.t 12))⟩, 8, false, [], []⟩,
   ⟨⟨(.t 14), none, (.u .ld (.t 13))⟩, 9, false, [], []⟩,
   ⟨⟨(.t 15), none, (.u .lenL (.t 14))⟩, 10, false, [], []⟩,
   ⟨⟨(.n 2), none, (.u .mv (.t 15))⟩, 11, false, [], []⟩])
 .ret)))
theorem k15 : look1 Try.prog 15 [0, 2] dq = some (r15, [.v (.n 2)]) := by kernel_rfl
/-- (*loiter/space.Space[int]).Side -/
def r16 : RC := (.sq (.rg [⟨(.n 2), none, (.u .mv (.c (.int .i64 0)))⟩])
 (.sq (.sq (.rg [⟨(.t 3), none, (.u .mv (.n 0))⟩,
    ⟨(.t 4), none, (.b (.er false 0) (.t 3) (.c (.pointer none)))⟩])
  (.ite (.t 4) (.sq (.rg [⟨(.n 2), none, (.u .mv (.c (.int .i64 0)))⟩])
   .ret) .skip))
 (.sq (.rg [⟨(.t 5), none, (.u .mv (.n 0))⟩,
   ⟨(.t 6), none, (.u .nk (.t 5))⟩,
   ⟨(.t 7), none, (.u (.fa 3) (.t 6))⟩,
   ⟨(.t 8), none, (.u .ld (.t 7))⟩,
   ⟨(.n 2), none, (.u .mv (.t 8))⟩])
 .ret)))
theorem k16 : look1 Try.prog 16 [0, 2] dq = some (r16, [.v (.n 2)]) := by kernel_rfl
/-- (*loiter/space.Space[int]).Size -/
def r17 : RC := (.sq (.rg [⟨(.n 2), none, (.u .mv (.c (.int .i64 0)))⟩])
 (.sq (.sq (.rg [⟨(.t 3), none, (.u .mv (.n 0))⟩,
    ⟨(.t 4), none, (.b (.er false 0) (.t 3) (.c (.pointer none)))⟩])
  (.ite (.t 4) (.sq (.rg [⟨(.n 2), none, (.u .mv (.c (.int .i64 0)))⟩])
   .ret) .skip))
 (.sq (.rg [⟨(.t 5), none, (.u .mv (.n 0))⟩,
   ⟨(.t 6), none, (.u .nk (.t 5))⟩,
   ⟨(.t 7), none, (.u (.fa 2) (.t 6))⟩,
   ⟨(.t 8), none, (.u .ld (.t 7))⟩,
   ⟨(.n 2), none, (.u .mv (.t 8))⟩])
 .ret)))
theorem k17 : look1 Try.prog 17 [0, 2] dq = some (r17, [.v (.n 2)]) := by kernel_rfl
/-- (*loiter/space.Space[int]).Old (1 drawn) -/
def r18 : RC := (.sq (.rg [⟨(.n 4), none, (.u .mv (.c (.int .i64 0)))⟩,
   ⟨(.n 5), none, (.u .mv (.c (.int .i64 0)))⟩])
 (.sq (.sq (.rg [⟨(.t 6), none, (.u .mv (.n 0))⟩,
    ⟨(.t 7), none, (.b (.er false 0) (.t 6) (.c (.pointer none)))⟩])
  (.ite (.t 7) (.sq (.rg [⟨(.t 8), none, (.u .mv (.n 4))⟩,
     ⟨(.n 4), none, (.u .mv (.t 8))⟩,
     ⟨(.n 5), none, (.u .mv (.c (.int .i64 1)))⟩])
   .ret) .skip))
 (.sq (.dr [(.n 0), (.n 1)] false [⟨⟨(.t 9), none, (.u .mv (.n 0))⟩, 0, false, [], []⟩,
   ⟨⟨(.t 10), none, (.u .mv (.n 0))⟩, 1, false, [], []⟩,
   ⟨⟨(.t 11), none, (.u .nk (.t 10))⟩, 2, false, [], []⟩,
   ⟨⟨(.t 12), none, (.u (.fa 3) (.t 11))⟩, 3, false, [], []⟩,
   ⟨⟨(.t 13), none, (.u .ld (.t 12))⟩, 4, false, [], []⟩,
   ⟨⟨(.t 14), none, (.b (.ar .sub) (.c (.int .i64 1)) (.t 13))⟩, 5, false, [], []⟩,
   ⟨⟨(.t 15), none, (.u .nk (.t 9))⟩, 6, false, [], []⟩,
   ⟨⟨(.t 16), none, (.u (.fa 0) (.t 15))⟩, 7, false, [], []⟩,
   ⟨⟨(.t 17), none, (.b (.aa 2 1) (.t 16) (.t 14))⟩, 8, false, [], []⟩,
   ⟨⟨(.t 18), none, (.u .mv (.n 1))⟩, 9, false, [], []⟩,
   ⟨⟨(.t 19), none, (.call (.f 54) [(.t 17), (.t 18)])⟩, 10, true, [], []⟩,
   ⟨⟨(.t 20), none, (.u (.ex 0) (.t 19))⟩, 11, false, [], []⟩,
   ⟨⟨(.t 21), none, (.u (.ex 1) (.t 19))⟩, 12, false, [], []⟩,
   ⟨⟨(.n 4), none, (.u .mv (.t 20))⟩, 13, false, [], []⟩,
   ⟨⟨(.n 5), none, (.u .mv (.t 21))⟩, 14, false, [], []⟩])
 .ret)))
theorem k18 : look1 Try.prog 18 [0, 1, 4, 5] dq = some (r18, [.v (.n 4), .v (.n 5)]) := by kernel_rfl
/-- (*loiter/space.Space[int]).SetOld (1 drawn) -/
def r19 : RC := (.sq (.rg [⟨(.n 6), none, (.u .mv (.c (.int .i64 0)))⟩])
 (.sq (.sq (.rg [⟨(.t 7), none, (.u .mv (.n 0))⟩,
    ⟨(.t 8), none, (.b (.er false 0) (.t 7) (.c (.pointer none)))⟩])
  (.ite (.t 8) (.sq (.rg [⟨(.n 6), none, (.u .mv (.c (.int .i64 1)))⟩])
   .ret) .skip))
 (.sq (.dr [(.n 0), (.n 1), (.n 2)] false [⟨⟨(.t 9), none, (.u .mv (.n 0))⟩, 0, false, [], []⟩,
   ⟨⟨(.t 10), none, (.u .mv (.n 0))⟩, 1, false, [], []⟩,
   ⟨⟨(.t 11), none, (.u .nk (.t 10))⟩, 2, false, [], []⟩,
   ⟨⟨(.t 12), none, (.u (.fa 3) (.t 11))⟩, 3, false, [], []⟩,
   ⟨⟨(.t 13), none, (.u .ld (.t 12))⟩, 4, false, [], []⟩,
   ⟨⟨(.t 14), none, (.b (.ar .sub) (.c (.int .i64 1)) (.t 13))⟩, 5, false, [], []⟩,
   ⟨⟨(.t 15), none, (.u .nk (.t 9))⟩, 6, false, [], []⟩,
   ⟨⟨(.t 16), none, (.u (.fa 0) (.t 15))⟩, 7, false, [], []⟩,
   ⟨⟨(.t 17), none, (.b (.aa 2 1) (.t 16) (.t 14))⟩, 8, false, [], []⟩,
   ⟨⟨(.t 18), none, (.u .mv (.n 1))⟩, 9, false, [], []⟩,
   ⟨⟨(.t 19), none, (.u .mv (.n 2))⟩, 10, false, [], []⟩,
   ⟨⟨(.t 20), none, (.call (.f 55) [(.t 17), (.t 18), (.t 19)])⟩, 11, true, [], []⟩,
   ⟨⟨(.n 6), none, (.u .mv (.t 20))⟩, 12, false, [], []⟩])
 .ret)))
theorem k19 : look1 Try.prog 19 [0, 1, 2, 6] dq = some (r19, [.v (.n 6)]) := by kernel_rfl
/-- loiter/loiterref02.New -/
def r20 : RC := (.sq (.rg [⟨(.n 2), none, (.u .mv (.c (.pointer none)))⟩,
   ⟨(.n 3), none, (.u .mv (.c (.int .i64 0)))⟩])
 (.sq (.sq (.rg [⟨(.t 4), none, (.u .mv (.n 0))⟩,
    ⟨(.t 5), none, (.b (.ar .lss) (.t 4) (.c (.int .i64 0)))⟩,
    ⟨(.t 6), none, (.u .mv (.t 5))⟩,
    ⟨(.t 7), (some ((.t 6), false)), (.u .mv (.n 0))⟩,
    ⟨(.t 8), (some ((.t 6), false)), (.b (.ar .gtr) (.t 7) (.c (.int .i64 1048576)))⟩,
    ⟨(.t 9), none, (.pk (.t 6) (.c (.bool true)) (.t 8))⟩])
  (.ite (.t 9) (.sq (.rg [⟨(.n 2), none, (.u .mv (.c (.pointer none)))⟩,
     ⟨(.n 3), none, (.u .mv (.c (.int .i64 1)))⟩])
   .ret) .skip))
 (.sq (.rg [⟨(.t 10), none, (.u .mv (.n 0))⟩,
   ⟨(.t 11), none, (.bld [(.int .i64 0), (.int .i64 0), (.slice none 0 0), (.slice none 0 0)] [(0, 1, (.t 10))])⟩,
   ⟨(.t 12), none, (.u (.bx 69) (.t 11))⟩,
   ⟨(.n 2), none, (.u .mv (.t 12))⟩,
   ⟨(.n 3), none, (.u .mv (.c (.int .i64 0)))⟩])
 .ret)))
theorem k20 : look1 Try.prog 20 [0, 2, 3] dq = some (r20, [.v (.n 2), .v (.n 3)]) := by kernel_rfl
/-- (*loiter/loiterref02.Space).Alloc (1 drawn) -/
def r21 : RC := (.sq (.rg [⟨(.n 4), none, (.u .mv (.c (.int .i64 0)))⟩,
   ⟨(.n 5), none, (.u .mv (.c (.int .i64 0)))⟩])
 (.sq (.sq (.dr [(.n 1), (.n 0)] false [⟨⟨(.t 7), none, (.u .mv (.n 1))⟩, 0, false, [], []⟩,
    ⟨⟨(.t 8), none, (.u .lenL (.t 7))⟩, 1, false, [], []⟩,
    ⟨⟨(.t 9), none, (.u .mv (.n 0))⟩, 2, false, [], []⟩,
    ⟨⟨(.t 10), none, (.u .nk (.t 9))⟩, 3, false, [], []⟩,
    ⟨⟨(.t 11), none, (.u (.fa 0) (.t 10))⟩, 4, false, [], []⟩,
    ⟨⟨(.t 12), none, (.u .ld (.t 11))⟩, 5, false, [], []⟩,
    ⟨⟨(.t 13), none, (.u .mv (.n 0))⟩, 6, false, [], []⟩,
    ⟨⟨(.t 14), none, (.u .nk (.t 13))⟩, 7, false, [], []⟩,
    ⟨⟨(.t 15), none, (.u (.fa 2) (.t 14))⟩, 8, false, [], []⟩,
    ⟨⟨(.t 16), none, (.u .ld (.t 15))⟩, 9, false, [], []⟩,
    ⟨⟨(.t 17), none, (.u .lenL (.t 16))⟩, 10, false, [], []⟩,
    ⟨⟨(.t 18), none, (.b (.ar .sub) (.t 12) (.t 17))⟩, 11, false, [], []⟩,
    ⟨⟨(.t 19), none, (.b (.ar .gtr) (.t 8) (.t 18))⟩, 12, false, [], []⟩])
  (.ite (.t 19) (.sq (.rg [⟨(.n 4), none, (.u .mv (.c (.int .i64 0)))⟩,
     ⟨(.n 5), none, (.u .mv (.c (.int .i64 3)))⟩])
   .ret) .skip))
 (.sq (.rg [⟨(.t 20), none, (.u .mv (.n 0))⟩,
   ⟨(.t 21), none, (.u .nk (.t 20))⟩,
   ⟨(.t 22), none, (.u (.fa 2) (.t 21))⟩,
   ⟨(.t 23), none, (.u .ld (.t 22))⟩,
   ⟨(.t 24), none, (.u .lenL (.t 23))⟩,
   ⟨(.n 6), none, (.u .mv (.t 24))⟩])
 (.sq (.rg [⟨(.t 25), none, (.u .mv (.n 0))⟩,
   ⟨(.t 26), none, (.u .mv (.n 0))⟩,
   ⟨(.t 27), none, (.u .nk (.t 26))⟩,
   ⟨(.t 28), none, (.u (.fa 2) (.t 27))⟩,
   ⟨(.t 29), none, (.u .ld (.t 28))⟩,
   ⟨(.t 30), none, (.u .mv (.n 1))⟩,
   ⟨(.t 31), none, (.app false 3 1 8 [(.int .i64 0)] (.t 29) (.t 30))⟩,
   ⟨(.t 32), none, (.u .nk (.t 25))⟩,
   ⟨(.t 33), none, (.u (.fa 2) (.t 32))⟩,
   ⟨.z, none, (.st 1 (.t 33) (.t 31))⟩])
 (.sq (.rg [⟨(.t 34), none, (.u .mv (.n 6))⟩,
   ⟨(.n 4), none, (.u .mv (.t 34))⟩,
   ⟨(.n 5), none, (.u .mv (.c (.int .i64 0)))⟩])
 .ret)))))
theorem k21 : look1 Try.prog 21 [0, 1, 4, 5, 6] dq = some (r21, [.v (.n 4), .v (.n 5)]) := by kernel_rfl
/-- (*loiter/loiterref02.Space).Get -/
def r22 : RC := (.sq (.rg [⟨(.n 4), none, (.u .mv (.c (.int .i64 0)))⟩,
   ⟨(.n 5), none, (.u .mv (.c (.int .i64 0)))⟩])
 (.sq (.sq (.rg [⟨(.t 6), none, (.u .mv (.n 1))⟩,
    ⟨(.t 7), none, (.b (.ar .lss) (.t 6) (.c (.int .i64 0)))⟩,
    ⟨(.t 8), none, (.u .mv (.t 7))⟩,
    ⟨(.t 9), (some ((.t 8), false)), (.u .mv (.n 1))⟩,
    ⟨(.t 10), (some ((.t 8), false)), (.u .mv (.n 0))⟩,
    ⟨(.t 11), (some ((.t 8), false)), (.u .nk (.t 10))⟩,
    ⟨(.t 12), (some ((.t 8), false)), (.u (.fa 2) (.t 11))⟩,
    ⟨(.t 13), (some ((.t 8), false)), (.u .ld (.t 12))⟩,
    ⟨(.t 14), (some ((.t 8), false)), (.u .lenL (.t 13))⟩,
    ⟨(.t 15), (some ((.t 8), false)), (.b (.ar .geq) (.t 9) (.t 14))⟩,
    ⟨(.t 16), none, (.pk (.t 8) (.c (.bool true)) (.t 15))⟩])
  (.ite (.t 16) (.sq (.rg [⟨(.n 4), none, (.u .mv (.c (.int .i64 0)))⟩,
     ⟨(.n 5), none, (.u .mv (.c (.int .i64 2)))⟩])
   .ret) .skip))
 (.sq (.rg [⟨(.t 17), none, (.u .mv (.n 0))⟩,
   ⟨(.t 18), none, (.u .nk (.t 17))⟩,
   ⟨(.t 19), none, (.u (.fa 2) (.t 18))⟩,
   ⟨(.t 20), none, (.u .ld (.t 19))⟩,
   ⟨(.t 21), none, (.u .mv (.n 1))⟩,
   ⟨(.t 22), none, (.b (.ia 1) (.t 20) (.t 21))⟩,
   ⟨(.t 23), none, (.u .ld (.t 22))⟩,
   ⟨(.n 4), none, (.u .mv (.t 23))⟩,
   ⟨(.n 5), none, (.u .mv (.c (.int .i64 0)))⟩])
 .ret)))
theorem k22 : look1 Try.prog 22 [0, 1, 4, 5] dq = some (r22, [.v (.n 4), .v (.n 5)]) := by kernel_rfl
/-- (*loiter/loiterref02.Space).Set -/
def r23 : RC := (.sq (.rg [⟨(.n 6), none, (.u .mv (.c (.int .i64 0)))⟩])
 (.sq (.sq (.rg [⟨(.t 7), none, (.u .mv (.n 1))⟩,
    ⟨(.t 8), none, (.b (.ar .lss) (.t 7) (.c (.int .i64 0)))⟩,
    ⟨(.t 9), none, (.u .mv (.t 8))⟩,
    ⟨(.t 10), (some ((.t 9), false)), (.u .mv (.n 1))⟩,
    ⟨(.t 11), (some ((.t 9), false)), (.u .mv (.n 0))⟩,
    ⟨(.t 12), (some ((.t 9), false)), (.u .nk (.t 11))⟩,
    ⟨(.t 13), (some ((.t 9), false)), (.u (.fa 2) (.t 12))⟩,
    ⟨(.t 14), (some ((.t 9), false)), (.u .ld (.t 13))⟩,
    ⟨(.t 15), (some ((.t 9), false)), (.u .lenL (.t 14))⟩,
    ⟨(.t 16), (some ((.t 9), false)), (.b (.ar .geq) (.t 10) (.t 15))⟩,
    ⟨(.t 17), none, (.pk (.t 9) (.c (.bool true)) (.t 16))⟩])
  (.ite (.t 17) (.sq (.rg [⟨(.n 6), none, (.u .mv (.c (.int .i64 2)))⟩])
   .ret) .skip))
 (.sq (.rg [⟨(.t 18), none, (.u .mv (.n 0))⟩,
   ⟨(.t 19), none, (.u .nk (.t 18))⟩,
   ⟨(.t 20), none, (.u (.fa 2) (.t 19))⟩,
   ⟨(.t 21), none, (.u .ld (.t 20))⟩,
   ⟨(.t 22), none, (.u .mv (.n 1))⟩,
   ⟨(.t 23), none, (.u .mv (.n 2))⟩,
   ⟨(.t 24), none, (.b (.ia 1) (.t 21) (.t 22))⟩,
   ⟨.z, none, (.st 1 (.t 24) (.t 23))⟩])
 (.sq (.rg [⟨(.n 6), none, (.u .mv (.c (.int .i64 0)))⟩])
 .ret))))
theorem k23 : look1 Try.prog 23 [0, 1, 2, 6] dq = some (r23, [.v (.n 6)]) := by kernel_rfl
/-- (*loiter/space.Space[int]).Set (1 drawn) -/
def r24 : RC := (.sq (.rg [⟨(.n 6), none, (.u .mv (.c (.int .i64 0)))⟩])
 (.sq (.sq (.rg [⟨(.t 7), none, (.u .mv (.n 0))⟩,
    ⟨(.t 8), none, (.b (.er false 0) (.t 7) (.c (.pointer none)))⟩])
  (.ite (.t 8) (.sq (.rg [⟨(.n 6), none, (.u .mv (.c (.int .i64 1)))⟩])
   .ret) .skip))
 (.sq (.dr [(.n 0), (.n 1), (.n 2)] false [⟨⟨(.t 9), none, (.u .mv (.n 0))⟩, 0, false, [], []⟩,
   ⟨⟨(.t 10), none, (.u .mv (.n 0))⟩, 1, false, [], []⟩,
   ⟨⟨(.t 11), none, (.u .nk (.t 10))⟩, 2, false, [], []⟩,
   ⟨⟨(.t 12), none, (.u (.fa 3) (.t 11))⟩, 3, false, [], []⟩,
   ⟨⟨(.t 13), none, (.u .ld (.t 12))⟩, 4, false, [], []⟩,
   ⟨⟨(.t 14), none, (.u .nk (.t 9))⟩, 5, false, [], []⟩,
   ⟨⟨(.t 15), none, (.u (.fa 0) (.t 14))⟩, 6, false, [], []⟩,
   ⟨⟨(.t 16), none, (.b (.aa 2 1) (.t 15) (.t 13))⟩, 7, false, [], []⟩,
   ⟨⟨(.t 17), none, (.u .mv (.n 1))⟩, 8, false, [], []⟩,
   ⟨⟨(.t 18), none, (.u .mv (.n 2))⟩, 9, false, [], []⟩,
   ⟨⟨(.t 19), none, (.call (.f 55) [(.t 16), (.t 17), (.t 18)])⟩, 10, true, [], []⟩,
   ⟨⟨(.n 6), none, (.u .mv (.t 19))⟩, 11, false, [], []⟩])
 .ret)))
theorem k24 : look1 Try.prog 24 [0, 1, 2, 6] dq = some (r24, [.v (.n 6)]) := by kernel_rfl
/-- (*loiter/loiterref02.Space).Flip -/
def r25 : RC := (.sq (.rg [⟨(.t 2), none, (.u .mv (.n 0))⟩,
   ⟨(.t 3), none, (.u .mv (.n 0))⟩,
   ⟨(.t 4), none, (.u .nk (.t 3))⟩,
   ⟨(.t 5), none, (.u (.fa 2) (.t 4))⟩,
   ⟨(.t 6), none, (.u .ld (.t 5))⟩,
   ⟨(.t 7), none, (.u .nk (.t 2))⟩,
   ⟨(.t 8), none, (.u (.fa 3) (.t 7))⟩,
   ⟨.z, none, (.st 1 (.t 8) (.t 6))⟩])
 (.sq (.rg [⟨(.t 9), none, (.u .mv (.n 0))⟩,
   ⟨(.t 10), none, (.u .nk (.t 9))⟩,
   ⟨(.t 11), none, (.u (.fa 2) (.t 10))⟩,
   ⟨.z, none, (.st 1 (.t 11) (.c (.slice none 0 0)))⟩])
 (.rg [⟨(.t 12), none, (.u .mv (.n 0))⟩,
  ⟨(.t 13), none, (.u .mv (.n 0))⟩,
  ⟨(.t 14), none, (.u .nk (.t 13))⟩,
  ⟨(.t 15), none, (.u (.fa 1) (.t 14))⟩,
  ⟨(.t 16), none, (.u .ld (.t 15))⟩,
  ⟨(.t 17), none, (.b (.ar .sub) (.c (.int .i64 1)) (.t 16))⟩,
  ⟨(.t 18), none, (.u .nk (.t 12))⟩,
  ⟨(.t 19), none, (.u (.fa 1) (.t 18))⟩,
  ⟨.z, none, (.st 1 (.t 19) (.t 17))⟩])))
theorem k25 : look1 Try.prog 25 [0] dq = some (r25, []) := by kernel_rfl
/-- (*loiter/loiterref02.Space).Old -/
def r26 : RC := (.sq (.rg [⟨(.n 4), none, (.u .mv (.c (.int .i64 0)))⟩,
   ⟨(.n 5), none, (.u .mv (.c (.int .i64 0)))⟩])
 (.sq (.sq (.rg [⟨(.t 6), none, (.u .mv (.n 1))⟩,
    ⟨(.t 7), none, (.b (.ar .lss) (.t 6) (.c (.int .i64 0)))⟩,
    ⟨(.t 8), none, (.u .mv (.t 7))⟩,
    ⟨(.t 9), (some ((.t 8), false)), (.u .mv (.n 1))⟩,
    ⟨(.t 10), (some ((.t 8), false)), (.u .mv (.n 0))⟩,
    ⟨(.t 11), (some ((.t 8), false)), (.u .nk (.t 10))⟩,
    ⟨(.t 12), (some ((.t 8), false)), (.u (.fa 3) (.t 11))⟩,
    ⟨(.t 13), (some ((.t 8), false)), (.u .ld (.t 12))⟩,
    ⟨(.t 14), (some ((.t 8), false)), (.u .lenL (.t 13))⟩,
    ⟨(.t 15), (some ((.t 8), false)), (.b (.ar .geq) (.t 9) (.t 14))⟩,
    ⟨(.t 16), none, (.pk (.t 8) (.c (.bool true)) (.t 15))⟩])
  (.ite (.t 16) (.sq (.rg [⟨(.n 4), none, (.u .mv (.c (.int .i64 0)))⟩,
     ⟨(.n 5), none, (.u .mv (.c (.int .i64 2)))⟩])
   .ret) .skip))
 (.sq (.rg [⟨(.t 17), none, (.u .mv (.n 0))⟩,
   ⟨(.t 18), none, (.u .nk (.t 17))⟩,
   ⟨(.t 19), none, (.u (.fa 3) (.t 18))⟩,
   ⟨(.t 20), none, (.u .ld (.t 19))⟩,
   ⟨(.t 21), none, (.u .mv (.n 1))⟩,
   ⟨(.t 22), none, (.b (.ia 1) (.t 20) (.t 21))⟩,
   ⟨(.t 23), none, (.u .ld (.t 22))⟩,
   ⟨(.n 4), none, (.u .mv (.t 23))⟩,
   ⟨(.n 5), none, (.u .mv (.c (.int .i64 0)))⟩])
 .ret)))
theorem k26 : look1 Try.prog 26 [0, 1, 4, 5] dq = some (r26, [.v (.n 4), .v (.n 5)]) := by kernel_rfl
/-- (*loiter/loiterref02.Space).SetOld -/
def r27 : RC := (.sq (.rg [⟨(.n 6), none, (.u .mv (.c (.int .i64 0)))⟩])
 (.sq (.sq (.rg [⟨(.t 7), none, (.u .mv (.n 1))⟩,
    ⟨(.t 8), none, (.b (.ar .lss) (.t 7) (.c (.int .i64 0)))⟩,
    ⟨(.t 9), none, (.u .mv (.t 8))⟩,
    ⟨(.t 10), (some ((.t 9), false)), (.u .mv (.n 1))⟩,
    ⟨(.t 11), (some ((.t 9), false)), (.u .mv (.n 0))⟩,
    ⟨(.t 12), (some ((.t 9), false)), (.u .nk (.t 11))⟩,
    ⟨(.t 13), (some ((.t 9), false)), (.u (.fa 3) (.t 12))⟩,
    ⟨(.t 14), (some ((.t 9), false)), (.u .ld (.t 13))⟩,
    ⟨(.t 15), (some ((.t 9), false)), (.u .lenL (.t 14))⟩,
    ⟨(.t 16), (some ((.t 9), false)), (.b (.ar .geq) (.t 10) (.t 15))⟩,
    ⟨(.t 17), none, (.pk (.t 9) (.c (.bool true)) (.t 16))⟩])
  (.ite (.t 17) (.sq (.rg [⟨(.n 6), none, (.u .mv (.c (.int .i64 2)))⟩])
   .ret) .skip))
 (.sq (.rg [⟨(.t 18), none, (.u .mv (.n 0))⟩,
   ⟨(.t 19), none, (.u .nk (.t 18))⟩,
   ⟨(.t 20), none, (.u (.fa 3) (.t 19))⟩,
   ⟨(.t 21), none, (.u .ld (.t 20))⟩,
   ⟨(.t 22), none, (.u .mv (.n 1))⟩,
   ⟨(.t 23), none, (.u .mv (.n 2))⟩,
   ⟨(.t 24), none, (.b (.ia 1) (.t 21) (.t 22))⟩,
   ⟨.z, none, (.st 1 (.t 24) (.t 23))⟩])
 (.sq (.rg [⟨(.n 6), none, (.u .mv (.c (.int .i64 0)))⟩])
 .ret))))
theorem k27 : look1 Try.prog 27 [0, 1, 2, 6] dq = some (r27, [.v (.n 6)]) := by kernel_rfl
/-- (*loiter/loiterref02.Space).Used -/
def r28 : RC := (.sq (.rg [⟨(.n 2), none, (.u .mv (.c (.int .i64 0)))⟩])
 (.sq (.rg [⟨(.t 3), none, (.u .mv (.n 0))⟩,
   ⟨(.t 4), none, (.u .nk (.t 3))⟩,
   ⟨(.t 5), none, (.u (.fa 2) (.t 4))⟩,
   ⟨(.t 6), none, (.u .ld (.t 5))⟩,
   ⟨(.t 7), none, (.u .lenL (.t 6))⟩,
   ⟨(.n 2), none, (.u .mv (.t 7))⟩])
 .ret))
theorem k28 : look1 Try.prog 28 [0, 2] dq = some (r28, [.v (.n 2)]) := by kernel_rfl
/-- (*loiter/loiterref02.Space).Size -/
def r29 : RC := (.sq (.rg [⟨(.n 2), none, (.u .mv (.c (.int .i64 0)))⟩])
 (.sq (.rg [⟨(.t 3), none, (.u .mv (.n 0))⟩,
   ⟨(.t 4), none, (.u .nk (.t 3))⟩,
   ⟨(.t 5), none, (.u (.fa 0) (.t 4))⟩,
   ⟨(.t 6), none, (.u .ld (.t 5))⟩,
   ⟨(.n 2), none, (.u .mv (.t 6))⟩])
 .ret))
theorem k29 : look1 Try.prog 29 [0, 2] dq = some (r29, [.v (.n 2)]) := by kernel_rfl
/-- (*loiter/loiterref02.Space).Side -/
def r30 : RC := (.sq (.rg [⟨(.n 2), none, (.u .mv (.c (.int .i64 0)))⟩])
 (.sq (.rg [⟨(.t 3), none, (.u .mv (.n 0))⟩,
   ⟨(.t 4), none, (.u .nk (.t 3))⟩,
   ⟨(.t 5), none, (.u (.fa 1) (.t 4))⟩,
   ⟨(.t 6), none, (.u .ld (.t 5))⟩,
   ⟨(.n 2), none, (.u .mv (.t 6))⟩])
 .ret))
theorem k30 : look1 Try.prog 30 [0, 2] dq = some (r30, [.v (.n 2)]) := by kernel_rfl
/-- loiter/loiterref01.SameInts (1 drawn) -/
def r53 : RC := (.sq (.rg [⟨(.n 4), none, (.u .mv (.c (.bool false)))⟩])
 (.sq (.sq (.rg [⟨(.t 6), none, (.u .mv (.n 0))⟩,
    ⟨(.t 7), none, (.u .lenL (.t 6))⟩,
    ⟨(.t 8), none, (.u .mv (.n 1))⟩,
    ⟨(.t 9), none, (.u .lenL (.t 8))⟩,
    ⟨(.t 10), none, (.b (.ar .neq) (.t 7) (.t 9))⟩])
  (.ite (.t 10) (.sq (.rg [⟨(.n 4), none, (.u .mv (.c (.bool false)))⟩])
   .ret) .skip))
 (.sq (.sq (.rg [⟨(.n 5), none, (.u .mv (.c (.int .i64 0)))⟩])
  (.blk 0 (.loop (.sq (.sq (.rg [⟨(.t 11), none, (.u .mv (.n 5))⟩,
       ⟨(.t 12), none, (.u .mv (.n 0))⟩,
       ⟨(.t 13), none, (.u .lenL (.t 12))⟩,
       ⟨(.t 14), none, (.b (.ar .lss) (.t 11) (.t 13))⟩])
     (.ite (.t 14) .skip (.exit 0)))
    (.sq (.blk 1 (.sq (.dr [(.n 0), (.n 5), (.n 1)] false [⟨⟨(.t 17), none, (.u .mv (.n 0))⟩, 0, false, [], []⟩,
        ⟨⟨(.t 18), none, (.u .mv (.n 5))⟩, 1, false, [], []⟩,
        ⟨⟨(.t 19), none, (.b (.ia 1) (.t 17) (.t 18))⟩, 2, false, [], []⟩,
        ⟨⟨(.t 20), none, (.u .ld (.t 19))⟩, 3, false, [], []⟩,
        ⟨⟨(.t 21), none, (.u .mv (.n 1))⟩, 4, false, [], []⟩,
        ⟨⟨(.t 22), none, (.u .mv (.n 5))⟩, 5, false, [], []⟩,
        ⟨⟨(.t 23), none, (.b (.ia 1) (.t 21) (.t 22))⟩, 6, false, [], []⟩,
        ⟨⟨(.t 24), none, (.u .ld (.t 23))⟩, 7, false, [], []⟩,
        ⟨⟨(.t 25), none, (.b (.ar .neq) (.t 20) (.t 24))⟩, 8, false, [], []⟩])
      (.ite (.t 25) (.sq (.rg [⟨(.n 4), none, (.u .mv (.c (.bool false)))⟩])
       .ret) .skip)))
    (.rg [⟨(.t 15), none, (.u .mv (.n 5))⟩,
     ⟨(.t 16), none, (.b (.ar .add) (.t 15) (.c (.int .i64 1)))⟩,
     ⟨(.n 5), none, (.u .mv (.t 16))⟩]))))))
 (.sq (.rg [⟨(.n 4), none, (.u .mv (.c (.bool true)))⟩])
 .ret))))
theorem k53 : look1 Try.prog 53 [0, 1, 4, 5] dq = some (r53, [.v (.n 4)]) := by kernel_rfl
/-- (*loiter/space.half[int]).get -/
def r54 : RC := (.sq (.rg [⟨(.n 4), none, (.u .mv (.c (.int .i64 0)))⟩,
   ⟨(.n 5), none, (.u .mv (.c (.int .i64 0)))⟩])
 (.sq (.sq (.rg [⟨(.t 6), none, (.u .mv (.n 0))⟩,
    ⟨(.t 7), none, (.u .mv (.n 1))⟩,
    ⟨(.t 8), none, (.call (.f 61) [(.t 6), (.t 7)])⟩,
    ⟨(.t 9), none, (.u .nt (.t 8))⟩])
  (.ite (.t 9) (.sq (.rg [⟨(.t 10), none, (.u .mv (.n 4))⟩,
     ⟨(.n 4), none, (.u .mv (.t 10))⟩,
     ⟨(.n 5), none, (.u .mv (.c (.int .i64 2)))⟩])
   .ret) .skip))
 (.sq (.rg [⟨(.t 11), none, (.u .mv (.n 0))⟩,
   ⟨(.t 12), none, (.u .nk (.t 11))⟩,
   ⟨(.t 13), none, (.u (.fa 0) (.t 12))⟩,
   ⟨(.t 14), none, (.u .ld (.t 13))⟩,
   ⟨(.t 15), none, (.u .mv (.n 1))⟩,
   ⟨(.t 16), none, (.b (.ia 1) (.t 14) (.t 15))⟩,
   ⟨(.t 17), none, (.u .ld (.t 16))⟩,
   ⟨(.n 4), none, (.u .mv (.t 17))⟩,
   ⟨(.n 5), none, (.u .mv (.c (.int .i64 0)))⟩])
 .ret)))
theorem k54 : look1 Try.prog 54 [0, 1, 4, 5] dq = some (r54, [.v (.n 4), .v (.n 5)]) := by kernel_rfl
/-- (*loiter/space.half[int]).set -/
def r55 : RC := (.sq (.rg [⟨(.n 6), none, (.u .mv (.c (.int .i64 0)))⟩])
 (.sq (.sq (.rg [⟨(.t 7), none, (.u .mv (.n 0))⟩,
    ⟨(.t 8), none, (.u .mv (.n 1))⟩,
    ⟨(.t 9), none, (.call (.f 61) [(.t 7), (.t 8)])⟩,
    ⟨(.t 10), none, (.u .nt (.t 9))⟩])
  (.ite (.t 10) (.sq (.rg [⟨(.n 6), none, (.u .mv (.c (.int .i64 2)))⟩])
   .ret) .skip))
 (.sq (.rg [⟨(.t 11), none, (.u .mv (.n 0))⟩,
   ⟨(.t 12), none, (.u .nk (.t 11))⟩,
   ⟨(.t 13), none, (.u (.fa 0) (.t 12))⟩,
   ⟨(.t 14), none, (.u .ld (.t 13))⟩,
   ⟨(.t 15), none, (.u .mv (.n 1))⟩,
   ⟨(.t 16), none, (.u .mv (.n 2))⟩,
   ⟨(.t 17), none, (.b (.ia 1) (.t 14) (.t 15))⟩,
   ⟨.z, none, (.st 1 (.t 17) (.t 16))⟩])
 (.sq (.rg [⟨(.n 6), none, (.u .mv (.c (.int .i64 0)))⟩])
 .ret))))
theorem k55 : look1 Try.prog 55 [0, 1, 2, 6] dq = some (r55, [.v (.n 6)]) := by kernel_rfl
/-- (*loiter/space.half[int]).within -/
def r61 : RC := (.sq (.rg [⟨(.n 4), none, (.u .mv (.c (.bool false)))⟩])
 (.sq (.rg [⟨(.t 5), none, (.u .mv (.n 1))⟩,
   ⟨(.t 6), none, (.b (.ar .geq) (.t 5) (.c (.int .i64 0)))⟩,
   ⟨(.t 7), none, (.u .mv (.t 6))⟩,
   ⟨(.t 8), (some ((.t 7), true)), (.u .mv (.n 1))⟩,
   ⟨(.t 9), (some ((.t 7), true)), (.u .mv (.n 0))⟩,
   ⟨(.t 10), (some ((.t 7), true)), (.u .nk (.t 9))⟩,
   ⟨(.t 11), (some ((.t 7), true)), (.u (.fa 0) (.t 10))⟩,
   ⟨(.t 12), (some ((.t 7), true)), (.u .ld (.t 11))⟩,
   ⟨(.t 13), (some ((.t 7), true)), (.u .lenL (.t 12))⟩,
   ⟨(.t 14), (some ((.t 7), true)), (.b (.ar .lss) (.t 8) (.t 13))⟩,
   ⟨(.t 15), none, (.pk (.t 7) (.t 14) (.c (.bool false)))⟩,
   ⟨(.n 4), none, (.u .mv (.t 15))⟩])
 .ret))
theorem k61 : look1 Try.prog 61 [0, 1, 4] dq = some (r61, [.v (.n 4)]) := by kernel_rfl
end Go.S02
