import Derived.Test.YtoojhjhamhkmjaaProg
import Derived.Test.YtoojhjhamhkmjaaLE31
set_option linter.unusedVariables false
set_option maxRecDepth 100000
namespace Go.S02
open Go Go.Eng Go.Proofs
/-- loiter/loiterlaw02.SpaceTexts (2 drawn) -/
def r6 : RC := (.sq (.rg [⟨(.n 4), none, (.u .mv (.c (.bool false)))⟩])
 (.sq (.sq (.rg [⟨(.t 28), none, (.call (.f 8) [])⟩,
    ⟨(.t 29), none, (.u .nt (.t 28))⟩])
  (.ite (.t 29) (.sq (.rg [⟨(.n 4), none, (.u .mv (.c (.bool false)))⟩])
   .ret) .skip))
 (.sq (.rg [⟨(.t 31), none, (.u .mv (.n 0))⟩,
   ⟨(.t 32), none, (.call (.f 31) [(.t 31)])⟩,
   ⟨(.t 30), none, (.u .mv (.t 32))⟩,
   ⟨(.t 33), none, (.u (.ex 0) (.t 30))⟩,
   ⟨(.t 34), none, (.u (.ex 1) (.t 30))⟩,
   ⟨(.n 5), none, (.u .mv (.t 33))⟩,
   ⟨(.n 6), none, (.u .mv (.t 34))⟩])
 (.sq (.rg [⟨(.t 36), none, (.u .mv (.n 0))⟩,
   ⟨(.t 37), none, (.call (.f 20) [(.t 36)])⟩,
   ⟨(.t 35), none, (.u .mv (.t 37))⟩,
   ⟨(.t 38), none, (.u (.ex 0) (.t 35))⟩,
   ⟨(.t 39), none, (.u (.ex 1) (.t 35))⟩,
   ⟨(.n 7), none, (.u .mv (.t 38))⟩,
   ⟨(.n 8), none, (.u .mv (.t 39))⟩])
 (.sq (.sq (.rg [⟨(.t 40), none, (.u .mv (.n 6))⟩,
    ⟨(.t 41), none, (.u .mv (.n 8))⟩,
    ⟨(.t 42), none, (.b (.ar .neq) (.t 40) (.t 41))⟩,
    ⟨(.t 43), none, (.u .mv (.t 42))⟩,
    ⟨(.t 44), (some ((.t 43), false)), (.u .mv (.n 5))⟩,
    ⟨(.t 45), (some ((.t 43), false)), (.b (.er false 0) (.t 44) (.c (.pointer none)))⟩,
    ⟨(.t 46), (some ((.t 43), false)), (.u .mv (.n 7))⟩,
    ⟨(.t 47), (some ((.t 43), false)), (.b (.er false 0) (.t 46) (.c (.pointer none)))⟩,
    ⟨(.t 48), (some ((.t 43), false)), (.b (.eb true) (.t 45) (.t 47))⟩,
    ⟨(.t 49), none, (.pk (.t 43) (.c (.bool true)) (.t 48))⟩])
  (.ite (.t 49) (.sq (.rg [⟨(.n 4), none, (.u .mv (.c (.bool false)))⟩])
   .ret) .skip))
 (.sq (.sq (.rg [⟨(.n 9), none, (.u .mv (.c (.int .i64 0)))⟩])
  (.blk 0 (.loop (.sq (.sq (.rg [⟨(.t 50), none, (.u .mv (.n 9))⟩,
       ⟨(.t 51), none, (.u .mv (.n 1))⟩,
       ⟨(.t 52), none, (.u .lenL (.t 51))⟩,
       ⟨(.t 53), none, (.b (.ar .lss) (.t 50) (.t 52))⟩,
       ⟨(.t 54), none, (.u .mv (.t 53))⟩,
       ⟨(.t 55), (some ((.t 54), true)), (.u .mv (.n 7))⟩,
       ⟨(.t 56), (some ((.t 54), true)), (.b (.er true 0) (.t 55) (.c (.pointer none)))⟩,
       ⟨(.t 57), none, (.pk (.t 54) (.t 56) (.c (.bool false)))⟩])
     (.ite (.t 57) .skip (.exit 0)))
    (.sq (.blk 1 (.sq (.rg [⟨(.t 60), none, (.u .mv (.n 1))⟩,
        ⟨(.t 61), none, (.u .mv (.n 9))⟩,
        ⟨(.t 62), none, (.b (.ia 4) (.t 60) (.t 61))⟩,
        ⟨(.t 63), none, (.u (.ldn 4) (.t 62))⟩,
        ⟨(.n 10), none, (.al 41 [(.int .i64 0), (.int .i64 0), (.int .i64 0), (.slice none 0 0)])⟩,
        ⟨.z, none, (.st 4 (.n 10) (.t 63))⟩])
      (.sq (.rg [⟨(.n 11), none, (.u .mv (.c (.bool true)))⟩])
      (.sq (.sq (.rg [⟨(.t 64), none, (.u (.fa 0) (.n 10))⟩,
         ⟨(.n 65), none, (.u .ld (.t 64))⟩])
       (.blk 2 (.sq (.rg [⟨(.t 67), none, (.b (.ar .eql) (.n 65) (.c (.int .i64 1)))⟩,
          ⟨(.t 66), none, (.u .mv (.t 67))⟩])
        (.ite (.t 66) (.sq (.rg [⟨(.t 69), none, (.u .mv (.n 7))⟩,
           ⟨(.t 70), none, (.u (.fa 3) (.n 10))⟩,
           ⟨(.t 71), none, (.u .ld (.t 70))⟩,
           ⟨(.t 72), none, (.call (.f 21) [(.t 69), (.t 71)])⟩,
           ⟨(.t 68), none, (.u .mv (.t 72))⟩,
           ⟨(.t 73), none, (.u (.ex 0) (.t 68))⟩,
           ⟨(.t 74), none, (.u (.ex 1) (.t 68))⟩,
           ⟨(.n 12), none, (.u .mv (.t 73))⟩,
           ⟨(.n 13), none, (.u .mv (.t 74))⟩])
         (.sq (.rg [⟨(.t 76), none, (.u .mv (.n 5))⟩,
           ⟨(.t 77), none, (.u (.fa 3) (.n 10))⟩,
           ⟨(.t 78), none, (.u .ld (.t 77))⟩,
           ⟨(.t 79), none, (.call (.f 33) [(.t 78)])⟩,
           ⟨(.t 80), none, (.call (.f 32) [(.t 76), (.t 79)])⟩,
           ⟨(.t 75), none, (.u .mv (.t 80))⟩,
           ⟨(.t 81), none, (.u (.ex 0) (.t 75))⟩,
           ⟨(.t 82), none, (.u (.ex 1) (.t 75))⟩,
           ⟨(.n 14), none, (.u .mv (.t 81))⟩,
           ⟨(.n 15), none, (.u .mv (.t 82))⟩])
         (.rg [⟨(.t 83), none, (.u .mv (.n 14))⟩,
          ⟨(.t 84), none, (.u .mv (.n 12))⟩,
          ⟨(.t 85), none, (.b (.ar .eql) (.t 83) (.t 84))⟩,
          ⟨(.t 86), none, (.u .mv (.t 85))⟩,
          ⟨(.t 87), (some ((.t 86), true)), (.u .mv (.n 13))⟩,
          ⟨(.t 88), (some ((.t 86), true)), (.u .mv (.n 15))⟩,
          ⟨(.t 89), (some ((.t 86), true)), (.b (.ar .eql) (.t 87) (.t 88))⟩,
          ⟨(.t 90), none, (.pk (.t 86) (.t 89) (.c (.bool false)))⟩,
          ⟨(.n 11), none, (.u .mv (.t 90))⟩]))) (.sq (.rg [⟨(.t 92), none, (.b (.ar .eql) (.n 65) (.c (.int .i64 2)))⟩,
           ⟨(.t 91), none, (.u .mv (.t 92))⟩])
         (.ite (.t 91) (.sq (.rg [⟨(.t 94), none, (.u .mv (.n 7))⟩,
            ⟨(.t 95), none, (.u (.fa 1) (.n 10))⟩,
            ⟨(.t 96), none, (.u .ld (.t 95))⟩,
            ⟨(.t 97), none, (.call (.f 22) [(.t 94), (.t 96)])⟩,
            ⟨(.t 93), none, (.u .mv (.t 97))⟩,
            ⟨(.t 98), none, (.u (.ex 0) (.t 93))⟩,
            ⟨(.t 99), none, (.u (.ex 1) (.t 93))⟩,
            ⟨(.n 16), none, (.u .mv (.t 98))⟩,
            ⟨(.n 17), none, (.u .mv (.t 99))⟩])
          (.sq (.rg [⟨(.t 101), none, (.u .mv (.n 5))⟩,
            ⟨(.t 102), none, (.u (.fa 1) (.n 10))⟩,
            ⟨(.t 103), none, (.u .ld (.t 102))⟩,
            ⟨(.t 104), none, (.call (.f 34) [(.t 101), (.t 103)])⟩,
            ⟨(.t 100), none, (.u .mv (.t 104))⟩,
            ⟨(.t 105), none, (.u (.ex 0) (.t 100))⟩,
            ⟨(.t 106), none, (.u (.ex 1) (.t 100))⟩,
            ⟨(.n 18), none, (.u .mv (.t 105))⟩,
            ⟨(.n 19), none, (.u .mv (.t 106))⟩])
          (.rg [⟨(.t 107), none, (.u .mv (.n 18))⟩,
           ⟨(.t 108), none, (.u .mv (.n 16))⟩,
           ⟨(.t 109), none, (.u .mv (.n 17))⟩,
           ⟨(.t 110), none, (.call (.f 35) [(.t 107), (.t 108), (.t 109)])⟩,
           ⟨(.t 111), none, (.u .mv (.t 110))⟩,
           ⟨(.t 112), (some ((.t 111), true)), (.u .mv (.n 17))⟩,
           ⟨(.t 113), (some ((.t 111), true)), (.u .mv (.n 19))⟩,
           ⟨(.t 114), (some ((.t 111), true)), (.b (.ar .eql) (.t 112) (.t 113))⟩,
           ⟨(.t 115), none, (.pk (.t 111) (.t 114) (.c (.bool false)))⟩,
           ⟨(.n 11), none, (.u .mv (.t 115))⟩]))) (.sq (.rg [⟨(.t 117), none, (.b (.ar .eql) (.n 65) (.c (.int .i64 3)))⟩,
            ⟨(.t 116), none, (.u .mv (.t 117))⟩])
          (.ite (.t 116) (.sq (.rg [⟨(.t 118), none, (.u .mv (.n 7))⟩,
             ⟨(.t 119), none, (.u (.fa 1) (.n 10))⟩,
             ⟨(.t 120), none, (.u .ld (.t 119))⟩,
             ⟨(.t 121), none, (.u (.fa 2) (.n 10))⟩,
             ⟨(.t 122), none, (.u .ld (.t 121))⟩,
             ⟨(.t 123), none, (.call (.f 23) [(.t 118), (.t 120), (.t 122)])⟩,
             ⟨(.n 20), none, (.u .mv (.t 123))⟩])
           (.sq (.dr [(.n 5), (.n 10)] false [⟨⟨(.t 124), none, (.u .mv (.n 5))⟩, 0, false, [], []⟩,
             ⟨⟨(.t 125), none, (.u (.fa 1) (.n 10))⟩, 1, false, [], []⟩,
             ⟨⟨(.t 126), none, (.u .ld (.t 125))⟩, 2, false, [], []⟩,
             ⟨⟨(.t 127), none, (.u (.fa 2) (.n 10))⟩, 3, false, [], []⟩,
             ⟨⟨(.t 128), none, (.u .ld (.t 127))⟩, 4, false, [], []⟩,
             ⟨⟨(.t 129), none, (.call (.f 37) [(.t 128)])⟩, 5, true, [2], []⟩,
             ⟨⟨(.t 130), none, (.call (.f 36) [(.t 124), (.t 126), (.t 129)])⟩, 6, true, [], []⟩,
             ⟨⟨(.n 21), none, (.u .mv (.t 130))⟩, 7, false, [], []⟩])
           (.rg [⟨(.t 131), none, (.u .mv (.n 20))⟩,
            ⟨(.t 132), none, (.u .mv (.n 21))⟩,
            ⟨(.t 133), none, (.b (.ar .eql) (.t 131) (.t 132))⟩,
            ⟨(.n 11), none, (.u .mv (.t 133))⟩]))) (.sq (.rg [⟨(.t 135), none, (.b (.ar .eql) (.n 65) (.c (.int .i64 4)))⟩,
             ⟨(.t 134), none, (.u .mv (.t 135))⟩])
           (.ite (.t 134) (.sq (.rg [⟨(.t 136), none, (.u .mv (.n 7))⟩,
              ⟨(.t 137), none, (.call (.f 25) [(.t 136)])⟩])
            (.rg [⟨(.t 138), none, (.u .mv (.n 5))⟩,
             ⟨(.t 139), none, (.call (.f 38) [(.t 138)])⟩])) (.sq (.rg [⟨(.t 141), none, (.b (.ar .eql) (.n 65) (.c (.int .i64 5)))⟩,
              ⟨(.t 140), none, (.u .mv (.t 141))⟩])
            (.ite (.t 140) (.sq (.rg [⟨(.t 143), none, (.u .mv (.n 7))⟩,
               ⟨(.t 144), none, (.u (.fa 1) (.n 10))⟩,
               ⟨(.t 145), none, (.u .ld (.t 144))⟩,
               ⟨(.t 146), none, (.call (.f 26) [(.t 143), (.t 145)])⟩,
               ⟨(.t 142), none, (.u .mv (.t 146))⟩,
               ⟨(.t 147), none, (.u (.ex 0) (.t 142))⟩,
               ⟨(.t 148), none, (.u (.ex 1) (.t 142))⟩,
               ⟨(.n 22), none, (.u .mv (.t 147))⟩,
               ⟨(.n 23), none, (.u .mv (.t 148))⟩])
             (.sq (.rg [⟨(.t 150), none, (.u .mv (.n 5))⟩,
               ⟨(.t 151), none, (.u (.fa 1) (.n 10))⟩,
               ⟨(.t 152), none, (.u .ld (.t 151))⟩,
               ⟨(.t 153), none, (.call (.f 39) [(.t 150), (.t 152)])⟩,
               ⟨(.t 149), none, (.u .mv (.t 153))⟩,
               ⟨(.t 154), none, (.u (.ex 0) (.t 149))⟩,
               ⟨(.t 155), none, (.u (.ex 1) (.t 149))⟩,
               ⟨(.n 24), none, (.u .mv (.t 154))⟩,
               ⟨(.n 25), none, (.u .mv (.t 155))⟩])
             (.rg [⟨(.t 156), none, (.u .mv (.n 24))⟩,
              ⟨(.t 157), none, (.u .mv (.n 22))⟩,
              ⟨(.t 158), none, (.u .mv (.n 23))⟩,
              ⟨(.t 159), none, (.call (.f 35) [(.t 156), (.t 157), (.t 158)])⟩,
              ⟨(.t 160), none, (.u .mv (.t 159))⟩,
              ⟨(.t 161), (some ((.t 160), true)), (.u .mv (.n 23))⟩,
              ⟨(.t 162), (some ((.t 160), true)), (.u .mv (.n 25))⟩,
              ⟨(.t 163), (some ((.t 160), true)), (.b (.ar .eql) (.t 161) (.t 162))⟩,
              ⟨(.t 164), none, (.pk (.t 160) (.t 163) (.c (.bool false)))⟩,
              ⟨(.n 11), none, (.u .mv (.t 164))⟩]))) (.sq (.rg [⟨(.t 166), none, (.b (.ar .eql) (.n 65) (.c (.int .i64 6)))⟩,
               ⟨(.t 165), none, (.u .mv (.t 166))⟩])
             (.ite (.t 165) (.sq (.rg [⟨(.t 167), none, (.u .mv (.n 7))⟩,
                ⟨(.t 168), none, (.u (.fa 1) (.n 10))⟩,
                ⟨(.t 169), none, (.u .ld (.t 168))⟩,
                ⟨(.t 170), none, (.u (.fa 2) (.n 10))⟩,
                ⟨(.t 171), none, (.u .ld (.t 170))⟩,
                ⟨(.t 172), none, (.call (.f 27) [(.t 167), (.t 169), (.t 171)])⟩,
                ⟨(.n 26), none, (.u .mv (.t 172))⟩])
              (.sq (.dr [(.n 5), (.n 10)] false [⟨⟨(.t 173), none, (.u .mv (.n 5))⟩, 0, false, [], []⟩,
                ⟨⟨(.t 174), none, (.u (.fa 1) (.n 10))⟩, 1, false, [], []⟩,
                ⟨⟨(.t 175), none, (.u .ld (.t 174))⟩, 2, false, [], []⟩,
                ⟨⟨(.t 176), none, (.u (.fa 2) (.n 10))⟩, 3, false, [], []⟩,
                ⟨⟨(.t 177), none, (.u .ld (.t 176))⟩, 4, false, [], []⟩,
                ⟨⟨(.t 178), none, (.call (.f 37) [(.t 177)])⟩, 5, true, [2], []⟩,
                ⟨⟨(.t 179), none, (.call (.f 40) [(.t 173), (.t 175), (.t 178)])⟩, 6, true, [], []⟩,
                ⟨⟨(.n 27), none, (.u .mv (.t 179))⟩, 7, false, [], []⟩])
              (.rg [⟨(.t 180), none, (.u .mv (.n 26))⟩,
               ⟨(.t 181), none, (.u .mv (.n 27))⟩,
               ⟨(.t 182), none, (.b (.ar .eql) (.t 180) (.t 181))⟩,
               ⟨(.n 11), none, (.u .mv (.t 182))⟩]))) .skip))))))))))))))
      (.sq (.rg [⟨(.t 183), none, (.u .mv (.n 11))⟩,
        ⟨(.t 184), none, (.u .nt (.t 183))⟩,
        ⟨(.t 185), none, (.u .mv (.t 184))⟩,
        ⟨(.t 186), (some ((.t 185), false)), (.u .mv (.n 5))⟩,
        ⟨(.t 187), (some ((.t 185), false)), (.call (.f 41) [(.t 186)])⟩,
        ⟨(.t 188), (some ((.t 185), false)), (.u .mv (.n 7))⟩,
        ⟨(.t 189), (some ((.t 185), false)), (.call (.f 28) [(.t 188)])⟩,
        ⟨(.t 190), (some ((.t 185), false)), (.b (.ar .neq) (.t 187) (.t 189))⟩,
        ⟨(.t 191), none, (.pk (.t 185) (.c (.bool true)) (.t 190))⟩,
        ⟨(.t 192), none, (.u .mv (.t 191))⟩,
        ⟨(.t 193), (some ((.t 192), false)), (.u .mv (.n 5))⟩,
        ⟨(.t 194), (some ((.t 192), false)), (.call (.f 42) [(.t 193)])⟩,
        ⟨(.t 195), (some ((.t 192), false)), (.u .mv (.n 7))⟩,
        ⟨(.t 196), (some ((.t 192), false)), (.call (.f 29) [(.t 195)])⟩,
        ⟨(.t 197), (some ((.t 192), false)), (.b (.ar .neq) (.t 194) (.t 196))⟩,
        ⟨(.t 198), none, (.pk (.t 192) (.c (.bool true)) (.t 197))⟩,
        ⟨(.t 199), none, (.u .mv (.t 198))⟩,
        ⟨(.t 200), (some ((.t 199), false)), (.u .mv (.n 5))⟩,
        ⟨(.t 201), (some ((.t 199), false)), (.call (.f 43) [(.t 200)])⟩,
        ⟨(.t 202), (some ((.t 199), false)), (.u .mv (.n 7))⟩,
        ⟨(.t 203), (some ((.t 199), false)), (.call (.f 30) [(.t 202)])⟩,
        ⟨(.t 204), (some ((.t 199), false)), (.b (.ar .neq) (.t 201) (.t 203))⟩,
        ⟨(.t 205), none, (.pk (.t 199) (.c (.bool true)) (.t 204))⟩])
      (.ite (.t 205) (.sq (.rg [⟨(.n 4), none, (.u .mv (.c (.bool false)))⟩])
       .ret) .skip))))))
    (.rg [⟨(.t 58), none, (.u .mv (.n 9))⟩,
     ⟨(.t 59), none, (.b (.ar .add) (.t 58) (.c (.int .i64 1)))⟩,
     ⟨(.n 9), none, (.u .mv (.t 59))⟩]))))))
 (.sq (.rg [⟨(.n 4), none, (.u .mv (.c (.bool true)))⟩])
 .ret)))))))
theorem k6 : look1 Try.prog 6 [0, 1, 4, 5, 6, 7, 8, 9, 10, 11, 12, 13, 14, 15, 16, 17, 18, 19, 20, 21, 22, 23, 24, 25, 26, 27, 65] dq = some (r6, [.v (.n 4)]) := by kernel_rfl
/-- loiter/space.New[string] -/
def r31 : RC := (.sq (.rg [⟨(.n 2), none, (.u .mv (.c (.pointer none)))⟩,
   ⟨(.n 3), none, (.u .mv (.c (.int .i64 0)))⟩])
 (.sq (.sq (.rg [⟨(.t 4), none, (.u .mv (.n 0))⟩,
    ⟨(.t 5), none, (.b (.ar .lss) (.t 4) (.c (.int .i64 0)))⟩,
    ⟨(.t 6), none, (.u .mv (.t 5))⟩,
    ⟨(.t 7), (some ((.t 6), false)), (.u .mv (.n 0))⟩,
    ⟨(.t 8), (some ((.t 6), false)), (.b (.ar .gtr) (.t 7) (.c (.int .i64 1048576)))⟩,
    ⟨(.t 9), none, (.pk (.t 6) (.c (.bool true)) (.t 8))⟩])
  (.ite (.t 9) (.sq (.rg [⟨(.n 2), none, (.u .mv (.c (.pointer none)))⟩,
     ⟨(.n 3), none, (.u .mv (.c (.int .i64 1)))⟩])
   .ret) .skip))
 (.sq (.rg [⟨(.t 10), none, (.u .mv (.n 0))⟩,
   ⟨(.t 11), none, (.bld [(.slice none 0 0), (.slice none 0 0), (.int .i64 0), (.int .i64 0)] [(2, 1, (.t 10))])⟩,
   ⟨(.t 12), none, (.u (.bx 74) (.t 11))⟩,
   ⟨(.n 2), none, (.u .mv (.t 12))⟩,
   ⟨(.n 3), none, (.u .mv (.c (.int .i64 0)))⟩])
 .ret)))
theorem k31 : look1 Try.prog 31 [0, 2, 3] dq = some (r31, [.v (.n 2), .v (.n 3)]) := by kernel_rfl
/-- (*loiter/space.Space[string]).Alloc (1 drawn) -/
def r32 : RC := (.sq (.rg [⟨(.n 4), none, (.u .mv (.c (.int .i64 0)))⟩,
   ⟨(.n 5), none, (.u .mv (.c (.int .i64 0)))⟩])
 (.sq (.sq (.rg [⟨(.t 8), none, (.u .mv (.n 0))⟩,
    ⟨(.t 9), none, (.b (.er false 0) (.t 8) (.c (.pointer none)))⟩])
  (.ite (.t 9) (.sq (.rg [⟨(.n 4), none, (.u .mv (.c (.int .i64 0)))⟩,
     ⟨(.n 5), none, (.u .mv (.c (.int .i64 1)))⟩])
   .ret) .skip))
 (.sq (.dr [(.n 0)] false [⟨⟨(.t 10), none, (.u .mv (.n 0))⟩, 0, false, [], []⟩,
   ⟨⟨(.t 11), none, (.u .mv (.n 0))⟩, 1, false, [], []⟩,
   ⟨⟨(.t 12), none, (.u .nk (.t 11))⟩, 2, false, [], []⟩,
   ⟨⟨(.t 13), none, (.u (.fa 3) (.t 12))⟩, 3, false, [], []⟩,
   ⟨⟨(.t 14), none, (.u .ld (.t 13))⟩, 4, false, [], []⟩,
   ⟨⟨(.t 15), none, (.u .nk (.t 10))⟩, 5, false, [], []⟩,
   ⟨⟨(.t 16), none, (.u (.fa 0) (.t 15))⟩, 6, false, [], []⟩,
   ⟨⟨(.t 17), none, (.b (.aa 2 1) (.t 16) (.t 14))⟩, 7, false, [], []⟩,
   ⟨⟨(.n 6), none, (.u .mv (.t 17))⟩, 8, false, [], []⟩])
 (.sq (.rg [⟨(.t 18), none, (.u .mv (.n 6))⟩,
   ⟨(.t 19), none, (.u .nk (.t 18))⟩,
   ⟨(.t 20), none, (.u (.fa 0) (.t 19))⟩,
   ⟨(.t 21), none, (.u .ld (.t 20))⟩,
   ⟨(.t 22), none, (.u .lenL (.t 21))⟩,
   ⟨(.n 7), none, (.u .mv (.t 22))⟩])
 (.sq (.sq (.rg [⟨(.t 23), none, (.u .mv (.n 1))⟩,
    ⟨(.t 24), none, (.u .lenL (.t 23))⟩,
    ⟨(.t 25), none, (.u .mv (.n 0))⟩,
    ⟨(.t 26), none, (.u .nk (.t 25))⟩,
    ⟨(.t 27), none, (.u (.fa 2) (.t 26))⟩,
    ⟨(.t 28), none, (.u .ld (.t 27))⟩,
    ⟨(.t 29), none, (.u .mv (.n 7))⟩,
    ⟨(.t 30), none, (.b (.ar .sub) (.t 28) (.t 29))⟩,
    ⟨(.t 31), none, (.b (.ar .gtr) (.t 24) (.t 30))⟩])
  (.ite (.t 31) (.sq (.rg [⟨(.n 4), none, (.u .mv (.c (.int .i64 0)))⟩,
     ⟨(.n 5), none, (.u .mv (.c (.int .i64 3)))⟩])
   .ret) .skip))
 (.sq (.rg [⟨(.t 32), none, (.u .mv (.n 6))⟩,
   ⟨(.t 33), none, (.u .mv (.n 6))⟩,
   ⟨(.t 34), none, (.u .nk (.t 33))⟩,
   ⟨(.t 35), none, (.u (.fa 0) (.t 34))⟩,
   ⟨(.t 36), none, (.u .ld (.t 35))⟩,
   ⟨(.t 37), none, (.u .mv (.n 1))⟩,
   ⟨(.t 38), none, (.app false 9 1 16 [(.string ⟨#[]⟩)] (.t 36) (.t 37))⟩,
   ⟨(.t 39), none, (.u .nk (.t 32))⟩,
   ⟨(.t 40), none, (.u (.fa 0) (.t 39))⟩,
   ⟨.z, none, (.st 1 (.t 40) (.t 38))⟩])
 (.sq (.rg [⟨(.t 41), none, (.u .mv (.n 7))⟩,
   ⟨(.n 4), none, (.u .mv (.t 41))⟩,
   ⟨(.n 5), none, (.u .mv (.c (.int .i64 0)))⟩])
 .ret)))))))
theorem k32 : look1 Try.prog 32 [0, 1, 4, 5, 6, 7] dq = some (r32, [.v (.n 4), .v (.n 5)]) := by kernel_rfl
/-- loiter/loiterref01.Texts -/
def r33 : RC := (.sq (.rg [⟨(.n 2), none, (.u .mv (.c (.slice none 0 0)))⟩])
 (.sq (.rg [⟨(.n 3), none, (.u .mv (.c (.slice none 0 0)))⟩])
 (.sq (.sq (.rg [⟨(.n 4), none, (.u .mv (.c (.int .i64 0)))⟩])
  (.blk 0 (.loop (.sq (.sq (.rg [⟨(.t 5), none, (.u .mv (.n 4))⟩,
       ⟨(.t 6), none, (.u .mv (.n 0))⟩,
       ⟨(.t 7), none, (.u .lenL (.t 6))⟩,
       ⟨(.t 8), none, (.b (.ar .lss) (.t 5) (.t 7))⟩])
     (.ite (.t 8) .skip (.exit 0)))
    (.sq (.blk 1 (.rg [⟨(.t 11), none, (.u .mv (.n 3))⟩,
       ⟨(.t 12), none, (.u .mv (.n 0))⟩,
       ⟨(.t 13), none, (.u .mv (.n 4))⟩,
       ⟨(.t 14), none, (.b (.ia 1) (.t 12) (.t 13))⟩,
       ⟨(.t 15), none, (.u .ld (.t 14))⟩,
       ⟨(.t 16), none, (.call (.f 37) [(.t 15)])⟩,
       ⟨(.t 17), none, (.bsl 9 1 [(.string ⟨#[]⟩)] [(0, 1, (.t 16))])⟩,
       ⟨(.t 18), none, (.app false 9 1 16 [(.string ⟨#[]⟩)] (.t 11) (.t 17))⟩,
       ⟨(.n 3), none, (.u .mv (.t 18))⟩]))
    (.rg [⟨(.t 9), none, (.u .mv (.n 4))⟩,
     ⟨(.t 10), none, (.b (.ar .add) (.t 9) (.c (.int .i64 1)))⟩,
     ⟨(.n 4), none, (.u .mv (.t 10))⟩]))))))
 (.sq (.rg [⟨(.t 19), none, (.u .mv (.n 3))⟩,
   ⟨(.n 2), none, (.u .mv (.t 19))⟩])
 .ret))))
theorem k33 : look1 Try.prog 33 [0, 2, 3, 4] dq = some (r33, [.v (.n 2)]) := by kernel_rfl
/-- (*loiter/space.Space[string]).Get (1 drawn) -/
def r34 : RC := (.sq (.rg [⟨(.n 4), none, (.u .mv (.c (.string ⟨#[]⟩)))⟩,
   ⟨(.n 5), none, (.u .mv (.c (.int .i64 0)))⟩])
 (.sq (.sq (.rg [⟨(.t 6), none, (.u .mv (.n 0))⟩,
    ⟨(.t 7), none, (.b (.er false 0) (.t 6) (.c (.pointer none)))⟩])
  (.ite (.t 7) (.sq (.rg [⟨(.t 8), none, (.u .mv (.n 4))⟩,
     ⟨(.n 4), none, (.u .mv (.t 8))⟩,
     ⟨(.n 5), none, (.u .mv (.c (.int .i64 1)))⟩])
   .ret) .skip))
 (.sq (.dr [(.n 0), (.n 1)] false [⟨⟨(.t 9), none, (.u .mv (.n 0))⟩, 0, false, [], []⟩,
   ⟨⟨(.t 10), none, (.u .mv (.n 0))⟩, 1, false, [], []⟩,
   ⟨⟨(.t 11), none, (.u .nk (.t 10))⟩, 2, false, [], []⟩,
   ⟨⟨(.t 12), none, (.u (.fa 3) (.t 11))⟩, 3, false, [], []⟩,
   ⟨⟨(.t 13), none, (.u .ld (.t 12))⟩, 4, false, [], []⟩,
   ⟨⟨(.t 14), none, (.u .nk (.t 9))⟩, 5, false, [], []⟩,
   ⟨⟨(.t 15), none, (.u (.fa 0) (.t 14))⟩, 6, false, [], []⟩,
   ⟨⟨(.t 16), none, (.b (.aa 2 1) (.t 15) (.t 13))⟩, 7, false, [], []⟩,
   ⟨⟨(.t 17), none, (.u .mv (.n 1))⟩, 8, false, [], []⟩,
   ⟨⟨(.t 18), none, (.call (.f 56) [(.t 16), (.t 17)])⟩, 9, true, [], []⟩,
   ⟨⟨(.t 19), none, (.u (.ex 0) (.t 18))⟩, 10, false, [], []⟩,
   ⟨⟨(.t 20), none, (.u (.ex 1) (.t 18))⟩, 11, false, [], []⟩,
   ⟨⟨(.n 4), none, (.u .mv (.t 19))⟩, 12, false, [], []⟩,
   ⟨⟨(.n 5), none, (.u .mv (.t 20))⟩, 13, false, [], []⟩])
 .ret)))
theorem k34 : look1 Try.prog 34 [0, 1, 4, 5] dq = some (r34, [.v (.n 4), .v (.n 5)]) := by kernel_rfl
/-- loiter/loiterlaw02.back -/
def r35 : RC := (.sq (.rg [⟨(.n 6), none, (.u .mv (.c (.bool false)))⟩])
 (.sq (.sq (.rg [⟨(.t 7), none, (.u .mv (.n 2))⟩,
    ⟨(.t 8), none, (.b (.ar .neq) (.t 7) (.c (.int .i64 0)))⟩])
  (.ite (.t 8) (.sq (.rg [⟨(.t 9), none, (.u .mv (.n 0))⟩,
     ⟨(.t 10), none, (.b (.ar .eql) (.t 9) (.c (.string ⟨#[]⟩)))⟩,
     ⟨(.n 6), none, (.u .mv (.t 10))⟩])
   .ret) .skip))
 (.sq (.rg [⟨(.t 11), none, (.u .mv (.n 0))⟩,
   ⟨(.t 12), none, (.u .mv (.n 1))⟩,
   ⟨(.t 13), none, (.call (.f 37) [(.t 12)])⟩,
   ⟨(.t 14), none, (.b (.ar .eql) (.t 11) (.t 13))⟩,
   ⟨(.n 6), none, (.u .mv (.t 14))⟩])
 .ret)))
theorem k35 : look1 Try.prog 35 [0, 1, 2, 6] dq = some (r35, [.v (.n 6)]) := by kernel_rfl
/-- (*loiter/space.Space[string]).Set (1 drawn) -/
def r36 : RC := (.sq (.rg [⟨(.n 6), none, (.u .mv (.c (.int .i64 0)))⟩])
 (.sq (.sq (.rg [⟨(.t 7), none, (.u .mv (.n 0))⟩,
    ⟨(.t 8), none, (.b (.er false 0) (.t 7) (.c (.pointer none)))⟩])
  (.ite (.t 8) (.sq (.rg [⟨(.n 6), none, (.u .mv (.c (.int .i64 1)))⟩])
   .ret) .skip))
 (.sq (.dr [(.n 0), (.n 1), (.n 2)] false [⟨⟨(.t 9), none, (.u .mv (.n 0))⟩, 0, false, [], []⟩,
   ⟨⟨(.t 10), none, (.u .mv (.n 0))⟩, 1, false, [], []⟩,
   ⟨⟨(.t 11), none, (.u .nk (.t 10))⟩, 2, false, [], []⟩,
   ⟨⟨(.t 12), none, (.u (.fa 3) (.t 11))⟩, 3, false, [], []⟩,
   ⟨⟨(.t 13), none, (.u .ld (.t 12))⟩, 4, false, [], []⟩,
   ⟨⟨(.t 14), none, (.u .nk (.t 9))⟩, 5, false, [], []⟩,
   ⟨⟨(.t 15), none, (.u (.fa 0) (.t 14))⟩, 6, false, [], []⟩,
   ⟨⟨(.t 16), none, (.b (.aa 2 1) (.t 15) (.t 13))⟩, 7, false, [], []⟩,
   ⟨⟨(.t 17), none, (.u .mv (.n 1))⟩, 8, false, [], []⟩,
   ⟨⟨(.t 18), none, (.u .mv (.n 2))⟩, 9, false, [], []⟩,
   ⟨⟨(.t 19), none, (.call (.f 57) [(.t 16), (.t 17), (.t 18)])⟩, 10, true, [], []⟩,
   ⟨⟨(.n 6), none, (.u .mv (.t 19))⟩, 11, false, [], []⟩])
 .ret)))
theorem k36 : look1 Try.prog 36 [0, 1, 2, 6] dq = some (r36, [.v (.n 6)]) := by kernel_rfl
/-- loiter/loiterref01.Text -/
def r37 : RC := (.sq (.rg [⟨(.n 2), none, (.u .mv (.c (.string ⟨#[]⟩)))⟩])
 (.sq (.sq (.rg [⟨(.t 3), none, (.u .mv (.n 0))⟩,
    ⟨(.t 4), none, (.b (.ar .lss) (.t 3) (.c (.int .i64 0)))⟩])
  (.ite (.t 4) (.sq (.rg [⟨(.t 5), none, (.u .mv (.n 0))⟩,
     ⟨(.t 6), none, (.b (.ar .add) (.t 5) (.c (.int .i64 1)))⟩,
     ⟨(.t 7), none, (.u .ng (.t 6))⟩,
     ⟨(.t 8), none, (.call (.f 58) [(.t 7)])⟩,
     ⟨(.t 9), none, (.b (.ar .add) (.c (.string ⟨#[45]⟩)) (.t 8))⟩,
     ⟨(.t 10), none, (.b (.ar .add) (.t 9) (.c (.string ⟨#[39]⟩)))⟩,
     ⟨(.n 2), none, (.u .mv (.t 10))⟩])
   .ret) .skip))
 (.sq (.rg [⟨(.t 11), none, (.u .mv (.n 0))⟩,
   ⟨(.t 12), none, (.call (.f 58) [(.t 11)])⟩,
   ⟨(.n 2), none, (.u .mv (.t 12))⟩])
 .ret)))
theorem k37 : look1 Try.prog 37 [0, 2] dq = some (r37, [.v (.n 2)]) := by kernel_rfl
/-- (*loiter/space.Space[string]).Flip (1 drawn) -/
def r38 : RC := (.sq (.sq (.rg [⟨(.t 3), none, (.u .mv (.n 0))⟩,
    ⟨(.t 4), none, (.b (.er false 0) (.t 3) (.c (.pointer none)))⟩])
  (.ite (.t 4) .ret .skip))
 (.sq (.rg [⟨(.t 5), none, (.u .mv (.n 0))⟩,
   ⟨(.t 6), none, (.u .mv (.n 0))⟩,
   ⟨(.t 7), none, (.u .nk (.t 6))⟩,
   ⟨(.t 8), none, (.u (.fa 3) (.t 7))⟩,
   ⟨(.t 9), none, (.u .ld (.t 8))⟩,
   ⟨(.t 10), none, (.b (.ar .sub) (.c (.int .i64 1)) (.t 9))⟩,
   ⟨(.t 11), none, (.u .nk (.t 5))⟩,
   ⟨(.t 12), none, (.u (.fa 3) (.t 11))⟩,
   ⟨.z, none, (.st 1 (.t 12) (.t 10))⟩])
 (.sq (.dr [(.n 0)] false [⟨⟨(.t 13), none, (.u .mv (.n 0))⟩, 0, false, [], []⟩,
   ⟨⟨(.t 14), none, (.u .mv (.n 0))⟩, 1, false, [], []⟩,
   ⟨⟨(.t 15), none, (.u .nk (.t 14))⟩, 2, false, [], []⟩,
   ⟨⟨(.t 16), none, (.u (.fa 3) (.t 15))⟩, 3, false, [], []⟩,
   ⟨⟨(.t 17), none, (.u .ld (.t 16))⟩, 4, false, [], []⟩,
   ⟨⟨(.t 18), none, (.u .nk (.t 13))⟩, 5, false, [], []⟩,
   ⟨⟨(.t 19), none, (.u (.fa 0) (.t 18))⟩, 6, false, [], []⟩,
   ⟨⟨(.t 20), none, (.b (.aa 2 1) (.t 19) (.t 17))⟩, 7, false, [], []⟩,
   ⟨⟨(.n 2), none, (.u .mv (.t 20))⟩, 8, false, [], []⟩])
 (.sq (.rg [⟨(.t 21), none, (.u .mv (.n 2))⟩,
   ⟨(.t 22), none, (.u .nk (.t 21))⟩,
   ⟨(.t 23), none, (.u (.fa 0) (.t 22))⟩,
   ⟨(.t 24), none, (.u .ld (.t 23))⟩,
   ⟨.z, none, (.clr 9 [(.string ⟨#[]⟩)] (.t 24))⟩])
 (.rg [⟨(.t 25), none, (.u .mv (.n 2))⟩,
  ⟨(.t 26), none, (.u .mv (.n 2))⟩,
  ⟨(.t 27), none, (.u .nk (.t 26))⟩,
  ⟨(.t 28), none, (.u (.fa 0) (.t 27))⟩,
  ⟨(.t 29), none, (.u .ld (.t 28))⟩,
  ⟨(.t 30), none, (.sll 9 1 (.t 29) none (some (.c (.int .i64 0))))⟩,
  ⟨(.t 31), none, (.u .nk (.t 25))⟩,
  ⟨(.t 32), none, (.u (.fa 0) (.t 31))⟩,
  ⟨.z, none, (.st 1 (.t 32) (.t 30))⟩])))))
theorem k38 : look1 Try.prog 38 [0, 2] dq = some (r38, []) := by kernel_rfl
/-- (*loiter/space.Space[string]).Old (1 drawn) -/
def r39 : RC := (.sq (.rg [⟨(.n 4), none, (.u .mv (.c (.string ⟨#[]⟩)))⟩,
   ⟨(.n 5), none, (.u .mv (.c (.int .i64 0)))⟩])
 (.sq (.sq (.rg [⟨(.t 6), none, (.u .mv (.n 0))⟩,
    ⟨(.t 7), none, (.b (.er false 0) (.t 6) (.c (.pointer none)))⟩])
  (.ite (.t 7) (.sq (.rg [⟨(.t 8), none, (.u .mv (.n 4))⟩,
     ⟨(.n 4), none, (.u .mv (.t 8))⟩,
     ⟨(.n 5), none, (.u .mv (.c (.int .i64 1)))⟩])
   .ret) .skip))
 (.sq (.dr [(.n 0), (.n 1)] false [⟨⟨(.t 9), none, (.u .mv (.n 0))⟩, 0, false, [], []⟩,
   ⟨⟨(.t 10), none, (.u .mv (.n 0))⟩, 1, false, [], []⟩,
   ⟨⟨(.t 11), none, (.u .nk (.t 10))⟩, 2, false, [], []⟩,
   ⟨⟨(.t 12), none, (.u (.fa 3) (.t 11))⟩, 3, false, [], []⟩,
   ⟨⟨(.t 13), none, (.u .ld (.t 12))⟩, 4, false, [], []⟩,
   ⟨⟨(.t 14), none, (.b (.ar .sub) (.c (.int .i64 1)) (.t 13))⟩, 5, false, [], []⟩,
   ⟨⟨(.t 15), none, (.u .nk (.t 9))⟩, 6, false, [], []⟩,
   ⟨⟨(.t 16), none, (.u (.fa 0) (.t 15))⟩, 7, false, [], []⟩,
   ⟨⟨(.t 17), none, (.b (.aa 2 1) (.t 16) (.t 14))⟩, 8, false, [], []⟩,
   ⟨⟨(.t 18), none, (.u .mv (.n 1))⟩, 9, false, [], []⟩,
   ⟨⟨(.t 19), none, (.call (.f 56) [(.t 17), (.t 18)])⟩, 10, true, [], []⟩,
   ⟨⟨(.t 20), none, (.u (.ex 0) (.t 19))⟩, 11, false, [], []⟩,
   ⟨⟨(.t 21), none, (.u (.ex 1) (.t 19))⟩, 12, false, [], []⟩,
   ⟨⟨(.n 4), none, (.u .mv (.t 20))⟩, 13, false, [], []⟩,
   ⟨⟨(.n 5), none, (.u .mv (.t 21))⟩, 14, false, [], []⟩])
 .ret)))
theorem k39 : look1 Try.prog 39 [0, 1, 4, 5] dq = some (r39, [.v (.n 4), .v (.n 5)]) := by kernel_rfl
/-- (*loiter/space.Space[string]).SetOld (1 drawn) -/
def r40 : RC := (.sq (.rg [⟨(.n 6), none, (.u .mv (.c (.int .i64 0)))⟩])
 (.sq (.sq (.rg [⟨(.t 7), none, (.u .mv (.n 0))⟩,
    ⟨(.t 8), none, (.b (.er false 0) (.t 7) (.c (.pointer none)))⟩])
  (.ite (.t 8) (.sq (.rg [⟨(.n 6), none, (.u .mv (.c (.int .i64 1)))⟩])
   .ret) .skip))
 (.sq (.dr [(.n 0), (.n 1), (.n 2)] false [⟨⟨(.t 9), none, (.u .mv (.n 0))⟩, 0, false, [], []⟩,
   ⟨⟨(.t 10), none, (.u .mv (.n 0))⟩, 1, false, [], []⟩,
   ⟨⟨(.t 11), none, (.u .nk (.t 10))⟩, 2, false, [], []⟩,
   ⟨⟨(.t 12), none, (.u (.fa 3) (.t 11))⟩, 3, false, [], []⟩,
   ⟨⟨(.t 13), none, (.u .ld (.t 12))⟩, 4, false, [], []⟩,
   ⟨⟨(.t 14), none, (.b (.ar .sub) (.c (.int .i64 1)) (.t 13))⟩, 5, false, [], []⟩,
   ⟨⟨(.t 15), none, (.u .nk (.t 9))⟩, 6, false, [], []⟩,
   ⟨⟨(.t 16), none, (.u (.fa 0) (.t 15))⟩, 7, false, [], []⟩,
   ⟨⟨(.t 17), none, (.b (.aa 2 1) (.t 16) (.t 14))⟩, 8, false, [], []⟩,
   ⟨⟨(.t 18), none, (.u .mv (.n 1))⟩, 9, false, [], []⟩,
   ⟨⟨(.t 19), none, (.u .mv (.n 2))⟩, 10, false, [], []⟩,
   ⟨⟨(.t 20), none, (.call (.f 57) [(.t 17), (.t 18), (.t 19)])⟩, 11, true, [], []⟩,
   ⟨⟨(.n 6), none, (.u .mv (.t 20))⟩, 12, false, [], []⟩])
 .ret)))
theorem k40 : look1 Try.prog 40 [0, 1, 2, 6] dq = some (r40, [.v (.n 6)]) := by kernel_rfl
/-- (*loiter/space.Space[string]).Used (1 drawn) -/
def r41 : RC := (.sq (.rg [⟨(.n 2), none, (.u .mv (.c (.int .i64 0)))⟩])
 (.sq (.sq (.rg [⟨(.t 3), none, (.u .mv (.n 0))⟩,
    ⟨(.t 4), none, (.b (.er false 0) (.t 3) (.c (.pointer none)))⟩])
  (.ite (.t 4) (.sq (.rg [⟨(.n 2), none, (.u .mv (.c (.int .i64 0)))⟩])
   .ret) .skip))
 (.sq (.dr [(.n 0)] false [⟨⟨(.t 5), none, (.u .mv (.n 0))⟩, 0, false, [], []⟩,
   ⟨⟨(.t 6), none, (.u .mv (.n 0))⟩, 1, false, [], []⟩,
   ⟨⟨(.t 7), none, (.u .nk (.t 6))⟩, 2, false, [], []⟩,
   ⟨⟨(.t 8), none, (.u (.fa 3) (.t 7))⟩, 3, false, [], []⟩,
   ⟨⟨(.t 9), none, (.u .ld (.t 8))⟩, 4, false, [], []⟩,
   ⟨⟨(.t 10), none, (.u .nk (.t 5))⟩, 5, false, [], []⟩,
   ⟨⟨(.t 11), none, (.u (.fa 0) (.t 10))⟩, 6, false, [], []⟩,
   ⟨⟨(.t 12), none, (.b (.aa 2 1) (.t 11) (.t 9))⟩, 7, false, [], []⟩,
   ⟨⟨(.t 13), none, (.u (.fa 0) (.t 12))⟩, 8, false, [], []⟩,
   ⟨⟨(.t 14), none, (.u .ld (.t 13))⟩, 9, false, [], []⟩,
   ⟨⟨(.t 15), none, (.u .lenL (.t 14))⟩, 10, false, [], []⟩,
   ⟨⟨(.n 2), none, (.u .mv (.t 15))⟩, 11, false, [], []⟩])
 .ret)))
theorem k41 : look1 Try.prog 41 [0, 2] dq = some (r41, [.v (.n 2)]) := by kernel_rfl
/-- (*loiter/space.Space[string]).Size -/
def r42 : RC := (.sq (.rg [⟨(.n 2), none, (.u .mv (.c (.int .i64 0)))⟩])
 (.sq (.sq (.rg [⟨(.t 3), none, (.u .mv (.n 0))⟩,
    ⟨(.t 4), none, (.b (.er false 0) (.t 3) (.c (.pointer none)))⟩])
  (.ite (.t 4) (.sq (.rg [⟨(.n 2), none, (.u .mv (.c (.int .i64 0)))⟩])
   .ret) .skip))
 (.sq (.rg [⟨(.t 5), none, (.u .mv (.n 0))⟩,
   ⟨(.t 6), none, (.u .nk (.t 5))⟩,
   ⟨(.t 7), none, (.u (.fa 2) (.t 6))⟩,
   ⟨(.t 8), none, (.u .ld (.t 7))⟩,
   ⟨(.n 2), none, (.u .mv (.t 8))⟩])
 .ret)))
theorem k42 : look1 Try.prog 42 [0, 2] dq = some (r42, [.v (.n 2)]) := by kernel_rfl
/-- (*loiter/space.Space[string]).Side -/
def r43 : RC := (.sq (.rg [⟨(.n 2), none, (.u .mv (.c (.int .i64 0)))⟩])
 (.sq (.sq (.rg [⟨(.t 3), none, (.u .mv (.n 0))⟩,
    ⟨(.t 4), none, (.b (.er false 0) (.t 3) (.c (.pointer none)))⟩])
  (.ite (.t 4) (.sq (.rg [⟨(.n 2), none, (.u .mv (.c (.int .i64 0)))⟩])
   .ret) .skip))
 (.sq (.rg [⟨(.t 5), none, (.u .mv (.n 0))⟩,
   ⟨(.t 6), none, (.u .nk (.t 5))⟩,
   ⟨(.t 7), none, (.u (.fa 3) (.t 6))⟩,
   ⟨(.t 8), none, (.u .ld (.t 7))⟩,
   ⟨(.n 2), none, (.u .mv (.t 8))⟩])
 .ret)))
theorem k43 : look1 Try.prog 43 [0, 2] dq = some (r43, [.v (.n 2)]) := by kernel_rfl
/-- loiter/loiterref01.digits -/
def r58 : RC := (.sq (.rg [⟨(.n 2), none, (.u .mv (.c (.string ⟨#[]⟩)))⟩])
 (.sq (.rg [⟨(.n 3), none, (.u .mv (.c (.slice none 0 0)))⟩])
 (.sq (.blk 0 (.loop (.sq (.sq (.rg [⟨(.t 6), none, (.u .mv (.n 0))⟩,
       ⟨(.t 7), none, (.b (.ar .gtr) (.t 6) (.c (.int .i64 9)))⟩])
     (.ite (.t 7) .skip (.exit 0)))
    (.blk 1 (.sq (.rg [⟨(.t 8), none, (.u .mv (.n 3))⟩,
       ⟨(.t 9), none, (.u .mv (.n 0))⟩,
       ⟨(.t 10), none, (.b (.ar .rem) (.t 9) (.c (.int .i64 10)))⟩,
       ⟨(.t 11), none, (.b (.ar .add) (.c (.int .i64 48)) (.t 10))⟩,
       ⟨(.t 12), none, (.u (.cv .u8) (.t 11))⟩,
       ⟨(.t 13), none, (.bsl 5 1 [(.int .u8 0)] [(0, 1, (.t 12))])⟩,
       ⟨(.t 14), none, (.app false 5 1 1 [(.int .u8 0)] (.t 8) (.t 13))⟩,
       ⟨(.n 3), none, (.u .mv (.t 14))⟩])
     (.rg [⟨(.t 15), none, (.u .mv (.n 0))⟩,
      ⟨(.t 16), none, (.b (.ar .quo) (.t 15) (.c (.int .i64 10)))⟩,
      ⟨(.n 0), none, (.u .mv (.t 16))⟩]))))))
 (.sq (.rg [⟨(.t 17), none, (.u .mv (.n 3))⟩,
   ⟨(.t 18), none, (.u .mv (.n 0))⟩,
   ⟨(.t 19), none, (.b (.ar .add) (.c (.int .i64 48)) (.t 18))⟩,
   ⟨(.t 20), none, (.u (.cv .u8) (.t 19))⟩,
   ⟨(.t 21), none, (.bsl 5 1 [(.int .u8 0)] [(0, 1, (.t 20))])⟩,
   ⟨(.t 22), none, (.app false 5 1 1 [(.int .u8 0)] (.t 17) (.t 21))⟩,
   ⟨(.n 3), none, (.u .mv (.t 22))⟩])
 (.sq (.sq (.rg [⟨(.n 4), none, (.u .mv (.c (.int .i64 0)))⟩])
  (.blk 2 (.loop (.sq (.sq (.rg [⟨(.t 23), none, (.u .mv (.n 4))⟩,
       ⟨(.t 24), none, (.u .mv (.n 3))⟩,
       ⟨(.t 25), none, (.u .lenL (.t 24))⟩,
       ⟨(.t 26), none, (.b (.ar .quo) (.t 25) (.c (.int .i64 2)))⟩,
       ⟨(.t 27), none, (.b (.ar .lss) (.t 23) (.t 26))⟩])
     (.ite (.t 27) .skip (.exit 2)))
    (.sq (.blk 3 (.sq (.rg [⟨(.t 30), none, (.u .mv (.n 3))⟩,
        ⟨(.t 31), none, (.u .mv (.n 4))⟩,
        ⟨(.t 32), none, (.b (.ia 1) (.t 30) (.t 31))⟩,
        ⟨(.t 33), none, (.u .ld (.t 32))⟩,
        ⟨(.n 5), none, (.u .mv (.t 33))⟩])
      (.sq (.rg [⟨(.t 34), none, (.u .mv (.n 3))⟩,
        ⟨(.t 35), none, (.u .mv (.n 4))⟩,
        ⟨(.t 36), none, (.u .mv (.n 3))⟩,
        ⟨(.t 37), none, (.u .mv (.n 3))⟩,
        ⟨(.t 38), none, (.u .lenL (.t 37))⟩,
        ⟨(.t 39), none, (.b (.ar .sub) (.t 38) (.c (.int .i64 1)))⟩,
        ⟨(.t 40), none, (.u .mv (.n 4))⟩,
        ⟨(.t 41), none, (.b (.ar .sub) (.t 39) (.t 40))⟩,
        ⟨(.t 42), none, (.b (.ia 1) (.t 36) (.t 41))⟩,
        ⟨(.t 43), none, (.u .ld (.t 42))⟩,
        ⟨(.t 44), none, (.b (.ia 1) (.t 34) (.t 35))⟩,
        ⟨.z, none, (.st 1 (.t 44) (.t 43))⟩])
      (.rg [⟨(.t 45), none, (.u .mv (.n 3))⟩,
       ⟨(.t 46), none, (.u .mv (.n 3))⟩,
       ⟨(.t 47), none, (.u .lenL (.t 46))⟩,
       ⟨(.t 48), none, (.b (.ar .sub) (.t 47) (.c (.int .i64 1)))⟩,
       ⟨(.t 49), none, (.u .mv (.n 4))⟩,
       ⟨(.t 50), none, (.b (.ar .sub) (.t 48) (.t 49))⟩,
       ⟨(.t 51), none, (.u .mv (.n 5))⟩,
       ⟨(.t 52), none, (.b (.ia 1) (.t 45) (.t 50))⟩,
       ⟨.z, none, (.st 1 (.t 52) (.t 51))⟩]))))
    (.rg [⟨(.t 28), none, (.u .mv (.n 4))⟩,
     ⟨(.t 29), none, (.b (.ar .add) (.t 28) (.c (.int .i64 1)))⟩,
     ⟨(.n 4), none, (.u .mv (.t 29))⟩]))))))
 (.sq (.rg [⟨(.t 53), none, (.u .mv (.n 3))⟩,
   ⟨(.t 54), none, (.u .b2s (.t 53))⟩,
   ⟨(.n 2), none, (.u .mv (.t 54))⟩])
 .ret))))))
theorem k58 : look1 Try.prog 58 [0, 2, 3, 4, 5] dq = some (r58, [.v (.n 2)]) := by kernel_rfl
/-- (*loiter/space.half[string]).get -/
def r56 : RC := (.sq (.rg [⟨(.n 4), none, (.u .mv (.c (.string ⟨#[]⟩)))⟩,
   ⟨(.n 5), none, (.u .mv (.c (.int .i64 0)))⟩])
 (.sq (.sq (.rg [⟨(.t 6), none, (.u .mv (.n 0))⟩,
    ⟨(.t 7), none, (.u .mv (.n 1))⟩,
    ⟨(.t 8), none, (.call (.f 62) [(.t 6), (.t 7)])⟩,
    ⟨(.t 9), none, (.u .nt (.t 8))⟩])
  (.ite (.t 9) (.sq (.rg [⟨(.t 10), none, (.u .mv (.n 4))⟩,
     ⟨(.n 4), none, (.u .mv (.t 10))⟩,
     ⟨(.n 5), none, (.u .mv (.c (.int .i64 2)))⟩])
   .ret) .skip))
 (.sq (.rg [⟨(.t 11), none, (.u .mv (.n 0))⟩,
   ⟨(.t 12), none, (.u .nk (.t 11))⟩,
   ⟨(.t 13), none, (.u (.fa 0) (.t 12))⟩,
   ⟨(.t 14), none, (.u .ld (.t 13))⟩,
   ⟨(.t 15), none, (.u .mv (.n 1))⟩,
   ⟨(.t 16), none, (.b (.ia 1) (.t 14) (.t 15))⟩,
   ⟨(.t 17), none, (.u .ld (.t 16))⟩,
   ⟨(.n 4), none, (.u .mv (.t 17))⟩,
   ⟨(.n 5), none, (.u .mv (.c (.int .i64 0)))⟩])
 .ret)))
theorem k56 : look1 Try.prog 56 [0, 1, 4, 5] dq = some (r56, [.v (.n 4), .v (.n 5)]) := by kernel_rfl
/-- (*loiter/space.half[string]).set -/
def r57 : RC := (.sq (.rg [⟨(.n 6), none, (.u .mv (.c (.int .i64 0)))⟩])
 (.sq (.sq (.rg [⟨(.t 7), none, (.u .mv (.n 0))⟩,
    ⟨(.t 8), none, (.u .mv (.n 1))⟩,
    ⟨(.t 9), none, (.call (.f 62) [(.t 7), (.t 8)])⟩,
    ⟨(.t 10), none, (.u .nt (.t 9))⟩])
  (.ite (.t 10) (.sq (.rg [⟨(.n 6), none, (.u .mv (.c (.int .i64 2)))⟩])
   .ret) .skip))
 (.sq (.rg [⟨(.t 11), none, (.u .mv (.n 0))⟩,
   ⟨(.t 12), none, (.u .nk (.t 11))⟩,
   ⟨(.t 13), none, (.u (.fa 0) (.t 12))⟩,
   ⟨(.t 14), none, (.u .ld (.t 13))⟩,
   ⟨(.t 15), none, (.u .mv (.n 1))⟩,
   ⟨(.t 16), none, (.u .mv (.n 2))⟩,
   ⟨(.t 17), none, (.b (.ia 1) (.t 14) (.t 15))⟩,
   ⟨.z, none, (.st 1 (.t 17) (.t 16))⟩])
 (.sq (.rg [⟨(.n 6), none, (.u .mv (.c (.int .i64 0)))⟩])
 .ret))))
theorem k57 : look1 Try.prog 57 [0, 1, 2, 6] dq = some (r57, [.v (.n 6)]) := by kernel_rfl
/-- (*loiter/space.half[string]).within -/
def r62 : RC := (.sq (.rg [⟨(.n 4), none, (.u .mv (.c (.bool false)))⟩])
 (.sq (.rg [⟨(.t 5), none, (.u .mv (.n 1))⟩,
   ⟨(.t 6), none, (.b (.ar .geq) (.t 5) (.c (.int .i64 0)))⟩,
   ⟨(.t 7), none, (.u .mv (.t 6))⟩,
   ⟨(.t 8), (some ((.t 7), true)), (.u .mv (.n 1))⟩,
   ⟨(.t 9), (some ((.t 7), true)), (.u .mv (.n 0))⟩,
   ⟨(.t 10), (some ((.t 7), true)), (.u .nk (.t 9))⟩,
   ⟨(.t 11), (some ((.t 7), true)), (.u (.fa 0) (.t 10))⟩,
   ⟨(.t 12), (some ((.t 7), true)), (.u .ld (.t 11))⟩,
   ⟨(.t 13), (some ((.t 7), true)), (.u .lenL (.t 12))⟩,
   ⟨(.t 14), (some ((.t 7), true)), (.b (.ar .lss) (.t 8) (.t 13))⟩,
   ⟨(.t 15), none, (.pk (.t 7) (.t 14) (.c (.bool false)))⟩,
   ⟨(.n 4), none, (.u .mv (.t 15))⟩])
 .ret))
theorem k62 : look1 Try.prog 62 [0, 1, 4] dq = some (r62, [.v (.n 4)]) := by kernel_rfl
end Go.S02
