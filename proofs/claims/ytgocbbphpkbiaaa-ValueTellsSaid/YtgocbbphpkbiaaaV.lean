/-
  The functions of the program, as the value machine has them, by program.
-/
import Derived.Test.YtgocbbphpkbiaaaVmM
import Derived.Test.YtgocbbphpkbiaaaProg
namespace Go.Proofs.Ytgocbbphpkbiaaa
open Go.Vm
set_option maxRecDepth 100000
/- 3 -/
def v_w41_ValueTells_b0 : VC :=
  .seq (
  .region [] [] [
    ⟨(some 77), .bin .lss (.t 76) (.t 75), none⟩] ⟨[2, 3, 5, 10, 11, 12, 13, 74, 75, 76, 77], [5, 10, 11, 20063, 20087], [1100, 1111]⟩) (
  .seq (
  .cond (.t 77) (
    .skip) (
    .exit 0)) (
  .seq (
  .block 1 (
    .seq (
    .region [] [15] [
      ⟨(some 78), .mv (.t 76), none⟩,
      ⟨(some 79), .iaddr none 7 (.t 74) (.t 76), none⟩,
      ⟨(some 80), .load .imm (some 7) (.t 79), none⟩,
      ⟨(some 15), .obj 15 [.int .i64 0, .int .i64 0, .int .i64 0, .int .i64 0, .int .i64 0, .int .i64 0, .int .i64 0], none⟩,
      ⟨(some 14), .mv (.t 78), none⟩,
      ⟨none, .store (.loc 15) [none, none, none, none, none, none, none] (.t 15) (.t 80), none⟩] ⟨[2, 3, 5, 10, 11, 12, 13, 14, 15, 74, 75, 76], [5, 10, 11, 15, 20063, 20087], [1100, 1111]⟩) (
    .seq (
    .seq (
    .region [] [] [
      ⟨(some 81), .mv (.t 14), none⟩,
      ⟨(some 82), .bin .rem (.t 81) (.c (.int .i64 3)), none⟩,
      ⟨(some 83), .bin .eql (.t 82) (.c (.int .i64 0)), none⟩] ⟨[2, 3, 5, 10, 11, 12, 13, 15, 74, 75, 76, 83], [5, 10, 11, 15, 20063, 20087], [1100, 1111]⟩) (
    .cond (.t 83) (
      .region [.ren 20087 21087] [20087] [
        ⟨(some 84), .mv (.t 12), none⟩,
        ⟨(some 85), .build [.nils, .nils, .nils] [], none⟩,
        ⟨(some 86), .lit none [some 0, some 0, some 0] [.slice none 0 [], .slice none 0 [], .slice none 0 []] 1 [(0, (.t 85))], none⟩,
        ⟨(some 87), .appo 20087 21087 [some 7, some 1, some 1] (.t 84) (.t 86), none⟩,
        ⟨(some 12), .mv (.t 87), none⟩] ⟨[2, 3, 5, 10, 11, 12, 13, 15, 74, 75, 76], [5, 10, 11, 15, 20063, 20087], [1100, 1111]⟩) (
      .skip))) (
    .seq (
    .region [] [] [
      ⟨(some 88), .mv (.t 12), none⟩,
      ⟨(some 89), .len (.t 88), none⟩,
      ⟨(some 90), .bin .sub (.t 89) (.c (.int .i64 1)), none⟩,
      ⟨(some 16), .mv (.t 90), none⟩] ⟨[2, 3, 5, 10, 11, 12, 13, 15, 16, 74, 75, 76], [5, 10, 11, 15, 20063, 20087], [1100, 1111]⟩) (
    .seq (
    .region [.normLast 20087 3 1100 7] [5100] [
      ⟨(some 91), .mv (.t 12), none⟩,
      ⟨(some 92), .mv (.t 16), none⟩,
      ⟨(some 93), .mv (.t 12), none⟩,
      ⟨(some 94), .mv (.t 16), none⟩,
      ⟨(some 95), .iaddr none 3 (.t 93) (.t 94), none⟩,
      ⟨(some 96), .faddr 0 (.t 95), none⟩,
      ⟨(some 97), .load (.loc 20087) none (.t 96), none⟩,
      ⟨(some 98), .load (.loc 15) (some 7) (.t 15), none⟩,
      ⟨(some 99), .lit none [none, none, none, none, none, none, none] [.int .i64 0, .int .i64 0, .int .i64 0, .int .i64 0, .int .i64 0, .int .i64 0, .int .i64 0] 1 [(0, (.t 98))], none⟩,
      ⟨(some 100), .app 5100 (some 1100) [none, none, none, none, none, none, none] (.t 97) (.t 99), none⟩,
      ⟨(some 101), .iaddr none 3 (.t 91) (.t 92), none⟩,
      ⟨(some 102), .faddr 0 (.t 101), none⟩,
      ⟨none, .store (.loc 20087) [some 7] (.t 102) (.t 100), none⟩] ⟨[2, 3, 5, 10, 11, 12, 13, 15, 74, 75, 76], [5, 10, 11, 15, 20063, 20087], [1100, 1111]⟩) (
    .region [.norm 13 1111 3] [5111] [
      ⟨(some 103), .mv (.t 13), none⟩,
      ⟨(some 104), .faddr 5 (.t 15), none⟩,
      ⟨(some 105), .load (.loc 15) none (.t 104), none⟩,
      ⟨(some 106), .call true (.c (.fn 9 [])) [([none], (.t 105)), ([none], (.c (.int .i64 1000)))] [], none⟩,
      ⟨(some 107), .build [.int .i64 0, .int .i64 0, .int .i64 0, .int .i64 0, .int .i64 0, .int .i64 0, .int .i64 0] [(5, 1, (.t 106)), (6, 1, (.c (.int .i64 1)))], none⟩,
      ⟨(some 108), .lit none [none, none, none, none, none, none, none] [.int .i64 0, .int .i64 0, .int .i64 0, .int .i64 0, .int .i64 0, .int .i64 0, .int .i64 0] 1 [(0, (.t 107))], none⟩,
      ⟨(some 109), .build [.nils, .nils, .nils] [(0, 1, (.t 108))], none⟩,
      ⟨(some 110), .lit none [some 7, some 1, some 1] [.slice none 7 [], .slice none 1 [], .slice none 1 []] 1 [(0, (.t 109))], none⟩,
      ⟨(some 111), .app 5111 (some 1111) [some 7, some 1, some 1] (.t 103) (.t 110), none⟩,
      ⟨(some 13), .mv (.t 111), none⟩] ⟨[2, 3, 5, 10, 11, 12, 13, 74, 75, 76], [5, 10, 11, 20063, 20087], [1100, 1111]⟩)))))) (
  .region [] [] [
    ⟨(some 112), .bin .add (.t 76) (.c (.int .i64 1)), none⟩,
    ⟨(some 76), .mv (.t 112), none⟩] ⟨[2, 3, 5, 10, 11, 12, 13, 74, 75, 76], [5, 10, 11, 20063, 20087], [1100, 1111]⟩)))

def v_w41_ValueTells_l0 : VC := .loop [.norm 13 1111 3] ⟨[2, 3, 5, 10, 11, 12, 13, 74, 75, 76], [5, 10, 11, 20063, 20087], [1100, 1111]⟩ v_w41_ValueTells_b0

abbrev v_w41_ValueTells_s0 (x2 : Int) (x3 : V) (x12 : V) (x13 : V) (x74 : V) (x75 : Int) (x76 : Int) (o5 : List V) (o10 : List V) (o11 : List V) (o20063 : List V) (o20087 : List V) (k1100 : Nat) (k1111 : Nat) (G : List GObj) : St := ⟨[(2, .int .i64 x2), (3, x3), (5, .lptr 5 0), (10, .lptr 10 0), (11, .lptr 11 0), (12, x12), (13, x13), (74, x74), (75, .int .i64 x75), (76, .int .i64 x76)], [(5, o5), (10, o10), (11, o11), (20063, o20063), (20087, o20087)], [(1100, k1100), (1111, k1111)], G⟩

def v_w41_ValueTells_b1 : VC :=
  .seq (
  .region [] [] [
    ⟨(some 185), .bin .lss (.t 184) (.t 183), none⟩] ⟨[2, 3, 12, 13, 18, 24, 116, 117, 118, 151, 152, 153, 182, 183, 184, 185], [18, 20087], [1100, 1111]⟩) (
  .seq (
  .cond (.t 185) (
    .skip) (
    .exit 6)) (
  .seq (
  .block 7 (
    .seq (
    .region [] [] [
      ⟨(some 186), .iaddr none 1 (.t 182) (.t 184), none⟩,
      ⟨(some 187), .load .imm none (.t 186), none⟩,
      ⟨(some 30), .mv (.t 187), none⟩] ⟨[2, 3, 12, 13, 18, 24, 30, 116, 117, 118, 151, 152, 153, 182, 183, 184], [18, 20087], [1100, 1111]⟩) (
    .seq (
    .region [] [] [
      ⟨(some 189), .load (.loc 18) (some 2) (.t 18), none⟩,
      ⟨(some 190), .mv (.t 24), none⟩,
      ⟨(some 191), .mv (.t 30), none⟩,
      ⟨(some 192), .call true (.c (.fn 17 [])) [([some 1, some 1], (.t 189)), ([none], (.t 190)), ([some 3], (.t 191))] [], none⟩,
      ⟨(some 188), .mv (.t 192), none⟩,
      ⟨(some 193), .ext (.t 188) 0, none⟩,
      ⟨(some 194), .ext (.t 188) 1, none⟩,
      ⟨(some 31), .mv (.t 193), none⟩,
      ⟨(some 32), .mv (.t 194), none⟩] ⟨[2, 3, 12, 13, 18, 24, 30, 31, 32, 116, 117, 118, 151, 152, 153, 182, 183, 184], [18, 20087], [1100, 1111]⟩) (
    .seq (
    .region [] [] [
      ⟨(some 196), .load (.loc 18) (some 2) (.t 18), none⟩,
      ⟨(some 197), .mv (.t 24), none⟩,
      ⟨(some 198), .mv (.t 30), none⟩,
      ⟨(some 199), .call true (.c (.fn 18 [])) [([some 1, some 1], (.t 196)), ([none], (.t 197)), ([some 3], (.t 198))] [], none⟩,
      ⟨(some 195), .mv (.t 199), none⟩,
      ⟨(some 200), .ext (.t 195) 0, none⟩,
      ⟨(some 201), .ext (.t 195) 1, none⟩,
      ⟨(some 33), .mv (.t 200), none⟩,
      ⟨(some 34), .mv (.t 201), none⟩] ⟨[2, 3, 12, 13, 18, 24, 31, 32, 33, 34, 116, 117, 118, 151, 152, 153, 182, 183, 184], [18, 20087], [1100, 1111]⟩) (
    .seq (
    .region [] [] [
      ⟨(some 202), .mv (.t 31), none⟩,
      ⟨(some 203), .mv (.t 33), none⟩,
      ⟨(some 204), .bin .neq (.t 202) (.t 203), none⟩,
      ⟨(some 205), .mv (.t 204), none⟩,
      ⟨(some 206), .mv (.t 32), (some (205, false))⟩,
      ⟨(some 207), .mv (.t 34), (some (205, false))⟩,
      ⟨(some 208), .bin .neq (.t 206) (.t 207), (some (205, false))⟩,
      ⟨(some 209), .pick (.t 205) (.c (.bool true)) (.t 208), none⟩] ⟨[2, 3, 12, 13, 18, 24, 116, 117, 118, 151, 152, 153, 182, 183, 184, 209], [18, 20087], [1100, 1111]⟩) (
    .cond (.t 209) (
      .seq (
      .region [] [] [
        ⟨(some 8), .mv (.c (.bool false)), none⟩] ⟨[8], [], []⟩) (
      .ret)) (
      .skip))))))) (
  .region [] [] [
    ⟨(some 210), .bin .add (.t 184) (.c (.int .i64 1)), none⟩,
    ⟨(some 184), .mv (.t 210), none⟩] ⟨[2, 3, 12, 13, 18, 24, 116, 117, 118, 151, 152, 153, 182, 183, 184], [18, 20087], [1100, 1111]⟩)))

def v_w41_ValueTells_l1 : VC := .loop [] ⟨[2, 3, 12, 13, 18, 24, 116, 117, 118, 151, 152, 153, 182, 183, 184], [18, 20087], [1100, 1111]⟩ v_w41_ValueTells_b1

abbrev v_w41_ValueTells_s1 (x2 : Int) (x3 : V) (x12 : V) (x13 : V) (x24 : Int) (x116 : V) (x117 : Int) (x118 : Int) (x151 : V) (x152 : Int) (x153 : Int) (x182 : V) (x183 : Int) (x184 : Int) (o18 : List V) (o20087 : List V) (k1100 : Nat) (k1111 : Nat) (G : List GObj) : St := ⟨[(2, .int .i64 x2), (3, x3), (12, x12), (13, x13), (18, .lptr 18 0), (24, .int .i64 x24), (116, x116), (117, .int .i64 x117), (118, .int .i64 x118), (151, x151), (152, .int .i64 x152), (153, .int .i64 x153), (182, x182), (183, .int .i64 x183), (184, .int .i64 x184)], [(18, o18), (20087, o20087)], [(1100, k1100), (1111, k1111)], G⟩

def v_w41_ValueTells_b2 : VC :=
  .seq (
  .region [] [] [
    ⟨(some 154), .bin .lss (.t 153) (.t 152), none⟩] ⟨[2, 3, 12, 13, 18, 116, 117, 118, 151, 152, 153, 154], [18, 20087], [1100, 1111]⟩) (
  .seq (
  .cond (.t 154) (
    .skip) (
    .exit 4)) (
  .seq (
  .block 5 (
    .seq (
    .region [] [] [
      ⟨(some 155), .iaddr none 1 (.t 151) (.t 153), none⟩,
      ⟨(some 156), .load .imm none (.t 155), none⟩,
      ⟨(some 24), .mv (.t 156), none⟩] ⟨[2, 3, 12, 13, 18, 24, 116, 117, 118, 151, 152, 153], [18, 20087], [1100, 1111]⟩) (
    .seq (
    .region [] [] [
      ⟨(some 158), .load (.loc 18) (some 2) (.t 18), none⟩,
      ⟨(some 159), .mv (.t 24), none⟩,
      ⟨(some 160), .call true (.c (.fn 15 [])) [([some 1, some 1], (.t 158)), ([none], (.t 159))] [], none⟩,
      ⟨(some 157), .mv (.t 160), none⟩,
      ⟨(some 161), .ext (.t 157) 0, none⟩,
      ⟨(some 162), .ext (.t 157) 1, none⟩,
      ⟨(some 25), .mv (.t 161), none⟩,
      ⟨(some 26), .mv (.t 162), none⟩] ⟨[2, 3, 12, 13, 18, 24, 25, 26, 116, 117, 118, 151, 152, 153], [18, 20087], [1100, 1111]⟩) (
    .seq (
    .region [] [] [
      ⟨(some 164), .load (.loc 18) (some 2) (.t 18), none⟩,
      ⟨(some 165), .mv (.t 24), none⟩,
      ⟨(some 166), .call true (.c (.fn 16 [])) [([some 1, some 1], (.t 164)), ([none], (.t 165))] [], none⟩,
      ⟨(some 163), .mv (.t 166), none⟩,
      ⟨(some 167), .ext (.t 163) 0, none⟩,
      ⟨(some 168), .ext (.t 163) 1, none⟩,
      ⟨(some 27), .mv (.t 167), none⟩,
      ⟨(some 28), .mv (.t 168), none⟩] ⟨[2, 3, 12, 13, 18, 24, 25, 26, 27, 28, 116, 117, 118, 151, 152, 153], [18, 20087], [1100, 1111]⟩) (
    .seq (
    .seq (
    .region [] [] [
      ⟨(some 169), .mv (.t 25), none⟩,
      ⟨(some 170), .mv (.t 27), none⟩,
      ⟨(some 171), .bin .neq (.t 169) (.t 170), none⟩,
      ⟨(some 172), .mv (.t 171), none⟩,
      ⟨(some 173), .mv (.t 26), (some (172, false))⟩,
      ⟨(some 174), .mv (.t 28), (some (172, false))⟩,
      ⟨(some 175), .bin .neq (.t 173) (.t 174), (some (172, false))⟩,
      ⟨(some 176), .pick (.t 172) (.c (.bool true)) (.t 175), none⟩] ⟨[2, 3, 12, 13, 18, 24, 116, 117, 118, 151, 152, 153, 176], [18, 20087], [1100, 1111]⟩) (
    .cond (.t 176) (
      .seq (
      .region [] [] [
        ⟨(some 8), .mv (.c (.bool false)), none⟩] ⟨[8], [], []⟩) (
      .ret)) (
      .skip))) (
    .seq (
    .region [.freeze 12 [some 7, some 1, some 1]] [] [
      ⟨(some 177), .mv (.t 12), none⟩,
      ⟨(some 178), .mv (.t 13), none⟩,
      ⟨(some 179), .mv (.t 3), none⟩,
      ⟨(some 180), .build [.nils, .nils, .nils] [(0, 1, (.t 179))], none⟩,
      ⟨(some 181), .lit none [some 7, some 1, some 1] [.slice none 7 [], .slice none 1 [], .slice none 1 []] 1 [(0, (.t 180))], none⟩,
      ⟨(some 182), .lit none [some 3] [.slice none 3 []] 3 [(0, (.t 177)), (1, (.t 178)), (2, (.t 181))], none⟩,
      ⟨(some 183), .len (.t 182), none⟩,
      ⟨(some 184), .mv (.c (.int .i64 0)), none⟩] ⟨[2, 3, 12, 13, 18, 24, 116, 117, 118, 151, 152, 153, 182, 183, 184], [18, 20087], [1100, 1111]⟩) (
    .block 6 (
      v_w41_ValueTells_l1)))))))) (
  .region [] [] [
    ⟨(some 211), .bin .add (.t 153) (.c (.int .i64 1)), none⟩,
    ⟨(some 153), .mv (.t 211), none⟩] ⟨[2, 3, 12, 13, 18, 116, 117, 118, 151, 152, 153], [18, 20087], [1100, 1111]⟩)))

def v_w41_ValueTells_l2 : VC := .loop [.freeze 12 [some 7, some 1, some 1]] ⟨[2, 3, 12, 13, 18, 116, 117, 118, 151, 152, 153], [18, 20087], [1100, 1111]⟩ v_w41_ValueTells_b2

abbrev v_w41_ValueTells_s2 (x2 : Int) (x3 : V) (x12 : V) (x13 : V) (x116 : V) (x117 : Int) (x118 : Int) (x151 : V) (x152 : Int) (x153 : Int) (o18 : List V) (o20087 : List V) (k1100 : Nat) (k1111 : Nat) (G : List GObj) : St := ⟨[(2, .int .i64 x2), (3, x3), (12, x12), (13, x13), (18, .lptr 18 0), (116, x116), (117, .int .i64 x117), (118, .int .i64 x118), (151, x151), (152, .int .i64 x152), (153, .int .i64 x153)], [(18, o18), (20087, o20087)], [(1100, k1100), (1111, k1111)], G⟩

def v_w41_ValueTells_b3 : VC :=
  .seq (
  .region [] [] [
    ⟨(some 119), .bin .lss (.t 118) (.t 117), none⟩] ⟨[2, 3, 12, 13, 116, 117, 118, 119], [20087], [1100, 1111]⟩) (
  .seq (
  .cond (.t 119) (
    .skip) (
    .exit 2)) (
  .seq (
  .block 3 (
    .seq (
    .region [] [18] [
      ⟨(some 120), .iaddr none 2 (.t 116) (.t 118), none⟩,
      ⟨(some 121), .load .imm (some 2) (.t 120), none⟩,
      ⟨(some 18), .obj 18 [.nils, .nils], none⟩,
      ⟨none, .store (.loc 18) [some 1, some 1] (.t 18) (.t 121), none⟩] ⟨[2, 3, 12, 13, 18, 116, 117, 118], [18, 20087], [1100, 1111]⟩) (
    .seq (
    .region [] [] [
      ⟨(some 123), .load (.loc 18) (some 2) (.t 18), none⟩,
      ⟨(some 124), .call true (.c (.fn 10 [])) [([some 1, some 1], (.t 123))] [], none⟩,
      ⟨(some 122), .mv (.t 124), none⟩,
      ⟨(some 125), .ext (.t 122) 0, none⟩,
      ⟨(some 126), .ext (.t 122) 1, none⟩,
      ⟨(some 19), .mv (.t 125), none⟩,
      ⟨(some 20), .mv (.t 126), none⟩] ⟨[2, 3, 12, 13, 18, 19, 20, 116, 117, 118], [18, 20087], [1100, 1111]⟩) (
    .seq (
    .region [] [] [
      ⟨(some 128), .load (.loc 18) (some 2) (.t 18), none⟩,
      ⟨(some 129), .call true (.c (.fn 11 [])) [([some 1, some 1], (.t 128))] [], none⟩,
      ⟨(some 127), .mv (.t 129), none⟩,
      ⟨(some 130), .ext (.t 127) 0, none⟩,
      ⟨(some 131), .ext (.t 127) 1, none⟩,
      ⟨(some 21), .mv (.t 130), none⟩,
      ⟨(some 22), .mv (.t 131), none⟩] ⟨[2, 3, 12, 13, 18, 19, 20, 21, 22, 116, 117, 118], [18, 20087], [1100, 1111]⟩) (
    .seq (
    .seq (
    .region [] [] [
      ⟨(some 132), .load (.loc 18) (some 2) (.t 18), none⟩,
      ⟨(some 133), .call true (.c (.fn 12 [])) [([some 1, some 1], (.t 132))] [], none⟩,
      ⟨(some 134), .load (.loc 18) (some 2) (.t 18), none⟩,
      ⟨(some 135), .call true (.c (.fn 13 [])) [([some 1, some 1], (.t 134))] [], none⟩,
      ⟨(some 136), .bin .neq (.t 133) (.t 135), none⟩,
      ⟨(some 137), .mv (.t 136), none⟩,
      ⟨(some 138), .mv (.t 20), (some (137, false))⟩,
      ⟨(some 139), .mv (.t 22), (some (137, false))⟩,
      ⟨(some 140), .bin .neq (.t 138) (.t 139), (some (137, false))⟩,
      ⟨(some 141), .pick (.t 137) (.c (.bool true)) (.t 140), none⟩,
      ⟨(some 142), .mv (.t 141), none⟩,
      ⟨(some 143), .mv (.t 19), (some (142, false))⟩,
      ⟨(some 144), .mv (.t 21), (some (142, false))⟩,
      ⟨(some 145), .call true (.c (.fn 14 [])) [([some 1], (.t 143)), ([some 1], (.t 144))] [], (some (142, false))⟩,
      ⟨(some 146), .un .not (.t 145), (some (142, false))⟩,
      ⟨(some 147), .pick (.t 142) (.c (.bool true)) (.t 146), none⟩] ⟨[2, 3, 12, 13, 18, 116, 117, 118, 147], [18, 20087], [1100, 1111]⟩) (
    .cond (.t 147) (
      .seq (
      .region [] [] [
        ⟨(some 8), .mv (.c (.bool false)), none⟩] ⟨[8], [], []⟩) (
      .ret)) (
      .skip))) (
    .seq (
    .region [] [] [
      ⟨(some 148), .mv (.t 2), none⟩,
      ⟨(some 149), .mv (.t 2), none⟩,
      ⟨(some 150), .call true (.c (.fn 9 [])) [([none], (.t 149)), ([none], (.c (.int .i64 300)))] [], none⟩,
      ⟨(some 151), .lit none [none] [.int .i64 0] 2 [(0, (.t 148)), (1, (.t 150))], none⟩,
      ⟨(some 152), .len (.t 151), none⟩,
      ⟨(some 153), .mv (.c (.int .i64 0)), none⟩] ⟨[2, 3, 12, 13, 18, 116, 117, 118, 151, 152, 153], [18, 20087], [1100, 1111]⟩) (
    .block 4 (
      v_w41_ValueTells_l2)))))))) (
  .region [] [] [
    ⟨(some 212), .bin .add (.t 118) (.c (.int .i64 1)), none⟩,
    ⟨(some 118), .mv (.t 212), none⟩] ⟨[2, 3, 12, 13, 116, 117, 118], [20087], [1100, 1111]⟩)))

def v_w41_ValueTells_l3 : VC := .loop [.freeze 12 [some 7, some 1, some 1]] ⟨[2, 3, 12, 13, 116, 117, 118], [20087], [1100, 1111]⟩ v_w41_ValueTells_b3

abbrev v_w41_ValueTells_s3 (x2 : Int) (x3 : V) (x12 : V) (x13 : V) (x116 : V) (x117 : Int) (x118 : Int) (o20087 : List V) (k1100 : Nat) (k1111 : Nat) (G : List GObj) : St := ⟨[(2, .int .i64 x2), (3, x3), (12, x12), (13, x13), (116, x116), (117, .int .i64 x117), (118, .int .i64 x118)], [(20087, o20087)], [(1100, k1100), (1111, k1111)], G⟩

def v_w41_ValueTells : VFunc where
  nparams := 4
  results := [.t 8 [none]]
  body :=
    .seq (
    .region [] [5] [
      ⟨(some 5), .box 5 (.t 1), none⟩,
      ⟨(some 8), .mv (.c (.bool false)), none⟩] ⟨[0, 2, 3, 5], [5], []⟩) (
    .seq (
    .seq (
    .region [] [] [
      ⟨(some 35), .call true (.c (.fn 5 [])) [] [], none⟩,
      ⟨(some 36), .un .not (.t 35), none⟩] ⟨[0, 2, 3, 5, 36], [5], []⟩) (
    .cond (.t 36) (
      .seq (
      .region [] [] [
        ⟨(some 8), .mv (.c (.bool false)), none⟩] ⟨[8], [], []⟩) (
      .ret)) (
      .skip))) (
    .seq (
    .seq (
    .region [] [] [
      ⟨(some 37), .mv (.t 0), none⟩,
      ⟨(some 38), .call true (.c (.fn 6 [])) [([some 1], (.t 37))] [], none⟩,
      ⟨(some 39), .un .not (.t 38), none⟩,
      ⟨(some 40), .mv (.t 39), none⟩,
      ⟨(some 41), .faddr 0 (.t 5), (some (40, false))⟩,
      ⟨(some 42), .load (.loc 5) none (.t 41), (some (40, false))⟩,
      ⟨(some 43), .len (.t 42), (some (40, false))⟩,
      ⟨(some 44), .faddr 1 (.t 5), (some (40, false))⟩,
      ⟨(some 45), .load (.loc 5) none (.t 44), (some (40, false))⟩,
      ⟨(some 46), .len (.t 45), (some (40, false))⟩,
      ⟨(some 47), .bin .add (.t 43) (.t 46), (some (40, false))⟩,
      ⟨(some 48), .bin .gtr (.t 47) (.c (.int .i64 400)), (some (40, false))⟩,
      ⟨(some 49), .pick (.t 40) (.c (.bool true)) (.t 48), none⟩,
      ⟨(some 50), .mv (.t 49), none⟩,
      ⟨(some 51), .mv (.t 3), (some (50, false))⟩,
      ⟨(some 52), .len (.t 51), (some (50, false))⟩,
      ⟨(some 53), .bin .gtr (.t 52) (.c (.int .i64 100)), (some (50, false))⟩,
      ⟨(some 54), .pick (.t 50) (.c (.bool true)) (.t 53), none⟩] ⟨[0, 2, 3, 5, 54], [5], []⟩) (
    .cond (.t 54) (
      .seq (
      .region [] [] [
        ⟨(some 8), .mv (.c (.bool true)), none⟩] ⟨[8], [], []⟩) (
      .ret)) (
      .skip))) (
    .seq (
    .region [] [] [
      ⟨(some 55), .mv (.t 0), none⟩,
      ⟨(some 56), .call false (.c (.fn 7 [])) [([some 1], (.t 55))] [], none⟩,
      ⟨(some 9), .mv (.t 56), none⟩] ⟨[2, 3, 5, 9], [5], []⟩) (
    .seq (
    .region [] [10] [
      ⟨(some 57), .mv (.t 9), none⟩,
      ⟨(some 58), .call false (.c (.fn 8 [])) [([none], (.t 57))] [], none⟩,
      ⟨(some 10), .obj 10 [.nils, .nils], none⟩,
      ⟨none, .store (.loc 10) [some 1, some 1] (.t 10) (.t 58), none⟩] ⟨[2, 3, 5, 10], [5, 10], []⟩) (
    .seq (
    .region [] [20063, 11] [
      ⟨(some 59), .faddr 0 (.t 10), none⟩,
      ⟨(some 60), .load (.loc 10) none (.t 59), none⟩,
      ⟨(some 61), .faddr 1 (.t 10), none⟩,
      ⟨(some 62), .load (.loc 10) none (.t 61), none⟩,
      ⟨(some 63), .appo 20063 21063 [none] (.c (.nils)) (.t 62), none⟩,
      ⟨(some 64), .build [.nils, .nils] [(0, 1, (.t 60)), (1, 1, (.t 63))], none⟩,
      ⟨(some 11), .obj 11 [.nils, .nils], none⟩,
      ⟨none, .store (.loc 11) [some 1, some 1] (.t 11) (.t 64), none⟩] ⟨[2, 3, 5, 10, 11], [5, 10, 11, 20063], []⟩) (
    .seq (
    .region [] [] [
      ⟨(some 65), .faddr 1 (.t 11), none⟩,
      ⟨(some 66), .load (.loc 11) none (.t 65), none⟩,
      ⟨(some 67), .mv (.t 2), none⟩,
      ⟨(some 68), .faddr 1 (.t 11), none⟩,
      ⟨(some 69), .load (.loc 11) none (.t 68), none⟩,
      ⟨(some 70), .len (.t 69), none⟩,
      ⟨(some 71), .call true (.c (.fn 9 [])) [([none], (.t 67)), ([none], (.t 70))] [], none⟩,
      ⟨(some 72), .mv (.t 2), none⟩,
      ⟨(some 73), .iaddr none 1 (.t 66) (.t 71), none⟩,
      ⟨none, .store (.loc 20063) [none] (.t 73) (.t 72), none⟩] ⟨[2, 3, 5, 10, 11], [5, 10, 11, 20063], []⟩) (
    .seq (
    .region [] [] [
      ⟨(some 12), .mv (.c (.nils)), none⟩,
      ⟨(some 13), .mv (.c (.nils)), none⟩] ⟨[2, 3, 5, 10, 11, 12, 13], [5, 10, 11, 20063, 20087], [1100, 1111]⟩) (
    .seq (
    .seq (
    .region [] [] [
      ⟨(some 74), .mv (.t 3), none⟩,
      ⟨(some 75), .len (.t 74), none⟩,
      ⟨(some 76), .mv (.c (.int .i64 0)), none⟩] ⟨[2, 3, 5, 10, 11, 12, 13, 74, 75, 76], [5, 10, 11, 20063, 20087], [1100, 1111]⟩) (
    .block 0 (
      v_w41_ValueTells_l0))) (
    .seq (
    .seq (
    .region [.freezeCell 11 1 [none]] [] [
      ⟨(some 113), .load (.loc 5) (some 2) (.t 5), none⟩,
      ⟨(some 114), .load (.loc 10) (some 2) (.t 10), none⟩,
      ⟨(some 115), .load (.loc 11) (some 2) (.t 11), none⟩,
      ⟨(some 116), .lit none [some 1, some 1] [.slice none 1 [], .slice none 1 []] 3 [(0, (.t 113)), (1, (.t 114)), (2, (.t 115))], none⟩,
      ⟨(some 117), .len (.t 116), none⟩,
      ⟨(some 118), .mv (.c (.int .i64 0)), none⟩] ⟨[2, 3, 12, 13, 116, 117, 118], [20087], [1100, 1111]⟩) (
    .block 2 (
      v_w41_ValueTells_l3))) (
    .seq (
    .region [] [] [
      ⟨(some 8), .mv (.c (.bool true)), none⟩] ⟨[8], [], []⟩) (
    .ret)))))))))))

/- 4 -/
def v_w41_ValueAdds_b0 : VC :=
  .seq (
  .seq (
  .region [] [] [
    ⟨(some 40), .mv (.t 10), none⟩,
    ⟨(some 41), .bin .gtr (.t 40) (.c (.int .i64 0)), none⟩] ⟨[1, 2, 7, 8, 9, 10, 41], [8], [1054]⟩) (
  .cond (.t 41) (
    .skip) (
    .exit 0))) (
  .seq (
  .block 1 (
    .region [.norm 9 1054 3] [5054] [
      ⟨(some 44), .mv (.t 9), none⟩,
      ⟨(some 45), .mv (.t 7), none⟩,
      ⟨(some 46), .call false (.c (.fn 19 [])) [([none], (.t 45)), ([none], (.c (.int .i64 100)))] [], none⟩,
      ⟨(some 47), .build [.int .i64 0, .int .i64 0, .int .i64 0, .int .i64 0, .int .i64 0, .int .i64 0, .int .i64 0] [(5, 1, (.t 46))], none⟩,
      ⟨(some 48), .mv (.t 7), none⟩,
      ⟨(some 49), .call false (.c (.fn 19 [])) [([none], (.t 48)), ([none], (.c (.int .i64 9)))] [], none⟩,
      ⟨(some 50), .build [.int .i64 0, .int .i64 0, .int .i64 0, .int .i64 0, .int .i64 0, .int .i64 0, .int .i64 0] [(5, 1, (.t 49))], none⟩,
      ⟨(some 51), .lit none [none, none, none, none, none, none, none] [.int .i64 0, .int .i64 0, .int .i64 0, .int .i64 0, .int .i64 0, .int .i64 0, .int .i64 0] 2 [(0, (.t 47)), (1, (.t 50))], none⟩,
      ⟨(some 52), .build [.nils, .nils, .nils] [(0, 1, (.t 51))], none⟩,
      ⟨(some 53), .lit none [some 7, some 1, some 1] [.slice none 7 [], .slice none 1 [], .slice none 1 []] 1 [(0, (.t 52))], none⟩,
      ⟨(some 54), .app 5054 (some 1054) [some 7, some 1, some 1] (.t 44) (.t 53), none⟩,
      ⟨(some 9), .mv (.t 54), none⟩] ⟨[1, 2, 7, 8, 9, 10], [8], [1054]⟩)) (
  .region [] [] [
    ⟨(some 42), .mv (.t 10), none⟩,
    ⟨(some 43), .bin .sub (.t 42) (.c (.int .i64 1)), none⟩,
    ⟨(some 10), .mv (.t 43), none⟩] ⟨[1, 2, 7, 8, 9, 10], [8], [1054]⟩))

def v_w41_ValueAdds_l0 : VC := .loop [.norm 9 1054 3] ⟨[1, 2, 7, 8, 9, 10], [8], [1054]⟩ v_w41_ValueAdds_b0

abbrev v_w41_ValueAdds_s0 (x1 : Int) (x2 : Int) (x7 : V) (x9 : V) (x10 : Int) (o8 : List V) (k1054 : Nat) (G : List GObj) : St := ⟨[(1, .int .u16 x1), (2, .int .u8 x2), (7, x7), (8, .lptr 8 0), (9, x9), (10, .int .i64 x10)], [(8, o8)], [(1054, k1054)], G⟩

def v_w41_ValueAdds_b1 : VC :=
  .seq (
  .region [] [] [
    ⟨(some 98), .bin .lss (.t 97) (.t 96), none⟩] ⟨[1, 8, 9, 12, 13, 14, 15, 16, 17, 18, 95, 96, 97, 98], [8, 18], [1054, 1106]⟩) (
  .seq (
  .cond (.t 98) (
    .skip) (
    .exit 2)) (
  .seq (
  .block 3 (
    .seq (
    .region [] [] [
      ⟨(some 99), .iaddr none 1 (.t 95) (.t 97), none⟩,
      ⟨(some 100), .load .imm none (.t 99), none⟩,
      ⟨(some 20), .mv (.t 100), none⟩] ⟨[1, 8, 9, 12, 13, 14, 15, 16, 17, 18, 20, 95, 96, 97], [8, 18], [1054, 1106]⟩) (
    .region [.normCell 18 1 1106 1] [5106] [
      ⟨(some 101), .faddr 1 (.t 18), none⟩,
      ⟨(some 102), .load (.loc 18) none (.t 101), none⟩,
      ⟨(some 103), .mv (.t 20), none⟩,
      ⟨(some 104), .bin .mul (.c (.int .i64 2)) (.t 103), none⟩,
      ⟨(some 105), .lit none [none] [.int .i64 0] 1 [(0, (.t 104))], none⟩,
      ⟨(some 106), .app 5106 (some 1106) [none] (.t 102) (.t 105), none⟩,
      ⟨(some 107), .faddr 1 (.t 18), none⟩,
      ⟨none, .store (.loc 18) [some 1] (.t 107) (.t 106), none⟩] ⟨[1, 8, 9, 12, 13, 14, 15, 16, 17, 18, 95, 96, 97], [8, 18], [1054, 1106]⟩))) (
  .region [] [] [
    ⟨(some 108), .bin .add (.t 97) (.c (.int .i64 1)), none⟩,
    ⟨(some 97), .mv (.t 108), none⟩] ⟨[1, 8, 9, 12, 13, 14, 15, 16, 17, 18, 95, 96, 97], [8, 18], [1054, 1106]⟩)))

def v_w41_ValueAdds_l1 : VC := .loop [.normCell 18 1 1106 1] ⟨[1, 8, 9, 12, 13, 14, 15, 16, 17, 18, 95, 96, 97], [8, 18], [1054, 1106]⟩ v_w41_ValueAdds_b1

abbrev v_w41_ValueAdds_s1 (x1 : Int) (x9 : V) (x12 : Int) (x13 : Int) (x14 : Int) (x15 : Int) (x16 : Int) (x17 : Int) (x95 : V) (x96 : Int) (x97 : Int) (o8 : List V) (o18 : List V) (k1054 : Nat) (k1106 : Nat) (G : List GObj) : St := ⟨[(1, .int .u16 x1), (8, .lptr 8 0), (9, x9), (12, .int .i64 x12), (13, .int .i64 x13), (14, .int .i64 x14), (15, .int .i64 x15), (16, .int .i64 x16), (17, .int .i64 x17), (18, .lptr 18 0), (95, x95), (96, .int .i64 x96), (97, .int .i64 x97)], [(8, o8), (18, o18)], [(1054, k1054), (1106, k1106)], G⟩

def v_w41_ValueAdds_b2 : VC :=
  .seq (
  .region [] [] [
    ⟨(some 125), .bin .lss (.t 124) (.t 123), none⟩] ⟨[12, 13, 14, 15, 16, 17, 21, 22, 24, 25, 122, 123, 124, 125], [], []⟩) (
  .seq (
  .cond (.t 125) (
    .skip) (
    .exit 4)) (
  .seq (
  .block 5 (
    .seq (
    .region [] [] [
      ⟨(some 126), .iaddr none 1 (.t 122) (.t 124), none⟩,
      ⟨(some 127), .load .imm none (.t 126), none⟩,
      ⟨(some 27), .mv (.t 127), none⟩] ⟨[12, 13, 14, 15, 16, 17, 21, 22, 24, 25, 27, 122, 123, 124], [], []⟩) (
    .region [] [] [
      ⟨(some 128), .mv (.t 25), none⟩,
      ⟨(some 129), .mv (.t 27), none⟩,
      ⟨(some 130), .bin .add (.t 128) (.t 129), none⟩,
      ⟨(some 25), .mv (.t 130), none⟩] ⟨[12, 13, 14, 15, 16, 17, 21, 22, 24, 25, 122, 123, 124], [], []⟩))) (
  .region [] [] [
    ⟨(some 131), .bin .add (.t 124) (.c (.int .i64 1)), none⟩,
    ⟨(some 124), .mv (.t 131), none⟩] ⟨[12, 13, 14, 15, 16, 17, 21, 22, 24, 25, 122, 123, 124], [], []⟩)))

def v_w41_ValueAdds_l2 : VC := .loop [] ⟨[12, 13, 14, 15, 16, 17, 21, 22, 24, 25, 122, 123, 124], [], []⟩ v_w41_ValueAdds_b2

abbrev v_w41_ValueAdds_s2 (x12 : Int) (x13 : Int) (x14 : Int) (x15 : Int) (x16 : Int) (x17 : Int) (x21 : Int) (x22 : Int) (x24 : Int) (x25 : Int) (x122 : V) (x123 : Int) (x124 : Int) (G : List GObj) : St := ⟨[(12, .int .i64 x12), (13, .int .i64 x13), (14, .int .i64 x14), (15, .int .i64 x15), (16, .int .i64 x16), (17, .int .i64 x17), (21, .int .i64 x21), (22, .int .i64 x22), (24, .int .i64 x24), (25, .int .i64 x25), (122, x122), (123, .int .i64 x123), (124, .int .i64 x124)], [], [], G⟩

def v_w41_ValueAdds : VFunc where
  nparams := 3
  results := [.t 6 [none]]
  body :=
    .seq (
    .region [] [] [
      ⟨(some 6), .mv (.c (.bool false)), none⟩] ⟨[0, 1, 2], [], []⟩) (
    .seq (
    .seq (
    .region [] [] [
      ⟨(some 28), .call true (.c (.fn 5 [])) [] [], none⟩,
      ⟨(some 29), .un .not (.t 28), none⟩] ⟨[0, 1, 2, 29], [], []⟩) (
    .cond (.t 29) (
      .seq (
      .region [] [] [
        ⟨(some 6), .mv (.c (.bool false)), none⟩] ⟨[6], [], []⟩) (
      .ret)) (
      .skip))) (
    .seq (
    .seq (
    .region [] [] [
      ⟨(some 30), .mv (.t 0), none⟩,
      ⟨(some 31), .call true (.c (.fn 6 [])) [([some 1], (.t 30))] [], none⟩,
      ⟨(some 32), .un .not (.t 31), none⟩] ⟨[0, 1, 2, 32], [], []⟩) (
    .cond (.t 32) (
      .seq (
      .region [] [] [
        ⟨(some 6), .mv (.c (.bool true)), none⟩] ⟨[6], [], []⟩) (
      .ret)) (
      .skip))) (
    .seq (
    .region [] [] [
      ⟨(some 33), .mv (.t 0), none⟩,
      ⟨(some 34), .call false (.c (.fn 7 [])) [([some 1], (.t 33))] [], none⟩,
      ⟨(some 7), .mv (.t 34), none⟩] ⟨[1, 2, 7], [], []⟩) (
    .seq (
    .region [] [8] [
      ⟨(some 35), .mv (.t 7), none⟩,
      ⟨(some 36), .call false (.c (.fn 8 [])) [([none], (.t 35))] [], none⟩,
      ⟨(some 8), .obj 8 [.nils, .nils], none⟩,
      ⟨none, .store (.loc 8) [some 1, some 1] (.t 8) (.t 36), none⟩] ⟨[1, 2, 7, 8], [8], []⟩) (
    .seq (
    .region [] [] [
      ⟨(some 9), .mv (.c (.nils)), none⟩] ⟨[1, 2, 7, 8, 9], [8], [1054]⟩) (
    .seq (
    .seq (
    .region [] [] [
      ⟨(some 37), .mv (.t 7), none⟩,
      ⟨(some 38), .call false (.c (.fn 19 [])) [([none], (.t 37)), ([none], (.c (.int .i64 9)))] [], none⟩,
      ⟨(some 39), .bin .add (.c (.int .i64 1)) (.t 38), none⟩,
      ⟨(some 10), .mv (.t 39), none⟩] ⟨[1, 2, 7, 8, 9, 10], [8], [1054]⟩) (
    .block 0 (
      v_w41_ValueAdds_l0))) (
    .seq (
    .region [] [] [
      ⟨(some 55), .mv (.t 2), none⟩,
      ⟨(some 56), .conv .i64 (.t 55), none⟩,
      ⟨(some 57), .mv (.t 9), none⟩,
      ⟨(some 58), .len (.t 57), none⟩,
      ⟨(some 59), .bin .add (.t 58) (.c (.int .i64 1)), none⟩,
      ⟨(some 60), .bin .rem (.t 56) (.t 59), none⟩,
      ⟨(some 11), .mv (.t 60), none⟩] ⟨[1, 8, 9, 11], [8], [1054]⟩) (
    .seq (
    .region [] [] [
      ⟨(some 62), .load (.loc 8) (some 2) (.t 8), none⟩,
      ⟨(some 63), .mv (.t 1), none⟩,
      ⟨(some 64), .conv .i64 (.t 63), none⟩,
      ⟨(some 65), .mv (.t 9), none⟩,
      ⟨(some 66), .call true (.c (.fn 17 [])) [([some 1, some 1], (.t 62)), ([none], (.t 64)), ([some 3], (.t 65))] [], none⟩,
      ⟨(some 61), .mv (.t 66), none⟩,
      ⟨(some 67), .ext (.t 61) 0, none⟩,
      ⟨(some 68), .ext (.t 61) 1, none⟩,
      ⟨(some 12), .mv (.t 67), none⟩,
      ⟨(some 13), .mv (.t 68), none⟩] ⟨[1, 8, 9, 11, 12, 13], [8], [1054]⟩) (
    .seq (
    .region [.norm 9 1054 3] [] [
      ⟨(some 70), .load (.loc 8) (some 2) (.t 8), none⟩,
      ⟨(some 71), .mv (.t 1), none⟩,
      ⟨(some 72), .conv .i64 (.t 71), none⟩,
      ⟨(some 73), .mv (.t 9), none⟩,
      ⟨(some 74), .mv (.t 11), none⟩,
      ⟨(some 75), .slc 3 (.t 73) none (some (.t 74)), none⟩,
      ⟨(some 76), .call true (.c (.fn 17 [])) [([some 1, some 1], (.t 70)), ([none], (.t 72)), ([some 3], (.t 75))] [], none⟩,
      ⟨(some 69), .mv (.t 76), none⟩,
      ⟨(some 77), .ext (.t 69) 0, none⟩,
      ⟨(some 78), .ext (.t 69) 1, none⟩,
      ⟨(some 14), .mv (.t 77), none⟩,
      ⟨(some 15), .mv (.t 78), none⟩] ⟨[1, 8, 9, 11, 12, 13, 14, 15], [8], [1054]⟩) (
    .seq (
    .region [.norm 9 1054 3] [] [
      ⟨(some 80), .load (.loc 8) (some 2) (.t 8), none⟩,
      ⟨(some 81), .mv (.t 1), none⟩,
      ⟨(some 82), .conv .i64 (.t 81), none⟩,
      ⟨(some 83), .mv (.t 11), none⟩,
      ⟨(some 84), .bin .add (.t 82) (.t 83), none⟩,
      ⟨(some 85), .mv (.t 9), none⟩,
      ⟨(some 86), .mv (.t 11), none⟩,
      ⟨(some 87), .slc 3 (.t 85) (some (.t 86)) none, none⟩,
      ⟨(some 88), .call true (.c (.fn 17 [])) [([some 1, some 1], (.t 80)), ([none], (.t 84)), ([some 3], (.t 87))] [], none⟩,
      ⟨(some 79), .mv (.t 88), none⟩,
      ⟨(some 89), .ext (.t 79) 0, none⟩,
      ⟨(some 90), .ext (.t 79) 1, none⟩,
      ⟨(some 16), .mv (.t 89), none⟩,
      ⟨(some 17), .mv (.t 90), none⟩] ⟨[1, 8, 9, 12, 13, 14, 15, 16, 17], [8], [1054]⟩) (
    .seq (
    .region [] [18] [
      ⟨(some 91), .faddr 0 (.t 8), none⟩,
      ⟨(some 92), .load (.loc 8) none (.t 91), none⟩,
      ⟨(some 93), .build [.nils, .nils] [(0, 1, (.t 92))], none⟩,
      ⟨(some 18), .obj 18 [.nils, .nils], none⟩,
      ⟨none, .store (.loc 18) [some 1, some 1] (.t 18) (.t 93), none⟩] ⟨[1, 8, 9, 12, 13, 14, 15, 16, 17, 18], [8, 18], [1054, 1106]⟩) (
    .seq (
    .seq (
    .region [] [] [
      ⟨(some 94), .faddr 1 (.t 8), none⟩,
      ⟨(some 95), .load (.loc 8) none (.t 94), none⟩,
      ⟨(some 96), .len (.t 95), none⟩,
      ⟨(some 97), .mv (.c (.int .i64 0)), none⟩] ⟨[1, 8, 9, 12, 13, 14, 15, 16, 17, 18, 95, 96, 97], [8, 18], [1054, 1106]⟩) (
    .block 2 (
      v_w41_ValueAdds_l1))) (
    .seq (
    .region [] [] [
      ⟨(some 110), .load (.loc 18) (some 2) (.t 18), none⟩,
      ⟨(some 111), .mv (.t 1), none⟩,
      ⟨(some 112), .conv .i64 (.t 111), none⟩,
      ⟨(some 113), .mv (.t 9), none⟩,
      ⟨(some 114), .call true (.c (.fn 17 [])) [([some 1, some 1], (.t 110)), ([none], (.t 112)), ([some 3], (.t 113))] [], none⟩,
      ⟨(some 109), .mv (.t 114), none⟩,
      ⟨(some 115), .ext (.t 109) 0, none⟩,
      ⟨(some 116), .ext (.t 109) 1, none⟩,
      ⟨(some 21), .mv (.t 115), none⟩,
      ⟨(some 22), .mv (.t 116), none⟩] ⟨[8, 12, 13, 14, 15, 16, 17, 21, 22], [8], []⟩) (
    .seq (
    .region [] [] [
      ⟨(some 118), .load (.loc 8) (some 2) (.t 8), none⟩,
      ⟨(some 119), .call true (.c (.fn 10 [])) [([some 1, some 1], (.t 118))] [], none⟩,
      ⟨(some 117), .mv (.t 119), none⟩,
      ⟨(some 120), .ext (.t 117) 0, none⟩,
      ⟨(some 121), .ext (.t 117) 1, none⟩,
      ⟨(some 23), .mv (.t 120), none⟩,
      ⟨(some 24), .mv (.t 121), none⟩] ⟨[12, 13, 14, 15, 16, 17, 21, 22, 23, 24], [], []⟩) (
    .seq (
    .region [] [] [
      ⟨(some 25), .mv (.c (.int .i64 0)), none⟩] ⟨[12, 13, 14, 15, 16, 17, 21, 22, 23, 24, 25], [], []⟩) (
    .seq (
    .seq (
    .region [] [] [
      ⟨(some 122), .mv (.t 23), none⟩,
      ⟨(some 123), .len (.t 122), none⟩,
      ⟨(some 124), .mv (.c (.int .i64 0)), none⟩] ⟨[12, 13, 14, 15, 16, 17, 21, 22, 24, 25, 122, 123, 124], [], []⟩) (
    .block 4 (
      v_w41_ValueAdds_l2))) (
    .seq (
    .region [] [] [
      ⟨(some 132), .mv (.t 13), none⟩,
      ⟨(some 133), .bin .eql (.t 132) (.c (.int .i64 0)), none⟩,
      ⟨(some 134), .mv (.t 133), none⟩,
      ⟨(some 135), .mv (.t 15), (some (134, true))⟩,
      ⟨(some 136), .bin .eql (.t 135) (.c (.int .i64 0)), (some (134, true))⟩,
      ⟨(some 137), .pick (.t 134) (.t 136) (.c (.bool false)), none⟩,
      ⟨(some 138), .mv (.t 137), none⟩,
      ⟨(some 139), .mv (.t 17), (some (138, true))⟩,
      ⟨(some 140), .bin .eql (.t 139) (.c (.int .i64 0)), (some (138, true))⟩,
      ⟨(some 141), .pick (.t 138) (.t 140) (.c (.bool false)), none⟩,
      ⟨(some 142), .mv (.t 141), none⟩,
      ⟨(some 143), .mv (.t 22), (some (142, true))⟩,
      ⟨(some 144), .bin .eql (.t 143) (.c (.int .i64 0)), (some (142, true))⟩,
      ⟨(some 145), .pick (.t 142) (.t 144) (.c (.bool false)), none⟩,
      ⟨(some 146), .mv (.t 145), none⟩,
      ⟨(some 147), .mv (.t 24), (some (146, true))⟩,
      ⟨(some 148), .bin .eql (.t 147) (.c (.int .i64 0)), (some (146, true))⟩,
      ⟨(some 149), .pick (.t 146) (.t 148) (.c (.bool false)), none⟩,
      ⟨(some 150), .mv (.t 149), none⟩,
      ⟨(some 151), .mv (.t 12), (some (150, true))⟩,
      ⟨(some 152), .mv (.t 14), (some (150, true))⟩,
      ⟨(some 153), .mv (.t 16), (some (150, true))⟩,
      ⟨(some 154), .bin .add (.t 152) (.t 153), (some (150, true))⟩,
      ⟨(some 155), .bin .eql (.t 151) (.t 154), (some (150, true))⟩,
      ⟨(some 156), .pick (.t 150) (.t 155) (.c (.bool false)), none⟩,
      ⟨(some 157), .mv (.t 156), none⟩,
      ⟨(some 158), .mv (.t 21), (some (157, true))⟩,
      ⟨(some 159), .mv (.t 12), (some (157, true))⟩,
      ⟨(some 160), .bin .mul (.c (.int .i64 2)) (.t 159), (some (157, true))⟩,
      ⟨(some 161), .bin .eql (.t 158) (.t 160), (some (157, true))⟩,
      ⟨(some 162), .pick (.t 157) (.t 161) (.c (.bool false)), none⟩,
      ⟨(some 163), .mv (.t 162), none⟩,
      ⟨(some 164), .mv (.t 25), (some (163, true))⟩,
      ⟨(some 165), .bin .eql (.t 164) (.c (.int .i64 96)), (some (163, true))⟩,
      ⟨(some 166), .pick (.t 163) (.t 165) (.c (.bool false)), none⟩,
      ⟨(some 6), .mv (.t 166), none⟩] ⟨[6], [], []⟩) (
    .ret))))))))))))))))))

/- 5 -/

def v_w41_sane : VFunc where
  nparams := 0
  results := [.t 0 [none]]
  body :=
    .seq (
    .region [] [] [
      ⟨(some 0), .mv (.c (.bool false)), none⟩] ⟨[], [], []⟩) (
    .seq (
    .region [] [1] [
      ⟨(some 8), .lit none [none] [.int .i64 0] 2 [(0, (.c (.int .i64 0))), (1, (.c (.int .i64 24)))], none⟩,
      ⟨(some 9), .lit none [none] [.int .i64 0] 2 [(0, (.c (.int .i64 2))), (1, (.c (.int .i64 5)))], none⟩,
      ⟨(some 10), .build [.nils, .nils] [(0, 1, (.t 8)), (1, 1, (.t 9))], none⟩,
      ⟨(some 1), .obj 1 [.nils, .nils], none⟩,
      ⟨none, .store (.loc 1) [some 1, some 1] (.t 1) (.t 10), none⟩] ⟨[1], [1], []⟩) (
    .seq (
    .region [] [] [
      ⟨(some 12), .load (.loc 1) (some 2) (.t 1), none⟩,
      ⟨(some 13), .call true (.c (.fn 10 [])) [([some 1, some 1], (.t 12))] [], none⟩,
      ⟨(some 11), .mv (.t 13), none⟩,
      ⟨(some 14), .ext (.t 11) 0, none⟩,
      ⟨(some 15), .ext (.t 11) 1, none⟩,
      ⟨(some 2), .mv (.t 14), none⟩,
      ⟨(some 3), .mv (.t 15), none⟩] ⟨[1, 2, 3], [1], []⟩) (
    .seq (
    .region [] [] [
      ⟨(some 17), .load (.loc 1) (some 2) (.t 1), none⟩,
      ⟨(some 18), .build [.int .i64 0, .int .i64 0, .int .i64 0, .int .i64 0, .int .i64 0, .int .i64 0, .int .i64 0] [(5, 1, (.c (.int .i64 10)))], none⟩,
      ⟨(some 19), .lit none [none, none, none, none, none, none, none] [.int .i64 0, .int .i64 0, .int .i64 0, .int .i64 0, .int .i64 0, .int .i64 0, .int .i64 0] 1 [(0, (.t 18))], none⟩,
      ⟨(some 20), .build [.nils, .nils, .nils] [(0, 1, (.t 19))], none⟩,
      ⟨(some 21), .lit none [some 7, some 1, some 1] [.slice none 7 [], .slice none 1 [], .slice none 1 []] 1 [(0, (.t 20))], none⟩,
      ⟨(some 22), .call true (.c (.fn 17 [])) [([some 1, some 1], (.t 17)), ([none], (.c (.int .i64 120))), ([some 3], (.t 21))] [], none⟩,
      ⟨(some 16), .mv (.t 22), none⟩,
      ⟨(some 23), .ext (.t 16) 0, none⟩,
      ⟨(some 24), .ext (.t 16) 1, none⟩,
      ⟨(some 4), .mv (.t 23), none⟩,
      ⟨(some 5), .mv (.t 24), none⟩] ⟨[1, 2, 3, 4, 5], [1], []⟩) (
    .seq (
    .region [] [] [
      ⟨(some 26), .load (.loc 1) (some 2) (.t 1), none⟩,
      ⟨(some 27), .call true (.c (.fn 15 [])) [([some 1, some 1], (.t 26)), ([none], (.c (.int .i64 119)))] [], none⟩,
      ⟨(some 25), .mv (.t 27), none⟩,
      ⟨(some 28), .ext (.t 25) 0, none⟩,
      ⟨(some 29), .ext (.t 25) 1, none⟩,
      ⟨(some 6), .mv (.t 28), none⟩,
      ⟨(some 7), .mv (.t 29), none⟩] ⟨[1, 2, 3, 4, 5, 6, 7], [1], []⟩) (
    .seq (
    .region [] [] [
      ⟨(some 30), .mv (.t 3), none⟩,
      ⟨(some 31), .bin .eql (.t 30) (.c (.int .i64 0)), none⟩,
      ⟨(some 32), .mv (.t 31), none⟩,
      ⟨(some 33), .mv (.t 5), (some (32, true))⟩,
      ⟨(some 34), .bin .eql (.t 33) (.c (.int .i64 0)), (some (32, true))⟩,
      ⟨(some 35), .pick (.t 32) (.t 34) (.c (.bool false)), none⟩,
      ⟨(some 36), .mv (.t 35), none⟩,
      ⟨(some 37), .mv (.t 7), (some (36, true))⟩,
      ⟨(some 38), .bin .eql (.t 37) (.c (.int .i64 0)), (some (36, true))⟩,
      ⟨(some 39), .pick (.t 36) (.t 38) (.c (.bool false)), none⟩,
      ⟨(some 40), .mv (.t 39), none⟩,
      ⟨(some 41), .mv (.t 2), (some (40, true))⟩,
      ⟨(some 42), .len (.t 41), (some (40, true))⟩,
      ⟨(some 43), .bin .eql (.t 42) (.c (.int .i64 2)), (some (40, true))⟩,
      ⟨(some 44), .pick (.t 40) (.t 43) (.c (.bool false)), none⟩,
      ⟨(some 45), .mv (.t 44), none⟩,
      ⟨(some 46), .mv (.t 2), (some (45, true))⟩,
      ⟨(some 47), .iaddr none 1 (.t 46) (.c (.int .i64 0)), (some (45, true))⟩,
      ⟨(some 48), .load .imm none (.t 47), (some (45, true))⟩,
      ⟨(some 49), .bin .eql (.t 48) (.c (.int .i64 24)), (some (45, true))⟩,
      ⟨(some 50), .pick (.t 45) (.t 49) (.c (.bool false)), none⟩,
      ⟨(some 51), .mv (.t 50), none⟩,
      ⟨(some 52), .mv (.t 2), (some (51, true))⟩,
      ⟨(some 53), .iaddr none 1 (.t 52) (.c (.int .i64 1)), (some (51, true))⟩,
      ⟨(some 54), .load .imm none (.t 53), (some (51, true))⟩,
      ⟨(some 55), .bin .eql (.t 54) (.c (.int .i64 72)), (some (51, true))⟩,
      ⟨(some 56), .pick (.t 51) (.t 55) (.c (.bool false)), none⟩,
      ⟨(some 57), .mv (.t 56), none⟩,
      ⟨(some 58), .mv (.t 4), (some (57, true))⟩,
      ⟨(some 59), .bin .eql (.t 58) (.c (.int .i64 50)), (some (57, true))⟩,
      ⟨(some 60), .pick (.t 57) (.t 59) (.c (.bool false)), none⟩,
      ⟨(some 61), .mv (.t 60), none⟩,
      ⟨(some 62), .mv (.t 6), (some (61, true))⟩,
      ⟨(some 63), .bin .eql (.t 62) (.c (.int .i64 2)), (some (61, true))⟩,
      ⟨(some 64), .pick (.t 61) (.t 63) (.c (.bool false)), none⟩,
      ⟨(some 65), .mv (.t 64), none⟩,
      ⟨(some 66), .load (.loc 1) (some 2) (.t 1), (some (65, true))⟩,
      ⟨(some 67), .call true (.c (.fn 12 [])) [([some 1, some 1], (.t 66))] [], (some (65, true))⟩,
      ⟨(some 68), .bin .eql (.t 67) (.c (.int .i64 0)), (some (65, true))⟩,
      ⟨(some 69), .pick (.t 65) (.t 68) (.c (.bool false)), none⟩,
      ⟨(some 0), .mv (.t 69), none⟩] ⟨[0], [], []⟩) (
    .ret))))))

/- 6 -/

def v_mk_Few : VFunc where
  nparams := 1
  results := [.t 2 [none]]
  body :=
    .seq (
    .region [] [] [
      ⟨(some 2), .mv (.c (.bool false)), none⟩] ⟨[0], [], []⟩) (
    .seq (
    .region [] [] [
      ⟨(some 3), .mv (.t 0), none⟩,
      ⟨(some 4), .len (.t 3), none⟩,
      ⟨(some 5), .bin .leq (.t 4) (.c (.int .i64 500)), none⟩,
      ⟨(some 2), .mv (.t 5), none⟩] ⟨[2], [], []⟩) (
    .ret))

/- 7 -/

def v_mk_New : VFunc where
  nparams := 1
  results := [.t 2 [none]]
  body :=
    .seq (
    .region [] [] [
      ⟨(some 2), .mv (.c (.nilptr)), none⟩] ⟨[0], [], []⟩) (
    .seq (
    .region [] [] [
      ⟨(some 3), .mv (.t 0), none⟩,
      ⟨(some 4), .build [.nils, .int .i64 0] [(0, 1, (.t 3))], none⟩,
      ⟨(some 5), .gbox [some 1, none] (.t 4), none⟩,
      ⟨(some 2), .mv (.t 5), none⟩] ⟨[2], [], []⟩) (
    .ret))

/- 8 -/
def v_flow_Tariff_b0 : VC :=
  .seq (
  .seq (
  .region [] [] [
    ⟨(some 13), .mv (.t 4), none⟩,
    ⟨(some 14), .bin .gtr (.t 13) (.c (.int .i64 0)), none⟩] ⟨[0, 2, 3, 4, 14], [2, 3], [1006, 1009]⟩) (
  .cond (.t 14) (
    .skip) (
    .exit 0))) (
  .seq (
  .block 1 (
    .seq (
    .region [] [] [
      ⟨(some 17), .faddr 0 (.t 3), none⟩,
      ⟨(some 18), .load (.loc 3) none (.t 17), none⟩,
      ⟨(some 19), .faddr 0 (.t 3), none⟩,
      ⟨(some 20), .load (.loc 3) none (.t 19), none⟩,
      ⟨(some 21), .len (.t 20), none⟩,
      ⟨(some 22), .bin .sub (.t 21) (.c (.int .i64 1)), none⟩,
      ⟨(some 23), .iaddr none 1 (.t 18) (.t 22), none⟩,
      ⟨(some 24), .load .imm none (.t 23), none⟩,
      ⟨(some 25), .bin .add (.t 24) (.c (.int .i64 1)), none⟩,
      ⟨(some 26), .mv (.t 0), none⟩,
      ⟨(some 27), .call false (.c (.fn 19 [])) [([none], (.t 26)), ([none], (.c (.int .i64 30)))] [], none⟩,
      ⟨(some 28), .bin .add (.t 25) (.t 27), none⟩,
      ⟨(some 5), .mv (.t 28), none⟩] ⟨[0, 2, 3, 4, 5], [2, 3], [1006, 1009]⟩) (
    .seq (
    .region [] [] [
      ⟨(some 29), .mv (.t 5), none⟩,
      ⟨(some 30), .bin .lss (.t 29) (.c (.int .i64 96)), none⟩] ⟨[0, 2, 3, 4, 5, 30], [2, 3], [1006, 1009]⟩) (
    .cond (.t 30) (
      .region [.normCell 3 0 1006 1, .normCell 3 1 1009 1] [5035, 5041] [
        ⟨(some 31), .faddr 0 (.t 3), none⟩,
        ⟨(some 32), .load (.loc 3) none (.t 31), none⟩,
        ⟨(some 33), .mv (.t 5), none⟩,
        ⟨(some 34), .lit none [none] [.int .i64 0] 1 [(0, (.t 33))], none⟩,
        ⟨(some 35), .app 5035 (some 1006) [none] (.t 32) (.t 34), none⟩,
        ⟨(some 36), .faddr 1 (.t 3), none⟩,
        ⟨(some 37), .load (.loc 3) none (.t 36), none⟩,
        ⟨(some 38), .mv (.t 0), none⟩,
        ⟨(some 39), .call false (.c (.fn 19 [])) [([none], (.t 38)), ([none], (.c (.int .i64 20)))] [], none⟩,
        ⟨(some 40), .lit none [none] [.int .i64 0] 1 [(0, (.t 39))], none⟩,
        ⟨(some 41), .app 5041 (some 1009) [none] (.t 37) (.t 40), none⟩,
        ⟨(some 42), .faddr 0 (.t 3), none⟩,
        ⟨none, .store (.loc 3) [some 1] (.t 42) (.t 35), none⟩,
        ⟨(some 43), .faddr 1 (.t 3), none⟩,
        ⟨none, .store (.loc 3) [some 1] (.t 43) (.t 41), none⟩] ⟨[0, 2, 3, 4], [2, 3], [1006, 1009]⟩) (
      .skip))))) (
  .region [] [] [
    ⟨(some 15), .mv (.t 4), none⟩,
    ⟨(some 16), .bin .sub (.t 15) (.c (.int .i64 1)), none⟩,
    ⟨(some 4), .mv (.t 16), none⟩] ⟨[0, 2, 3, 4], [2, 3], [1006, 1009]⟩))

def v_flow_Tariff_l0 : VC := .loop [.normCell 3 0 1006 1, .normCell 3 1 1009 1] ⟨[0, 2, 3, 4], [2, 3], [1006, 1009]⟩ v_flow_Tariff_b0

abbrev v_flow_Tariff_s0 (x0 : V) (x4 : Int) (o2 : List V) (o3 : List V) (k1006 : Nat) (k1009 : Nat) (G : List GObj) : St := ⟨[(0, x0), (2, .lptr 2 0), (3, .lptr 3 0), (4, .int .i64 x4)], [(2, o2), (3, o3)], [(1006, k1006), (1009, k1009)], G⟩

def v_flow_Tariff : VFunc where
  nparams := 1
  results := [.c 2 true [some 1, some 1]]
  body :=
    .seq (
    .region [] [2] [
      ⟨(some 2), .obj 2 [.nils, .nils], none⟩] ⟨[0, 2], [2], [1006, 1009]⟩) (
    .seq (
    .region [] [1006, 1009, 3] [
      ⟨(some 6), .lit (some 1006) [none] [.int .i64 0] 1 [(0, (.c (.int .i64 0)))], none⟩,
      ⟨(some 7), .mv (.t 0), none⟩,
      ⟨(some 8), .call false (.c (.fn 19 [])) [([none], (.t 7)), ([none], (.c (.int .i64 20)))] [], none⟩,
      ⟨(some 9), .lit (some 1009) [none] [.int .i64 0] 1 [(0, (.t 8))], none⟩,
      ⟨(some 10), .build [.nils, .nils] [(0, 1, (.t 6)), (1, 1, (.t 9))], none⟩,
      ⟨(some 3), .obj 3 [.nils, .nils], none⟩,
      ⟨none, .store (.loc 3) [some 1, some 1] (.t 3) (.t 10), none⟩] ⟨[0, 2, 3], [2, 3], [1006, 1009]⟩) (
    .seq (
    .seq (
    .region [] [] [
      ⟨(some 11), .mv (.t 0), none⟩,
      ⟨(some 12), .call false (.c (.fn 19 [])) [([none], (.t 11)), ([none], (.c (.int .i64 4)))] [], none⟩,
      ⟨(some 4), .mv (.t 12), none⟩] ⟨[0, 2, 3, 4], [2, 3], [1006, 1009]⟩) (
    .block 0 (
      v_flow_Tariff_l0))) (
    .seq (
    .region [] [] [
      ⟨(some 44), .load (.loc 3) (some 2) (.t 3), none⟩,
      ⟨none, .store (.loc 2) [some 1, some 1] (.t 2) (.t 44), none⟩] ⟨[2], [2], [1006, 1009]⟩) (
    .ret))))

/- 9 -/

def v_mk_Mod : VFunc where
  nparams := 2
  results := [.t 4 [none]]
  body :=
    .seq (
    .region [] [] [
      ⟨(some 4), .mv (.c (.int .i64 0)), none⟩] ⟨[0, 1], [], []⟩) (
    .seq (
    .region [] [] [
      ⟨(some 5), .mv (.t 0), none⟩,
      ⟨(some 6), .mv (.t 1), none⟩,
      ⟨(some 7), .bin .rem (.t 5) (.t 6), none⟩,
      ⟨(some 8), .mv (.t 1), none⟩,
      ⟨(some 9), .bin .add (.t 7) (.t 8), none⟩,
      ⟨(some 10), .mv (.t 1), none⟩,
      ⟨(some 11), .bin .rem (.t 9) (.t 10), none⟩,
      ⟨(some 4), .mv (.t 11), none⟩] ⟨[4], [], []⟩) (
    .ret))

/- 10 -/
def v_value_Day_b0 : VC :=
  .seq (
  .region [] [] [
    ⟨(some 20), .bin .lss (.t 19) (.c (.int .i64 96)), none⟩] ⟨[5, 18, 19, 20], [16], []⟩) (
  .seq (
  .cond (.t 20) (
    .skip) (
    .exit 0)) (
  .seq (
  .block 1 (
    .seq (
    .region [] [] [
      ⟨(some 21), .idx 96 1 false (.t 18) (.t 19), none⟩,
      ⟨(some 7), .mv (.t 21), none⟩] ⟨[5, 7, 18, 19], [16], []⟩) (
    .region [] [] [
      ⟨(some 22), .mv (.t 5), none⟩,
      ⟨(some 23), .mv (.t 7), none⟩,
      ⟨(some 24), .iaddr none 1 (.t 22) (.t 23), none⟩,
      ⟨(some 25), .load (.loc 16) none (.t 24), none⟩,
      ⟨(some 26), .bin .add (.t 25) (.c (.int .i64 1)), none⟩,
      ⟨(some 27), .iaddr none 1 (.t 22) (.t 23), none⟩,
      ⟨none, .store (.loc 16) [none] (.t 27) (.t 26), none⟩] ⟨[5, 18, 19], [16], []⟩))) (
  .region [] [] [
    ⟨(some 28), .bin .add (.t 19) (.c (.int .i64 1)), none⟩,
    ⟨(some 19), .mv (.t 28), none⟩] ⟨[5, 18, 19], [16], []⟩)))

def v_value_Day_l0 : VC := .loop [] ⟨[5, 18, 19], [16], []⟩ v_value_Day_b0

abbrev v_value_Day_s0 (n5 : Nat) (x18 : V) (x19 : Int) (o16 : List V) (G : List GObj) : St := ⟨[(5, .lref 16 1 n5), (18, x18), (19, .int .i64 x19)], [(16, o16)], [], G⟩

def v_value_Day : VFunc where
  nparams := 1
  results := [.t 2 [some 1], .t 3 [none]]
  body :=
    .seq (
    .region [] [1] [
      ⟨(some 1), .box 1 (.t 0), none⟩,
      ⟨(some 2), .mv (.c (.nils)), none⟩,
      ⟨(some 3), .mv (.c (.int .i64 0)), none⟩] ⟨[1], [1], []⟩) (
    .seq (
    .seq (
    .region [] [] [
      ⟨(some 8), .load (.loc 1) (some 2) (.t 1), none⟩,
      ⟨(some 9), .call true (.c (.fn 12 [])) [([some 1, some 1], (.t 8))] [], none⟩,
      ⟨(some 4), .mv (.t 9), none⟩] ⟨[1, 4], [1], []⟩) (
    .seq (
    .region [] [] [
      ⟨(some 10), .mv (.t 4), none⟩,
      ⟨(some 11), .bin .neq (.t 10) (.c (.int .i64 0)), none⟩] ⟨[1, 4, 11], [1], []⟩) (
    .cond (.t 11) (
      .seq (
      .region [] [] [
        ⟨(some 12), .mv (.t 4), none⟩,
        ⟨(some 2), .mv (.c (.nils)), none⟩,
        ⟨(some 3), .mv (.t 12), none⟩] ⟨[2, 3], [16], []⟩) (
      .ret)) (
      .skip)))) (
    .seq (
    .region [] [16] [
      ⟨(some 13), .faddr 1 (.t 1), none⟩,
      ⟨(some 14), .load (.loc 1) none (.t 13), none⟩,
      ⟨(some 15), .len (.t 14), none⟩,
      ⟨(some 16), .mkobj 16 [.int .i64 0] (.t 15), none⟩,
      ⟨(some 5), .mv (.t 16), none⟩] ⟨[1, 5], [1, 16], []⟩) (
    .seq (
    .seq (
    .region [] [] [
      ⟨(some 17), .load (.loc 1) (some 2) (.t 1), none⟩,
      ⟨(some 18), .call true (.c (.fn 20 [])) [([some 1, some 1], (.t 17))] [], none⟩,
      ⟨(some 19), .mv (.c (.int .i64 0)), none⟩] ⟨[5, 18, 19], [16], []⟩) (
    .block 0 (
      v_value_Day_l0))) (
    .seq (
    .region [.freeze 5 [none]] [] [
      ⟨(some 29), .mv (.t 5), none⟩,
      ⟨(some 2), .mv (.t 29), none⟩,
      ⟨(some 3), .mv (.c (.int .i64 0)), none⟩] ⟨[2, 3], [16], []⟩) (
    .ret)))))

/- 11 -/
def v_r41_Day_b0 : VC :=
  .seq (
  .region [] [] [
    ⟨(some 18), .bin .lss (.t 17) (.t 16), none⟩] ⟨[1, 5, 15, 16, 17, 18], [1], [1039]⟩) (
  .seq (
  .cond (.t 18) (
    .skip) (
    .exit 0)) (
  .seq (
  .block 1 (
    .seq (
    .region [] [] [
      ⟨(some 19), .mv (.t 17), none⟩,
      ⟨(some 20), .iaddr none 1 (.t 15) (.t 17), none⟩,
      ⟨(some 21), .load .imm none (.t 20), none⟩,
      ⟨(some 6), .mv (.t 19), none⟩,
      ⟨(some 7), .mv (.t 21), none⟩] ⟨[1, 5, 6, 7, 15, 16, 17], [1], [1039]⟩) (
    .seq (
    .region [] [] [
      ⟨(some 8), .mv (.c (.int .i64 96)), none⟩] ⟨[1, 5, 6, 7, 8, 15, 16, 17], [1], [1039]⟩) (
    .seq (
    .seq (
    .region [] [] [
      ⟨(some 22), .mv (.t 6), none⟩,
      ⟨(some 23), .bin .add (.t 22) (.c (.int .i64 1)), none⟩,
      ⟨(some 24), .faddr 0 (.t 1), none⟩,
      ⟨(some 25), .load (.loc 1) none (.t 24), none⟩,
      ⟨(some 26), .len (.t 25), none⟩,
      ⟨(some 27), .bin .lss (.t 23) (.t 26), none⟩] ⟨[1, 5, 6, 7, 8, 15, 16, 17, 27], [1], [1039]⟩) (
    .cond (.t 27) (
      .region [] [] [
        ⟨(some 28), .faddr 0 (.t 1), none⟩,
        ⟨(some 29), .load (.loc 1) none (.t 28), none⟩,
        ⟨(some 30), .mv (.t 6), none⟩,
        ⟨(some 31), .bin .add (.t 30) (.c (.int .i64 1)), none⟩,
        ⟨(some 32), .iaddr none 1 (.t 29) (.t 31), none⟩,
        ⟨(some 33), .load .imm none (.t 32), none⟩,
        ⟨(some 8), .mv (.t 33), none⟩] ⟨[1, 5, 7, 8, 15, 16, 17], [1], [1039]⟩) (
      .skip))) (
    .region [.norm 5 1039 1] [5039] [
      ⟨(some 34), .mv (.t 5), none⟩,
      ⟨(some 35), .mv (.t 8), none⟩,
      ⟨(some 36), .mv (.t 7), none⟩,
      ⟨(some 37), .bin .sub (.t 35) (.t 36), none⟩,
      ⟨(some 38), .lit none [none] [.int .i64 0] 1 [(0, (.t 37))], none⟩,
      ⟨(some 39), .app 5039 (some 1039) [none] (.t 34) (.t 38), none⟩,
      ⟨(some 5), .mv (.t 39), none⟩] ⟨[1, 5, 15, 16, 17], [1], [1039]⟩))))) (
  .region [] [] [
    ⟨(some 40), .bin .add (.t 17) (.c (.int .i64 1)), none⟩,
    ⟨(some 17), .mv (.t 40), none⟩] ⟨[1, 5, 15, 16, 17], [1], [1039]⟩)))

def v_r41_Day_l0 : VC := .loop [.norm 5 1039 1] ⟨[1, 5, 15, 16, 17], [1], [1039]⟩ v_r41_Day_b0

abbrev v_r41_Day_s0 (x5 : V) (x15 : V) (x16 : Int) (x17 : Int) (o1 : List V) (k1039 : Nat) (G : List GObj) : St := ⟨[(1, .lptr 1 0), (5, x5), (15, x15), (16, .int .i64 x16), (17, .int .i64 x17)], [(1, o1)], [(1039, k1039)], G⟩

def v_r41_Day : VFunc where
  nparams := 1
  results := [.t 2 [some 1], .t 3 [none]]
  body :=
    .seq (
    .region [] [1] [
      ⟨(some 1), .box 1 (.t 0), none⟩,
      ⟨(some 2), .mv (.c (.nils)), none⟩,
      ⟨(some 3), .mv (.c (.int .i64 0)), none⟩] ⟨[1], [1], []⟩) (
    .seq (
    .seq (
    .region [] [] [
      ⟨(some 9), .load (.loc 1) (some 2) (.t 1), none⟩,
      ⟨(some 10), .call true (.c (.fn 13 [])) [([some 1, some 1], (.t 9))] [], none⟩,
      ⟨(some 4), .mv (.t 10), none⟩] ⟨[1, 4], [1], []⟩) (
    .seq (
    .region [] [] [
      ⟨(some 11), .mv (.t 4), none⟩,
      ⟨(some 12), .bin .neq (.t 11) (.c (.int .i64 0)), none⟩] ⟨[1, 4, 12], [1], []⟩) (
    .cond (.t 12) (
      .seq (
      .region [] [] [
        ⟨(some 13), .mv (.t 4), none⟩,
        ⟨(some 2), .mv (.c (.nils)), none⟩,
        ⟨(some 3), .mv (.t 13), none⟩] ⟨[2, 3], [], [1039]⟩) (
      .ret)) (
      .skip)))) (
    .seq (
    .region [] [] [
      ⟨(some 5), .mv (.c (.nils)), none⟩] ⟨[1, 5], [1], [1039]⟩) (
    .seq (
    .seq (
    .region [] [] [
      ⟨(some 14), .faddr 0 (.t 1), none⟩,
      ⟨(some 15), .load (.loc 1) none (.t 14), none⟩,
      ⟨(some 16), .len (.t 15), none⟩,
      ⟨(some 17), .mv (.c (.int .i64 0)), none⟩] ⟨[1, 5, 15, 16, 17], [1], [1039]⟩) (
    .block 0 (
      v_r41_Day_l0))) (
    .seq (
    .region [] [] [
      ⟨(some 41), .mv (.t 5), none⟩,
      ⟨(some 2), .mv (.t 41), none⟩,
      ⟨(some 3), .mv (.c (.int .i64 0)), none⟩] ⟨[2, 3], [], [1039]⟩) (
    .ret)))))

/- 12 -/
def v_value_Check_b0 : VC :=
  .seq (
  .region [] [] [
    ⟨(some 26), .bin .lss (.t 25) (.t 24), none⟩] ⟨[1, 23, 24, 25, 26], [1], []⟩) (
  .seq (
  .cond (.t 26) (
    .skip) (
    .exit 0)) (
  .seq (
  .block 1 (
    .seq (
    .region [] [] [
      ⟨(some 27), .mv (.t 25), none⟩,
      ⟨(some 28), .iaddr none 1 (.t 23) (.t 25), none⟩,
      ⟨(some 29), .load .imm none (.t 28), none⟩,
      ⟨(some 3), .mv (.t 27), none⟩,
      ⟨(some 4), .mv (.t 29), none⟩] ⟨[1, 3, 4, 23, 24, 25], [1], []⟩) (
    .seq (
    .seq (
    .region [] [] [
      ⟨(some 30), .mv (.t 3), none⟩,
      ⟨(some 31), .bin .eql (.t 30) (.c (.int .i64 0)), none⟩,
      ⟨(some 32), .mv (.t 31), none⟩,
      ⟨(some 33), .mv (.t 4), (some (32, true))⟩,
      ⟨(some 34), .bin .neq (.t 33) (.c (.int .i64 0)), (some (32, true))⟩,
      ⟨(some 35), .pick (.t 32) (.t 34) (.c (.bool false)), none⟩,
      ⟨(some 36), .mv (.t 35), none⟩,
      ⟨(some 37), .mv (.t 3), (some (36, false))⟩,
      ⟨(some 38), .bin .gtr (.t 37) (.c (.int .i64 0)), (some (36, false))⟩,
      ⟨(some 39), .mv (.t 38), (some (36, false))⟩,
      ⟨(some 40), .mv (.t 4), (some (39, true))⟩,
      ⟨(some 41), .faddr 0 (.t 1), (some (39, true))⟩,
      ⟨(some 42), .load (.loc 1) none (.t 41), (some (39, true))⟩,
      ⟨(some 43), .mv (.t 3), (some (39, true))⟩,
      ⟨(some 44), .bin .sub (.t 43) (.c (.int .i64 1)), (some (39, true))⟩,
      ⟨(some 45), .iaddr none 1 (.t 42) (.t 44), (some (39, true))⟩,
      ⟨(some 46), .load .imm none (.t 45), (some (39, true))⟩,
      ⟨(some 47), .bin .leq (.t 40) (.t 46), (some (39, true))⟩,
      ⟨(some 48), .pick (.t 39) (.t 47) (.c (.bool false)), (some (36, false))⟩,
      ⟨(some 49), .pick (.t 36) (.c (.bool true)) (.t 48), none⟩] ⟨[1, 3, 4, 23, 24, 25, 49], [1], []⟩) (
    .cond (.t 49) (
      .seq (
      .region [] [] [
        ⟨(some 2), .mv (.c (.int .i64 4)), none⟩] ⟨[2], [], []⟩) (
      .ret)) (
      .skip))) (
    .seq (
    .region [] [] [
      ⟨(some 50), .mv (.t 4), none⟩,
      ⟨(some 51), .bin .gtr (.t 50) (.c (.int .i64 95)), none⟩,
      ⟨(some 52), .mv (.t 51), none⟩,
      ⟨(some 53), .faddr 1 (.t 1), (some (52, false))⟩,
      ⟨(some 54), .load (.loc 1) none (.t 53), (some (52, false))⟩,
      ⟨(some 55), .mv (.t 3), (some (52, false))⟩,
      ⟨(some 56), .iaddr none 1 (.t 54) (.t 55), (some (52, false))⟩,
      ⟨(some 57), .load .imm none (.t 56), (some (52, false))⟩,
      ⟨(some 58), .bin .lss (.t 57) (.c (.int .i64 0)), (some (52, false))⟩,
      ⟨(some 59), .pick (.t 52) (.c (.bool true)) (.t 58), none⟩,
      ⟨(some 60), .mv (.t 59), none⟩,
      ⟨(some 61), .faddr 1 (.t 1), (some (60, false))⟩,
      ⟨(some 62), .load (.loc 1) none (.t 61), (some (60, false))⟩,
      ⟨(some 63), .mv (.t 3), (some (60, false))⟩,
      ⟨(some 64), .iaddr none 1 (.t 62) (.t 63), (some (60, false))⟩,
      ⟨(some 65), .load .imm none (.t 64), (some (60, false))⟩,
      ⟨(some 66), .bin .gtr (.t 65) (.c (.int .i64 10000)), (some (60, false))⟩,
      ⟨(some 67), .pick (.t 60) (.c (.bool true)) (.t 66), none⟩] ⟨[1, 23, 24, 25, 67], [1], []⟩) (
    .cond (.t 67) (
      .seq (
      .region [] [] [
        ⟨(some 2), .mv (.c (.int .i64 1)), none⟩] ⟨[2], [], []⟩) (
      .ret)) (
      .skip)))))) (
  .region [] [] [
    ⟨(some 68), .bin .add (.t 25) (.c (.int .i64 1)), none⟩,
    ⟨(some 25), .mv (.t 68), none⟩] ⟨[1, 23, 24, 25], [1], []⟩)))

def v_value_Check_l0 : VC := .loop [] ⟨[1, 23, 24, 25], [1], []⟩ v_value_Check_b0

abbrev v_value_Check_s0 (x23 : V) (x24 : Int) (x25 : Int) (o1 : List V) (G : List GObj) : St := ⟨[(1, .lptr 1 0), (23, x23), (24, .int .i64 x24), (25, .int .i64 x25)], [(1, o1)], [], G⟩

def v_value_Check : VFunc where
  nparams := 1
  results := [.t 2 [none]]
  body :=
    .seq (
    .region [] [1] [
      ⟨(some 1), .box 1 (.t 0), none⟩,
      ⟨(some 2), .mv (.c (.int .i64 0)), none⟩] ⟨[1], [1], []⟩) (
    .seq (
    .seq (
    .region [] [] [
      ⟨(some 5), .faddr 0 (.t 1), none⟩,
      ⟨(some 6), .load (.loc 1) none (.t 5), none⟩,
      ⟨(some 7), .len (.t 6), none⟩,
      ⟨(some 8), .bin .eql (.t 7) (.c (.int .i64 0)), none⟩,
      ⟨(some 9), .mv (.t 8), none⟩,
      ⟨(some 10), .faddr 0 (.t 1), (some (9, false))⟩,
      ⟨(some 11), .load (.loc 1) none (.t 10), (some (9, false))⟩,
      ⟨(some 12), .len (.t 11), (some (9, false))⟩,
      ⟨(some 13), .faddr 1 (.t 1), (some (9, false))⟩,
      ⟨(some 14), .load (.loc 1) none (.t 13), (some (9, false))⟩,
      ⟨(some 15), .len (.t 14), (some (9, false))⟩,
      ⟨(some 16), .bin .neq (.t 12) (.t 15), (some (9, false))⟩,
      ⟨(some 17), .pick (.t 9) (.c (.bool true)) (.t 16), none⟩] ⟨[1, 17], [1], []⟩) (
    .cond (.t 17) (
      .seq (
      .region [] [] [
        ⟨(some 2), .mv (.c (.int .i64 3)), none⟩] ⟨[2], [], []⟩) (
      .ret)) (
      .skip))) (
    .seq (
    .seq (
    .region [] [] [
      ⟨(some 18), .faddr 0 (.t 1), none⟩,
      ⟨(some 19), .load (.loc 1) none (.t 18), none⟩,
      ⟨(some 20), .len (.t 19), none⟩,
      ⟨(some 21), .bin .gtr (.t 20) (.c (.int .i64 96)), none⟩] ⟨[1, 21], [1], []⟩) (
    .cond (.t 21) (
      .seq (
      .region [] [] [
        ⟨(some 2), .mv (.c (.int .i64 10)), none⟩] ⟨[2], [], []⟩) (
      .ret)) (
      .skip))) (
    .seq (
    .seq (
    .region [] [] [
      ⟨(some 22), .faddr 0 (.t 1), none⟩,
      ⟨(some 23), .load (.loc 1) none (.t 22), none⟩,
      ⟨(some 24), .len (.t 23), none⟩,
      ⟨(some 25), .mv (.c (.int .i64 0)), none⟩] ⟨[1, 23, 24, 25], [1], []⟩) (
    .block 0 (
      v_value_Check_l0))) (
    .seq (
    .region [] [] [
      ⟨(some 2), .mv (.c (.int .i64 0)), none⟩] ⟨[2], [], []⟩) (
    .ret)))))

/- 13 -/
def v_r41_Check_b0 : VC :=
  .seq (
  .region [] [] [
    ⟨(some 26), .bin .lss (.t 25) (.t 24), none⟩] ⟨[1, 23, 24, 25, 26], [1], []⟩) (
  .seq (
  .cond (.t 26) (
    .skip) (
    .exit 0)) (
  .seq (
  .block 1 (
    .seq (
    .region [] [] [
      ⟨(some 27), .mv (.t 25), none⟩,
      ⟨(some 28), .iaddr none 1 (.t 23) (.t 25), none⟩,
      ⟨(some 29), .load .imm none (.t 28), none⟩,
      ⟨(some 3), .mv (.t 27), none⟩,
      ⟨(some 4), .mv (.t 29), none⟩] ⟨[1, 3, 4, 23, 24, 25], [1], []⟩) (
    .seq (
    .seq (
    .region [] [] [
      ⟨(some 30), .mv (.t 3), none⟩,
      ⟨(some 31), .bin .eql (.t 30) (.c (.int .i64 0)), none⟩,
      ⟨(some 32), .mv (.t 31), none⟩,
      ⟨(some 33), .mv (.t 4), (some (32, true))⟩,
      ⟨(some 34), .bin .neq (.t 33) (.c (.int .i64 0)), (some (32, true))⟩,
      ⟨(some 35), .pick (.t 32) (.t 34) (.c (.bool false)), none⟩,
      ⟨(some 36), .mv (.t 35), none⟩,
      ⟨(some 37), .mv (.t 3), (some (36, false))⟩,
      ⟨(some 38), .bin .gtr (.t 37) (.c (.int .i64 0)), (some (36, false))⟩,
      ⟨(some 39), .mv (.t 38), (some (36, false))⟩,
      ⟨(some 40), .mv (.t 4), (some (39, true))⟩,
      ⟨(some 41), .faddr 0 (.t 1), (some (39, true))⟩,
      ⟨(some 42), .load (.loc 1) none (.t 41), (some (39, true))⟩,
      ⟨(some 43), .mv (.t 3), (some (39, true))⟩,
      ⟨(some 44), .bin .sub (.t 43) (.c (.int .i64 1)), (some (39, true))⟩,
      ⟨(some 45), .iaddr none 1 (.t 42) (.t 44), (some (39, true))⟩,
      ⟨(some 46), .load .imm none (.t 45), (some (39, true))⟩,
      ⟨(some 47), .bin .leq (.t 40) (.t 46), (some (39, true))⟩,
      ⟨(some 48), .pick (.t 39) (.t 47) (.c (.bool false)), (some (36, false))⟩,
      ⟨(some 49), .pick (.t 36) (.c (.bool true)) (.t 48), none⟩] ⟨[1, 3, 4, 23, 24, 25, 49], [1], []⟩) (
    .cond (.t 49) (
      .seq (
      .region [] [] [
        ⟨(some 2), .mv (.c (.int .i64 4)), none⟩] ⟨[2], [], []⟩) (
      .ret)) (
      .skip))) (
    .seq (
    .region [] [] [
      ⟨(some 50), .mv (.t 4), none⟩,
      ⟨(some 51), .bin .gtr (.t 50) (.c (.int .i64 95)), none⟩,
      ⟨(some 52), .mv (.t 51), none⟩,
      ⟨(some 53), .faddr 1 (.t 1), (some (52, false))⟩,
      ⟨(some 54), .load (.loc 1) none (.t 53), (some (52, false))⟩,
      ⟨(some 55), .mv (.t 3), (some (52, false))⟩,
      ⟨(some 56), .iaddr none 1 (.t 54) (.t 55), (some (52, false))⟩,
      ⟨(some 57), .load .imm none (.t 56), (some (52, false))⟩,
      ⟨(some 58), .bin .lss (.t 57) (.c (.int .i64 0)), (some (52, false))⟩,
      ⟨(some 59), .pick (.t 52) (.c (.bool true)) (.t 58), none⟩,
      ⟨(some 60), .mv (.t 59), none⟩,
      ⟨(some 61), .faddr 1 (.t 1), (some (60, false))⟩,
      ⟨(some 62), .load (.loc 1) none (.t 61), (some (60, false))⟩,
      ⟨(some 63), .mv (.t 3), (some (60, false))⟩,
      ⟨(some 64), .iaddr none 1 (.t 62) (.t 63), (some (60, false))⟩,
      ⟨(some 65), .load .imm none (.t 64), (some (60, false))⟩,
      ⟨(some 66), .bin .gtr (.t 65) (.c (.int .i64 10000)), (some (60, false))⟩,
      ⟨(some 67), .pick (.t 60) (.c (.bool true)) (.t 66), none⟩] ⟨[1, 23, 24, 25, 67], [1], []⟩) (
    .cond (.t 67) (
      .seq (
      .region [] [] [
        ⟨(some 2), .mv (.c (.int .i64 1)), none⟩] ⟨[2], [], []⟩) (
      .ret)) (
      .skip)))))) (
  .region [] [] [
    ⟨(some 68), .bin .add (.t 25) (.c (.int .i64 1)), none⟩,
    ⟨(some 25), .mv (.t 68), none⟩] ⟨[1, 23, 24, 25], [1], []⟩)))

def v_r41_Check_l0 : VC := .loop [] ⟨[1, 23, 24, 25], [1], []⟩ v_r41_Check_b0

abbrev v_r41_Check_s0 (x23 : V) (x24 : Int) (x25 : Int) (o1 : List V) (G : List GObj) : St := ⟨[(1, .lptr 1 0), (23, x23), (24, .int .i64 x24), (25, .int .i64 x25)], [(1, o1)], [], G⟩

def v_r41_Check : VFunc where
  nparams := 1
  results := [.t 2 [none]]
  body :=
    .seq (
    .region [] [1] [
      ⟨(some 1), .box 1 (.t 0), none⟩,
      ⟨(some 2), .mv (.c (.int .i64 0)), none⟩] ⟨[1], [1], []⟩) (
    .seq (
    .seq (
    .region [] [] [
      ⟨(some 5), .faddr 0 (.t 1), none⟩,
      ⟨(some 6), .load (.loc 1) none (.t 5), none⟩,
      ⟨(some 7), .len (.t 6), none⟩,
      ⟨(some 8), .bin .eql (.t 7) (.c (.int .i64 0)), none⟩,
      ⟨(some 9), .mv (.t 8), none⟩,
      ⟨(some 10), .faddr 1 (.t 1), (some (9, false))⟩,
      ⟨(some 11), .load (.loc 1) none (.t 10), (some (9, false))⟩,
      ⟨(some 12), .len (.t 11), (some (9, false))⟩,
      ⟨(some 13), .faddr 0 (.t 1), (some (9, false))⟩,
      ⟨(some 14), .load (.loc 1) none (.t 13), (some (9, false))⟩,
      ⟨(some 15), .len (.t 14), (some (9, false))⟩,
      ⟨(some 16), .bin .neq (.t 12) (.t 15), (some (9, false))⟩,
      ⟨(some 17), .pick (.t 9) (.c (.bool true)) (.t 16), none⟩] ⟨[1, 17], [1], []⟩) (
    .cond (.t 17) (
      .seq (
      .region [] [] [
        ⟨(some 2), .mv (.c (.int .i64 3)), none⟩] ⟨[2], [], []⟩) (
      .ret)) (
      .skip))) (
    .seq (
    .seq (
    .region [] [] [
      ⟨(some 18), .faddr 0 (.t 1), none⟩,
      ⟨(some 19), .load (.loc 1) none (.t 18), none⟩,
      ⟨(some 20), .len (.t 19), none⟩,
      ⟨(some 21), .bin .gtr (.t 20) (.c (.int .i64 96)), none⟩] ⟨[1, 21], [1], []⟩) (
    .cond (.t 21) (
      .seq (
      .region [] [] [
        ⟨(some 2), .mv (.c (.int .i64 10)), none⟩] ⟨[2], [], []⟩) (
      .ret)) (
      .skip))) (
    .seq (
    .seq (
    .region [] [] [
      ⟨(some 22), .faddr 0 (.t 1), none⟩,
      ⟨(some 23), .load (.loc 1) none (.t 22), none⟩,
      ⟨(some 24), .len (.t 23), none⟩,
      ⟨(some 25), .mv (.c (.int .i64 0)), none⟩] ⟨[1, 23, 24, 25], [1], []⟩) (
    .block 0 (
      v_r41_Check_l0))) (
    .seq (
    .region [] [] [
      ⟨(some 2), .mv (.c (.int .i64 0)), none⟩] ⟨[2], [], []⟩) (
    .ret)))))

/- 14 -/
def v_r39_Ints_b0 : VC :=
  .seq (
  .region [] [] [
    ⟨(some 14), .bin .lss (.t 13) (.t 12), none⟩] ⟨[0, 1, 12, 13, 14], [], []⟩) (
  .seq (
  .cond (.t 14) (
    .skip) (
    .exit 0)) (
  .seq (
  .block 1 (
    .seq (
    .region [] [] [
      ⟨(some 15), .mv (.t 13), none⟩,
      ⟨(some 5), .mv (.t 15), none⟩] ⟨[0, 1, 5, 12, 13], [], []⟩) (
    .seq (
    .region [] [] [
      ⟨(some 16), .mv (.t 0), none⟩,
      ⟨(some 17), .mv (.t 5), none⟩,
      ⟨(some 18), .iaddr none 1 (.t 16) (.t 17), none⟩,
      ⟨(some 19), .load .imm none (.t 18), none⟩,
      ⟨(some 20), .mv (.t 1), none⟩,
      ⟨(some 21), .mv (.t 5), none⟩,
      ⟨(some 22), .iaddr none 1 (.t 20) (.t 21), none⟩,
      ⟨(some 23), .load .imm none (.t 22), none⟩,
      ⟨(some 24), .bin .neq (.t 19) (.t 23), none⟩] ⟨[0, 1, 12, 13, 24], [], []⟩) (
    .cond (.t 24) (
      .seq (
      .region [] [] [
        ⟨(some 4), .mv (.c (.bool false)), none⟩] ⟨[4], [], []⟩) (
      .ret)) (
      .skip))))) (
  .region [] [] [
    ⟨(some 25), .bin .add (.t 13) (.c (.int .i64 1)), none⟩,
    ⟨(some 13), .mv (.t 25), none⟩] ⟨[0, 1, 12, 13], [], []⟩)))

def v_r39_Ints_l0 : VC := .loop [] ⟨[0, 1, 12, 13], [], []⟩ v_r39_Ints_b0

abbrev v_r39_Ints_s0 (x0 : V) (x1 : V) (x12 : Int) (x13 : Int) (G : List GObj) : St := ⟨[(0, x0), (1, x1), (12, .int .i64 x12), (13, .int .i64 x13)], [], [], G⟩

def v_r39_Ints : VFunc where
  nparams := 2
  results := [.t 4 [none]]
  body :=
    .seq (
    .region [] [] [
      ⟨(some 4), .mv (.c (.bool false)), none⟩] ⟨[0, 1], [], []⟩) (
    .seq (
    .seq (
    .region [] [] [
      ⟨(some 6), .mv (.t 0), none⟩,
      ⟨(some 7), .len (.t 6), none⟩,
      ⟨(some 8), .mv (.t 1), none⟩,
      ⟨(some 9), .len (.t 8), none⟩,
      ⟨(some 10), .bin .neq (.t 7) (.t 9), none⟩] ⟨[0, 1, 10], [], []⟩) (
    .cond (.t 10) (
      .seq (
      .region [] [] [
        ⟨(some 4), .mv (.c (.bool false)), none⟩] ⟨[4], [], []⟩) (
      .ret)) (
      .skip))) (
    .seq (
    .seq (
    .region [] [] [
      ⟨(some 11), .mv (.t 0), none⟩,
      ⟨(some 12), .len (.t 11), none⟩,
      ⟨(some 13), .mv (.c (.int .i64 0)), none⟩] ⟨[0, 1, 12, 13], [], []⟩) (
    .block 0 (
      v_r39_Ints_l0))) (
    .seq (
    .region [] [] [
      ⟨(some 4), .mv (.c (.bool true)), none⟩] ⟨[4], [], []⟩) (
    .ret))))

/- 15 -/

def v_value_Price : VFunc where
  nparams := 2
  results := [.t 4 [none], .t 5 [none]]
  body :=
    .seq (
    .region [] [2] [
      ⟨(some 2), .box 2 (.t 0), none⟩,
      ⟨(some 4), .mv (.c (.int .i64 0)), none⟩,
      ⟨(some 5), .mv (.c (.int .i64 0)), none⟩] ⟨[1, 2], [2], []⟩) (
    .seq (
    .seq (
    .region [] [] [
      ⟨(some 7), .load (.loc 2) (some 2) (.t 2), none⟩,
      ⟨(some 8), .call true (.c (.fn 12 [])) [([some 1, some 1], (.t 7))] [], none⟩,
      ⟨(some 6), .mv (.t 8), none⟩] ⟨[1, 2, 6], [2], []⟩) (
    .seq (
    .region [] [] [
      ⟨(some 9), .mv (.t 6), none⟩,
      ⟨(some 10), .bin .neq (.t 9) (.c (.int .i64 0)), none⟩] ⟨[1, 2, 6, 10], [2], []⟩) (
    .cond (.t 10) (
      .seq (
      .region [] [] [
        ⟨(some 11), .mv (.t 6), none⟩,
        ⟨(some 4), .mv (.c (.int .i64 0)), none⟩,
        ⟨(some 5), .mv (.t 11), none⟩] ⟨[4, 5], [], []⟩) (
      .ret)) (
      .skip)))) (
    .seq (
    .seq (
    .region [] [] [
      ⟨(some 12), .mv (.t 1), none⟩,
      ⟨(some 13), .bin .lss (.t 12) (.c (.int .i64 0)), none⟩,
      ⟨(some 14), .mv (.t 13), none⟩,
      ⟨(some 15), .mv (.t 1), (some (14, false))⟩,
      ⟨(some 16), .bin .gtr (.t 15) (.c (.int .i64 16777216)), (some (14, false))⟩,
      ⟨(some 17), .pick (.t 14) (.c (.bool true)) (.t 16), none⟩] ⟨[1, 2, 17], [2], []⟩) (
    .cond (.t 17) (
      .seq (
      .region [] [] [
        ⟨(some 4), .mv (.c (.int .i64 0)), none⟩,
        ⟨(some 5), .mv (.c (.int .i64 6)), none⟩] ⟨[4, 5], [], []⟩) (
      .ret)) (
      .skip))) (
    .seq (
    .region [] [] [
      ⟨(some 18), .faddr 1 (.t 2), none⟩,
      ⟨(some 19), .load (.loc 2) none (.t 18), none⟩,
      ⟨(some 20), .load (.loc 2) (some 2) (.t 2), none⟩,
      ⟨(some 21), .call true (.c (.fn 20 [])) [([some 1, some 1], (.t 20))] [], none⟩,
      ⟨(some 22), .mv (.t 1), none⟩,
      ⟨(some 23), .bin .rem (.t 22) (.c (.int .i64 96)), none⟩,
      ⟨(some 24), .idx 96 1 false (.t 21) (.t 23), none⟩,
      ⟨(some 25), .iaddr none 1 (.t 19) (.t 24), none⟩,
      ⟨(some 26), .load .imm none (.t 25), none⟩,
      ⟨(some 4), .mv (.t 26), none⟩,
      ⟨(some 5), .mv (.c (.int .i64 0)), none⟩] ⟨[4, 5], [], []⟩) (
    .ret))))

/- 16 -/
def v_r41_Price_b0 : VC :=
  .seq (
  .region [] [] [
    ⟨(some 25), .bin .lss (.t 24) (.t 23), none⟩] ⟨[1, 2, 7, 22, 23, 24, 25], [2], []⟩) (
  .seq (
  .cond (.t 25) (
    .skip) (
    .exit 0)) (
  .seq (
  .block 1 (
    .seq (
    .region [] [] [
      ⟨(some 26), .mv (.t 24), none⟩,
      ⟨(some 27), .iaddr none 1 (.t 22) (.t 24), none⟩,
      ⟨(some 28), .load .imm none (.t 27), none⟩,
      ⟨(some 8), .mv (.t 26), none⟩,
      ⟨(some 9), .mv (.t 28), none⟩] ⟨[1, 2, 7, 8, 9, 22, 23, 24], [2], []⟩) (
    .seq (
    .region [] [] [
      ⟨(some 29), .mv (.t 9), none⟩,
      ⟨(some 30), .mv (.t 1), none⟩,
      ⟨(some 31), .bin .rem (.t 30) (.c (.int .i64 96)), none⟩,
      ⟨(some 32), .bin .leq (.t 29) (.t 31), none⟩] ⟨[1, 2, 7, 8, 22, 23, 24, 32], [2], []⟩) (
    .cond (.t 32) (
      .region [] [] [
        ⟨(some 33), .faddr 1 (.t 2), none⟩,
        ⟨(some 34), .load (.loc 2) none (.t 33), none⟩,
        ⟨(some 35), .mv (.t 8), none⟩,
        ⟨(some 36), .iaddr none 1 (.t 34) (.t 35), none⟩,
        ⟨(some 37), .load .imm none (.t 36), none⟩,
        ⟨(some 7), .mv (.t 37), none⟩] ⟨[1, 2, 7, 22, 23, 24], [2], []⟩) (
      .skip))))) (
  .region [] [] [
    ⟨(some 38), .bin .add (.t 24) (.c (.int .i64 1)), none⟩,
    ⟨(some 24), .mv (.t 38), none⟩] ⟨[1, 2, 7, 22, 23, 24], [2], []⟩)))

def v_r41_Price_l0 : VC := .loop [] ⟨[1, 2, 7, 22, 23, 24], [2], []⟩ v_r41_Price_b0

abbrev v_r41_Price_s0 (x1 : Int) (x7 : Int) (x22 : V) (x23 : Int) (x24 : Int) (o2 : List V) (G : List GObj) : St := ⟨[(1, .int .i64 x1), (2, .lptr 2 0), (7, .int .i64 x7), (22, x22), (23, .int .i64 x23), (24, .int .i64 x24)], [(2, o2)], [], G⟩

def v_r41_Price : VFunc where
  nparams := 2
  results := [.t 4 [none], .t 5 [none]]
  body :=
    .seq (
    .region [] [2] [
      ⟨(some 2), .box 2 (.t 0), none⟩,
      ⟨(some 4), .mv (.c (.int .i64 0)), none⟩,
      ⟨(some 5), .mv (.c (.int .i64 0)), none⟩] ⟨[1, 2], [2], []⟩) (
    .seq (
    .seq (
    .region [] [] [
      ⟨(some 10), .load (.loc 2) (some 2) (.t 2), none⟩,
      ⟨(some 11), .call true (.c (.fn 13 [])) [([some 1, some 1], (.t 10))] [], none⟩,
      ⟨(some 6), .mv (.t 11), none⟩] ⟨[1, 2, 6], [2], []⟩) (
    .seq (
    .region [] [] [
      ⟨(some 12), .mv (.t 6), none⟩,
      ⟨(some 13), .bin .neq (.t 12) (.c (.int .i64 0)), none⟩] ⟨[1, 2, 6, 13], [2], []⟩) (
    .cond (.t 13) (
      .seq (
      .region [] [] [
        ⟨(some 14), .mv (.t 6), none⟩,
        ⟨(some 4), .mv (.c (.int .i64 0)), none⟩,
        ⟨(some 5), .mv (.t 14), none⟩] ⟨[4, 5], [], []⟩) (
      .ret)) (
      .skip)))) (
    .seq (
    .seq (
    .region [] [] [
      ⟨(some 15), .mv (.t 1), none⟩,
      ⟨(some 16), .bin .lss (.t 15) (.c (.int .i64 0)), none⟩,
      ⟨(some 17), .mv (.t 16), none⟩,
      ⟨(some 18), .mv (.t 1), (some (17, false))⟩,
      ⟨(some 19), .bin .gtr (.t 18) (.c (.int .i64 16777216)), (some (17, false))⟩,
      ⟨(some 20), .pick (.t 17) (.c (.bool true)) (.t 19), none⟩] ⟨[1, 2, 20], [2], []⟩) (
    .cond (.t 20) (
      .seq (
      .region [] [] [
        ⟨(some 4), .mv (.c (.int .i64 0)), none⟩,
        ⟨(some 5), .mv (.c (.int .i64 6)), none⟩] ⟨[4, 5], [], []⟩) (
      .ret)) (
      .skip))) (
    .seq (
    .region [] [] [
      ⟨(some 7), .mv (.c (.int .i64 0)), none⟩] ⟨[1, 2, 7], [2], []⟩) (
    .seq (
    .seq (
    .region [] [] [
      ⟨(some 21), .faddr 0 (.t 2), none⟩,
      ⟨(some 22), .load (.loc 2) none (.t 21), none⟩,
      ⟨(some 23), .len (.t 22), none⟩,
      ⟨(some 24), .mv (.c (.int .i64 0)), none⟩] ⟨[1, 2, 7, 22, 23, 24], [2], []⟩) (
    .block 0 (
      v_r41_Price_l0))) (
    .seq (
    .region [] [] [
      ⟨(some 39), .mv (.t 7), none⟩,
      ⟨(some 4), .mv (.t 39), none⟩,
      ⟨(some 5), .mv (.c (.int .i64 0)), none⟩] ⟨[4, 5], [], []⟩) (
    .ret))))))

/- 17 -/
def v_value_Worth_b0 : VC :=
  .seq (
  .region [] [] [
    ⟨(some 28), .bin .lss (.t 27) (.t 26), none⟩] ⟨[1, 2, 3, 25, 26, 27, 28], [3], []⟩) (
  .seq (
  .cond (.t 28) (
    .skip) (
    .exit 0)) (
  .seq (
  .block 1 (
    .seq (
    .region [] [10] [
      ⟨(some 29), .iaddr none 3 (.t 25) (.t 27), none⟩,
      ⟨(some 30), .load .imm (some 3) (.t 29), none⟩,
      ⟨(some 10), .obj 10 [.nils, .nils, .nils], none⟩,
      ⟨none, .store (.loc 10) [some 7, some 1, some 1] (.t 10) (.t 30), none⟩] ⟨[1, 2, 3, 10, 25, 26, 27], [3, 10], []⟩) (
    .seq (
    .region [] [] [
      ⟨(some 31), .faddr 0 (.t 10), none⟩,
      ⟨(some 32), .load (.loc 10) none (.t 31), none⟩,
      ⟨(some 33), .len (.t 32), none⟩,
      ⟨(some 34), .bin .gtr (.t 33) (.c (.int .i64 6)), none⟩] ⟨[1, 2, 3, 25, 26, 27, 34], [3], []⟩) (
    .cond (.t 34) (
      .seq (
      .region [] [] [
        ⟨(some 6), .mv (.c (.int .i64 0)), none⟩,
        ⟨(some 7), .mv (.c (.int .i64 10)), none⟩] ⟨[6, 7], [], []⟩) (
      .ret)) (
      .skip))))) (
  .region [] [] [
    ⟨(some 35), .bin .add (.t 27) (.c (.int .i64 1)), none⟩,
    ⟨(some 27), .mv (.t 35), none⟩] ⟨[1, 2, 3, 25, 26, 27], [3], []⟩)))

def v_value_Worth_l0 : VC := .loop [] ⟨[1, 2, 3, 25, 26, 27], [3], []⟩ v_value_Worth_b0

abbrev v_value_Worth_s0 (x1 : Int) (x2 : V) (x25 : V) (x26 : Int) (x27 : Int) (o3 : List V) (G : List GObj) : St := ⟨[(1, .int .i64 x1), (2, x2), (3, .lptr 3 0), (25, x25), (26, .int .i64 x26), (27, .int .i64 x27)], [(3, o3)], [], G⟩

def v_value_Worth_b1 : VC :=
  .seq (
  .region [] [] [
    ⟨(some 64), .bin .lss (.t 63) (.t 62), none⟩] ⟨[1, 3, 11, 12, 13, 53, 54, 55, 61, 62, 63, 64], [3, 11], []⟩) (
  .seq (
  .cond (.t 64) (
    .skip) (
    .exit 4)) (
  .seq (
  .block 5 (
    .seq (
    .region [] [16] [
      ⟨(some 65), .iaddr none 7 (.t 61) (.t 63), none⟩,
      ⟨(some 66), .load .imm (some 7) (.t 65), none⟩,
      ⟨(some 16), .obj 16 [.int .i64 0, .int .i64 0, .int .i64 0, .int .i64 0, .int .i64 0, .int .i64 0, .int .i64 0], none⟩,
      ⟨none, .store (.loc 16) [none, none, none, none, none, none, none] (.t 16) (.t 66), none⟩] ⟨[1, 3, 11, 12, 13, 16, 53, 54, 55, 61, 62, 63], [3, 11, 16], []⟩) (
    .seq (
    .seq (
    .region [] [] [
      ⟨(some 67), .faddr 5 (.t 16), none⟩,
      ⟨(some 68), .load (.loc 16) none (.t 67), none⟩,
      ⟨(some 69), .bin .lss (.t 68) (.c (.int .i64 0)), none⟩,
      ⟨(some 70), .mv (.t 69), none⟩,
      ⟨(some 71), .faddr 5 (.t 16), (some (70, false))⟩,
      ⟨(some 72), .load (.loc 16) none (.t 71), (some (70, false))⟩,
      ⟨(some 73), .bin .gtr (.t 72) (.c (.int .i64 8589934592)), (some (70, false))⟩,
      ⟨(some 74), .pick (.t 70) (.c (.bool true)) (.t 73), none⟩] ⟨[1, 3, 11, 12, 13, 16, 53, 54, 55, 61, 62, 63, 74], [3, 11, 16], []⟩) (
    .cond (.t 74) (
      .seq (
      .region [] [] [
        ⟨(some 6), .mv (.c (.int .i64 0)), none⟩,
        ⟨(some 7), .mv (.c (.int .i64 1)), none⟩] ⟨[6, 7], [], []⟩) (
      .ret)) (
      .skip))) (
    .region [] [] [
      ⟨(some 75), .mv (.t 12), none⟩,
      ⟨(some 76), .faddr 5 (.t 16), none⟩,
      ⟨(some 77), .load (.loc 16) none (.t 76), none⟩,
      ⟨(some 78), .faddr 1 (.t 3), none⟩,
      ⟨(some 79), .load (.loc 3) none (.t 78), none⟩,
      ⟨(some 80), .mv (.t 1), none⟩,
      ⟨(some 81), .mv (.t 13), none⟩,
      ⟨(some 82), .bin .add (.t 80) (.t 81), none⟩,
      ⟨(some 83), .bin .rem (.t 82) (.c (.int .i64 96)), none⟩,
      ⟨(some 84), .iaddr (some 96) 1 (.t 11) (.t 83), none⟩,
      ⟨(some 85), .load (.loc 11) none (.t 84), none⟩,
      ⟨(some 86), .iaddr none 1 (.t 79) (.t 85), none⟩,
      ⟨(some 87), .load .imm none (.t 86), none⟩,
      ⟨(some 88), .bin .mul (.t 77) (.t 87), none⟩,
      ⟨(some 89), .bin .add (.t 75) (.t 88), none⟩,
      ⟨(some 12), .mv (.t 89), none⟩] ⟨[1, 3, 11, 12, 13, 53, 54, 55, 61, 62, 63], [3, 11], []⟩)))) (
  .region [] [] [
    ⟨(some 90), .bin .add (.t 63) (.c (.int .i64 1)), none⟩,
    ⟨(some 63), .mv (.t 90), none⟩] ⟨[1, 3, 11, 12, 13, 53, 54, 55, 61, 62, 63], [3, 11], []⟩)))

def v_value_Worth_l1 : VC := .loop [] ⟨[1, 3, 11, 12, 13, 53, 54, 55, 61, 62, 63], [3, 11], []⟩ v_value_Worth_b1

abbrev v_value_Worth_s1 (x1 : Int) (x12 : Int) (x13 : Int) (x53 : V) (x54 : Int) (x55 : Int) (x61 : V) (x62 : Int) (x63 : Int) (o3 : List V) (o11 : List V) (G : List GObj) : St := ⟨[(1, .int .i64 x1), (3, .lptr 3 0), (11, .lptr 11 0), (12, .int .i64 x12), (13, .int .i64 x13), (53, x53), (54, .int .i64 x54), (55, .int .i64 x55), (61, x61), (62, .int .i64 x62), (63, .int .i64 x63)], [(3, o3), (11, o11)], [], G⟩

def v_value_Worth_b2 : VC :=
  .seq (
  .region [] [] [
    ⟨(some 56), .bin .lss (.t 55) (.t 54), none⟩] ⟨[1, 3, 11, 12, 53, 54, 55, 56], [3, 11], []⟩) (
  .seq (
  .cond (.t 56) (
    .skip) (
    .exit 2)) (
  .seq (
  .block 3 (
    .seq (
    .region [] [14] [
      ⟨(some 57), .mv (.t 55), none⟩,
      ⟨(some 58), .iaddr none 3 (.t 53) (.t 55), none⟩,
      ⟨(some 59), .load .imm (some 3) (.t 58), none⟩,
      ⟨(some 14), .obj 14 [.nils, .nils, .nils], none⟩,
      ⟨(some 13), .mv (.t 57), none⟩,
      ⟨none, .store (.loc 14) [some 7, some 1, some 1] (.t 14) (.t 59), none⟩] ⟨[1, 3, 11, 12, 13, 14, 53, 54, 55], [3, 11, 14], []⟩) (
    .seq (
    .region [] [] [
      ⟨(some 60), .faddr 0 (.t 14), none⟩,
      ⟨(some 61), .load (.loc 14) none (.t 60), none⟩,
      ⟨(some 62), .len (.t 61), none⟩,
      ⟨(some 63), .mv (.c (.int .i64 0)), none⟩] ⟨[1, 3, 11, 12, 13, 53, 54, 55, 61, 62, 63], [3, 11], []⟩) (
    .block 4 (
      v_value_Worth_l1))))) (
  .region [] [] [
    ⟨(some 91), .bin .add (.t 55) (.c (.int .i64 1)), none⟩,
    ⟨(some 55), .mv (.t 91), none⟩] ⟨[1, 3, 11, 12, 53, 54, 55], [3, 11], []⟩)))

def v_value_Worth_l2 : VC := .loop [] ⟨[1, 3, 11, 12, 53, 54, 55], [3, 11], []⟩ v_value_Worth_b2

abbrev v_value_Worth_s2 (x1 : Int) (x12 : Int) (x53 : V) (x54 : Int) (x55 : Int) (o3 : List V) (o11 : List V) (G : List GObj) : St := ⟨[(1, .int .i64 x1), (3, .lptr 3 0), (11, .lptr 11 0), (12, .int .i64 x12), (53, x53), (54, .int .i64 x54), (55, .int .i64 x55)], [(3, o3), (11, o11)], [], G⟩

def v_value_Worth : VFunc where
  nparams := 3
  results := [.t 6 [none], .t 7 [none]]
  body :=
    .seq (
    .region [] [3] [
      ⟨(some 3), .box 3 (.t 0), none⟩,
      ⟨(some 6), .mv (.c (.int .i64 0)), none⟩,
      ⟨(some 7), .mv (.c (.int .i64 0)), none⟩] ⟨[1, 2, 3], [3], []⟩) (
    .seq (
    .seq (
    .region [] [] [
      ⟨(some 17), .load (.loc 3) (some 2) (.t 3), none⟩,
      ⟨(some 18), .call true (.c (.fn 12 [])) [([some 1, some 1], (.t 17))] [], none⟩,
      ⟨(some 8), .mv (.t 18), none⟩] ⟨[1, 2, 3, 8], [3], []⟩) (
    .seq (
    .region [] [] [
      ⟨(some 19), .mv (.t 8), none⟩,
      ⟨(some 20), .bin .neq (.t 19) (.c (.int .i64 0)), none⟩] ⟨[1, 2, 3, 8, 20], [3], []⟩) (
    .cond (.t 20) (
      .seq (
      .region [] [] [
        ⟨(some 21), .mv (.t 8), none⟩,
        ⟨(some 6), .mv (.c (.int .i64 0)), none⟩,
        ⟨(some 7), .mv (.t 21), none⟩] ⟨[6, 7], [], []⟩) (
      .ret)) (
      .skip)))) (
    .seq (
    .seq (
    .region [] [] [
      ⟨(some 22), .mv (.t 2), none⟩,
      ⟨(some 23), .len (.t 22), none⟩,
      ⟨(some 24), .bin .gtr (.t 23) (.c (.int .i64 400)), none⟩] ⟨[1, 2, 3, 24], [3], []⟩) (
    .cond (.t 24) (
      .seq (
      .region [] [] [
        ⟨(some 6), .mv (.c (.int .i64 0)), none⟩,
        ⟨(some 7), .mv (.c (.int .i64 10)), none⟩] ⟨[6, 7], [], []⟩) (
      .ret)) (
      .skip))) (
    .seq (
    .seq (
    .region [] [] [
      ⟨(some 25), .mv (.t 2), none⟩,
      ⟨(some 26), .len (.t 25), none⟩,
      ⟨(some 27), .mv (.c (.int .i64 0)), none⟩] ⟨[1, 2, 3, 25, 26, 27], [3], []⟩) (
    .block 0 (
      v_value_Worth_l0))) (
    .seq (
    .seq (
    .region [] [] [
      ⟨(some 36), .mv (.t 1), none⟩,
      ⟨(some 37), .bin .lss (.t 36) (.c (.int .i64 0)), none⟩,
      ⟨(some 38), .mv (.t 37), none⟩,
      ⟨(some 39), .mv (.t 2), (some (38, false))⟩,
      ⟨(some 40), .len (.t 39), (some (38, false))⟩,
      ⟨(some 41), .bin .gtr (.t 40) (.c (.int .i64 0)), (some (38, false))⟩,
      ⟨(some 42), .mv (.t 41), (some (38, false))⟩,
      ⟨(some 43), .mv (.t 1), (some (42, true))⟩,
      ⟨(some 44), .mv (.t 2), (some (42, true))⟩,
      ⟨(some 45), .len (.t 44), (some (42, true))⟩,
      ⟨(some 46), .bin .sub (.c (.int .i64 16777216)) (.t 45), (some (42, true))⟩,
      ⟨(some 47), .bin .add (.t 46) (.c (.int .i64 1)), (some (42, true))⟩,
      ⟨(some 48), .bin .gtr (.t 43) (.t 47), (some (42, true))⟩,
      ⟨(some 49), .pick (.t 42) (.t 48) (.c (.bool false)), (some (38, false))⟩,
      ⟨(some 50), .pick (.t 38) (.c (.bool true)) (.t 49), none⟩] ⟨[1, 2, 3, 50], [3], []⟩) (
    .cond (.t 50) (
      .seq (
      .region [] [] [
        ⟨(some 6), .mv (.c (.int .i64 0)), none⟩,
        ⟨(some 7), .mv (.c (.int .i64 6)), none⟩] ⟨[6, 7], [], []⟩) (
      .ret)) (
      .skip))) (
    .seq (
    .region [] [11] [
      ⟨(some 51), .load (.loc 3) (some 2) (.t 3), none⟩,
      ⟨(some 52), .call true (.c (.fn 20 [])) [([some 1, some 1], (.t 51))] [], none⟩,
      ⟨(some 11), .obj 11 (rep 96 (.int .i64 0)), none⟩,
      ⟨none, .store (.loc 11) (rep 96 (none)) (.t 11) (.t 52), none⟩,
      ⟨(some 12), .mv (.c (.int .i64 0)), none⟩] ⟨[1, 2, 3, 11, 12], [3, 11], []⟩) (
    .seq (
    .seq (
    .region [] [] [
      ⟨(some 53), .mv (.t 2), none⟩,
      ⟨(some 54), .len (.t 53), none⟩,
      ⟨(some 55), .mv (.c (.int .i64 0)), none⟩] ⟨[1, 3, 11, 12, 53, 54, 55], [3, 11], []⟩) (
    .block 2 (
      v_value_Worth_l2))) (
    .seq (
    .region [] [] [
      ⟨(some 92), .mv (.t 12), none⟩,
      ⟨(some 6), .mv (.t 92), none⟩,
      ⟨(some 7), .mv (.c (.int .i64 0)), none⟩] ⟨[6, 7], [], []⟩) (
    .ret))))))))

/- 18 -/
def v_r41_Worth_b0 : VC :=
  .seq (
  .region [] [] [
    ⟨(some 29), .bin .lss (.t 28) (.t 27), none⟩] ⟨[1, 2, 3, 26, 27, 28, 29], [3], []⟩) (
  .seq (
  .cond (.t 29) (
    .skip) (
    .exit 0)) (
  .seq (
  .block 1 (
    .seq (
    .region [] [10] [
      ⟨(some 30), .iaddr none 3 (.t 26) (.t 28), none⟩,
      ⟨(some 31), .load .imm (some 3) (.t 30), none⟩,
      ⟨(some 10), .obj 10 [.nils, .nils, .nils], none⟩,
      ⟨none, .store (.loc 10) [some 7, some 1, some 1] (.t 10) (.t 31), none⟩] ⟨[1, 2, 3, 10, 26, 27, 28], [3, 10], []⟩) (
    .seq (
    .region [] [] [
      ⟨(some 32), .faddr 0 (.t 10), none⟩,
      ⟨(some 33), .load (.loc 10) none (.t 32), none⟩,
      ⟨(some 34), .len (.t 33), none⟩,
      ⟨(some 35), .bin .gtr (.t 34) (.c (.int .i64 6)), none⟩] ⟨[1, 2, 3, 26, 27, 28, 35], [3], []⟩) (
    .cond (.t 35) (
      .seq (
      .region [] [] [
        ⟨(some 6), .mv (.c (.int .i64 0)), none⟩,
        ⟨(some 7), .mv (.c (.int .i64 10)), none⟩] ⟨[6, 7], [], []⟩) (
      .ret)) (
      .skip))))) (
  .region [] [] [
    ⟨(some 36), .bin .add (.t 28) (.c (.int .i64 1)), none⟩,
    ⟨(some 28), .mv (.t 36), none⟩] ⟨[1, 2, 3, 26, 27, 28], [3], []⟩)))

def v_r41_Worth_l0 : VC := .loop [] ⟨[1, 2, 3, 26, 27, 28], [3], []⟩ v_r41_Worth_b0

abbrev v_r41_Worth_s0 (x1 : Int) (x2 : V) (x26 : V) (x27 : Int) (x28 : Int) (o3 : List V) (G : List GObj) : St := ⟨[(1, .int .i64 x1), (2, x2), (3, .lptr 3 0), (26, x26), (27, .int .i64 x27), (28, .int .i64 x28)], [(3, o3)], [], G⟩

def v_r41_Worth_b1 : VC :=
  .seq (
  .region [] [] [
    ⟨(some 71), .bin .lss (.t 70) (.t 69), none⟩] ⟨[1, 3, 11, 14, 52, 53, 54, 68, 69, 70, 71], [3], []⟩) (
  .seq (
  .cond (.t 71) (
    .skip) (
    .exit 4)) (
  .seq (
  .block 5 (
    .seq (
    .region [] [17] [
      ⟨(some 72), .iaddr none 7 (.t 68) (.t 70), none⟩,
      ⟨(some 73), .load .imm (some 7) (.t 72), none⟩,
      ⟨(some 17), .obj 17 [.int .i64 0, .int .i64 0, .int .i64 0, .int .i64 0, .int .i64 0, .int .i64 0, .int .i64 0], none⟩,
      ⟨none, .store (.loc 17) [none, none, none, none, none, none, none] (.t 17) (.t 73), none⟩] ⟨[1, 3, 11, 14, 17, 52, 53, 54, 68, 69, 70], [3, 17], []⟩) (
    .seq (
    .seq (
    .region [] [] [
      ⟨(some 74), .faddr 5 (.t 17), none⟩,
      ⟨(some 75), .load (.loc 17) none (.t 74), none⟩,
      ⟨(some 76), .bin .lss (.t 75) (.c (.int .i64 0)), none⟩,
      ⟨(some 77), .mv (.t 76), none⟩,
      ⟨(some 78), .faddr 5 (.t 17), (some (77, false))⟩,
      ⟨(some 79), .load (.loc 17) none (.t 78), (some (77, false))⟩,
      ⟨(some 80), .bin .gtr (.t 79) (.c (.int .i64 8589934592)), (some (77, false))⟩,
      ⟨(some 81), .pick (.t 77) (.c (.bool true)) (.t 80), none⟩] ⟨[1, 3, 11, 14, 17, 52, 53, 54, 68, 69, 70, 81], [3, 17], []⟩) (
    .cond (.t 81) (
      .seq (
      .region [] [] [
        ⟨(some 6), .mv (.c (.int .i64 0)), none⟩,
        ⟨(some 7), .mv (.c (.int .i64 1)), none⟩] ⟨[6, 7], [], []⟩) (
      .ret)) (
      .skip))) (
    .region [] [] [
      ⟨(some 82), .mv (.t 11), none⟩,
      ⟨(some 83), .mv (.t 14), none⟩,
      ⟨(some 84), .faddr 5 (.t 17), none⟩,
      ⟨(some 85), .load (.loc 17) none (.t 84), none⟩,
      ⟨(some 86), .bin .mul (.t 83) (.t 85), none⟩,
      ⟨(some 87), .bin .add (.t 82) (.t 86), none⟩,
      ⟨(some 11), .mv (.t 87), none⟩] ⟨[1, 3, 11, 14, 52, 53, 54, 68, 69, 70], [3], []⟩)))) (
  .region [] [] [
    ⟨(some 88), .bin .add (.t 70) (.c (.int .i64 1)), none⟩,
    ⟨(some 70), .mv (.t 88), none⟩] ⟨[1, 3, 11, 14, 52, 53, 54, 68, 69, 70], [3], []⟩)))

def v_r41_Worth_l1 : VC := .loop [] ⟨[1, 3, 11, 14, 52, 53, 54, 68, 69, 70], [3], []⟩ v_r41_Worth_b1

abbrev v_r41_Worth_s1 (x1 : Int) (x11 : Int) (x14 : Int) (x52 : V) (x53 : Int) (x54 : Int) (x68 : V) (x69 : Int) (x70 : Int) (o3 : List V) (G : List GObj) : St := ⟨[(1, .int .i64 x1), (3, .lptr 3 0), (11, .int .i64 x11), (14, .int .i64 x14), (52, x52), (53, .int .i64 x53), (54, .int .i64 x54), (68, x68), (69, .int .i64 x69), (70, .int .i64 x70)], [(3, o3)], [], G⟩

def v_r41_Worth_b2 : VC :=
  .seq (
  .region [] [] [
    ⟨(some 55), .bin .lss (.t 54) (.t 53), none⟩] ⟨[1, 3, 11, 52, 53, 54, 55], [3], []⟩) (
  .seq (
  .cond (.t 55) (
    .skip) (
    .exit 2)) (
  .seq (
  .block 3 (
    .seq (
    .region [] [13] [
      ⟨(some 56), .mv (.t 54), none⟩,
      ⟨(some 57), .iaddr none 3 (.t 52) (.t 54), none⟩,
      ⟨(some 58), .load .imm (some 3) (.t 57), none⟩,
      ⟨(some 13), .obj 13 [.nils, .nils, .nils], none⟩,
      ⟨(some 12), .mv (.t 56), none⟩,
      ⟨none, .store (.loc 13) [some 7, some 1, some 1] (.t 13) (.t 58), none⟩] ⟨[1, 3, 11, 12, 13, 52, 53, 54], [3, 13], []⟩) (
    .seq (
    .region [] [] [
      ⟨(some 60), .load (.loc 3) (some 2) (.t 3), none⟩,
      ⟨(some 61), .mv (.t 1), none⟩,
      ⟨(some 62), .mv (.t 12), none⟩,
      ⟨(some 63), .bin .add (.t 61) (.t 62), none⟩,
      ⟨(some 64), .call true (.c (.fn 16 [])) [([some 1, some 1], (.t 60)), ([none], (.t 63))] [], none⟩,
      ⟨(some 59), .mv (.t 64), none⟩,
      ⟨(some 65), .ext (.t 59) 0, none⟩,
      ⟨(some 66), .ext (.t 59) 1, none⟩,
      ⟨(some 14), .mv (.t 65), none⟩,
      ⟨(some 15), .mv (.t 66), none⟩] ⟨[1, 3, 11, 13, 14, 52, 53, 54], [3, 13], []⟩) (
    .seq (
    .region [] [] [
      ⟨(some 67), .faddr 0 (.t 13), none⟩,
      ⟨(some 68), .load (.loc 13) none (.t 67), none⟩,
      ⟨(some 69), .len (.t 68), none⟩,
      ⟨(some 70), .mv (.c (.int .i64 0)), none⟩] ⟨[1, 3, 11, 14, 52, 53, 54, 68, 69, 70], [3], []⟩) (
    .block 4 (
      v_r41_Worth_l1)))))) (
  .region [] [] [
    ⟨(some 89), .bin .add (.t 54) (.c (.int .i64 1)), none⟩,
    ⟨(some 54), .mv (.t 89), none⟩] ⟨[1, 3, 11, 52, 53, 54], [3], []⟩)))

def v_r41_Worth_l2 : VC := .loop [] ⟨[1, 3, 11, 52, 53, 54], [3], []⟩ v_r41_Worth_b2

abbrev v_r41_Worth_s2 (x1 : Int) (x11 : Int) (x52 : V) (x53 : Int) (x54 : Int) (o3 : List V) (G : List GObj) : St := ⟨[(1, .int .i64 x1), (3, .lptr 3 0), (11, .int .i64 x11), (52, x52), (53, .int .i64 x53), (54, .int .i64 x54)], [(3, o3)], [], G⟩

def v_r41_Worth : VFunc where
  nparams := 3
  results := [.t 6 [none], .t 7 [none]]
  body :=
    .seq (
    .region [] [3] [
      ⟨(some 3), .box 3 (.t 0), none⟩,
      ⟨(some 6), .mv (.c (.int .i64 0)), none⟩,
      ⟨(some 7), .mv (.c (.int .i64 0)), none⟩] ⟨[1, 2, 3], [3], []⟩) (
    .seq (
    .seq (
    .region [] [] [
      ⟨(some 18), .load (.loc 3) (some 2) (.t 3), none⟩,
      ⟨(some 19), .call true (.c (.fn 13 [])) [([some 1, some 1], (.t 18))] [], none⟩,
      ⟨(some 8), .mv (.t 19), none⟩] ⟨[1, 2, 3, 8], [3], []⟩) (
    .seq (
    .region [] [] [
      ⟨(some 20), .mv (.t 8), none⟩,
      ⟨(some 21), .bin .neq (.t 20) (.c (.int .i64 0)), none⟩] ⟨[1, 2, 3, 8, 21], [3], []⟩) (
    .cond (.t 21) (
      .seq (
      .region [] [] [
        ⟨(some 22), .mv (.t 8), none⟩,
        ⟨(some 6), .mv (.c (.int .i64 0)), none⟩,
        ⟨(some 7), .mv (.t 22), none⟩] ⟨[6, 7], [], []⟩) (
      .ret)) (
      .skip)))) (
    .seq (
    .seq (
    .region [] [] [
      ⟨(some 23), .mv (.t 2), none⟩,
      ⟨(some 24), .len (.t 23), none⟩,
      ⟨(some 25), .bin .gtr (.t 24) (.c (.int .i64 400)), none⟩] ⟨[1, 2, 3, 25], [3], []⟩) (
    .cond (.t 25) (
      .seq (
      .region [] [] [
        ⟨(some 6), .mv (.c (.int .i64 0)), none⟩,
        ⟨(some 7), .mv (.c (.int .i64 10)), none⟩] ⟨[6, 7], [], []⟩) (
      .ret)) (
      .skip))) (
    .seq (
    .seq (
    .region [] [] [
      ⟨(some 26), .mv (.t 2), none⟩,
      ⟨(some 27), .len (.t 26), none⟩,
      ⟨(some 28), .mv (.c (.int .i64 0)), none⟩] ⟨[1, 2, 3, 26, 27, 28], [3], []⟩) (
    .block 0 (
      v_r41_Worth_l0))) (
    .seq (
    .seq (
    .region [] [] [
      ⟨(some 37), .mv (.t 1), none⟩,
      ⟨(some 38), .bin .lss (.t 37) (.c (.int .i64 0)), none⟩,
      ⟨(some 39), .mv (.t 38), none⟩,
      ⟨(some 40), .mv (.t 2), (some (39, false))⟩,
      ⟨(some 41), .len (.t 40), (some (39, false))⟩,
      ⟨(some 42), .bin .gtr (.t 41) (.c (.int .i64 0)), (some (39, false))⟩,
      ⟨(some 43), .mv (.t 42), (some (39, false))⟩,
      ⟨(some 44), .mv (.t 1), (some (43, true))⟩,
      ⟨(some 45), .mv (.t 2), (some (43, true))⟩,
      ⟨(some 46), .len (.t 45), (some (43, true))⟩,
      ⟨(some 47), .bin .sub (.t 46) (.c (.int .i64 1)), (some (43, true))⟩,
      ⟨(some 48), .bin .sub (.c (.int .i64 16777216)) (.t 47), (some (43, true))⟩,
      ⟨(some 49), .bin .gtr (.t 44) (.t 48), (some (43, true))⟩,
      ⟨(some 50), .pick (.t 43) (.t 49) (.c (.bool false)), (some (39, false))⟩,
      ⟨(some 51), .pick (.t 39) (.c (.bool true)) (.t 50), none⟩] ⟨[1, 2, 3, 51], [3], []⟩) (
    .cond (.t 51) (
      .seq (
      .region [] [] [
        ⟨(some 6), .mv (.c (.int .i64 0)), none⟩,
        ⟨(some 7), .mv (.c (.int .i64 6)), none⟩] ⟨[6, 7], [], []⟩) (
      .ret)) (
      .skip))) (
    .seq (
    .region [] [] [
      ⟨(some 11), .mv (.c (.int .i64 0)), none⟩] ⟨[1, 2, 3, 11], [3], []⟩) (
    .seq (
    .seq (
    .region [] [] [
      ⟨(some 52), .mv (.t 2), none⟩,
      ⟨(some 53), .len (.t 52), none⟩,
      ⟨(some 54), .mv (.c (.int .i64 0)), none⟩] ⟨[1, 3, 11, 52, 53, 54], [3], []⟩) (
    .block 2 (
      v_r41_Worth_l2))) (
    .seq (
    .region [] [] [
      ⟨(some 90), .mv (.t 11), none⟩,
      ⟨(some 6), .mv (.t 90), none⟩,
      ⟨(some 7), .mv (.c (.int .i64 0)), none⟩] ⟨[6, 7], [], []⟩) (
    .ret))))))))

/- 19 -/

def v_mk_Deck_Next : VFunc where
  nparams := 2
  results := [.t 4 [none]]
  body :=
    .seq (
    .region [] [] [
      ⟨(some 4), .mv (.c (.int .i64 0)), none⟩] ⟨[0, 1], [], []⟩) (
    .seq (
    .seq (
    .region [] [] [
      ⟨(some 6), .mv (.t 1), none⟩,
      ⟨(some 7), .bin .lss (.t 6) (.c (.int .i64 1)), none⟩,
      ⟨(some 8), .mv (.t 7), none⟩,
      ⟨(some 9), .mv (.t 0), (some (8, false))⟩,
      ⟨(some 10), .nilchk (.t 9), (some (8, false))⟩,
      ⟨(some 11), .faddr 1 (.t 10), (some (8, false))⟩,
      ⟨(some 12), .load .glob none (.t 11), (some (8, false))⟩,
      ⟨(some 13), .mv (.t 0), (some (8, false))⟩,
      ⟨(some 14), .nilchk (.t 13), (some (8, false))⟩,
      ⟨(some 15), .faddr 0 (.t 14), (some (8, false))⟩,
      ⟨(some 16), .load .glob none (.t 15), (some (8, false))⟩,
      ⟨(some 17), .len (.t 16), (some (8, false))⟩,
      ⟨(some 18), .bin .geq (.t 12) (.t 17), (some (8, false))⟩,
      ⟨(some 19), .pick (.t 8) (.c (.bool true)) (.t 18), none⟩] ⟨[0, 1, 19], [], []⟩) (
    .cond (.t 19) (
      .seq (
      .region [] [] [
        ⟨(some 4), .mv (.c (.int .i64 0)), none⟩] ⟨[4], [], []⟩) (
      .ret)) (
      .skip))) (
    .seq (
    .region [] [] [
      ⟨(some 20), .mv (.t 0), none⟩,
      ⟨(some 21), .nilchk (.t 20), none⟩,
      ⟨(some 22), .faddr 0 (.t 21), none⟩,
      ⟨(some 23), .load .glob none (.t 22), none⟩,
      ⟨(some 24), .mv (.t 0), none⟩,
      ⟨(some 25), .nilchk (.t 24), none⟩,
      ⟨(some 26), .faddr 1 (.t 25), none⟩,
      ⟨(some 27), .load .glob none (.t 26), none⟩,
      ⟨(some 28), .iaddr none 1 (.t 23) (.t 27), none⟩,
      ⟨(some 29), .load .imm none (.t 28), none⟩,
      ⟨(some 5), .mv (.t 29), none⟩] ⟨[0, 1, 5], [], []⟩) (
    .seq (
    .region [] [] [
      ⟨(some 30), .mv (.t 0), none⟩,
      ⟨(some 31), .nilchk (.t 30), none⟩,
      ⟨(some 32), .faddr 1 (.t 31), none⟩,
      ⟨(some 33), .load .glob none (.t 32), none⟩,
      ⟨(some 34), .bin .add (.t 33) (.c (.int .i64 1)), none⟩,
      ⟨(some 35), .nilchk (.t 30), none⟩,
      ⟨(some 36), .faddr 1 (.t 35), none⟩,
      ⟨none, .store .glob [none] (.t 36) (.t 34), none⟩] ⟨[1, 5], [], []⟩) (
    .seq (
    .region [] [] [
      ⟨(some 37), .mv (.t 5), none⟩,
      ⟨(some 38), .mv (.t 1), none⟩,
      ⟨(some 39), .call true (.c (.fn 9 [])) [([none], (.t 37)), ([none], (.t 38))] [], none⟩,
      ⟨(some 4), .mv (.t 39), none⟩] ⟨[4], [], []⟩) (
    .ret)))))

/- 20 -/
def v_value_laid_b0 : VC :=
  .seq (
  .seq (
  .region [] [] [
    ⟨(some 16), .mv (.t 6), none⟩,
    ⟨(some 17), .bin .lss (.t 16) (.c (.int .i64 96)), none⟩] ⟨[2, 3, 4, 6, 8, 9, 10, 17], [2, 3], []⟩) (
  .cond (.t 17) (
    .skip) (
    .exit 2))) (
  .seq (
  .block 3 (
    .region [] [] [
      ⟨(some 20), .mv (.t 6), none⟩,
      ⟨(some 21), .mv (.t 4), none⟩,
      ⟨(some 22), .iaddr (some 96) 1 (.t 3) (.t 20), none⟩,
      ⟨none, .store (.loc 3) [none] (.t 22) (.t 21), none⟩] ⟨[2, 3, 4, 6, 8, 9, 10], [2, 3], []⟩)) (
  .region [] [] [
    ⟨(some 18), .mv (.t 6), none⟩,
    ⟨(some 19), .bin .add (.t 18) (.c (.int .i64 1)), none⟩,
    ⟨(some 6), .mv (.t 19), none⟩] ⟨[2, 3, 4, 6, 8, 9, 10], [2, 3], []⟩))

def v_value_laid_l0 : VC := .loop [] ⟨[2, 3, 4, 6, 8, 9, 10], [2, 3], []⟩ v_value_laid_b0

abbrev v_value_laid_s0 (x4 : Int) (x6 : Int) (x8 : V) (x9 : Int) (x10 : Int) (o2 : List V) (o3 : List V) (G : List GObj) : St := ⟨[(2, .lptr 2 0), (3, .lptr 3 0), (4, .int .i64 x4), (6, .int .i64 x6), (8, x8), (9, .int .i64 x9), (10, .int .i64 x10)], [(2, o2), (3, o3)], [], G⟩

def v_value_laid_b1 : VC :=
  .seq (
  .region [] [] [
    ⟨(some 11), .bin .lss (.t 10) (.t 9), none⟩] ⟨[2, 3, 8, 9, 10, 11], [2, 3], []⟩) (
  .seq (
  .cond (.t 11) (
    .skip) (
    .exit 0)) (
  .seq (
  .block 1 (
    .seq (
    .region [] [] [
      ⟨(some 12), .mv (.t 10), none⟩,
      ⟨(some 13), .iaddr none 1 (.t 8) (.t 10), none⟩,
      ⟨(some 14), .load .imm none (.t 13), none⟩,
      ⟨(some 4), .mv (.t 12), none⟩,
      ⟨(some 5), .mv (.t 14), none⟩] ⟨[2, 3, 4, 5, 8, 9, 10], [2, 3], []⟩) (
    .seq (
    .region [] [] [
      ⟨(some 15), .mv (.t 5), none⟩,
      ⟨(some 6), .mv (.t 15), none⟩] ⟨[2, 3, 4, 6, 8, 9, 10], [2, 3], []⟩) (
    .block 2 (
      v_value_laid_l0))))) (
  .region [] [] [
    ⟨(some 23), .bin .add (.t 10) (.c (.int .i64 1)), none⟩,
    ⟨(some 10), .mv (.t 23), none⟩] ⟨[2, 3, 8, 9, 10], [2, 3], []⟩)))

def v_value_laid_l1 : VC := .loop [] ⟨[2, 3, 8, 9, 10], [2, 3], []⟩ v_value_laid_b1

abbrev v_value_laid_s1 (x8 : V) (x9 : Int) (x10 : Int) (o2 : List V) (o3 : List V) (G : List GObj) : St := ⟨[(2, .lptr 2 0), (3, .lptr 3 0), (8, x8), (9, .int .i64 x9), (10, .int .i64 x10)], [(2, o2), (3, o3)], [], G⟩

def v_value_laid : VFunc where
  nparams := 1
  results := [.c 2 true (rep 96 (none))]
  body :=
    .seq (
    .region [] [1, 2] [
      ⟨(some 1), .box 1 (.t 0), none⟩,
      ⟨(some 2), .obj 2 (rep 96 (.int .i64 0)), none⟩] ⟨[1, 2], [1, 2], []⟩) (
    .seq (
    .region [] [3] [
      ⟨(some 3), .obj 3 (rep 96 (.int .i64 0)), none⟩] ⟨[1, 2, 3], [1, 2, 3], []⟩) (
    .seq (
    .seq (
    .region [] [] [
      ⟨(some 7), .faddr 0 (.t 1), none⟩,
      ⟨(some 8), .load (.loc 1) none (.t 7), none⟩,
      ⟨(some 9), .len (.t 8), none⟩,
      ⟨(some 10), .mv (.c (.int .i64 0)), none⟩] ⟨[2, 3, 8, 9, 10], [2, 3], []⟩) (
    .block 0 (
      v_value_laid_l1))) (
    .seq (
    .region [] [] [
      ⟨(some 24), .load (.loc 3) (some 96) (.t 3), none⟩,
      ⟨none, .store (.loc 2) (rep 96 (none)) (.t 2) (.t 24), none⟩] ⟨[2], [2], []⟩) (
    .ret))))
theorem ok_w41_ValueTells : okFunc Try.prog Try.f3 v_w41_ValueTells = true := by kernel_rfl
theorem ok_w41_ValueAdds : okFunc Try.prog Try.f4 v_w41_ValueAdds = true := by kernel_rfl
theorem ok_w41_sane : okFunc Try.prog Try.f5 v_w41_sane = true := by kernel_rfl
theorem ok_mk_Few : okFunc Try.prog Try.f6 v_mk_Few = true := by kernel_rfl
theorem ok_mk_New : okFunc Try.prog Try.f7 v_mk_New = true := by kernel_rfl
theorem ok_flow_Tariff : okFunc Try.prog Try.f8 v_flow_Tariff = true := by kernel_rfl
theorem ok_mk_Mod : okFunc Try.prog Try.f9 v_mk_Mod = true := by kernel_rfl
theorem ok_value_Day : okFunc Try.prog Try.f10 v_value_Day = true := by kernel_rfl
theorem ok_r41_Day : okFunc Try.prog Try.f11 v_r41_Day = true := by kernel_rfl
theorem ok_value_Check : okFunc Try.prog Try.f12 v_value_Check = true := by kernel_rfl
theorem ok_r41_Check : okFunc Try.prog Try.f13 v_r41_Check = true := by kernel_rfl
theorem ok_r39_Ints : okFunc Try.prog Try.f14 v_r39_Ints = true := by kernel_rfl
theorem ok_value_Price : okFunc Try.prog Try.f15 v_value_Price = true := by kernel_rfl
theorem ok_r41_Price : okFunc Try.prog Try.f16 v_r41_Price = true := by kernel_rfl
theorem ok_value_Worth : okFunc Try.prog Try.f17 v_value_Worth = true := by kernel_rfl
theorem ok_r41_Worth : okFunc Try.prog Try.f18 v_r41_Worth = true := by kernel_rfl
theorem ok_mk_Deck_Next : okFunc Try.prog Try.f19 v_mk_Deck_Next = true := by kernel_rfl
theorem ok_value_laid : okFunc Try.prog Try.f20 v_value_laid = true := by kernel_rfl
def F : FuncId → Option VFunc
  | 3 => some v_w41_ValueTells
  | 4 => some v_w41_ValueAdds
  | 5 => some v_w41_sane
  | 6 => some v_mk_Few
  | 7 => some v_mk_New
  | 8 => some v_flow_Tariff
  | 9 => some v_mk_Mod
  | 10 => some v_value_Day
  | 11 => some v_r41_Day
  | 12 => some v_value_Check
  | 13 => some v_r41_Check
  | 14 => some v_r39_Ints
  | 15 => some v_value_Price
  | 16 => some v_r41_Price
  | 17 => some v_value_Worth
  | 18 => some v_r41_Worth
  | 19 => some v_mk_Deck_Next
  | 20 => some v_value_laid
  | _ => none
theorem all_ok : ∀ f vf, F f = some vf → ∃ fn, Try.prog.funcs[f]? = some fn ∧ okFunc Try.prog fn vf = true := fun f vf h => by
  unfold F at h
  split at h
  · cases h; exact ⟨_, Try.func3, ok_w41_ValueTells⟩
  · cases h; exact ⟨_, Try.func4, ok_w41_ValueAdds⟩
  · cases h; exact ⟨_, Try.func5, ok_w41_sane⟩
  · cases h; exact ⟨_, Try.func6, ok_mk_Few⟩
  · cases h; exact ⟨_, Try.func7, ok_mk_New⟩
  · cases h; exact ⟨_, Try.func8, ok_flow_Tariff⟩
  · cases h; exact ⟨_, Try.func9, ok_mk_Mod⟩
  · cases h; exact ⟨_, Try.func10, ok_value_Day⟩
  · cases h; exact ⟨_, Try.func11, ok_r41_Day⟩
  · cases h; exact ⟨_, Try.func12, ok_value_Check⟩
  · cases h; exact ⟨_, Try.func13, ok_r41_Check⟩
  · cases h; exact ⟨_, Try.func14, ok_r39_Ints⟩
  · cases h; exact ⟨_, Try.func15, ok_value_Price⟩
  · cases h; exact ⟨_, Try.func16, ok_r41_Price⟩
  · cases h; exact ⟨_, Try.func17, ok_value_Worth⟩
  · cases h; exact ⟨_, Try.func18, ok_r41_Worth⟩
  · cases h; exact ⟨_, Try.func19, ok_mk_Deck_Next⟩
  · cases h; exact ⟨_, Try.func20, ok_value_laid⟩
  · cases h
end Go.Proofs.Ytgocbbphpkbiaaa
