/- The digests of the functions that NamesKnown reaches. -/
import Derived.Test.YtnmjgpnidpgimaaGreatDoorProg
import Derived.Test.YtnmjgpnidpgimaaGreatDoorDiTab
namespace Go.Proofs.YtnmjgpnidpgimaaGreatDoor
open Go Go.Di

/-- deadbolt/deadboltlaw7.NamesKnown -/
def d6 : DFn := ⟨.seq (.reg [⟨(some 2), .mv (.con (.sc (.bool false))), none⟩] [0])
 (.seq (.seq (.reg [⟨(some 10), .call 11 [], none⟩,
   ⟨(some 11), .un .not (.tmp 10), none⟩] [0, 11])
 (.cond (.tmp 11)
  (.seq (.reg [⟨(some 2), .mv (.con (.sc (.bool false))), none⟩] [2])
  (.ret))
  (.skip)))
 (.seq (.reg [⟨(some 12), .build [(.sc (.string ⟨#[]⟩)), (.sc (.string ⟨#[]⟩))] [(0, 1, (.con (.sc (.string ⟨#[97]⟩)))), (1, 1, (.con (.sc (.string ⟨#[102, 117, 110, 99, 32, 109, 97, 105, 110, 32, 123, 32, 117, 115, 101, 32, 120, 32, 125]⟩))))], none⟩,
   ⟨(some 13), .bslice 46 2 1 (.agg [(.sc (.string ⟨#[]⟩)), (.sc (.string ⟨#[]⟩))]) [(0, (.tmp 12))], none⟩,
   ⟨(some 14), .build [(.sc (.string ⟨#[]⟩)), (.sc (.string ⟨#[]⟩))] [(0, 1, (.con (.sc (.string ⟨#[98]⟩)))), (1, 1, (.con (.sc (.string ⟨#[102, 117, 110, 99, 32, 109, 97, 105, 110, 32, 123, 32, 125]⟩))))], none⟩,
   ⟨(some 15), .build [(.sc (.string ⟨#[]⟩)), (.sc (.string ⟨#[]⟩))] [(0, 1, (.con (.sc (.string ⟨#[97]⟩)))), (1, 1, (.con (.sc (.string ⟨#[32, 118, 97, 114, 32, 109, 97, 105, 110]⟩))))], none⟩,
   ⟨(some 16), .bslice 46 2 2 (.agg [(.sc (.string ⟨#[]⟩)), (.sc (.string ⟨#[]⟩))]) [(0, (.tmp 14)), (1, (.tmp 15))], none⟩,
   ⟨(some 17), .build [(.sc (.string ⟨#[]⟩)), (.sc (.string ⟨#[]⟩))] [(0, 1, (.con (.sc (.string ⟨#[97]⟩)))), (1, 1, (.con (.sc (.string ⟨#[118, 97, 114, 32, 120]⟩))))], none⟩,
   ⟨(some 18), .build [(.sc (.string ⟨#[]⟩)), (.sc (.string ⟨#[]⟩))] [(0, 1, (.con (.sc (.string ⟨#[98]⟩)))), (1, 1, (.con (.sc (.string ⟨#[108, 111, 99, 107, 32, 121, 32, 102, 117, 110, 99, 32, 109, 97, 105, 110, 32, 123, 32, 125, 32, 102, 117, 110, 99, 32, 120, 32, 123, 32, 125]⟩))))], none⟩,
   ⟨(some 19), .bslice 46 2 2 (.agg [(.sc (.string ⟨#[]⟩)), (.sc (.string ⟨#[]⟩))]) [(0, (.tmp 17)), (1, (.tmp 18))], none⟩,
   ⟨(some 20), .build [(.sc (.string ⟨#[]⟩)), (.sc (.string ⟨#[]⟩))] [(0, 1, (.con (.sc (.string ⟨#[97]⟩)))), (1, 1, (.con (.sc (.string ⟨#[102, 117, 110, 99, 32, 102, 32, 123, 32, 125]⟩))))], none⟩,
   ⟨(some 21), .bslice 46 2 1 (.agg [(.sc (.string ⟨#[]⟩)), (.sc (.string ⟨#[]⟩))]) [(0, (.tmp 20))], none⟩,
   ⟨(some 22), .build [(.sc (.string ⟨#[]⟩)), (.sc (.string ⟨#[]⟩))] [(0, 1, (.con (.sc (.string ⟨#[98]⟩)))), (1, 1, (.con (.sc (.string ⟨#[125]⟩))))], none⟩,
   ⟨(some 23), .build [(.sc (.string ⟨#[]⟩)), (.sc (.string ⟨#[]⟩))] [(0, 1, (.con (.sc (.string ⟨#[97]⟩)))), (1, 1, (.con (.sc (.string ⟨#[102, 117, 110, 99, 32, 109, 97, 105, 110, 32, 123, 32, 125]⟩))))], none⟩,
   ⟨(some 24), .bslice 46 2 2 (.agg [(.sc (.string ⟨#[]⟩)), (.sc (.string ⟨#[]⟩))]) [(0, (.tmp 22)), (1, (.tmp 23))], none⟩,
   ⟨(some 25), .build [(.sc (.string ⟨#[]⟩)), (.sc (.string ⟨#[]⟩))] [(0, 1, (.con (.sc (.string ⟨#[65]⟩))))], none⟩,
   ⟨(some 26), .bslice 46 2 1 (.agg [(.sc (.string ⟨#[]⟩)), (.sc (.string ⟨#[]⟩))]) [(0, (.tmp 25))], none⟩,
   ⟨(some 27), .build [(.sc (.string ⟨#[]⟩)), (.sc (.string ⟨#[]⟩))] [(0, 1, (.con (.sc (.string ⟨#[97]⟩)))), (1, 1, (.con (.sc (.string ⟨#[102, 117, 110, 99, 32, 109, 97, 105, 110, 32, 123, 32, 108, 111, 111, 112, 32, 123, 32, 105, 102, 32, 123, 32, 125, 32, 101, 108, 115, 101, 32, 123, 32, 115, 112, 97, 119, 110, 32, 120, 32, 125, 32, 125, 32, 125]⟩))))], none⟩,
   ⟨(some 28), .bslice 46 2 1 (.agg [(.sc (.string ⟨#[]⟩)), (.sc (.string ⟨#[]⟩))]) [(0, (.tmp 27))], none⟩,
   ⟨(some 29), .build [(.sc (.string ⟨#[]⟩)), (.sc (.string ⟨#[]⟩))] [(0, 1, (.con (.sc (.string ⟨#[97]⟩)))), (1, 1, (.con (.sc (.string ⟨#[118, 97, 114, 32, 108, 32, 102, 117, 110, 99, 32, 109, 97, 105, 110, 32, 123, 32, 108, 111, 99, 107, 32, 108, 32, 125]⟩))))], none⟩,
   ⟨(some 30), .bslice 46 2 1 (.agg [(.sc (.string ⟨#[]⟩)), (.sc (.string ⟨#[]⟩))]) [(0, (.tmp 29))], none⟩,
   ⟨(some 31), .build [(.sc (.string ⟨#[]⟩)), (.sc (.string ⟨#[]⟩))] [(0, 1, (.con (.sc (.string ⟨#[97]⟩)))), (1, 1, (.con (.sc (.string ⟨#[102, 117, 110, 99, 32, 109, 97, 105, 110, 32, 123, 32, 99, 97, 108, 108, 32, 109, 97, 105, 110, 32, 115, 112, 97, 119, 110, 32, 109, 97, 105, 110, 32, 125]⟩))))], none⟩,
   ⟨(some 32), .bslice 46 2 1 (.agg [(.sc (.string ⟨#[]⟩)), (.sc (.string ⟨#[]⟩))]) [(0, (.tmp 31))], none⟩,
   ⟨(some 33), .bslice 43 1 9 (.lst 0 [] .nil) [(0, (.tmp 13)), (1, (.tmp 16)), (2, (.tmp 19)), (3, (.tmp 21)), (4, (.tmp 24)), (5, (.tmp 26)), (6, (.tmp 28)), (7, (.tmp 30)), (8, (.tmp 32))], none⟩,
   ⟨(some 3), .mv (.tmp 33), none⟩] [0, 3])
 (.seq (.reg [⟨(some 34), .bslice 3 1 9 (.sc (.int .i64 0)) [(0, (.con (.sc (.int .i64 12)))), (1, (.con (.sc (.int .i64 10000)))), (2, (.con (.sc (.int .i64 10021)))), (3, (.con (.sc (.int .i64 0)))), (4, (.con (.sc (.int .i64 10000)))), (5, (.con (.sc (.int .i64 0)))), (6, (.con (.sc (.int .i64 33)))), (7, (.con (.sc (.int .i64 18)))), (8, (.con (.sc (.int .i64 0))))], none⟩,
   ⟨(some 4), .mv (.tmp 34), none⟩] [0, 3, 4])
 (.seq (.reg [⟨(some 35), .bslice 37 1 9 (.sc (.int .i64 0)) [(0, (.con (.sc (.int .i64 10)))), (1, (.con (.sc (.int .i64 9)))), (2, (.con (.sc (.int .i64 9)))), (3, (.con (.sc (.int .i64 11)))), (4, (.con (.sc (.int .i64 7)))), (5, (.con (.sc (.int .i64 1)))), (6, (.con (.sc (.int .i64 10)))), (7, (.con (.sc (.int .i64 10)))), (8, (.con (.sc (.int .i64 0))))], none⟩,
   ⟨(some 5), .mv (.tmp 35), none⟩] [0, 3, 4, 5])
 (.seq (.reg [⟨(some 36), .mv (.tmp 0), none⟩,
   ⟨(some 37), .mv (.tmp 3), none⟩,
   ⟨(some 38), .len false (.tmp 37), none⟩,
   ⟨(some 39), .call 15 [(.tmp 36), (.tmp 38)], none⟩,
   ⟨(some 6), .mv (.tmp 39), none⟩] [3, 4, 5, 6])
 (.seq (.reg [⟨(some 41), .mv (.tmp 3), none⟩,
   ⟨(some 42), .mv (.tmp 6), none⟩,
   ⟨(some 43), .iaddr 1 (.tmp 41) (.tmp 42), none⟩,
   ⟨(some 44), .load none (.tmp 43), none⟩,
   ⟨(some 45), .call 23 [(.tmp 44)], none⟩,
   ⟨(some 40), .mv (.tmp 45), none⟩,
   ⟨(some 46), .extr (.tmp 40) 0, none⟩,
   ⟨(some 47), .extr (.tmp 40) 1, none⟩,
   ⟨(some 48), .extr (.tmp 40) 2, none⟩,
   ⟨(some 7), .alloc 30 [(.lst 0 [] .nil), (.lst 0 [] .nil), (.lst 0 [] .nil)], none⟩,
   ⟨none, .store 3 (.tmp 7) (.tmp 46), none⟩,
   ⟨(some 8), .mv (.tmp 47), none⟩,
   ⟨(some 9), .mv (.tmp 48), none⟩] [4, 5, 6, 8, 9])
 (.seq (.reg [⟨(some 49), .mv (.tmp 9), none⟩,
   ⟨(some 50), .mv (.tmp 5), none⟩,
   ⟨(some 51), .mv (.tmp 6), none⟩,
   ⟨(some 52), .iaddr 1 (.tmp 50) (.tmp 51), none⟩,
   ⟨(some 53), .load none (.tmp 52), none⟩,
   ⟨(some 54), .bin .eql 37 (.tmp 49) (.tmp 53), none⟩,
   ⟨(some 55), .mv (.tmp 54), none⟩,
   ⟨(some 56), .mv (.tmp 8), (some (55, true))⟩,
   ⟨(some 57), .mv (.tmp 4), (some (55, true))⟩,
   ⟨(some 58), .mv (.tmp 6), (some (55, true))⟩,
   ⟨(some 59), .iaddr 1 (.tmp 57) (.tmp 58), (some (55, true))⟩,
   ⟨(some 60), .load none (.tmp 59), (some (55, true))⟩,
   ⟨(some 61), .bin .eql 3 (.tmp 56) (.tmp 60), (some (55, true))⟩,
   ⟨(some 62), .pick (.tmp 55) (.tmp 61) (.con (.sc (.bool false))), none⟩,
   ⟨(some 2), .mv (.tmp 62), none⟩] [2])
 (.ret)))))))),
 63, [.tmp 2], .pure⟩
def h6 : List Hint := [.keep [0], .keep [0, 11], .keep [2], .keep [0, 3], .keep [0, 3, 4], .keep [0, 3, 4, 5], .keep [3, 4, 5, 6], .keep [4, 5, 6, 8, 9], .keep [2]]
theorem g6 : digFn Tryz.prog Tryz.f6 h6 .pure = some d6 := by kernel_rfl

/-- deadbolt/deadboltlaw7.known -/
def d11 : DFn := ⟨.seq (.reg [⟨(some 0), .mv (.con (.sc (.bool false))), none⟩] [])
 (.seq (.reg [⟨(some 8), .call 23 [(.con (.lst 0 [] .nil))], none⟩,
   ⟨(some 7), .mv (.tmp 8), none⟩,
   ⟨(some 9), .extr (.tmp 7) 0, none⟩,
   ⟨(some 10), .extr (.tmp 7) 1, none⟩,
   ⟨(some 11), .extr (.tmp 7) 2, none⟩,
   ⟨(some 1), .alloc 30 [(.lst 0 [] .nil), (.lst 0 [] .nil), (.lst 0 [] .nil)], none⟩,
   ⟨none, .store 3 (.tmp 1) (.tmp 9), none⟩,
   ⟨(some 2), .mv (.tmp 10), none⟩,
   ⟨(some 3), .mv (.tmp 11), none⟩] [2, 3])
 (.seq (.reg [⟨(some 13), .build [(.sc (.string ⟨#[]⟩)), (.sc (.string ⟨#[]⟩))] [(0, 1, (.con (.sc (.string ⟨#[97]⟩)))), (1, 1, (.con (.sc (.string ⟨#[102, 117, 110, 99, 32, 109, 97, 105, 110, 32, 123, 32, 125]⟩))))], none⟩,
   ⟨(some 14), .bslice 46 2 1 (.agg [(.sc (.string ⟨#[]⟩)), (.sc (.string ⟨#[]⟩))]) [(0, (.tmp 13))], none⟩,
   ⟨(some 15), .call 23 [(.tmp 14)], none⟩,
   ⟨(some 12), .mv (.tmp 15), none⟩,
   ⟨(some 16), .extr (.tmp 12) 0, none⟩,
   ⟨(some 17), .extr (.tmp 12) 1, none⟩,
   ⟨(some 18), .extr (.tmp 12) 2, none⟩,
   ⟨(some 4), .alloc 30 [(.lst 0 [] .nil), (.lst 0 [] .nil), (.lst 0 [] .nil)], none⟩,
   ⟨none, .store 3 (.tmp 4) (.tmp 16), none⟩,
   ⟨(some 5), .mv (.tmp 17), none⟩,
   ⟨(some 6), .mv (.tmp 18), none⟩] [2, 3, 4, 6])
 (.seq (.reg [⟨(some 19), .mv (.tmp 2), none⟩,
   ⟨(some 20), .bin .eql 3 (.tmp 19) (.con (.sc (.int .i64 0))), none⟩,
   ⟨(some 21), .mv (.tmp 20), none⟩,
   ⟨(some 22), .mv (.tmp 3), (some (21, true))⟩,
   ⟨(some 23), .bin .eql 37 (.tmp 22) (.con (.sc (.int .i64 11))), (some (21, true))⟩,
   ⟨(some 24), .pick (.tmp 21) (.tmp 23) (.con (.sc (.bool false))), none⟩,
   ⟨(some 25), .mv (.tmp 24), none⟩,
   ⟨(some 26), .mv (.tmp 6), (some (25, true))⟩,
   ⟨(some 27), .bin .eql 37 (.tmp 26) (.con (.sc (.int .i64 0))), (some (25, true))⟩,
   ⟨(some 28), .pick (.tmp 25) (.tmp 27) (.con (.sc (.bool false))), none⟩,
   ⟨(some 29), .mv (.tmp 28), none⟩,
   ⟨(some 30), .faddr 2 (.tmp 4), (some (29, true))⟩,
   ⟨(some 31), .load none (.tmp 30), (some (29, true))⟩,
   ⟨(some 32), .len false (.tmp 31), (some (29, true))⟩,
   ⟨(some 33), .bin .eql 3 (.tmp 32) (.con (.sc (.int .i64 1))), (some (29, true))⟩,
   ⟨(some 34), .pick (.tmp 29) (.tmp 33) (.con (.sc (.bool false))), none⟩,
   ⟨(some 35), .mv (.tmp 34), none⟩,
   ⟨(some 36), .faddr 2 (.tmp 4), (some (35, true))⟩,
   ⟨(some 37), .load none (.tmp 36), (some (35, true))⟩,
   ⟨(some 38), .iaddr 3 (.tmp 37) (.con (.sc (.int .i64 0))), (some (35, true))⟩,
   ⟨(some 39), .faddr 0 (.tmp 38), (some (35, true))⟩,
   ⟨(some 40), .load none (.tmp 39), (some (35, true))⟩,
   ⟨(some 41), .bin .eql 9 (.tmp 40) (.con (.sc (.string ⟨#[109, 97, 105, 110]⟩))), (some (35, true))⟩,
   ⟨(some 42), .pick (.tmp 35) (.tmp 41) (.con (.sc (.bool false))), none⟩,
   ⟨(some 0), .mv (.tmp 42), none⟩] [0])
 (.ret)))),
 43, [.tmp 0], .pure⟩
def h11 : List Hint := [.keep [], .keep [2, 3], .keep [2, 3, 4, 6], .keep [0]]
theorem g11 : digFn Tryz.prog Tryz.f11 h11 .pure = some d11 := by kernel_rfl

/-- deadbolt/deadboltlaw7.within -/
def d15 : DFn := ⟨.seq (.reg [⟨(some 4), .mv (.con (.sc (.int .i64 0))), none⟩] [0, 1])
 (.seq (.reg [⟨(some 6), .mv (.tmp 0), none⟩,
   ⟨(some 7), .mv (.tmp 1), none⟩,
   ⟨(some 8), .bin .rem 3 (.tmp 6) (.tmp 7), none⟩,
   ⟨(some 5), .mv (.tmp 8), none⟩] [1, 5])
 (.seq (.seq (.reg [⟨(some 9), .mv (.tmp 5), none⟩,
   ⟨(some 10), .bin .lss 3 (.tmp 9) (.con (.sc (.int .i64 0))), none⟩] [1, 5, 10])
 (.cond (.tmp 10)
  (.reg [⟨(some 11), .mv (.tmp 5), none⟩,
    ⟨(some 12), .mv (.tmp 1), none⟩,
    ⟨(some 13), .bin .add 3 (.tmp 11) (.tmp 12), none⟩,
    ⟨(some 5), .mv (.tmp 13), none⟩] [5])
  (.skip)))
 (.seq (.reg [⟨(some 14), .mv (.tmp 5), none⟩,
   ⟨(some 4), .mv (.tmp 14), none⟩] [4])
 (.ret)))),
 15, [.tmp 4], .pure⟩
def h15 : List Hint := [.keep [0, 1], .keep [1, 5], .keep [1, 5, 10], .keep [5], .keep [4]]
theorem g15 : digFn Tryz.prog Tryz.f15 h15 .pure = some d15 := by kernel_rfl

/-- deadbolt/names.Join -/
def d23 : DFn := ⟨.seq (.reg [⟨(some 2), .alloc 30 [(.lst 0 [] .nil), (.lst 0 [] .nil), (.lst 0 [] .nil)], none⟩,
   ⟨(some 3), .mv (.con (.sc (.int .i64 0))), none⟩,
   ⟨(some 4), .mv (.con (.sc (.int .i64 0))), none⟩] [0, 2])
 (.seq (.reg [⟨(some 10), .mv (.tmp 0), none⟩,
   ⟨(some 11), .call 50 [(.tmp 10)], none⟩,
   ⟨(some 0), .mv (.tmp 11), none⟩] [0, 2])
 (.seq (.reg [⟨(some 12), .mv (.tmp 0), none⟩,
   ⟨(some 13), .call 51 [(.tmp 12), (.con (.fn (.func 52) [] []))], none⟩] [0, 2])
 (.seq (.seq (.reg [⟨(some 14), .mv (.tmp 0), none⟩,
   ⟨(some 15), .call 54 [(.tmp 14)], none⟩,
   ⟨(some 16), .un .not (.tmp 15), none⟩] [0, 2, 16])
 (.cond (.tmp 16)
  (.seq (.reg [⟨(some 17), .build [(.lst 0 [] .nil), (.lst 0 [] .nil), (.lst 0 [] .nil)] [], none⟩,
    ⟨none, .store 3 (.tmp 2) (.tmp 17), none⟩,
    ⟨(some 3), .mv (.con (.sc (.int .i64 0))), none⟩,
    ⟨(some 4), .mv (.con (.sc (.int .i64 1))), none⟩] [2, 3, 4])
  (.ret))
  (.skip)))
 (.seq (.seq (.reg [⟨(some 18), .mv (.tmp 0), none⟩,
   ⟨(some 19), .len false (.tmp 18), none⟩,
   ⟨(some 20), .mv (.con (.sc (.int .i64 0))), none⟩] [2, 18, 19, 20])
 (.block 0 (.loop (.seq (.reg [⟨(some 21), .bin .lss 3 (.tmp 20) (.tmp 19), none⟩] [2, 18, 19, 20, 21])
   (.seq (.cond (.tmp 21)
    (.skip)
    (.exit 0))
   (.seq (.block 1 (.seq (.reg [⟨(some 22), .mv (.tmp 20), none⟩,
      ⟨(some 23), .iaddr 2 (.tmp 18) (.tmp 20), none⟩,
      ⟨(some 24), .load (some 2) (.tmp 23), none⟩,
      ⟨(some 6), .alloc 46 [(.sc (.string ⟨#[]⟩)), (.sc (.string ⟨#[]⟩))], none⟩,
      ⟨(some 5), .mv (.tmp 22), none⟩,
      ⟨none, .store 2 (.tmp 6) (.tmp 24), none⟩] [2, 5, 6, 18, 19, 20])
    (.seq (.reg [⟨(some 26), .faddr 1 (.tmp 6), none⟩,
      ⟨(some 27), .load none (.tmp 26), none⟩,
      ⟨(some 28), .call 55 [(.tmp 27)], none⟩,
      ⟨(some 25), .mv (.tmp 28), none⟩,
      ⟨(some 29), .extr (.tmp 25) 0, none⟩,
      ⟨(some 30), .extr (.tmp 25) 1, none⟩,
      ⟨(some 31), .extr (.tmp 25) 2, none⟩,
      ⟨(some 7), .alloc 30 [(.lst 0 [] .nil), (.lst 0 [] .nil), (.lst 0 [] .nil)], none⟩,
      ⟨none, .store 3 (.tmp 7) (.tmp 29), none⟩,
      ⟨(some 8), .mv (.tmp 30), none⟩,
      ⟨(some 9), .mv (.tmp 31), none⟩] [2, 5, 7, 8, 9, 18, 19, 20])
    (.seq (.seq (.reg [⟨(some 32), .mv (.tmp 9), none⟩,
      ⟨(some 33), .bin .neq 37 (.tmp 32) (.con (.sc (.int .i64 0))), none⟩] [2, 5, 7, 8, 9, 18, 19, 20, 33])
    (.cond (.tmp 33)
     (.seq (.reg [⟨(some 34), .build [(.lst 0 [] .nil), (.lst 0 [] .nil), (.lst 0 [] .nil)] [], none⟩,
       ⟨(some 35), .mv (.tmp 5), none⟩,
       ⟨(some 36), .bin .mul 3 (.tmp 35) (.con (.sc (.int .i64 10000))), none⟩,
       ⟨(some 37), .mv (.tmp 8), none⟩,
       ⟨(some 38), .bin .add 3 (.tmp 36) (.tmp 37), none⟩,
       ⟨(some 39), .mv (.tmp 9), none⟩,
       ⟨none, .store 3 (.tmp 2) (.tmp 34), none⟩,
       ⟨(some 3), .mv (.tmp 38), none⟩,
       ⟨(some 4), .mv (.tmp 39), none⟩] [2, 3, 4])
     (.ret))
     (.skip)))
    (.reg [⟨(some 40), .load (some 3) (.tmp 7), none⟩,
      ⟨(some 41), .mv (.tmp 5), none⟩,
      ⟨(some 42), .bin .mul 3 (.tmp 41) (.con (.sc (.int .i64 10000))), none⟩,
      ⟨(some 43), .call 56 [(.tmp 2), (.tmp 40), (.tmp 42)], none⟩] [2, 18, 19, 20])))))
   (.reg [⟨(some 44), .bin .add 3 (.tmp 20) (.con (.sc (.int .i64 1))), none⟩,
     ⟨(some 20), .mv (.tmp 44), none⟩] [2, 18, 19, 20])))))))
 (.seq (.seq (.reg [⟨(some 46), .load (some 3) (.tmp 2), none⟩,
   ⟨(some 47), .call 18 [(.tmp 46)], none⟩,
   ⟨(some 45), .mv (.tmp 47), none⟩,
   ⟨(some 48), .extr (.tmp 45) 0, none⟩,
   ⟨(some 49), .extr (.tmp 45) 1, none⟩,
   ⟨(some 3), .mv (.tmp 48), none⟩,
   ⟨(some 4), .mv (.tmp 49), none⟩] [2, 3, 4])
 (.seq (.reg [⟨(some 50), .mv (.tmp 4), none⟩,
   ⟨(some 51), .bin .neq 37 (.tmp 50) (.con (.sc (.int .i64 0))), none⟩] [2, 3, 4, 51])
 (.cond (.tmp 51)
  (.seq (.reg [⟨(some 52), .build [(.lst 0 [] .nil), (.lst 0 [] .nil), (.lst 0 [] .nil)] [], none⟩,
    ⟨(some 53), .mv (.tmp 3), none⟩,
    ⟨(some 54), .mv (.tmp 4), none⟩,
    ⟨none, .store 3 (.tmp 2) (.tmp 52), none⟩,
    ⟨(some 3), .mv (.tmp 53), none⟩,
    ⟨(some 4), .mv (.tmp 54), none⟩] [2, 3, 4])
  (.ret))
  (.skip))))
 (.seq (.drw [⟨(some 55), .faddr 0 (.tmp 2), none⟩,
   ⟨(some 56), .load none (.tmp 55), none⟩,
   ⟨(some 57), .call 57 [(.tmp 56)], none⟩,
   ⟨(some 58), .faddr 1 (.tmp 2), none⟩,
   ⟨(some 59), .load none (.tmp 58), none⟩,
   ⟨(some 60), .call 57 [(.tmp 59)], none⟩,
   ⟨(some 61), .faddr 2 (.tmp 2), none⟩,
   ⟨(some 62), .load none (.tmp 61), none⟩,
   ⟨(some 63), .call 58 [(.tmp 62)], none⟩,
   ⟨(some 64), .faddr 0 (.tmp 2), none⟩,
   ⟨none, .store 1 (.tmp 64) (.tmp 57), none⟩,
   ⟨(some 65), .faddr 1 (.tmp 2), none⟩,
   ⟨none, .store 1 (.tmp 65) (.tmp 60), none⟩,
   ⟨(some 66), .faddr 2 (.tmp 2), none⟩,
   ⟨none, .store 1 (.tmp 66) (.tmp 63), none⟩] [0, 1, 3, 0, 8, 31, 0, 64, 255, 511, 1023, 2047, 4095, 8191, 16383] [2])
 (.seq (.reg [⟨(some 67), .load (some 3) (.tmp 2), none⟩,
   ⟨none, .store 3 (.tmp 2) (.tmp 67), none⟩,
   ⟨(some 3), .mv (.con (.sc (.int .i64 0))), none⟩,
   ⟨(some 4), .mv (.con (.sc (.int .i64 0))), none⟩] [2, 3, 4])
 (.ret)))))))),
 68, [.cell 2 (some 3), .tmp 3, .tmp 4], .pure⟩
def h23 : List Hint := [.keep [0, 2], .keep [0, 2], .keep [0, 2], .keep [0, 2, 16], .keep [2, 3, 4], .keep [2, 18, 19, 20], .keep [2, 18, 19, 20, 21], .keep [2, 5, 6, 18, 19, 20], .keep [2, 5, 7, 8, 9, 18, 19, 20], .keep [2, 5, 7, 8, 9, 18, 19, 20, 33], .keep [2, 3, 4], .keep [2, 18, 19, 20], .keep [2, 18, 19, 20], .keep [2, 3, 4], .keep [2, 3, 4, 51], .keep [2, 3, 4], .keep [2], .keep [2, 3, 4]]
theorem g23 : digFn Tryz.prog Tryz.f23 h23 .pure = some d23 := by kernel_rfl

/-- slices.Clone[[]deadbolt/api.File,deadbolt/api.File] -/
def d50 : DFn := ⟨.seq (.reg [⟨(some 2), .mv (.con (.lst 0 [] .nil)), none⟩] [0])
 (.seq (.seq (.reg [⟨(some 3), .mv (.tmp 0), none⟩,
   ⟨(some 4), .ex (.isnil .slice false) [(.tmp 3)], none⟩] [0, 4])
 (.cond (.tmp 4)
  (.seq (.reg [⟨(some 2), .mv (.con (.lst 0 [] .nil)), none⟩] [2])
  (.ret))
  (.skip)))
 (.seq (.reg [⟨(some 5), .bslice 46 2 0 (.agg [(.sc (.string ⟨#[]⟩)), (.sc (.string ⟨#[]⟩))]) [], none⟩,
   ⟨(some 6), .mv (.tmp 0), none⟩,
   ⟨(some 7), .app 46 2 (.tmp 5) (.tmp 6), none⟩,
   ⟨(some 2), .mv (.tmp 7), none⟩] [2])
 (.ret))),
 8, [.tmp 2], .raw⟩
def h50 : List Hint := [.keep [0], .keep [0, 4], .keep [2], .keep [2]]
theorem g50 : digFn Tryz.prog Tryz.f50 h50 .raw = some d50 := by kernel_rfl

/-- deadbolt/names.Join$1 -/
def d52 : DFn := ⟨.seq (.reg [⟨(some 2), .box 46 (.tmp 0), none⟩,
   ⟨(some 3), .box 46 (.tmp 1), none⟩,
   ⟨(some 4), .mv (.con (.sc (.int .i64 0))), none⟩] [2, 3])
 (.seq (.reg [⟨(some 5), .faddr 0 (.tmp 2), none⟩,
   ⟨(some 6), .load none (.tmp 5), none⟩,
   ⟨(some 7), .faddr 0 (.tmp 3), none⟩,
   ⟨(some 8), .load none (.tmp 7), none⟩,
   ⟨(some 9), .call 53 [(.tmp 6), (.tmp 8)], none⟩,
   ⟨(some 4), .mv (.tmp 9), none⟩] [4])
 (.ret)),
 10, [.tmp 4], .made⟩
def h52 : List Hint := [.keep [2, 3], .keep [4]]
theorem g52 : digFn Tryz.prog Tryz.f52 h52 .made = some d52 := by kernel_rfl

/-- slices.SortFunc[[]deadbolt/api.File,deadbolt/api.File] -/
def d51 : DFn := ⟨.seq (.reg [⟨(some 5), .mv (.tmp 0), none⟩,
   ⟨(some 6), .len false (.tmp 5), none⟩,
   ⟨(some 4), .mv (.tmp 6), none⟩] [0, 1, 4])
 (.reg [⟨(some 7), .mv (.tmp 0), none⟩,
   ⟨(some 8), .mv (.tmp 4), none⟩,
   ⟨(some 9), .mv (.tmp 4), none⟩,
   ⟨(some 10), .cvt .u64 (.tmp 9), none⟩,
   ⟨(some 11), .call 96 [(.tmp 10)], none⟩,
   ⟨(some 12), .mv (.tmp 1), none⟩,
   ⟨(some 13), .call 95 [(.tmp 7), (.con (.sc (.int .i64 0))), (.tmp 8), (.tmp 11), (.tmp 12)], none⟩] []),
 14, [], .made⟩
def h51 : List Hint := [.keep [0, 1, 4], .keep []]
theorem g51 : digFn Tryz.prog Tryz.f51 h51 .made = some d51 := by kernel_rfl

/-- deadbolt/names.sound -/
def d54 : DFn := ⟨.seq (.reg [⟨(some 2), .mv (.con (.sc (.bool false))), none⟩] [0])
 (.seq (.seq (.reg [⟨(some 5), .mv (.tmp 0), none⟩,
   ⟨(some 6), .len false (.tmp 5), none⟩,
   ⟨(some 7), .bin .gtr 3 (.tmp 6) (.con (.sc (.int .i64 8))), none⟩] [0, 7])
 (.cond (.tmp 7)
  (.seq (.reg [⟨(some 2), .mv (.con (.sc (.bool false))), none⟩] [2])
  (.ret))
  (.skip)))
 (.seq (.seq (.reg [⟨(some 8), .mv (.tmp 0), none⟩,
   ⟨(some 9), .len false (.tmp 8), none⟩,
   ⟨(some 10), .mv (.con (.sc (.int .i64 0))), none⟩] [0, 8, 9, 10])
 (.block 0 (.loop (.seq (.reg [⟨(some 11), .bin .lss 3 (.tmp 10) (.tmp 9), none⟩] [0, 8, 9, 10, 11])
   (.seq (.cond (.tmp 11)
    (.skip)
    (.exit 0))
   (.seq (.block 1 (.seq (.reg [⟨(some 12), .mv (.tmp 10), none⟩,
      ⟨(some 13), .iaddr 2 (.tmp 8) (.tmp 10), none⟩,
      ⟨(some 14), .load (some 2) (.tmp 13), none⟩,
      ⟨(some 4), .alloc 46 [(.sc (.string ⟨#[]⟩)), (.sc (.string ⟨#[]⟩))], none⟩,
      ⟨(some 3), .mv (.tmp 12), none⟩,
      ⟨none, .store 2 (.tmp 4) (.tmp 14), none⟩] [0, 3, 4, 8, 9, 10])
    (.seq (.drw [⟨(some 15), .faddr 0 (.tmp 4), none⟩,
      ⟨(some 16), .load none (.tmp 15), none⟩,
      ⟨(some 17), .call 98 [(.tmp 16)], none⟩,
      ⟨(some 18), .un .not (.tmp 17), none⟩,
      ⟨(some 19), .mv (.tmp 18), none⟩,
      ⟨(some 20), .faddr 1 (.tmp 4), (some (19, false))⟩,
      ⟨(some 21), .load none (.tmp 20), (some (19, false))⟩,
      ⟨(some 22), .len true (.tmp 21), (some (19, false))⟩,
      ⟨(some 23), .bin .gtr 3 (.tmp 22) (.con (.sc (.int .i64 2000))), (some (19, false))⟩,
      ⟨(some 24), .pick (.tmp 19) (.con (.sc (.bool true))) (.tmp 23), none⟩,
      ⟨(some 25), .mv (.tmp 24), none⟩,
      ⟨(some 26), .mv (.tmp 3), (some (25, false))⟩,
      ⟨(some 27), .bin .gtr 3 (.tmp 26) (.con (.sc (.int .i64 0))), (some (25, false))⟩,
      ⟨(some 28), .mv (.tmp 27), (some (25, false))⟩,
      ⟨(some 29), .mv (.tmp 0), (some (28, true))⟩,
      ⟨(some 30), .mv (.tmp 3), (some (28, true))⟩,
      ⟨(some 31), .bin .sub 3 (.tmp 30) (.con (.sc (.int .i64 1))), (some (28, true))⟩,
      ⟨(some 32), .iaddr 2 (.tmp 29) (.tmp 31), (some (28, true))⟩,
      ⟨(some 33), .faddr 0 (.tmp 32), (some (28, true))⟩,
      ⟨(some 34), .load none (.tmp 33), (some (28, true))⟩,
      ⟨(some 35), .faddr 0 (.tmp 4), (some (28, true))⟩,
      ⟨(some 36), .load none (.tmp 35), (some (28, true))⟩,
      ⟨(some 37), .bin .eql 9 (.tmp 34) (.tmp 36), (some (28, true))⟩,
      ⟨(some 38), .pick (.tmp 28) (.tmp 37) (.con (.sc (.bool false))), (some (25, false))⟩,
      ⟨(some 39), .pick (.tmp 25) (.con (.sc (.bool true))) (.tmp 38), none⟩] [0, 1, 3, 7, 15, 31, 63, 127, 255, 511, 1023, 2047, 4095, 8191, 16383, 16383, 49151, 131071, 262143, 524287, 16383, 1064959, 4194303, 8388607, 16777215] [0, 8, 9, 10, 39])
    (.cond (.tmp 39)
     (.seq (.reg [⟨(some 2), .mv (.con (.sc (.bool false))), none⟩] [2])
     (.ret))
     (.skip)))))
   (.reg [⟨(some 40), .bin .add 3 (.tmp 10) (.con (.sc (.int .i64 1))), none⟩,
     ⟨(some 10), .mv (.tmp 40), none⟩] [0, 8, 9, 10])))))))
 (.seq (.reg [⟨(some 2), .mv (.con (.sc (.bool true))), none⟩] [2])
 (.ret)))),
 41, [.tmp 2], .pure⟩
def h54 : List Hint := [.keep [0], .keep [0, 7], .keep [2], .keep [0, 8, 9, 10], .keep [0, 8, 9, 10, 11], .keep [0, 3, 4, 8, 9, 10], .keep [0, 8, 9, 10, 39], .keep [2], .keep [0, 8, 9, 10], .keep [2]]
theorem g54 : digFn Tryz.prog Tryz.f54 h54 .pure = some d54 := by kernel_rfl

/-- deadbolt/parse.Parse -/
def d55 : DFnD := ⟨.seq (.reg [⟨(some 2), .alloc 30 [(.lst 0 [] .nil), (.lst 0 [] .nil), (.lst 0 [] .nil)], none⟩,
   ⟨(some 3), .alloc 3 [(.sc (.int .i64 0))], none⟩,
   ⟨(some 4), .alloc 37 [(.sc (.int .i64 0))], none⟩] [0, 2, 3, 4])
 (.seq (.reg [⟨(some 8), .mv (.tmp 0), none⟩,
   ⟨(some 9), .call 99 [(.tmp 8)], none⟩,
   ⟨(some 7), .mv (.tmp 9), none⟩,
   ⟨(some 10), .extr (.tmp 7) 0, none⟩,
   ⟨(some 11), .extr (.tmp 7) 1, none⟩,
   ⟨(some 12), .extr (.tmp 7) 2, none⟩,
   ⟨(some 5), .mv (.tmp 10), none⟩,
   ⟨none, .store 1 (.tmp 3) (.tmp 11), none⟩,
   ⟨none, .store 1 (.tmp 4) (.tmp 12), none⟩] [0, 2, 3, 4, 5])
 (.seq (.seq (.reg [⟨(some 13), .load none (.tmp 4), none⟩,
   ⟨(some 14), .bin .neq 37 (.tmp 13) (.con (.sc (.int .i64 0))), none⟩] [0, 2, 3, 4, 5, 14])
 (.cond (.tmp 14)
  (.seq (.drw [⟨(some 15), .build [(.lst 0 [] .nil), (.lst 0 [] .nil), (.lst 0 [] .nil)] [], none⟩,
    ⟨(some 16), .load none (.tmp 3), none⟩,
    ⟨(some 17), .load none (.tmp 4), none⟩,
    ⟨none, .store 3 (.tmp 2) (.tmp 15), none⟩,
    ⟨none, .store 1 (.tmp 3) (.tmp 16), none⟩,
    ⟨none, .store 1 (.tmp 4) (.tmp 17), none⟩] [0, 0, 0, 1, 11, 31] [2, 3, 4])
  (.ret))
  (.skip)))
 (.dfr [⟨(some 18), .mkfn (.func 100) [] [(.tmp 2), (.tmp 3), (.tmp 4)], none⟩] [0, 2, 3, 4, 5] (.tmp 18) [2, 3, 4]
 (.seq (.reg [⟨(some 19), .mv (.tmp 5), none⟩,
   ⟨(some 20), .mv (.tmp 0), none⟩,
   ⟨(some 21), .len true (.tmp 20), none⟩,
   ⟨(some 22), .build [(.lst 0 [] .nil), (.sc (.int .i64 0))] [(0, 1, (.tmp 19)), (1, 1, (.tmp 21))], none⟩,
   ⟨(some 23), .box 180 (.tmp 22), none⟩,
   ⟨(some 6), .mv (.tmp 23), none⟩] [2, 3, 4, 6])
 (.seq (.block 0 (.loop (.seq (.seq (.reg [⟨(some 24), .mv (.tmp 6), none⟩,
     ⟨(some 25), .nilc (.tmp 24), none⟩,
     ⟨(some 26), .faddr 0 (.tmp 25), none⟩,
     ⟨(some 27), .load none (.tmp 26), none⟩,
     ⟨(some 28), .len false (.tmp 27), none⟩,
     ⟨(some 29), .bin .gtr 3 (.tmp 28) (.con (.sc (.int .i64 0))), none⟩] [2, 3, 4, 6, 29])
   (.cond (.tmp 29)
    (.skip)
    (.exit 0)))
   (.block 1 (.reg [⟨(some 30), .mv (.tmp 6), none⟩,
      ⟨(some 31), .call 101 [(.tmp 30), (.tmp 2)], none⟩] [2, 3, 4, 6])))))
 (.seq (.reg [⟨(some 32), .load (some 3) (.tmp 2), none⟩,
   ⟨(some 33), .call 102 [(.tmp 32)], none⟩,
   ⟨none, .store 3 (.tmp 2) (.tmp 33), none⟩,
   ⟨none, .store 1 (.tmp 3) (.con (.sc (.int .i64 0))), none⟩,
   ⟨none, .store 1 (.tmp 4) (.con (.sc (.int .i64 0))), none⟩] [2, 3, 4])
 (.ret))))))),
 34, [.cell 2 (some 3), .cell 3 none, .cell 4 none], .pure⟩
def h55 : List Hint := [.keep [0, 2, 3, 4], .keep [0, 2, 3, 4, 5], .keep [0, 2, 3, 4, 5, 14], .keep [2, 3, 4], .keep [0, 2, 3, 4, 5], .keep [2, 3, 4, 6], .keep [2, 3, 4, 6, 29], .keep [2, 3, 4, 6], .keep [2, 3, 4]]
theorem g55 : digFnD Tryz.prog Tryz.f55 [2, 3, 4] h55 .pure = some d55 := by kernel_rfl

/-- deadbolt/names.add -/
def d56 : DFn := ⟨.seq (.reg [⟨(some 4), .box 30 (.tmp 1), none⟩] [0, 2, 4])
 (.seq (.seq (.reg [⟨(some 12), .faddr 0 (.tmp 4), none⟩,
   ⟨(some 13), .load none (.tmp 12), none⟩,
   ⟨(some 14), .len false (.tmp 13), none⟩,
   ⟨(some 15), .mv (.con (.sc (.int .i64 0))), none⟩] [0, 2, 4, 13, 14, 15])
 (.block 0 (.loop (.seq (.reg [⟨(some 16), .bin .lss 3 (.tmp 15) (.tmp 14), none⟩] [0, 2, 4, 13, 14, 15, 16])
   (.seq (.cond (.tmp 16)
    (.skip)
    (.exit 0))
   (.seq (.block 1 (.seq (.reg [⟨(some 17), .iaddr 2 (.tmp 13) (.tmp 15), none⟩,
      ⟨(some 18), .load (some 2) (.tmp 17), none⟩,
      ⟨(some 7), .alloc 59 [(.sc (.string ⟨#[]⟩)), (.sc (.int .i64 0))], none⟩,
      ⟨none, .store 2 (.tmp 7) (.tmp 18), none⟩] [0, 2, 4, 7, 13, 14, 15])
    (.drw [⟨(some 19), .mv (.tmp 0), none⟩,
      ⟨(some 20), .mv (.tmp 0), none⟩,
      ⟨(some 21), .nilc (.tmp 20), none⟩,
      ⟨(some 22), .faddr 0 (.tmp 21), none⟩,
      ⟨(some 23), .load none (.tmp 22), none⟩,
      ⟨(some 24), .faddr 0 (.tmp 7), none⟩,
      ⟨(some 25), .load none (.tmp 24), none⟩,
      ⟨(some 26), .faddr 1 (.tmp 7), none⟩,
      ⟨(some 27), .load none (.tmp 26), none⟩,
      ⟨(some 28), .mv (.tmp 2), none⟩,
      ⟨(some 29), .bin .add 3 (.tmp 27) (.tmp 28), none⟩,
      ⟨(some 30), .build [(.sc (.string ⟨#[]⟩)), (.sc (.int .i64 0))] [(0, 1, (.tmp 25)), (1, 1, (.tmp 29))], none⟩,
      ⟨(some 31), .bslice 59 2 1 (.agg [(.sc (.string ⟨#[]⟩)), (.sc (.int .i64 0))]) [(0, (.tmp 30))], none⟩,
      ⟨(some 32), .app 59 2 (.tmp 23) (.tmp 31), none⟩,
      ⟨(some 33), .nilc (.tmp 19), none⟩,
      ⟨(some 34), .faddr 0 (.tmp 33), none⟩,
      ⟨none, .store 1 (.tmp 34) (.tmp 32), none⟩] [0, 0, 2, 6, 14, 0, 32, 0, 128, 0, 896, 2016, 4064, 8190, 16383, 32767, 65535] [0, 2, 4, 13, 14, 15])))
   (.reg [⟨(some 35), .bin .add 3 (.tmp 15) (.con (.sc (.int .i64 1))), none⟩,
     ⟨(some 15), .mv (.tmp 35), none⟩] [0, 2, 4, 13, 14, 15])))))))
 (.seq (.seq (.reg [⟨(some 36), .faddr 1 (.tmp 4), none⟩,
   ⟨(some 37), .load none (.tmp 36), none⟩,
   ⟨(some 38), .len false (.tmp 37), none⟩,
   ⟨(some 39), .mv (.con (.sc (.int .i64 0))), none⟩] [0, 2, 4, 37, 38, 39])
 (.block 2 (.loop (.seq (.reg [⟨(some 40), .bin .lss 3 (.tmp 39) (.tmp 38), none⟩] [0, 2, 4, 37, 38, 39, 40])
   (.seq (.cond (.tmp 40)
    (.skip)
    (.exit 2))
   (.seq (.block 3 (.seq (.reg [⟨(some 41), .iaddr 2 (.tmp 37) (.tmp 39), none⟩,
      ⟨(some 42), .load (some 2) (.tmp 41), none⟩,
      ⟨(some 9), .alloc 59 [(.sc (.string ⟨#[]⟩)), (.sc (.int .i64 0))], none⟩,
      ⟨none, .store 2 (.tmp 9) (.tmp 42), none⟩] [0, 2, 4, 9, 37, 38, 39])
    (.drw [⟨(some 43), .mv (.tmp 0), none⟩,
      ⟨(some 44), .mv (.tmp 0), none⟩,
      ⟨(some 45), .nilc (.tmp 44), none⟩,
      ⟨(some 46), .faddr 1 (.tmp 45), none⟩,
      ⟨(some 47), .load none (.tmp 46), none⟩,
      ⟨(some 48), .faddr 0 (.tmp 9), none⟩,
      ⟨(some 49), .load none (.tmp 48), none⟩,
      ⟨(some 50), .faddr 1 (.tmp 9), none⟩,
      ⟨(some 51), .load none (.tmp 50), none⟩,
      ⟨(some 52), .mv (.tmp 2), none⟩,
      ⟨(some 53), .bin .add 3 (.tmp 51) (.tmp 52), none⟩,
      ⟨(some 54), .build [(.sc (.string ⟨#[]⟩)), (.sc (.int .i64 0))] [(0, 1, (.tmp 49)), (1, 1, (.tmp 53))], none⟩,
      ⟨(some 55), .bslice 59 2 1 (.agg [(.sc (.string ⟨#[]⟩)), (.sc (.int .i64 0))]) [(0, (.tmp 54))], none⟩,
      ⟨(some 56), .app 59 2 (.tmp 47) (.tmp 55), none⟩,
      ⟨(some 57), .nilc (.tmp 43), none⟩,
      ⟨(some 58), .faddr 1 (.tmp 57), none⟩,
      ⟨none, .store 1 (.tmp 58) (.tmp 56), none⟩] [0, 0, 2, 6, 14, 0, 32, 0, 128, 0, 896, 2016, 4064, 8190, 16383, 32767, 65535] [0, 2, 4, 37, 38, 39])))
   (.reg [⟨(some 59), .bin .add 3 (.tmp 39) (.con (.sc (.int .i64 1))), none⟩,
     ⟨(some 39), .mv (.tmp 59), none⟩] [0, 2, 4, 37, 38, 39])))))))
 (.seq (.reg [⟨(some 60), .faddr 2 (.tmp 4), none⟩,
   ⟨(some 61), .load none (.tmp 60), none⟩,
   ⟨(some 62), .len false (.tmp 61), none⟩,
   ⟨(some 63), .mv (.con (.sc (.int .i64 0))), none⟩] [0, 2, 61, 62, 63])
 (.block 4 (.loop (.seq (.reg [⟨(some 64), .bin .lss 3 (.tmp 63) (.tmp 62), none⟩] [0, 2, 61, 62, 63, 64])
   (.seq (.cond (.tmp 64)
    (.skip)
    (.exit 4))
   (.seq (.block 5 (.seq (.reg [⟨(some 65), .iaddr 3 (.tmp 61) (.tmp 63), none⟩,
      ⟨(some 66), .load (some 3) (.tmp 65), none⟩,
      ⟨(some 11), .alloc 51 [(.sc (.string ⟨#[]⟩)), (.sc (.int .i64 0)), (.lst 0 [] .nil)], none⟩,
      ⟨none, .store 3 (.tmp 11) (.tmp 66), none⟩] [0, 2, 11, 61, 62, 63])
    (.drw [⟨(some 67), .mv (.tmp 0), none⟩,
      ⟨(some 68), .mv (.tmp 0), none⟩,
      ⟨(some 69), .nilc (.tmp 68), none⟩,
      ⟨(some 70), .faddr 2 (.tmp 69), none⟩,
      ⟨(some 71), .load none (.tmp 70), none⟩,
      ⟨(some 72), .faddr 0 (.tmp 11), none⟩,
      ⟨(some 73), .load none (.tmp 72), none⟩,
      ⟨(some 74), .faddr 1 (.tmp 11), none⟩,
      ⟨(some 75), .load none (.tmp 74), none⟩,
      ⟨(some 76), .mv (.tmp 2), none⟩,
      ⟨(some 77), .bin .add 3 (.tmp 75) (.tmp 76), none⟩,
      ⟨(some 78), .faddr 2 (.tmp 11), none⟩,
      ⟨(some 79), .load none (.tmp 78), none⟩,
      ⟨(some 80), .mv (.tmp 2), none⟩,
      ⟨(some 81), .call 103 [(.tmp 79), (.tmp 80)], none⟩,
      ⟨(some 82), .build [(.sc (.string ⟨#[]⟩)), (.sc (.int .i64 0)), (.lst 0 [] .nil)] [(0, 1, (.tmp 73)), (1, 1, (.tmp 77)), (2, 1, (.tmp 81))], none⟩,
      ⟨(some 83), .bslice 51 3 1 (.agg [(.sc (.string ⟨#[]⟩)), (.sc (.int .i64 0)), (.lst 0 [] .nil)]) [(0, (.tmp 82))], none⟩,
      ⟨(some 84), .app 51 3 (.tmp 71) (.tmp 83), none⟩,
      ⟨(some 85), .nilc (.tmp 67), none⟩,
      ⟨(some 86), .faddr 2 (.tmp 85), none⟩,
      ⟨none, .store 1 (.tmp 86) (.tmp 84), none⟩] [0, 0, 2, 6, 14, 0, 32, 0, 128, 0, 896, 0, 2048, 0, 14336, 32736, 65504, 131070, 262143, 524287, 1048575] [0, 2, 61, 62, 63])))
   (.reg [⟨(some 87), .bin .add 3 (.tmp 63) (.con (.sc (.int .i64 1))), none⟩,
     ⟨(some 63), .mv (.tmp 87), none⟩] [0, 2, 61, 62, 63]))))))))),
 88, [], .made⟩
def h56 : List Hint := [.keep [0, 2, 4], .keep [0, 2, 4, 13, 14, 15], .keep [0, 2, 4, 13, 14, 15, 16], .keep [0, 2, 4, 7, 13, 14, 15], .keep [0, 2, 4, 13, 14, 15], .keep [0, 2, 4, 13, 14, 15], .keep [0, 2, 4, 37, 38, 39], .keep [0, 2, 4, 37, 38, 39, 40], .keep [0, 2, 4, 9, 37, 38, 39], .keep [0, 2, 4, 37, 38, 39], .keep [0, 2, 4, 37, 38, 39], .keep [0, 2, 61, 62, 63], .keep [0, 2, 61, 62, 63, 64], .keep [0, 2, 11, 61, 62, 63], .keep [0, 2, 61, 62, 63], .keep [0, 2, 61, 62, 63]]
theorem g56 : digFn Tryz.prog Tryz.f56 h56 .made = some d56 := by kernel_rfl

/-- deadbolt/names.Check -/
def d18 : DFn := ⟨.seq (.reg [⟨(some 1), .box 30 (.tmp 0), none⟩,
   ⟨(some 2), .mv (.con (.sc (.int .i64 0))), none⟩,
   ⟨(some 3), .mv (.con (.sc (.int .i64 0))), none⟩] [1])
 (.seq (.reg [⟨(some 4), .load (some 3) (.tmp 1), none⟩,
   ⟨(some 5), .call 45 [(.tmp 4)], none⟩,
   ⟨(some 6), .call 44 [(.tmp 5)], none⟩,
   ⟨(some 7), .extr (.tmp 6) 0, none⟩,
   ⟨(some 8), .extr (.tmp 6) 1, none⟩,
   ⟨(some 2), .mv (.tmp 7), none⟩,
   ⟨(some 3), .mv (.tmp 8), none⟩] [2, 3])
 (.ret)),
 9, [.tmp 2, .tmp 3], .pure⟩
def h18 : List Hint := [.keep [1], .keep [2, 3]]
theorem g18 : digFn Tryz.prog Tryz.f18 h18 .pure = some d18 := by kernel_rfl

/-- slices.Clone[[]deadbolt/api.Decl,deadbolt/api.Decl] -/
def d57 : DFn := ⟨.seq (.reg [⟨(some 2), .mv (.con (.lst 0 [] .nil)), none⟩] [0])
 (.seq (.seq (.reg [⟨(some 3), .mv (.tmp 0), none⟩,
   ⟨(some 4), .ex (.isnil .slice false) [(.tmp 3)], none⟩] [0, 4])
 (.cond (.tmp 4)
  (.seq (.reg [⟨(some 2), .mv (.con (.lst 0 [] .nil)), none⟩] [2])
  (.ret))
  (.skip)))
 (.seq (.reg [⟨(some 5), .bslice 59 2 0 (.agg [(.sc (.string ⟨#[]⟩)), (.sc (.int .i64 0))]) [], none⟩,
   ⟨(some 6), .mv (.tmp 0), none⟩,
   ⟨(some 7), .app 59 2 (.tmp 5) (.tmp 6), none⟩,
   ⟨(some 2), .mv (.tmp 7), none⟩] [2])
 (.ret))),
 8, [.tmp 2], .raw⟩
def h57 : List Hint := [.keep [0], .keep [0, 4], .keep [2], .keep [2]]
theorem g57 : digFn Tryz.prog Tryz.f57 h57 .raw = some d57 := by kernel_rfl

/-- slices.Clone[[]deadbolt/api.Func,deadbolt/api.Func] -/
def d58 : DFn := ⟨.seq (.reg [⟨(some 2), .mv (.con (.lst 0 [] .nil)), none⟩] [0])
 (.seq (.seq (.reg [⟨(some 3), .mv (.tmp 0), none⟩,
   ⟨(some 4), .ex (.isnil .slice false) [(.tmp 3)], none⟩] [0, 4])
 (.cond (.tmp 4)
  (.seq (.reg [⟨(some 2), .mv (.con (.lst 0 [] .nil)), none⟩] [2])
  (.ret))
  (.skip)))
 (.seq (.reg [⟨(some 5), .bslice 51 3 0 (.agg [(.sc (.string ⟨#[]⟩)), (.sc (.int .i64 0)), (.lst 0 [] .nil)]) [], none⟩,
   ⟨(some 6), .mv (.tmp 0), none⟩,
   ⟨(some 7), .app 51 3 (.tmp 5) (.tmp 6), none⟩,
   ⟨(some 2), .mv (.tmp 7), none⟩] [2])
 (.ret))),
 8, [.tmp 2], .raw⟩
def h58 : List Hint := [.keep [0], .keep [0, 4], .keep [2], .keep [2]]
theorem g58 : digFn Tryz.prog Tryz.f58 h58 .raw = some d58 := by kernel_rfl

/-- math/bits.Len -/
def d96 : DFn := ⟨.seq (.reg [⟨(some 2), .mv (.con (.sc (.int .i64 0))), none⟩] [0])
 (.seq (.cond (.con (.sc (.bool false)))
  (.seq (.reg [⟨(some 3), .mv (.tmp 0), none⟩,
    ⟨(some 4), .cvt .u32 (.tmp 3), none⟩,
    ⟨(some 5), .call 149 [(.tmp 4)], none⟩,
    ⟨(some 2), .mv (.tmp 5), none⟩] [2])
  (.ret))
  (.skip))
 (.seq (.reg [⟨(some 6), .mv (.tmp 0), none⟩,
   ⟨(some 7), .call 150 [(.tmp 6)], none⟩,
   ⟨(some 2), .mv (.tmp 7), none⟩] [2])
 (.ret))),
 8, [.tmp 2], .pure⟩
def h96 : List Hint := [.keep [0], .keep [2], .keep [2]]
theorem g96 : digFn Tryz.prog Tryz.f96 h96 .pure = some d96 := by kernel_rfl

/-- slices.pdqsortCmpFunc[deadbolt/api.File] -/
def d95 : DFn := ⟨.seq (.reg [⟨(some 10), .mv (.con (.sc (.bool true))), none⟩] [0, 1, 2, 3, 4, 10])
 (.seq (.reg [⟨(some 11), .mv (.con (.sc (.bool true))), none⟩] [0, 1, 2, 3, 4, 10, 11])
 (.block 0 (.loop (.block 1 (.seq (.reg [⟨(some 21), .mv (.tmp 2), none⟩,
      ⟨(some 22), .mv (.tmp 1), none⟩,
      ⟨(some 23), .bin .sub 3 (.tmp 21) (.tmp 22), none⟩,
      ⟨(some 12), .mv (.tmp 23), none⟩] [0, 1, 2, 3, 4, 10, 11, 12])
    (.seq (.seq (.reg [⟨(some 24), .mv (.tmp 12), none⟩,
      ⟨(some 25), .bin .leq 3 (.tmp 24) (.con (.sc (.int .i64 12))), none⟩] [0, 1, 2, 3, 4, 10, 11, 12, 25])
    (.cond (.tmp 25)
     (.seq (.reg [⟨(some 26), .mv (.tmp 0), none⟩,
       ⟨(some 27), .mv (.tmp 1), none⟩,
       ⟨(some 28), .mv (.tmp 2), none⟩,
       ⟨(some 29), .mv (.tmp 4), none⟩,
       ⟨(some 30), .call 141 [(.tmp 26), (.tmp 27), (.tmp 28), (.tmp 29)], none⟩] [])
     (.ret))
     (.skip)))
    (.seq (.seq (.reg [⟨(some 31), .mv (.tmp 3), none⟩,
      ⟨(some 32), .bin .eql 3 (.tmp 31) (.con (.sc (.int .i64 0))), none⟩] [0, 1, 2, 3, 4, 10, 11, 12, 32])
    (.cond (.tmp 32)
     (.seq (.reg [⟨(some 33), .mv (.tmp 0), none⟩,
       ⟨(some 34), .mv (.tmp 1), none⟩,
       ⟨(some 35), .mv (.tmp 2), none⟩,
       ⟨(some 36), .mv (.tmp 4), none⟩,
       ⟨(some 37), .call 142 [(.tmp 33), (.tmp 34), (.tmp 35), (.tmp 36)], none⟩] [])
     (.ret))
     (.skip)))
    (.seq (.seq (.reg [⟨(some 38), .mv (.tmp 10), none⟩,
      ⟨(some 39), .un .not (.tmp 38), none⟩] [0, 1, 2, 3, 4, 10, 11, 12, 39])
    (.cond (.tmp 39)
     (.seq (.reg [⟨(some 40), .mv (.tmp 0), none⟩,
       ⟨(some 41), .mv (.tmp 1), none⟩,
       ⟨(some 42), .mv (.tmp 2), none⟩,
       ⟨(some 43), .mv (.tmp 4), none⟩,
       ⟨(some 44), .call 143 [(.tmp 40), (.tmp 41), (.tmp 42), (.tmp 43)], none⟩] [0, 1, 2, 3, 4, 10, 11, 12])
     (.reg [⟨(some 45), .mv (.tmp 3), none⟩,
       ⟨(some 46), .bin .sub 3 (.tmp 45) (.con (.sc (.int .i64 1))), none⟩,
       ⟨(some 3), .mv (.tmp 46), none⟩] [0, 1, 2, 3, 4, 10, 11, 12]))
     (.skip)))
    (.seq (.reg [⟨(some 48), .mv (.tmp 0), none⟩,
      ⟨(some 49), .mv (.tmp 1), none⟩,
      ⟨(some 50), .mv (.tmp 2), none⟩,
      ⟨(some 51), .mv (.tmp 4), none⟩,
      ⟨(some 52), .call 144 [(.tmp 48), (.tmp 49), (.tmp 50), (.tmp 51)], none⟩,
      ⟨(some 47), .mv (.tmp 52), none⟩,
      ⟨(some 53), .extr (.tmp 47) 0, none⟩,
      ⟨(some 54), .extr (.tmp 47) 1, none⟩,
      ⟨(some 13), .mv (.tmp 53), none⟩,
      ⟨(some 14), .mv (.tmp 54), none⟩] [0, 1, 2, 3, 4, 10, 11, 12, 13, 14])
    (.seq (.seq (.reg [⟨(some 55), .mv (.tmp 14), none⟩,
      ⟨(some 56), .bin .eql 242 (.tmp 55) (.con (.sc (.int .i64 2))), none⟩] [0, 1, 2, 3, 4, 10, 11, 12, 13, 14, 56])
    (.cond (.tmp 56)
     (.seq (.reg [⟨(some 57), .mv (.tmp 0), none⟩,
       ⟨(some 58), .mv (.tmp 1), none⟩,
       ⟨(some 59), .mv (.tmp 2), none⟩,
       ⟨(some 60), .mv (.tmp 4), none⟩,
       ⟨(some 61), .call 145 [(.tmp 57), (.tmp 58), (.tmp 59), (.tmp 60)], none⟩] [0, 1, 2, 3, 4, 10, 11, 12, 13])
     (.seq (.reg [⟨(some 62), .mv (.tmp 2), none⟩,
       ⟨(some 63), .bin .sub 3 (.tmp 62) (.con (.sc (.int .i64 1))), none⟩,
       ⟨(some 64), .mv (.tmp 13), none⟩,
       ⟨(some 65), .mv (.tmp 1), none⟩,
       ⟨(some 66), .bin .sub 3 (.tmp 64) (.tmp 65), none⟩,
       ⟨(some 67), .bin .sub 3 (.tmp 63) (.tmp 66), none⟩,
       ⟨(some 13), .mv (.tmp 67), none⟩] [0, 1, 2, 3, 4, 10, 11, 12, 13])
     (.reg [⟨(some 14), .mv (.con (.sc (.int .i64 1))), none⟩] [0, 1, 2, 3, 4, 10, 11, 12, 13, 14])))
     (.skip)))
    (.seq (.seq (.reg [⟨(some 68), .mv (.tmp 10), none⟩,
      ⟨(some 69), .mv (.tmp 68), none⟩,
      ⟨(some 70), .mv (.tmp 11), (some (69, true))⟩,
      ⟨(some 71), .pick (.tmp 69) (.tmp 70) (.con (.sc (.bool false))), none⟩,
      ⟨(some 72), .mv (.tmp 71), none⟩,
      ⟨(some 73), .mv (.tmp 14), (some (72, true))⟩,
      ⟨(some 74), .bin .eql 242 (.tmp 73) (.con (.sc (.int .i64 1))), (some (72, true))⟩,
      ⟨(some 75), .pick (.tmp 72) (.tmp 74) (.con (.sc (.bool false))), none⟩] [0, 1, 2, 3, 4, 10, 11, 12, 13, 75])
    (.cond (.tmp 75)
     (.seq (.reg [⟨(some 76), .mv (.tmp 0), none⟩,
       ⟨(some 77), .mv (.tmp 1), none⟩,
       ⟨(some 78), .mv (.tmp 2), none⟩,
       ⟨(some 79), .mv (.tmp 4), none⟩,
       ⟨(some 80), .call 146 [(.tmp 76), (.tmp 77), (.tmp 78), (.tmp 79)], none⟩] [0, 1, 2, 3, 4, 10, 11, 12, 13, 80])
     (.cond (.tmp 80)
      (.ret)
      (.skip)))
     (.skip)))
    (.seq (.seq (.drw [⟨(some 81), .mv (.tmp 1), none⟩,
      ⟨(some 82), .bin .gtr 3 (.tmp 81) (.con (.sc (.int .i64 0))), none⟩,
      ⟨(some 83), .mv (.tmp 82), none⟩,
      ⟨(some 84), .mv (.tmp 4), (some (83, true))⟩,
      ⟨(some 85), .mv (.tmp 0), (some (83, true))⟩,
      ⟨(some 86), .mv (.tmp 1), (some (83, true))⟩,
      ⟨(some 87), .bin .sub 3 (.tmp 86) (.con (.sc (.int .i64 1))), (some (83, true))⟩,
      ⟨(some 88), .iaddr 2 (.tmp 85) (.tmp 87), (some (83, true))⟩,
      ⟨(some 89), .load (some 2) (.tmp 88), (some (83, true))⟩,
      ⟨(some 90), .mv (.tmp 0), (some (83, true))⟩,
      ⟨(some 91), .mv (.tmp 13), (some (83, true))⟩,
      ⟨(some 92), .iaddr 2 (.tmp 90) (.tmp 91), (some (83, true))⟩,
      ⟨(some 93), .load (some 2) (.tmp 92), (some (83, true))⟩,
      ⟨(some 94), .callv (.tmp 84) [(.tmp 89), (.tmp 93)], (some (83, true))⟩,
      ⟨(some 95), .bin .lss 3 (.tmp 94) (.con (.sc (.int .i64 0))), (some (83, true))⟩,
      ⟨(some 96), .un .not (.tmp 95), (some (83, true))⟩,
      ⟨(some 97), .pick (.tmp 83) (.tmp 96) (.con (.sc (.bool false))), none⟩] [0, 1, 3, 7, 7, 7, 39, 119, 247, 7, 7, 1543, 3591, 8191, 16383, 32767, 65535] [0, 1, 2, 3, 4, 10, 11, 12, 13, 97])
    (.cond (.tmp 97)
     (.seq (.reg [⟨(some 98), .mv (.tmp 0), none⟩,
       ⟨(some 99), .mv (.tmp 1), none⟩,
       ⟨(some 100), .mv (.tmp 2), none⟩,
       ⟨(some 101), .mv (.tmp 13), none⟩,
       ⟨(some 102), .mv (.tmp 4), none⟩,
       ⟨(some 103), .call 147 [(.tmp 98), (.tmp 99), (.tmp 100), (.tmp 101), (.tmp 102)], none⟩,
       ⟨(some 15), .mv (.tmp 103), none⟩] [0, 2, 3, 4, 10, 11, 15])
     (.seq (.reg [⟨(some 104), .mv (.tmp 15), none⟩,
       ⟨(some 1), .mv (.tmp 104), none⟩] [0, 1, 2, 3, 4, 10, 11])
     (.exit 1)))
     (.skip)))
    (.seq (.reg [⟨(some 106), .mv (.tmp 0), none⟩,
      ⟨(some 107), .mv (.tmp 1), none⟩,
      ⟨(some 108), .mv (.tmp 2), none⟩,
      ⟨(some 109), .mv (.tmp 13), none⟩,
      ⟨(some 110), .mv (.tmp 4), none⟩,
      ⟨(some 111), .call 148 [(.tmp 106), (.tmp 107), (.tmp 108), (.tmp 109), (.tmp 110)], none⟩,
      ⟨(some 105), .mv (.tmp 111), none⟩,
      ⟨(some 112), .extr (.tmp 105) 0, none⟩,
      ⟨(some 113), .extr (.tmp 105) 1, none⟩,
      ⟨(some 16), .mv (.tmp 112), none⟩,
      ⟨(some 17), .mv (.tmp 113), none⟩] [0, 1, 2, 3, 4, 12, 16, 17])
    (.seq (.reg [⟨(some 114), .mv (.tmp 17), none⟩,
      ⟨(some 11), .mv (.tmp 114), none⟩] [0, 1, 2, 3, 4, 11, 12, 16])
    (.seq (.reg [⟨(some 115), .mv (.tmp 16), none⟩,
      ⟨(some 116), .mv (.tmp 1), none⟩,
      ⟨(some 117), .bin .sub 3 (.tmp 115) (.tmp 116), none⟩,
      ⟨(some 118), .mv (.tmp 2), none⟩,
      ⟨(some 119), .mv (.tmp 16), none⟩,
      ⟨(some 120), .bin .sub 3 (.tmp 118) (.tmp 119), none⟩,
      ⟨(some 18), .mv (.tmp 117), none⟩,
      ⟨(some 19), .mv (.tmp 120), none⟩] [0, 1, 2, 3, 4, 11, 12, 16, 18, 19])
    (.seq (.reg [⟨(some 121), .mv (.tmp 12), none⟩,
      ⟨(some 122), .bin .quo 3 (.tmp 121) (.con (.sc (.int .i64 8))), none⟩,
      ⟨(some 20), .mv (.tmp 122), none⟩] [0, 1, 2, 3, 4, 11, 16, 18, 19, 20])
    (.seq (.reg [⟨(some 123), .mv (.tmp 18), none⟩,
      ⟨(some 124), .mv (.tmp 19), none⟩,
      ⟨(some 125), .bin .lss 3 (.tmp 123) (.tmp 124), none⟩] [0, 1, 2, 3, 4, 11, 16, 18, 19, 20, 125])
    (.cond (.tmp 125)
     (.seq (.reg [⟨(some 126), .mv (.tmp 18), none⟩,
       ⟨(some 127), .mv (.tmp 20), none⟩,
       ⟨(some 128), .bin .geq 3 (.tmp 126) (.tmp 127), none⟩,
       ⟨(some 10), .mv (.tmp 128), none⟩] [0, 1, 2, 3, 4, 10, 11, 16])
     (.seq (.reg [⟨(some 129), .mv (.tmp 0), none⟩,
       ⟨(some 130), .mv (.tmp 1), none⟩,
       ⟨(some 131), .mv (.tmp 16), none⟩,
       ⟨(some 132), .mv (.tmp 3), none⟩,
       ⟨(some 133), .mv (.tmp 4), none⟩,
       ⟨(some 134), .call 95 [(.tmp 129), (.tmp 130), (.tmp 131), (.tmp 132), (.tmp 133)], none⟩] [0, 2, 3, 4, 10, 11, 16])
     (.reg [⟨(some 135), .mv (.tmp 16), none⟩,
       ⟨(some 136), .bin .add 3 (.tmp 135) (.con (.sc (.int .i64 1))), none⟩,
       ⟨(some 1), .mv (.tmp 136), none⟩] [0, 1, 2, 3, 4, 10, 11])))
     (.seq (.reg [⟨(some 137), .mv (.tmp 19), none⟩,
       ⟨(some 138), .mv (.tmp 20), none⟩,
       ⟨(some 139), .bin .geq 3 (.tmp 137) (.tmp 138), none⟩,
       ⟨(some 10), .mv (.tmp 139), none⟩] [0, 1, 2, 3, 4, 10, 11, 16])
     (.seq (.reg [⟨(some 140), .mv (.tmp 0), none⟩,
       ⟨(some 141), .mv (.tmp 16), none⟩,
       ⟨(some 142), .bin .add 3 (.tmp 141) (.con (.sc (.int .i64 1))), none⟩,
       ⟨(some 143), .mv (.tmp 2), none⟩,
       ⟨(some 144), .mv (.tmp 3), none⟩,
       ⟨(some 145), .mv (.tmp 4), none⟩,
       ⟨(some 146), .call 95 [(.tmp 140), (.tmp 142), (.tmp 143), (.tmp 144), (.tmp 145)], none⟩] [0, 1, 3, 4, 10, 11, 16])
     (.reg [⟨(some 147), .mv (.tmp 16), none⟩,
       ⟨(some 2), .mv (.tmp 147), none⟩] [0, 1, 2, 3, 4, 10, 11]))))))))))))))))))))),
 148, [], .made⟩
def h95 : List Hint := [.keep [0, 1, 2, 3, 4, 10], .keep [0, 1, 2, 3, 4, 10, 11], .keep [0, 1, 2, 3, 4, 10, 11, 12], .keep [0, 1, 2, 3, 4, 10, 11, 12, 25], .keep [], .keep [0, 1, 2, 3, 4, 10, 11, 12, 32], .keep [], .keep [0, 1, 2, 3, 4, 10, 11, 12, 39], .keep [0, 1, 2, 3, 4, 10, 11, 12], .keep [0, 1, 2, 3, 4, 10, 11, 12], .keep [0, 1, 2, 3, 4, 10, 11, 12, 13, 14], .keep [0, 1, 2, 3, 4, 10, 11, 12, 13, 14, 56], .keep [0, 1, 2, 3, 4, 10, 11, 12, 13], .keep [0, 1, 2, 3, 4, 10, 11, 12, 13], .keep [0, 1, 2, 3, 4, 10, 11, 12, 13, 14], .keep [0, 1, 2, 3, 4, 10, 11, 12, 13, 75], .keep [0, 1, 2, 3, 4, 10, 11, 12, 13, 80], .keep [0, 1, 2, 3, 4, 10, 11, 12, 13, 97], .keep [0, 2, 3, 4, 10, 11, 15], .keep [0, 1, 2, 3, 4, 10, 11], .keep [0, 1, 2, 3, 4, 12, 16, 17], .keep [0, 1, 2, 3, 4, 11, 12, 16], .keep [0, 1, 2, 3, 4, 11, 12, 16, 18, 19], .keep [0, 1, 2, 3, 4, 11, 16, 18, 19, 20], .keep [0, 1, 2, 3, 4, 11, 16, 18, 19, 20, 125], .keep [0, 1, 2, 3, 4, 10, 11, 16], .keep [0, 2, 3, 4, 10, 11, 16], .keep [0, 1, 2, 3, 4, 10, 11], .keep [0, 1, 2, 3, 4, 10, 11, 16], .keep [0, 1, 3, 4, 10, 11, 16], .keep [0, 1, 2, 3, 4, 10, 11]]
theorem g95 : digFn Tryz.prog Tryz.f95 h95 .made = some d95 := by kernel_rfl

/-- deadbolt/lex.Name -/
def d98 : DFn := ⟨.seq (.reg [⟨(some 2), .mv (.con (.sc (.bool false))), none⟩] [0])
 (.seq (.seq (.reg [⟨(some 5), .mv (.tmp 0), none⟩,
   ⟨(some 6), .bin .eql 9 (.tmp 5) (.con (.sc (.string ⟨#[]⟩))), none⟩,
   ⟨(some 7), .mv (.tmp 6), none⟩,
   ⟨(some 8), .mv (.tmp 0), (some (7, false))⟩,
   ⟨(some 9), .len true (.tmp 8), (some (7, false))⟩,
   ⟨(some 10), .bin .gtr 3 (.tmp 9) (.con (.sc (.int .i64 12))), (some (7, false))⟩,
   ⟨(some 11), .pick (.tmp 7) (.con (.sc (.bool true))) (.tmp 10), none⟩,
   ⟨(some 12), .mv (.tmp 11), none⟩,
   ⟨(some 13), .mv (.tmp 0), (some (12, false))⟩,
   ⟨(some 14), .idxS (.tmp 13) (.con (.sc (.int .i64 0))), (some (12, false))⟩,
   ⟨(some 15), .cvt .i32 (.tmp 14), (some (12, false))⟩,
   ⟨(some 16), .call 152 [(.tmp 15)], (some (12, false))⟩,
   ⟨(some 17), .un .not (.tmp 16), (some (12, false))⟩,
   ⟨(some 18), .pick (.tmp 12) (.con (.sc (.bool true))) (.tmp 17), none⟩,
   ⟨(some 19), .mv (.tmp 18), none⟩,
   ⟨(some 20), .mv (.tmp 0), (some (19, false))⟩,
   ⟨(some 21), .call 153 [(.tmp 20)], (some (19, false))⟩,
   ⟨(some 22), .mv (.tmp 0), (some (19, false))⟩,
   ⟨(some 23), .len true (.tmp 22), (some (19, false))⟩,
   ⟨(some 24), .bin .lss 3 (.tmp 21) (.tmp 23), (some (19, false))⟩,
   ⟨(some 25), .pick (.tmp 19) (.con (.sc (.bool true))) (.tmp 24), none⟩] [0, 25])
 (.cond (.tmp 25)
  (.seq (.reg [⟨(some 2), .mv (.con (.sc (.bool false))), none⟩] [2])
  (.ret))
  (.skip)))
 (.seq (.seq (.reg [⟨(some 26), .call 154 [(.con (.sc (.string ⟨#[118, 97, 114, 32, 108, 111, 99, 107, 32, 102, 117, 110, 99, 32, 117, 115, 101, 32, 115, 101, 116, 32, 117, 110, 108, 111, 99, 107, 32, 99, 97, 108, 108, 32, 115, 112, 97, 119, 110, 32, 105, 102, 32, 101, 108, 115, 101, 32, 108, 111, 111, 112]⟩)))], none⟩,
   ⟨(some 27), .len false (.tmp 26), none⟩,
   ⟨(some 28), .mv (.con (.sc (.int .i64 0))), none⟩] [0, 26, 27, 28])
 (.block 0 (.loop (.seq (.reg [⟨(some 29), .bin .lss 3 (.tmp 28) (.tmp 27), none⟩] [0, 26, 27, 28, 29])
   (.seq (.cond (.tmp 29)
    (.skip)
    (.exit 0))
   (.seq (.block 1 (.seq (.reg [⟨(some 30), .iaddr 1 (.tmp 26) (.tmp 28), none⟩,
      ⟨(some 31), .load none (.tmp 30), none⟩,
      ⟨(some 4), .mv (.tmp 31), none⟩] [0, 4, 26, 27, 28])
    (.seq (.reg [⟨(some 32), .mv (.tmp 4), none⟩,
      ⟨(some 33), .mv (.tmp 0), none⟩,
      ⟨(some 34), .bin .eql 9 (.tmp 32) (.tmp 33), none⟩] [0, 26, 27, 28, 34])
    (.cond (.tmp 34)
     (.seq (.reg [⟨(some 2), .mv (.con (.sc (.bool false))), none⟩] [2])
     (.ret))
     (.skip)))))
   (.reg [⟨(some 35), .bin .add 3 (.tmp 28) (.con (.sc (.int .i64 1))), none⟩,
     ⟨(some 28), .mv (.tmp 35), none⟩] [0, 26, 27, 28])))))))
 (.seq (.reg [⟨(some 2), .mv (.con (.sc (.bool true))), none⟩] [2])
 (.ret)))),
 36, [.tmp 2], .pure⟩
def h98 : List Hint := [.keep [0], .keep [0, 25], .keep [2], .keep [0, 26, 27, 28], .keep [0, 26, 27, 28, 29], .keep [0, 4, 26, 27, 28], .keep [0, 26, 27, 28, 34], .keep [2], .keep [0, 26, 27, 28], .keep [2]]
theorem g98 : digFn Tryz.prog Tryz.f98 h98 .pure = some d98 := by kernel_rfl

/-- deadbolt/lex.Tokens -/
def d99 : DFn := ⟨.seq (.reg [⟨(some 2), .mv (.con (.lst 0 [] .nil)), none⟩,
   ⟨(some 3), .mv (.con (.sc (.int .i64 0))), none⟩,
   ⟨(some 4), .mv (.con (.sc (.int .i64 0))), none⟩] [0, 2])
 (.seq (.seq (.reg [⟨(some 8), .mv (.tmp 0), none⟩,
   ⟨(some 9), .len true (.tmp 8), none⟩,
   ⟨(some 10), .bin .gtr 3 (.tmp 9) (.con (.sc (.int .i64 2000))), none⟩] [0, 2, 10])
 (.cond (.tmp 10)
  (.seq (.reg [⟨(some 2), .mv (.con (.lst 0 [] .nil)), none⟩,
    ⟨(some 3), .mv (.con (.sc (.int .i64 0))), none⟩,
    ⟨(some 4), .mv (.con (.sc (.int .i64 2))), none⟩] [2, 3, 4])
  (.ret))
  (.skip)))
 (.seq (.reg [⟨(some 5), .mv (.con (.sc (.int .i64 0))), none⟩] [0, 2, 5])
 (.seq (.seq (.reg [⟨(some 11), .mv (.tmp 0), none⟩,
   ⟨(some 12), .rngS (.tmp 11), none⟩] [0, 2, 5, 12])
 (.block 0 (.virt 2 63 154 3 (.loop (.seq (.reg [⟨(some 13), .nxtS (.tmp 12), none⟩,
     ⟨(some 14), .extr (.tmp 13) 0, none⟩] [0, 2, 5, 12, 13, 14])
   (.seq (.cond (.tmp 14)
    (.skip)
    (.exit 0))
   (.block 1 (.seq (.reg [⟨(some 15), .extr (.tmp 13) 1, none⟩,
      ⟨(some 16), .extr (.tmp 13) 2, none⟩,
      ⟨(some 6), .mv (.tmp 15), none⟩,
      ⟨(some 7), .mv (.tmp 16), none⟩] [0, 2, 5, 6, 7, 12])
    (.block 2 (.seq (.reg [⟨(some 19), .mv (.tmp 6), none⟩,
       ⟨(some 20), .mv (.tmp 5), none⟩,
       ⟨(some 21), .bin .lss 3 (.tmp 19) (.tmp 20), none⟩,
       ⟨(some 22), .mv (.tmp 21), none⟩,
       ⟨(some 23), .mv (.tmp 7), (some (22, false))⟩,
       ⟨(some 24), .call 155 [(.tmp 23)], (some (22, false))⟩,
       ⟨(some 25), .pick (.tmp 22) (.con (.sc (.bool true))) (.tmp 24), none⟩,
       ⟨(some 18), .mv (.tmp 25), none⟩] [0, 2, 5, 6, 7, 12, 18])
     (.cond (.tmp 18)
      (.exit 1)
      (.seq (.reg [⟨(some 27), .mv (.tmp 7), none⟩,
        ⟨(some 28), .bin .eql 21 (.tmp 27) (.con (.sc (.int .i32 123))), none⟩,
        ⟨(some 26), .mv (.tmp 28), none⟩] [0, 2, 5, 6, 7, 12, 26])
      (.cond (.tmp 26)
       (.reg [⟨(some 29), .mv (.tmp 2), none⟩,
         ⟨(some 30), .mv (.tmp 6), none⟩,
         ⟨(some 31), .build [(.sc (.int .i64 0)), (.sc (.int .i64 0)), (.sc (.string ⟨#[]⟩))] [(0, 1, (.con (.sc (.int .i64 2)))), (1, 1, (.tmp 30))], none⟩,
         ⟨(some 32), .bslice 154 3 1 (.agg [(.sc (.int .i64 0)), (.sc (.int .i64 0)), (.sc (.string ⟨#[]⟩))]) [(0, (.tmp 31))], none⟩,
         ⟨(some 33), .app 154 3 (.tmp 29) (.tmp 32), none⟩,
         ⟨(some 2), .mv (.tmp 33), none⟩] [0, 2, 5, 12])
       (.seq (.reg [⟨(some 35), .mv (.tmp 7), none⟩,
         ⟨(some 36), .bin .eql 21 (.tmp 35) (.con (.sc (.int .i32 125))), none⟩,
         ⟨(some 34), .mv (.tmp 36), none⟩] [0, 2, 5, 6, 7, 12, 34])
       (.cond (.tmp 34)
        (.reg [⟨(some 37), .mv (.tmp 2), none⟩,
          ⟨(some 38), .mv (.tmp 6), none⟩,
          ⟨(some 39), .build [(.sc (.int .i64 0)), (.sc (.int .i64 0)), (.sc (.string ⟨#[]⟩))] [(0, 1, (.con (.sc (.int .i64 3)))), (1, 1, (.tmp 38))], none⟩,
          ⟨(some 40), .bslice 154 3 1 (.agg [(.sc (.int .i64 0)), (.sc (.int .i64 0)), (.sc (.string ⟨#[]⟩))]) [(0, (.tmp 39))], none⟩,
          ⟨(some 41), .app 154 3 (.tmp 37) (.tmp 40), none⟩,
          ⟨(some 2), .mv (.tmp 41), none⟩] [0, 2, 5, 12])
        (.seq (.reg [⟨(some 43), .mv (.tmp 7), none⟩,
          ⟨(some 44), .call 152 [(.tmp 43)], none⟩,
          ⟨(some 42), .mv (.tmp 44), none⟩] [0, 2, 6, 12, 42])
        (.cond (.tmp 42)
         (.seq (.reg [⟨(some 45), .mv (.tmp 6), none⟩,
           ⟨(some 46), .mv (.tmp 0), none⟩,
           ⟨(some 47), .mv (.tmp 6), none⟩,
           ⟨(some 48), .slcS (.tmp 46) (some (.tmp 47)) none, none⟩,
           ⟨(some 49), .call 153 [(.tmp 48)], none⟩,
           ⟨(some 50), .bin .add 3 (.tmp 45) (.tmp 49), none⟩,
           ⟨(some 5), .mv (.tmp 50), none⟩] [0, 2, 5, 6, 12])
         (.reg [⟨(some 51), .mv (.tmp 2), none⟩,
           ⟨(some 52), .mv (.tmp 6), none⟩,
           ⟨(some 53), .mv (.tmp 0), none⟩,
           ⟨(some 54), .mv (.tmp 6), none⟩,
           ⟨(some 55), .mv (.tmp 5), none⟩,
           ⟨(some 56), .slcS (.tmp 53) (some (.tmp 54)) (some (.tmp 55)), none⟩,
           ⟨(some 57), .build [(.sc (.int .i64 0)), (.sc (.int .i64 0)), (.sc (.string ⟨#[]⟩))] [(0, 1, (.con (.sc (.int .i64 1)))), (1, 1, (.tmp 52)), (2, 1, (.tmp 56))], none⟩,
           ⟨(some 58), .bslice 154 3 1 (.agg [(.sc (.int .i64 0)), (.sc (.int .i64 0)), (.sc (.string ⟨#[]⟩))]) [(0, (.tmp 57))], none⟩,
           ⟨(some 59), .app 154 3 (.tmp 51) (.tmp 58), none⟩,
           ⟨(some 2), .mv (.tmp 59), none⟩] [0, 2, 5, 12]))
         (.seq (.reg [⟨(some 17), .mv (.tmp 6), none⟩,
           ⟨(some 2), .mv (.con (.lst 0 [] .nil)), none⟩,
           ⟨(some 3), .mv (.tmp 17), none⟩,
           ⟨(some 4), .mv (.con (.sc (.int .i64 6))), none⟩] [2, 3, 4])
         (.ret)))))))))))))))))))
 (.seq (.reg [⟨(some 60), .mv (.tmp 2), none⟩,
   ⟨(some 2), .mv (.tmp 60), none⟩,
   ⟨(some 3), .mv (.con (.sc (.int .i64 0))), none⟩,
   ⟨(some 4), .mv (.con (.sc (.int .i64 0))), none⟩] [2, 3, 4])
 (.ret))))),
 61, [.tmp 2, .tmp 3, .tmp 4], .pure⟩
def h99 : List Hint := [.keep [0, 2], .keep [0, 2, 10], .keep [2, 3, 4], .keep [0, 2, 5], .keep [0, 2, 5, 12], .virt 2 63 154 3, .keep [0, 2, 5, 12, 13, 14], .keep [0, 2, 5, 6, 7, 12], .keep [0, 2, 5, 6, 7, 12, 18], .keep [0, 2, 5, 6, 7, 12, 26], .keep [0, 2, 5, 12], .keep [0, 2, 5, 6, 7, 12, 34], .keep [0, 2, 5, 12], .keep [0, 2, 6, 12, 42], .keep [0, 2, 5, 6, 12], .keep [0, 2, 5, 12], .keep [2, 3, 4], .keep [2, 3, 4]]
theorem g99 : digFn Tryz.prog Tryz.f99 h99 .pure = some d99 := by kernel_rfl

/-- deadbolt/parse.Parse$1 -/
def d100 : DClo := ⟨6, [⟨(some 7), .tas 176 (.agg [(.sc (.int .i64 0)), (.sc (.int .i64 0))]) true (.tmp 6), none⟩,
  ⟨(some 5), .mv (.tmp 7), none⟩,
  ⟨(some 8), .extr (.tmp 5) 0, none⟩,
  ⟨(some 9), .extr (.tmp 5) 1, none⟩,
  ⟨(some 3), .alloc 176 [(.sc (.int .i64 0)), (.sc (.int .i64 0))], none⟩,
  ⟨none, .store 2 (.tmp 3) (.tmp 8), none⟩,
  ⟨(some 4), .mv (.tmp 9), none⟩], [0, 1, 2, 3, 4],
 .seq (.reg [⟨(some 10), .mv (.tmp 4), none⟩] [0, 1, 2, 3, 10])
 (.cond (.tmp 10)
  (.drw [⟨(some 11), .build [(.lst 0 [] .nil), (.lst 0 [] .nil), (.lst 0 [] .nil)] [], none⟩,
    ⟨(some 12), .faddr 0 (.tmp 3), none⟩,
    ⟨(some 13), .load none (.tmp 12), none⟩,
    ⟨(some 14), .faddr 1 (.tmp 3), none⟩,
    ⟨(some 15), .load none (.tmp 14), none⟩,
    ⟨none, .store 3 (.tmp 0) (.tmp 11), none⟩,
    ⟨none, .store 1 (.tmp 1) (.tmp 13), none⟩,
    ⟨none, .store 1 (.tmp 2) (.tmp 15), none⟩] [0, 0, 2, 0, 8, 1, 39, 127] [])
  (.skip)), 16⟩
def h100 : List Hint := [.keep [0, 1, 2, 3, 4], .keep [0, 1, 2, 3, 10], .keep []]
theorem g100 : digClo Tryz.prog Tryz.f100 h100 = some d100 := by kernel_rfl

/-- (*deadbolt/parse.parser).decl -/
def d101 : DFn := ⟨.seq (.reg [⟨(some 6), .mv (.tmp 0), none⟩,
   ⟨(some 7), .call 156 [(.tmp 6)], none⟩,
   ⟨(some 4), .alloc 154 [(.sc (.int .i64 0)), (.sc (.int .i64 0)), (.sc (.string ⟨#[]⟩))], none⟩,
   ⟨none, .store 3 (.tmp 4) (.tmp 7), none⟩] [0, 1, 4])
 (.seq (.reg [⟨(some 8), .faddr 2 (.tmp 4), none⟩,
   ⟨(some 9), .load none (.tmp 8), none⟩] [0, 1, 4, 9])
 (.block 0 (.seq (.reg [⟨(some 13), .bin .eql 9 (.tmp 9) (.con (.sc (.string ⟨#[118, 97, 114]⟩))), none⟩,
    ⟨(some 12), .mv (.tmp 13), none⟩] [0, 1, 4, 9, 12])
  (.cond (.tmp 12)
   (.seq (.reg [⟨(some 14), .mv (.tmp 0), none⟩,
     ⟨(some 15), .call 157 [(.tmp 14)], none⟩] [0, 1, 4])
   (.drw [⟨(some 16), .mv (.tmp 1), none⟩,
     ⟨(some 17), .mv (.tmp 1), none⟩,
     ⟨(some 18), .nilc (.tmp 17), none⟩,
     ⟨(some 19), .faddr 0 (.tmp 18), none⟩,
     ⟨(some 20), .load none (.tmp 19), none⟩,
     ⟨(some 21), .mv (.tmp 0), none⟩,
     ⟨(some 22), .call 158 [(.tmp 21)], none⟩,
     ⟨(some 23), .faddr 1 (.tmp 4), none⟩,
     ⟨(some 24), .load none (.tmp 23), none⟩,
     ⟨(some 25), .build [(.sc (.string ⟨#[]⟩)), (.sc (.int .i64 0))] [(0, 1, (.tmp 22)), (1, 1, (.tmp 24))], none⟩,
     ⟨(some 26), .bslice 59 2 1 (.agg [(.sc (.string ⟨#[]⟩)), (.sc (.int .i64 0))]) [(0, (.tmp 25))], none⟩,
     ⟨(some 27), .app 59 2 (.tmp 20) (.tmp 26), none⟩,
     ⟨(some 28), .nilc (.tmp 16), none⟩,
     ⟨(some 29), .faddr 0 (.tmp 28), none⟩,
     ⟨none, .store 1 (.tmp 29) (.tmp 27), none⟩] [0, 0, 2, 6, 14, 0, 32, 0, 128, 480, 992, 2046, 4095, 8191, 16383] []))
   (.seq (.reg [⟨(some 31), .bin .eql 9 (.tmp 9) (.con (.sc (.string ⟨#[108, 111, 99, 107]⟩))), none⟩,
     ⟨(some 30), .mv (.tmp 31), none⟩] [0, 1, 4, 9, 30])
   (.cond (.tmp 30)
    (.seq (.reg [⟨(some 32), .mv (.tmp 0), none⟩,
      ⟨(some 33), .call 157 [(.tmp 32)], none⟩] [0, 1, 4])
    (.drw [⟨(some 34), .mv (.tmp 1), none⟩,
      ⟨(some 35), .mv (.tmp 1), none⟩,
      ⟨(some 36), .nilc (.tmp 35), none⟩,
      ⟨(some 37), .faddr 1 (.tmp 36), none⟩,
      ⟨(some 38), .load none (.tmp 37), none⟩,
      ⟨(some 39), .mv (.tmp 0), none⟩,
      ⟨(some 40), .call 158 [(.tmp 39)], none⟩,
      ⟨(some 41), .faddr 1 (.tmp 4), none⟩,
      ⟨(some 42), .load none (.tmp 41), none⟩,
      ⟨(some 43), .build [(.sc (.string ⟨#[]⟩)), (.sc (.int .i64 0))] [(0, 1, (.tmp 40)), (1, 1, (.tmp 42))], none⟩,
      ⟨(some 44), .bslice 59 2 1 (.agg [(.sc (.string ⟨#[]⟩)), (.sc (.int .i64 0))]) [(0, (.tmp 43))], none⟩,
      ⟨(some 45), .app 59 2 (.tmp 38) (.tmp 44), none⟩,
      ⟨(some 46), .nilc (.tmp 34), none⟩,
      ⟨(some 47), .faddr 1 (.tmp 46), none⟩,
      ⟨none, .store 1 (.tmp 47) (.tmp 45), none⟩] [0, 0, 2, 6, 14, 0, 32, 0, 128, 480, 992, 2046, 4095, 8191, 16383] []))
    (.seq (.reg [⟨(some 49), .bin .eql 9 (.tmp 9) (.con (.sc (.string ⟨#[102, 117, 110, 99]⟩))), none⟩,
      ⟨(some 48), .mv (.tmp 49), none⟩] [0, 1, 4, 48])
    (.cond (.tmp 48)
     (.seq (.reg [⟨(some 50), .mv (.tmp 0), none⟩,
       ⟨(some 51), .call 157 [(.tmp 50)], none⟩] [0, 1, 4])
     (.seq (.reg [⟨(some 52), .mv (.tmp 0), none⟩,
       ⟨(some 53), .call 158 [(.tmp 52)], none⟩,
       ⟨(some 5), .mv (.tmp 53), none⟩] [0, 1, 4, 5])
     (.drw [⟨(some 54), .mv (.tmp 1), none⟩,
       ⟨(some 55), .mv (.tmp 1), none⟩,
       ⟨(some 56), .nilc (.tmp 55), none⟩,
       ⟨(some 57), .faddr 2 (.tmp 56), none⟩,
       ⟨(some 58), .load none (.tmp 57), none⟩,
       ⟨(some 59), .mv (.tmp 5), none⟩,
       ⟨(some 60), .faddr 1 (.tmp 4), none⟩,
       ⟨(some 61), .load none (.tmp 60), none⟩,
       ⟨(some 62), .mv (.tmp 0), none⟩,
       ⟨(some 63), .call 159 [(.tmp 62), (.con (.sc (.int .i64 0)))], none⟩,
       ⟨(some 64), .build [(.sc (.string ⟨#[]⟩)), (.sc (.int .i64 0)), (.lst 0 [] .nil)] [(0, 1, (.tmp 59)), (1, 1, (.tmp 61)), (2, 1, (.tmp 63))], none⟩,
       ⟨(some 65), .bslice 51 3 1 (.agg [(.sc (.string ⟨#[]⟩)), (.sc (.int .i64 0)), (.lst 0 [] .nil)]) [(0, (.tmp 64))], none⟩,
       ⟨(some 66), .app 51 3 (.tmp 58) (.tmp 65), none⟩,
       ⟨(some 67), .nilc (.tmp 54), none⟩,
       ⟨(some 68), .faddr 2 (.tmp 67), none⟩,
       ⟨none, .store 1 (.tmp 68) (.tmp 66), none⟩] [0, 0, 2, 6, 14, 0, 0, 64, 0, 256, 992, 2016, 4094, 8191, 16383, 32767] [])))
     (.reg [⟨(some 10), .mv (.tmp 0), none⟩,
       ⟨(some 11), .call 160 [(.tmp 10), (.con (.sc (.int .i64 7)))], none⟩] []))))))))),
 69, [], .made⟩
def h101 : List Hint := [.keep [0, 1, 4], .keep [0, 1, 4, 9], .keep [0, 1, 4, 9, 12], .keep [0, 1, 4], .keep [], .keep [0, 1, 4, 9, 30], .keep [0, 1, 4], .keep [], .keep [0, 1, 4, 48], .keep [0, 1, 4], .keep [0, 1, 4, 5], .keep [], .keep []]
theorem g101 : digFn Tryz.prog Tryz.f101 h101 .made = some d101 := by kernel_rfl

/-- deadbolt/parse.own -/
def d102 : DFn := ⟨.seq (.reg [⟨(some 1), .box 30 (.tmp 0), none⟩,
   ⟨(some 2), .alloc 30 [(.lst 0 [] .nil), (.lst 0 [] .nil), (.lst 0 [] .nil)], none⟩] [1, 2])
 (.seq (.drw [⟨(some 4), .faddr 0 (.tmp 1), none⟩,
   ⟨(some 5), .load none (.tmp 4), none⟩,
   ⟨(some 6), .call 57 [(.tmp 5)], none⟩,
   ⟨(some 7), .faddr 1 (.tmp 1), none⟩,
   ⟨(some 8), .load none (.tmp 7), none⟩,
   ⟨(some 9), .call 57 [(.tmp 8)], none⟩,
   ⟨(some 10), .faddr 2 (.tmp 1), none⟩,
   ⟨(some 11), .load none (.tmp 10), none⟩,
   ⟨(some 12), .call 58 [(.tmp 11)], none⟩,
   ⟨(some 13), .faddr 0 (.tmp 1), none⟩,
   ⟨none, .store 1 (.tmp 13) (.tmp 6), none⟩,
   ⟨(some 14), .faddr 1 (.tmp 1), none⟩,
   ⟨none, .store 1 (.tmp 14) (.tmp 9), none⟩,
   ⟨(some 15), .faddr 2 (.tmp 1), none⟩,
   ⟨none, .store 1 (.tmp 15) (.tmp 12), none⟩] [0, 1, 3, 0, 8, 31, 0, 64, 255, 223, 1023, 2047, 4095, 8191, 16383] [1, 2])
 (.seq (.seq (.reg [⟨(some 16), .faddr 2 (.tmp 1), none⟩,
   ⟨(some 17), .load none (.tmp 16), none⟩,
   ⟨(some 18), .len false (.tmp 17), none⟩,
   ⟨(some 19), .mv (.con (.sc (.int .i64 0))), none⟩] [1, 2, 18, 19])
 (.block 0 (.loop (.seq (.reg [⟨(some 20), .bin .lss 3 (.tmp 19) (.tmp 18), none⟩] [1, 2, 18, 19, 20])
   (.seq (.cond (.tmp 20)
    (.skip)
    (.exit 0))
   (.seq (.block 1 (.seq (.reg [⟨(some 21), .mv (.tmp 19), none⟩,
      ⟨(some 3), .mv (.tmp 21), none⟩] [1, 2, 3, 18, 19])
    (.drw [⟨(some 22), .faddr 2 (.tmp 1), none⟩,
      ⟨(some 23), .load none (.tmp 22), none⟩,
      ⟨(some 24), .mv (.tmp 3), none⟩,
      ⟨(some 25), .faddr 2 (.tmp 1), none⟩,
      ⟨(some 26), .load none (.tmp 25), none⟩,
      ⟨(some 27), .mv (.tmp 3), none⟩,
      ⟨(some 28), .iaddr 3 (.tmp 26) (.tmp 27), none⟩,
      ⟨(some 29), .faddr 2 (.tmp 28), none⟩,
      ⟨(some 30), .load none (.tmp 29), none⟩,
      ⟨(some 31), .call 161 [(.tmp 30)], none⟩,
      ⟨(some 32), .iaddr 3 (.tmp 23) (.tmp 24), none⟩,
      ⟨(some 33), .faddr 2 (.tmp 32), none⟩,
      ⟨none, .store 1 (.tmp 33) (.tmp 31), none⟩] [0, 1, 0, 0, 8, 0, 56, 120, 248, 504, 1023, 2047, 4095] [1, 2, 18, 19])))
   (.reg [⟨(some 34), .bin .add 3 (.tmp 19) (.con (.sc (.int .i64 1))), none⟩,
     ⟨(some 19), .mv (.tmp 34), none⟩] [1, 2, 18, 19])))))))
 (.seq (.reg [⟨(some 35), .load (some 3) (.tmp 1), none⟩,
   ⟨none, .store 3 (.tmp 2) (.tmp 35), none⟩] [2])
 (.ret)))),
 36, [.cell 2 (some 3)], .pure⟩
def h102 : List Hint := [.keep [1, 2], .keep [1, 2], .keep [1, 2, 18, 19], .keep [1, 2, 18, 19, 20], .keep [1, 2, 3, 18, 19], .keep [1, 2, 18, 19], .keep [1, 2, 18, 19], .keep [2]]
theorem g102 : digFn Tryz.prog Tryz.f102 h102 .pure = some d102 := by kernel_rfl

/-- deadbolt/names.moved -/
def d103 : DFn := ⟨.seq (.reg [⟨(some 4), .mv (.con (.lst 0 [] .nil)), none⟩] [0, 1])
 (.seq (.reg [⟨(some 7), .mv (.tmp 0), none⟩,
   ⟨(some 8), .call 162 [(.tmp 7)], none⟩,
   ⟨(some 5), .mv (.tmp 8), none⟩] [1, 5])
 (.seq (.seq (.reg [⟨(some 9), .mv (.tmp 5), none⟩,
   ⟨(some 10), .len false (.tmp 9), none⟩,
   ⟨(some 11), .mv (.con (.sc (.int .i64 0))), none⟩] [1, 5, 10, 11])
 (.block 0 (.loop (.seq (.reg [⟨(some 12), .bin .lss 3 (.tmp 11) (.tmp 10), none⟩] [1, 5, 10, 11, 12])
   (.seq (.cond (.tmp 12)
    (.skip)
    (.exit 0))
   (.seq (.block 1 (.seq (.reg [⟨(some 13), .mv (.tmp 11), none⟩,
      ⟨(some 6), .mv (.tmp 13), none⟩] [1, 5, 6, 10, 11])
    (.seq (.reg [⟨(some 14), .mv (.tmp 5), none⟩,
      ⟨(some 15), .mv (.tmp 6), none⟩,
      ⟨(some 16), .iaddr 5 (.tmp 14) (.tmp 15), none⟩,
      ⟨(some 17), .faddr 1 (.tmp 16), none⟩,
      ⟨(some 18), .load none (.tmp 17), none⟩,
      ⟨(some 19), .mv (.tmp 1), none⟩,
      ⟨(some 20), .bin .add 3 (.tmp 18) (.tmp 19), none⟩,
      ⟨(some 21), .iaddr 5 (.tmp 14) (.tmp 15), none⟩,
      ⟨(some 22), .faddr 1 (.tmp 21), none⟩,
      ⟨none, .store 1 (.tmp 22) (.tmp 20), none⟩] [1, 5, 6, 10, 11])
    (.drw [⟨(some 23), .mv (.tmp 5), none⟩,
      ⟨(some 24), .mv (.tmp 6), none⟩,
      ⟨(some 25), .mv (.tmp 5), none⟩,
      ⟨(some 26), .mv (.tmp 6), none⟩,
      ⟨(some 27), .mv (.tmp 5), none⟩,
      ⟨(some 28), .mv (.tmp 6), none⟩,
      ⟨(some 29), .iaddr 5 (.tmp 27) (.tmp 28), none⟩,
      ⟨(some 30), .faddr 3 (.tmp 29), none⟩,
      ⟨(some 31), .load none (.tmp 30), none⟩,
      ⟨(some 32), .mv (.tmp 1), none⟩,
      ⟨(some 33), .call 103 [(.tmp 31), (.tmp 32)], none⟩,
      ⟨(some 34), .mv (.tmp 5), none⟩,
      ⟨(some 35), .mv (.tmp 6), none⟩,
      ⟨(some 36), .iaddr 5 (.tmp 34) (.tmp 35), none⟩,
      ⟨(some 37), .faddr 4 (.tmp 36), none⟩,
      ⟨(some 38), .load none (.tmp 37), none⟩,
      ⟨(some 39), .mv (.tmp 1), none⟩,
      ⟨(some 40), .call 103 [(.tmp 38), (.tmp 39)], none⟩,
      ⟨(some 41), .iaddr 5 (.tmp 23) (.tmp 24), none⟩,
      ⟨(some 42), .faddr 3 (.tmp 41), none⟩,
      ⟨none, .store 1 (.tmp 42) (.tmp 33), none⟩,
      ⟨(some 43), .iaddr 5 (.tmp 25) (.tmp 26), none⟩,
      ⟨(some 44), .faddr 4 (.tmp 43), none⟩,
      ⟨none, .store 1 (.tmp 44) (.tmp 40), none⟩] [0, 0, 0, 0, 0, 0, 48, 112, 240, 0, 1008, 0, 0, 6144, 14336, 30720, 0, 131056, 262131, 524275, 1048563, 2097151, 4194303, 8388607] [1, 5, 10, 11]))))
   (.reg [⟨(some 45), .bin .add 3 (.tmp 11) (.con (.sc (.int .i64 1))), none⟩,
     ⟨(some 11), .mv (.tmp 45), none⟩] [1, 5, 10, 11])))))))
 (.seq (.reg [⟨(some 46), .mv (.tmp 5), none⟩,
   ⟨(some 4), .mv (.tmp 46), none⟩] [4])
 (.ret)))),
 47, [.tmp 4], .pure⟩
def h103 : List Hint := [.keep [0, 1], .keep [1, 5], .keep [1, 5, 10, 11], .keep [1, 5, 10, 11, 12], .keep [1, 5, 6, 10, 11], .keep [1, 5, 6, 10, 11], .keep [1, 5, 10, 11], .keep [1, 5, 10, 11], .keep [4]]
theorem g103 : digFn Tryz.prog Tryz.f103 h103 .pure = some d103 := by kernel_rfl

/-- deadbolt/names.checked -/
def d45 : DFnD := ⟨.seq (.reg [⟨(some 1), .box 30 (.tmp 0), none⟩,
   ⟨(some 2), .alloc 105 [(.sc .nilIface)], none⟩] [1, 2])
 (.dfr [⟨(some 6), .mkfn (.func 88) [] [(.tmp 2)], none⟩] [1, 2] (.tmp 6) [2]
 (.seq (.seq (.reg [⟨(some 7), .load (some 3) (.tmp 1), none⟩,
   ⟨(some 8), .call 89 [(.tmp 7)], none⟩,
   ⟨(some 9), .un .not (.tmp 8), none⟩] [1, 2, 9])
 (.cond (.tmp 9)
  (.seq (.reg [⟨(some 10), .build [(.sc (.int .i64 0)), (.sc (.int .i64 0))] [(0, 1, (.con (.sc (.int .i64 0)))), (1, 1, (.con (.sc (.int .i64 2))))], none⟩,
    ⟨(some 11), .mkif 158 (.tmp 10), none⟩,
    ⟨none, .store 1 (.tmp 2) (.tmp 11), none⟩] [2])
  (.ret))
  (.skip)))
 (.seq (.reg [⟨(some 12), .load (some 3) (.tmp 1), none⟩,
   ⟨(some 13), .call 90 [(.tmp 12)], none⟩,
   ⟨(some 3), .alloc 165 [(.sc (.map none))], none⟩,
   ⟨none, .store 1 (.tmp 3) (.tmp 13), none⟩] [1, 2, 3])
 (.seq (.seq (.reg [⟨(some 14), .faddr 2 (.tmp 1), none⟩,
   ⟨(some 15), .load none (.tmp 14), none⟩,
   ⟨(some 16), .len false (.tmp 15), none⟩,
   ⟨(some 17), .mv (.con (.sc (.int .i64 0))), none⟩] [2, 3, 15, 16, 17])
 (.block 0 (.loop (.seq (.reg [⟨(some 18), .bin .lss 3 (.tmp 17) (.tmp 16), none⟩] [2, 3, 15, 16, 17, 18])
   (.seq (.cond (.tmp 18)
    (.skip)
    (.exit 0))
   (.seq (.block 1 (.seq (.reg [⟨(some 19), .iaddr 3 (.tmp 15) (.tmp 17), none⟩,
      ⟨(some 20), .load (some 3) (.tmp 19), none⟩,
      ⟨(some 5), .alloc 51 [(.sc (.string ⟨#[]⟩)), (.sc (.int .i64 0)), (.lst 0 [] .nil)], none⟩,
      ⟨none, .store 3 (.tmp 5) (.tmp 20), none⟩] [2, 3, 5, 15, 16, 17])
    (.reg [⟨(some 21), .faddr 2 (.tmp 5), none⟩,
      ⟨(some 22), .load none (.tmp 21), none⟩,
      ⟨(some 23), .mkfn (.func 92) [] [(.tmp 3)], none⟩,
      ⟨(some 24), .call 91 [(.tmp 22), (.tmp 23)], none⟩] [2, 3, 15, 16, 17])))
   (.reg [⟨(some 25), .bin .add 3 (.tmp 17) (.con (.sc (.int .i64 1))), none⟩,
     ⟨(some 17), .mv (.tmp 25), none⟩] [2, 3, 15, 16, 17])))))))
 (.seq (.seq (.reg [⟨(some 26), .load none (.tmp 3), none⟩,
   ⟨(some 27), .ex (.lkup .str (.sc (.string ⟨#[]⟩)) false) [(.tmp 26), (.con (.sc (.string ⟨#[109, 97, 105, 110]⟩)))], none⟩,
   ⟨(some 28), .bin .neq 9 (.tmp 27) (.con (.sc (.string ⟨#[102, 117, 110, 99]⟩))), none⟩] [2, 28])
 (.cond (.tmp 28)
  (.seq (.reg [⟨(some 29), .build [(.sc (.int .i64 0)), (.sc (.int .i64 0))] [(0, 1, (.con (.sc (.int .i64 0)))), (1, 1, (.con (.sc (.int .i64 11))))], none⟩,
    ⟨(some 30), .mkif 158 (.tmp 29), none⟩,
    ⟨none, .store 1 (.tmp 2) (.tmp 30), none⟩] [2])
  (.ret))
  (.skip)))
 (.seq (.reg [⟨none, .store 1 (.tmp 2) (.con (.sc .nilIface)), none⟩] [2])
 (.ret))))))),
 31, [.cell 2 none], .pure⟩
def h45 : List Hint := [.keep [1, 2], .keep [1, 2], .keep [1, 2, 9], .keep [2], .keep [1, 2, 3], .keep [2, 3, 15, 16, 17], .keep [2, 3, 15, 16, 17, 18], .keep [2, 3, 5, 15, 16, 17], .keep [2, 3, 15, 16, 17], .keep [2, 3, 15, 16, 17], .keep [2, 28], .keep [2], .keep [2]]
theorem g45 : digFnD Tryz.prog Tryz.f45 [2] h45 .pure = some d45 := by kernel_rfl

/-- deadbolt/names.told -/
def d44 : DFn := ⟨.seq (.reg [⟨(some 2), .mv (.con (.sc (.int .i64 0))), none⟩,
   ⟨(some 3), .mv (.con (.sc (.int .i64 0))), none⟩] [0])
 (.seq (.reg [⟨(some 4), .alloc 158 [(.sc (.int .i64 0)), (.sc (.int .i64 0))], none⟩] [0, 4])
 (.seq (.seq (.reg [⟨(some 5), .mv (.tmp 0), none⟩,
   ⟨(some 6), .ex (.isnil .iface false) [(.tmp 5)], none⟩,
   ⟨(some 7), .mv (.tmp 6), none⟩,
   ⟨(some 8), .mv (.tmp 0), (some (7, false))⟩,
   ⟨(some 9), .mkif 37 (.con (.sc (.int .i64 0))), (some (7, false))⟩,
   ⟨(some 10), .call 86 [(.tmp 8), (.tmp 9)], (some (7, false))⟩,
   ⟨(some 11), .pick (.tmp 7) (.con (.sc (.bool true))) (.tmp 10), none⟩,
   ⟨(some 12), .mv (.tmp 11), none⟩,
   ⟨(some 13), .mv (.tmp 0), (some (12, false))⟩,
   ⟨(some 14), .mkif 161 (.tmp 4), (some (12, false))⟩,
   ⟨(some 15), .call 87 [(.tmp 13), (.tmp 14)], (some (12, false))⟩,
   ⟨(some 16), .un .not (.tmp 15), (some (12, false))⟩,
   ⟨(some 17), .pick (.tmp 12) (.con (.sc (.bool true))) (.tmp 16), none⟩] [4, 17])
 (.cond (.tmp 17)
  (.seq (.reg [⟨(some 2), .mv (.con (.sc (.int .i64 0))), none⟩,
    ⟨(some 3), .mv (.con (.sc (.int .i64 0))), none⟩] [2, 3])
  (.ret))
  (.skip)))
 (.seq (.drw [⟨(some 18), .faddr 0 (.tmp 4), none⟩,
   ⟨(some 19), .load none (.tmp 18), none⟩,
   ⟨(some 20), .faddr 1 (.tmp 4), none⟩,
   ⟨(some 21), .load none (.tmp 20), none⟩,
   ⟨(some 2), .mv (.tmp 19), none⟩,
   ⟨(some 3), .mv (.tmp 21), none⟩] [0, 1, 0, 4, 3, 31] [2, 3])
 (.ret)))),
 22, [.tmp 2, .tmp 3], .pure⟩
def h44 : List Hint := [.keep [0], .keep [0, 4], .keep [4, 17], .keep [2, 3], .keep [2, 3]]
theorem g44 : digFn Tryz.prog Tryz.f44 h44 .pure = some d44 := by kernel_rfl

/-- math/bits.Len32 -/
def d149 : DFn := ⟨.seq (.reg [⟨(some 2), .mv (.con (.sc (.int .i64 0))), none⟩] [0, 2])
 (.seq (.seq (.reg [⟨(some 3), .mv (.tmp 0), none⟩,
   ⟨(some 4), .bin .geq 250 (.tmp 3) (.con (.sc (.int .u32 65536))), none⟩] [0, 2, 4])
 (.cond (.tmp 4)
  (.seq (.reg [⟨(some 5), .mv (.tmp 0), none⟩,
    ⟨(some 6), .bin .shr 250 (.tmp 5) (.con (.sc (.int .u64 16))), none⟩,
    ⟨(some 0), .mv (.tmp 6), none⟩] [0])
  (.reg [⟨(some 2), .mv (.con (.sc (.int .i64 16))), none⟩] [0, 2]))
  (.skip)))
 (.seq (.seq (.reg [⟨(some 7), .mv (.tmp 0), none⟩,
   ⟨(some 8), .bin .geq 250 (.tmp 7) (.con (.sc (.int .u32 256))), none⟩] [0, 2, 8])
 (.cond (.tmp 8)
  (.seq (.reg [⟨(some 9), .mv (.tmp 0), none⟩,
    ⟨(some 10), .bin .shr 250 (.tmp 9) (.con (.sc (.int .u64 8))), none⟩,
    ⟨(some 0), .mv (.tmp 10), none⟩] [0, 2])
  (.reg [⟨(some 11), .mv (.tmp 2), none⟩,
    ⟨(some 12), .bin .add 3 (.tmp 11) (.con (.sc (.int .i64 8))), none⟩,
    ⟨(some 2), .mv (.tmp 12), none⟩] [0, 2]))
  (.skip)))
 (.seq (.reg [⟨(some 13), .mv (.tmp 2), none⟩,
   ⟨(some 14), .mv (.tmp 0), none⟩,
   ⟨(some 15), .cvt .u8 (.tmp 14), none⟩,
   ⟨(some 16), .idxS (.con (.sc (.string ⟨#[0, 1, 2, 2, 3, 3, 3, 3, 4, 4, 4, 4, 4, 4, 4, 4, 5, 5, 5, 5, 5, 5, 5, 5, 5, 5, 5, 5, 5, 5, 5, 5, 6, 6, 6, 6, 6, 6, 6, 6, 6, 6, 6, 6, 6, 6, 6, 6, 6, 6, 6, 6, 6, 6, 6, 6, 6, 6, 6, 6, 6, 6, 6, 6, 7, 7, 7, 7, 7, 7, 7, 7, 7, 7, 7, 7, 7, 7, 7, 7, 7, 7, 7, 7, 7, 7, 7, 7, 7, 7, 7, 7, 7, 7, 7, 7, 7, 7, 7, 7, 7, 7, 7, 7, 7, 7, 7, 7, 7, 7, 7, 7, 7, 7, 7, 7, 7, 7, 7, 7, 7, 7, 7, 7, 7, 7, 7, 7, 8, 8, 8, 8, 8, 8, 8, 8, 8, 8, 8, 8, 8, 8, 8, 8, 8, 8, 8, 8, 8, 8, 8, 8, 8, 8, 8, 8, 8, 8, 8, 8, 8, 8, 8, 8, 8, 8, 8, 8, 8, 8, 8, 8, 8, 8, 8, 8, 8, 8, 8, 8, 8, 8, 8, 8, 8, 8, 8, 8, 8, 8, 8, 8, 8, 8, 8, 8, 8, 8, 8, 8, 8, 8, 8, 8, 8, 8, 8, 8, 8, 8, 8, 8, 8, 8, 8, 8, 8, 8, 8, 8, 8, 8, 8, 8, 8, 8, 8, 8, 8, 8, 8, 8, 8, 8, 8, 8, 8, 8, 8, 8, 8, 8, 8, 8, 8, 8, 8, 8, 8, 8, 8, 8, 8, 8, 8, 8]⟩))) (.tmp 15), none⟩,
   ⟨(some 17), .cvt .i64 (.tmp 16), none⟩,
   ⟨(some 18), .bin .add 3 (.tmp 13) (.tmp 17), none⟩,
   ⟨(some 2), .mv (.tmp 18), none⟩] [2])
 (.ret)))),
 19, [.tmp 2], .pure⟩
def h149 : List Hint := [.keep [0, 2], .keep [0, 2, 4], .keep [0], .keep [0, 2], .keep [0, 2, 8], .keep [0, 2], .keep [0, 2], .keep [2]]
theorem g149 : digFn Tryz.prog Tryz.f149 h149 .pure = some d149 := by kernel_rfl

/-- math/bits.Len64 -/
def d150 : DFn := ⟨.seq (.reg [⟨(some 2), .mv (.con (.sc (.int .i64 0))), none⟩] [0, 2])
 (.seq (.seq (.reg [⟨(some 3), .mv (.tmp 0), none⟩,
   ⟨(some 4), .bin .geq 252 (.tmp 3) (.con (.sc (.int .u64 4294967296))), none⟩] [0, 2, 4])
 (.cond (.tmp 4)
  (.seq (.reg [⟨(some 5), .mv (.tmp 0), none⟩,
    ⟨(some 6), .bin .shr 252 (.tmp 5) (.con (.sc (.int .u64 32))), none⟩,
    ⟨(some 0), .mv (.tmp 6), none⟩] [0])
  (.reg [⟨(some 2), .mv (.con (.sc (.int .i64 32))), none⟩] [0, 2]))
  (.skip)))
 (.seq (.seq (.reg [⟨(some 7), .mv (.tmp 0), none⟩,
   ⟨(some 8), .bin .geq 252 (.tmp 7) (.con (.sc (.int .u64 65536))), none⟩] [0, 2, 8])
 (.cond (.tmp 8)
  (.seq (.reg [⟨(some 9), .mv (.tmp 0), none⟩,
    ⟨(some 10), .bin .shr 252 (.tmp 9) (.con (.sc (.int .u64 16))), none⟩,
    ⟨(some 0), .mv (.tmp 10), none⟩] [0, 2])
  (.reg [⟨(some 11), .mv (.tmp 2), none⟩,
    ⟨(some 12), .bin .add 3 (.tmp 11) (.con (.sc (.int .i64 16))), none⟩,
    ⟨(some 2), .mv (.tmp 12), none⟩] [0, 2]))
  (.skip)))
 (.seq (.seq (.reg [⟨(some 13), .mv (.tmp 0), none⟩,
   ⟨(some 14), .bin .geq 252 (.tmp 13) (.con (.sc (.int .u64 256))), none⟩] [0, 2, 14])
 (.cond (.tmp 14)
  (.seq (.reg [⟨(some 15), .mv (.tmp 0), none⟩,
    ⟨(some 16), .bin .shr 252 (.tmp 15) (.con (.sc (.int .u64 8))), none⟩,
    ⟨(some 0), .mv (.tmp 16), none⟩] [0, 2])
  (.reg [⟨(some 17), .mv (.tmp 2), none⟩,
    ⟨(some 18), .bin .add 3 (.tmp 17) (.con (.sc (.int .i64 8))), none⟩,
    ⟨(some 2), .mv (.tmp 18), none⟩] [0, 2]))
  (.skip)))
 (.seq (.reg [⟨(some 19), .mv (.tmp 2), none⟩,
   ⟨(some 20), .mv (.tmp 0), none⟩,
   ⟨(some 21), .cvt .u8 (.tmp 20), none⟩,
   ⟨(some 22), .idxS (.con (.sc (.string ⟨#[0, 1, 2, 2, 3, 3, 3, 3, 4, 4, 4, 4, 4, 4, 4, 4, 5, 5, 5, 5, 5, 5, 5, 5, 5, 5, 5, 5, 5, 5, 5, 5, 6, 6, 6, 6, 6, 6, 6, 6, 6, 6, 6, 6, 6, 6, 6, 6, 6, 6, 6, 6, 6, 6, 6, 6, 6, 6, 6, 6, 6, 6, 6, 6, 7, 7, 7, 7, 7, 7, 7, 7, 7, 7, 7, 7, 7, 7, 7, 7, 7, 7, 7, 7, 7, 7, 7, 7, 7, 7, 7, 7, 7, 7, 7, 7, 7, 7, 7, 7, 7, 7, 7, 7, 7, 7, 7, 7, 7, 7, 7, 7, 7, 7, 7, 7, 7, 7, 7, 7, 7, 7, 7, 7, 7, 7, 7, 7, 8, 8, 8, 8, 8, 8, 8, 8, 8, 8, 8, 8, 8, 8, 8, 8, 8, 8, 8, 8, 8, 8, 8, 8, 8, 8, 8, 8, 8, 8, 8, 8, 8, 8, 8, 8, 8, 8, 8, 8, 8, 8, 8, 8, 8, 8, 8, 8, 8, 8, 8, 8, 8, 8, 8, 8, 8, 8, 8, 8, 8, 8, 8, 8, 8, 8, 8, 8, 8, 8, 8, 8, 8, 8, 8, 8, 8, 8, 8, 8, 8, 8, 8, 8, 8, 8, 8, 8, 8, 8, 8, 8, 8, 8, 8, 8, 8, 8, 8, 8, 8, 8, 8, 8, 8, 8, 8, 8, 8, 8, 8, 8, 8, 8, 8, 8, 8, 8, 8, 8, 8, 8, 8, 8, 8, 8, 8, 8]⟩))) (.tmp 21), none⟩,
   ⟨(some 23), .cvt .i64 (.tmp 22), none⟩,
   ⟨(some 24), .bin .add 3 (.tmp 19) (.tmp 23), none⟩,
   ⟨(some 2), .mv (.tmp 24), none⟩] [2])
 (.ret))))),
 25, [.tmp 2], .pure⟩
def h150 : List Hint := [.keep [0, 2], .keep [0, 2, 4], .keep [0], .keep [0, 2], .keep [0, 2, 8], .keep [0, 2], .keep [0, 2], .keep [0, 2, 14], .keep [0, 2], .keep [0, 2], .keep [2]]
theorem g150 : digFn Tryz.prog Tryz.f150 h150 .pure = some d150 := by kernel_rfl

/-- slices.insertionSortCmpFunc[deadbolt/api.File] -/
def d141 : DFn := ⟨.seq (.reg [⟨(some 10), .mv (.tmp 1), none⟩,
   ⟨(some 11), .bin .add 3 (.tmp 10) (.con (.sc (.int .i64 1))), none⟩,
   ⟨(some 8), .mv (.tmp 11), none⟩] [0, 1, 2, 3, 8])
 (.block 0 (.loop (.seq (.seq (.reg [⟨(some 12), .mv (.tmp 8), none⟩,
     ⟨(some 13), .mv (.tmp 2), none⟩,
     ⟨(some 14), .bin .lss 3 (.tmp 12) (.tmp 13), none⟩] [0, 1, 2, 3, 8, 14])
   (.cond (.tmp 14)
    (.skip)
    (.exit 0)))
   (.seq (.block 1 (.seq (.reg [⟨(some 17), .mv (.tmp 8), none⟩,
      ⟨(some 9), .mv (.tmp 17), none⟩] [0, 1, 2, 3, 8, 9])
    (.block 2 (.loop (.seq (.seq (.drw [⟨(some 18), .mv (.tmp 9), none⟩,
        ⟨(some 19), .mv (.tmp 1), none⟩,
        ⟨(some 20), .bin .gtr 3 (.tmp 18) (.tmp 19), none⟩,
        ⟨(some 21), .mv (.tmp 20), none⟩,
        ⟨(some 22), .mv (.tmp 3), (some (21, true))⟩,
        ⟨(some 23), .mv (.tmp 0), (some (21, true))⟩,
        ⟨(some 24), .mv (.tmp 9), (some (21, true))⟩,
        ⟨(some 25), .iaddr 2 (.tmp 23) (.tmp 24), (some (21, true))⟩,
        ⟨(some 26), .load (some 2) (.tmp 25), (some (21, true))⟩,
        ⟨(some 27), .mv (.tmp 0), (some (21, true))⟩,
        ⟨(some 28), .mv (.tmp 9), (some (21, true))⟩,
        ⟨(some 29), .bin .sub 3 (.tmp 28) (.con (.sc (.int .i64 1))), (some (21, true))⟩,
        ⟨(some 30), .iaddr 2 (.tmp 27) (.tmp 29), (some (21, true))⟩,
        ⟨(some 31), .load (some 2) (.tmp 30), (some (21, true))⟩,
        ⟨(some 32), .callv (.tmp 22) [(.tmp 26), (.tmp 31)], (some (21, true))⟩,
        ⟨(some 33), .bin .lss 3 (.tmp 32) (.con (.sc (.int .i64 0))), (some (21, true))⟩,
        ⟨(some 34), .pick (.tmp 21) (.tmp 33) (.con (.sc (.bool false))), none⟩] [0, 0, 3, 7, 15, 15, 15, 111, 239, 15, 15, 1039, 3599, 7695, 16383, 32767, 65535] [0, 1, 2, 3, 8, 9, 34])
      (.cond (.tmp 34)
       (.skip)
       (.exit 2)))
      (.seq (.block 3 (.drw [⟨(some 37), .mv (.tmp 0), none⟩,
         ⟨(some 38), .mv (.tmp 9), none⟩,
         ⟨(some 39), .mv (.tmp 0), none⟩,
         ⟨(some 40), .mv (.tmp 9), none⟩,
         ⟨(some 41), .bin .sub 3 (.tmp 40) (.con (.sc (.int .i64 1))), none⟩,
         ⟨(some 42), .mv (.tmp 0), none⟩,
         ⟨(some 43), .mv (.tmp 9), none⟩,
         ⟨(some 44), .bin .sub 3 (.tmp 43) (.con (.sc (.int .i64 1))), none⟩,
         ⟨(some 45), .iaddr 2 (.tmp 42) (.tmp 44), none⟩,
         ⟨(some 46), .load (some 2) (.tmp 45), none⟩,
         ⟨(some 47), .mv (.tmp 0), none⟩,
         ⟨(some 48), .mv (.tmp 9), none⟩,
         ⟨(some 49), .iaddr 2 (.tmp 47) (.tmp 48), none⟩,
         ⟨(some 50), .load (some 2) (.tmp 49), none⟩,
         ⟨(some 51), .iaddr 2 (.tmp 37) (.tmp 38), none⟩,
         ⟨none, .store 2 (.tmp 51) (.tmp 46), none⟩,
         ⟨(some 52), .iaddr 2 (.tmp 39) (.tmp 41), none⟩,
         ⟨none, .store 2 (.tmp 52) (.tmp 50), none⟩] [0, 0, 0, 0, 8, 0, 0, 64, 224, 480, 0, 0, 3072, 7168, 16355, 32739, 65535, 131071] [0, 1, 2, 3, 8, 9]))
      (.reg [⟨(some 35), .mv (.tmp 9), none⟩,
        ⟨(some 36), .bin .sub 3 (.tmp 35) (.con (.sc (.int .i64 1))), none⟩,
        ⟨(some 9), .mv (.tmp 36), none⟩] [0, 1, 2, 3, 8, 9])))))))
   (.reg [⟨(some 15), .mv (.tmp 8), none⟩,
     ⟨(some 16), .bin .add 3 (.tmp 15) (.con (.sc (.int .i64 1))), none⟩,
     ⟨(some 8), .mv (.tmp 16), none⟩] [0, 1, 2, 3, 8]))))),
 53, [], .made⟩
def h141 : List Hint := [.keep [0, 1, 2, 3, 8], .keep [0, 1, 2, 3, 8, 14], .keep [0, 1, 2, 3, 8, 9], .keep [0, 1, 2, 3, 8, 9, 34], .keep [0, 1, 2, 3, 8, 9], .keep [0, 1, 2, 3, 8, 9], .keep [0, 1, 2, 3, 8]]
theorem g141 : digFn Tryz.prog Tryz.f141 h141 .made = some d141 := by kernel_rfl

/-- slices.heapSortCmpFunc[deadbolt/api.File] -/
def d142 : DFn := ⟨.seq (.reg [⟨(some 13), .mv (.tmp 1), none⟩,
   ⟨(some 8), .mv (.tmp 13), none⟩] [0, 1, 2, 3, 8])
 (.seq (.reg [⟨(some 9), .mv (.con (.sc (.int .i64 0))), none⟩] [0, 1, 2, 3, 8, 9])
 (.seq (.reg [⟨(some 14), .mv (.tmp 2), none⟩,
   ⟨(some 15), .mv (.tmp 1), none⟩,
   ⟨(some 16), .bin .sub 3 (.tmp 14) (.tmp 15), none⟩,
   ⟨(some 10), .mv (.tmp 16), none⟩] [0, 3, 8, 9, 10])
 (.seq (.seq (.reg [⟨(some 17), .mv (.tmp 10), none⟩,
   ⟨(some 18), .bin .sub 3 (.tmp 17) (.con (.sc (.int .i64 1))), none⟩,
   ⟨(some 19), .bin .quo 3 (.tmp 18) (.con (.sc (.int .i64 2))), none⟩,
   ⟨(some 11), .mv (.tmp 19), none⟩] [0, 3, 8, 9, 10, 11])
 (.block 0 (.loop (.seq (.seq (.reg [⟨(some 20), .mv (.tmp 11), none⟩,
     ⟨(some 21), .bin .geq 3 (.tmp 20) (.con (.sc (.int .i64 0))), none⟩] [0, 3, 8, 9, 10, 11, 21])
   (.cond (.tmp 21)
    (.skip)
    (.exit 0)))
   (.seq (.block 1 (.reg [⟨(some 24), .mv (.tmp 0), none⟩,
      ⟨(some 25), .mv (.tmp 11), none⟩,
      ⟨(some 26), .mv (.tmp 10), none⟩,
      ⟨(some 27), .mv (.tmp 8), none⟩,
      ⟨(some 28), .mv (.tmp 3), none⟩,
      ⟨(some 29), .call 191 [(.tmp 24), (.tmp 25), (.tmp 26), (.tmp 27), (.tmp 28)], none⟩] [0, 3, 8, 9, 10, 11]))
   (.reg [⟨(some 22), .mv (.tmp 11), none⟩,
     ⟨(some 23), .bin .sub 3 (.tmp 22) (.con (.sc (.int .i64 1))), none⟩,
     ⟨(some 11), .mv (.tmp 23), none⟩] [0, 3, 8, 9, 10, 11]))))))
 (.seq (.reg [⟨(some 30), .mv (.tmp 10), none⟩,
   ⟨(some 31), .bin .sub 3 (.tmp 30) (.con (.sc (.int .i64 1))), none⟩,
   ⟨(some 12), .mv (.tmp 31), none⟩] [0, 3, 8, 9, 12])
 (.block 2 (.loop (.seq (.seq (.reg [⟨(some 32), .mv (.tmp 12), none⟩,
     ⟨(some 33), .bin .geq 3 (.tmp 32) (.con (.sc (.int .i64 0))), none⟩] [0, 3, 8, 9, 12, 33])
   (.cond (.tmp 33)
    (.skip)
    (.exit 2)))
   (.seq (.block 3 (.seq (.drw [⟨(some 36), .mv (.tmp 0), none⟩,
      ⟨(some 37), .mv (.tmp 8), none⟩,
      ⟨(some 38), .mv (.tmp 0), none⟩,
      ⟨(some 39), .mv (.tmp 8), none⟩,
      ⟨(some 40), .mv (.tmp 12), none⟩,
      ⟨(some 41), .bin .add 3 (.tmp 39) (.tmp 40), none⟩,
      ⟨(some 42), .mv (.tmp 0), none⟩,
      ⟨(some 43), .mv (.tmp 8), none⟩,
      ⟨(some 44), .mv (.tmp 12), none⟩,
      ⟨(some 45), .bin .add 3 (.tmp 43) (.tmp 44), none⟩,
      ⟨(some 46), .iaddr 2 (.tmp 42) (.tmp 45), none⟩,
      ⟨(some 47), .load (some 2) (.tmp 46), none⟩,
      ⟨(some 48), .mv (.tmp 0), none⟩,
      ⟨(some 49), .mv (.tmp 8), none⟩,
      ⟨(some 50), .iaddr 2 (.tmp 48) (.tmp 49), none⟩,
      ⟨(some 51), .load (some 2) (.tmp 50), none⟩,
      ⟨(some 52), .iaddr 2 (.tmp 36) (.tmp 37), none⟩,
      ⟨none, .store 2 (.tmp 52) (.tmp 47), none⟩,
      ⟨(some 53), .iaddr 2 (.tmp 38) (.tmp 41), none⟩,
      ⟨none, .store 2 (.tmp 53) (.tmp 51), none⟩] [0, 0, 0, 0, 0, 24, 0, 0, 0, 384, 960, 1984, 0, 0, 12288, 28672, 65475, 131011, 262143, 524287] [0, 3, 8, 9, 12])
    (.reg [⟨(some 54), .mv (.tmp 0), none⟩,
      ⟨(some 55), .mv (.tmp 9), none⟩,
      ⟨(some 56), .mv (.tmp 12), none⟩,
      ⟨(some 57), .mv (.tmp 8), none⟩,
      ⟨(some 58), .mv (.tmp 3), none⟩,
      ⟨(some 59), .call 191 [(.tmp 54), (.tmp 55), (.tmp 56), (.tmp 57), (.tmp 58)], none⟩] [0, 3, 8, 9, 12])))
   (.reg [⟨(some 34), .mv (.tmp 12), none⟩,
     ⟨(some 35), .bin .sub 3 (.tmp 34) (.con (.sc (.int .i64 1))), none⟩,
     ⟨(some 12), .mv (.tmp 35), none⟩] [0, 3, 8, 9, 12]))))))))),
 60, [], .made⟩
def h142 : List Hint := [.keep [0, 1, 2, 3, 8], .keep [0, 1, 2, 3, 8, 9], .keep [0, 3, 8, 9, 10], .keep [0, 3, 8, 9, 10, 11], .keep [0, 3, 8, 9, 10, 11, 21], .keep [0, 3, 8, 9, 10, 11], .keep [0, 3, 8, 9, 10, 11], .keep [0, 3, 8, 9, 12], .keep [0, 3, 8, 9, 12, 33], .keep [0, 3, 8, 9, 12], .keep [0, 3, 8, 9, 12], .keep [0, 3, 8, 9, 12]]
theorem g142 : digFn Tryz.prog Tryz.f142 h142 .made = some d142 := by kernel_rfl

/-- slices.breakPatternsCmpFunc[deadbolt/api.File] -/
def d143 : DFn := ⟨.seq (.reg [⟨(some 13), .mv (.tmp 2), none⟩,
   ⟨(some 14), .mv (.tmp 1), none⟩,
   ⟨(some 15), .bin .sub 3 (.tmp 13) (.tmp 14), none⟩,
   ⟨(some 8), .mv (.tmp 15), none⟩] [0, 1, 8])
 (.seq (.reg [⟨(some 16), .mv (.tmp 8), none⟩,
   ⟨(some 17), .bin .geq 3 (.tmp 16) (.con (.sc (.int .i64 8))), none⟩] [0, 1, 8, 17])
 (.cond (.tmp 17)
  (.seq (.reg [⟨(some 18), .mv (.tmp 8), none⟩,
    ⟨(some 19), .cvt .u64 (.tmp 18), none⟩,
    ⟨(some 9), .alloc 295 [(.sc (.int .u64 0))], none⟩,
    ⟨none, .store 1 (.tmp 9) (.tmp 19), none⟩] [0, 1, 8, 9])
  (.seq (.reg [⟨(some 20), .mv (.tmp 8), none⟩,
    ⟨(some 21), .call 192 [(.tmp 20)], none⟩,
    ⟨(some 10), .mv (.tmp 21), none⟩] [0, 1, 8, 9, 10])
  (.seq (.reg [⟨(some 22), .mv (.tmp 1), none⟩,
    ⟨(some 23), .mv (.tmp 8), none⟩,
    ⟨(some 24), .bin .quo 3 (.tmp 23) (.con (.sc (.int .i64 4))), none⟩,
    ⟨(some 25), .bin .mul 3 (.tmp 24) (.con (.sc (.int .i64 2))), none⟩,
    ⟨(some 26), .bin .add 3 (.tmp 22) (.tmp 25), none⟩,
    ⟨(some 27), .bin .sub 3 (.tmp 26) (.con (.sc (.int .i64 1))), none⟩,
    ⟨(some 11), .mv (.tmp 27), none⟩] [0, 1, 8, 9, 10, 11])
  (.block 0 (.loop (.seq (.seq (.reg [⟨(some 28), .mv (.tmp 11), none⟩,
      ⟨(some 29), .mv (.tmp 1), none⟩,
      ⟨(some 30), .mv (.tmp 8), none⟩,
      ⟨(some 31), .bin .quo 3 (.tmp 30) (.con (.sc (.int .i64 4))), none⟩,
      ⟨(some 32), .bin .mul 3 (.tmp 31) (.con (.sc (.int .i64 2))), none⟩,
      ⟨(some 33), .bin .add 3 (.tmp 29) (.tmp 32), none⟩,
      ⟨(some 34), .bin .add 3 (.tmp 33) (.con (.sc (.int .i64 1))), none⟩,
      ⟨(some 35), .bin .leq 3 (.tmp 28) (.tmp 34), none⟩] [0, 1, 8, 9, 10, 11, 35])
    (.cond (.tmp 35)
     (.skip)
     (.exit 0)))
    (.seq (.block 1 (.seq (.reg [⟨(some 38), .call 193 [(.tmp 9)], none⟩,
       ⟨(some 39), .mv (.tmp 10), none⟩,
       ⟨(some 40), .bin .sub 172 (.tmp 39) (.con (.sc (.int .u64 1))), none⟩,
       ⟨(some 41), .bin .and 172 (.tmp 38) (.tmp 40), none⟩,
       ⟨(some 42), .cvt .i64 (.tmp 41), none⟩,
       ⟨(some 12), .mv (.tmp 42), none⟩] [0, 1, 8, 9, 10, 11, 12])
     (.seq (.seq (.reg [⟨(some 43), .mv (.tmp 12), none⟩,
       ⟨(some 44), .mv (.tmp 8), none⟩,
       ⟨(some 45), .bin .geq 3 (.tmp 43) (.tmp 44), none⟩] [0, 1, 8, 9, 10, 11, 12, 45])
     (.cond (.tmp 45)
      (.reg [⟨(some 46), .mv (.tmp 12), none⟩,
        ⟨(some 47), .mv (.tmp 8), none⟩,
        ⟨(some 48), .bin .sub 3 (.tmp 46) (.tmp 47), none⟩,
        ⟨(some 12), .mv (.tmp 48), none⟩] [0, 1, 8, 9, 10, 11, 12])
      (.skip)))
     (.drw [⟨(some 49), .mv (.tmp 0), none⟩,
       ⟨(some 50), .mv (.tmp 11), none⟩,
       ⟨(some 51), .mv (.tmp 0), none⟩,
       ⟨(some 52), .mv (.tmp 1), none⟩,
       ⟨(some 53), .mv (.tmp 12), none⟩,
       ⟨(some 54), .bin .add 3 (.tmp 52) (.tmp 53), none⟩,
       ⟨(some 55), .mv (.tmp 0), none⟩,
       ⟨(some 56), .mv (.tmp 1), none⟩,
       ⟨(some 57), .mv (.tmp 12), none⟩,
       ⟨(some 58), .bin .add 3 (.tmp 56) (.tmp 57), none⟩,
       ⟨(some 59), .iaddr 2 (.tmp 55) (.tmp 58), none⟩,
       ⟨(some 60), .load (some 2) (.tmp 59), none⟩,
       ⟨(some 61), .mv (.tmp 0), none⟩,
       ⟨(some 62), .mv (.tmp 11), none⟩,
       ⟨(some 63), .iaddr 2 (.tmp 61) (.tmp 62), none⟩,
       ⟨(some 64), .load (some 2) (.tmp 63), none⟩,
       ⟨(some 65), .iaddr 2 (.tmp 49) (.tmp 50), none⟩,
       ⟨none, .store 2 (.tmp 65) (.tmp 60), none⟩,
       ⟨(some 66), .iaddr 2 (.tmp 51) (.tmp 54), none⟩,
       ⟨none, .store 2 (.tmp 66) (.tmp 64), none⟩] [0, 0, 0, 0, 0, 24, 0, 0, 0, 384, 960, 1984, 0, 0, 12288, 28672, 65475, 131011, 262143, 524287] [0, 1, 8, 9, 10, 11]))))
    (.reg [⟨(some 36), .mv (.tmp 11), none⟩,
      ⟨(some 37), .bin .add 3 (.tmp 36) (.con (.sc (.int .i64 1))), none⟩,
      ⟨(some 11), .mv (.tmp 37), none⟩] [0, 1, 8, 9, 10, 11]))))))))
  (.skip))),
 67, [], .made⟩
def h143 : List Hint := [.keep [0, 1, 8], .keep [0, 1, 8, 17], .keep [0, 1, 8, 9], .keep [0, 1, 8, 9, 10], .keep [0, 1, 8, 9, 10, 11], .keep [0, 1, 8, 9, 10, 11, 35], .keep [0, 1, 8, 9, 10, 11, 12], .keep [0, 1, 8, 9, 10, 11, 12, 45], .keep [0, 1, 8, 9, 10, 11, 12], .keep [0, 1, 8, 9, 10, 11], .keep [0, 1, 8, 9, 10, 11]]
theorem g143 : digFn Tryz.prog Tryz.f143 h143 .made = some d143 := by kernel_rfl

/-- slices.choosePivotCmpFunc[deadbolt/api.File] -/
def d144 : DFn := ⟨.seq (.reg [⟨(some 8), .mv (.con (.sc (.int .i64 0))), none⟩,
   ⟨(some 9), .mv (.con (.sc (.int .i64 0))), none⟩] [0, 1, 2, 3])
 (.seq (.reg [⟨(some 15), .mv (.tmp 2), none⟩,
   ⟨(some 16), .mv (.tmp 1), none⟩,
   ⟨(some 17), .bin .sub 3 (.tmp 15) (.tmp 16), none⟩,
   ⟨(some 10), .mv (.tmp 17), none⟩] [0, 1, 3, 10])
 (.seq (.reg [⟨(some 11), .alloc 3 [(.sc (.int .i64 0))], none⟩] [0, 1, 3, 10, 11])
 (.seq (.reg [⟨(some 18), .mv (.tmp 1), none⟩,
   ⟨(some 19), .mv (.tmp 10), none⟩,
   ⟨(some 20), .bin .quo 3 (.tmp 19) (.con (.sc (.int .i64 4))), none⟩,
   ⟨(some 21), .bin .mul 3 (.tmp 20) (.con (.sc (.int .i64 1))), none⟩,
   ⟨(some 22), .bin .add 3 (.tmp 18) (.tmp 21), none⟩,
   ⟨(some 12), .mv (.tmp 22), none⟩] [0, 1, 3, 10, 11, 12])
 (.seq (.reg [⟨(some 23), .mv (.tmp 1), none⟩,
   ⟨(some 24), .mv (.tmp 10), none⟩,
   ⟨(some 25), .bin .quo 3 (.tmp 24) (.con (.sc (.int .i64 4))), none⟩,
   ⟨(some 26), .bin .mul 3 (.tmp 25) (.con (.sc (.int .i64 2))), none⟩,
   ⟨(some 27), .bin .add 3 (.tmp 23) (.tmp 26), none⟩,
   ⟨(some 13), .mv (.tmp 27), none⟩] [0, 1, 3, 10, 11, 12, 13])
 (.seq (.reg [⟨(some 28), .mv (.tmp 1), none⟩,
   ⟨(some 29), .mv (.tmp 10), none⟩,
   ⟨(some 30), .bin .quo 3 (.tmp 29) (.con (.sc (.int .i64 4))), none⟩,
   ⟨(some 31), .bin .mul 3 (.tmp 30) (.con (.sc (.int .i64 3))), none⟩,
   ⟨(some 32), .bin .add 3 (.tmp 28) (.tmp 31), none⟩,
   ⟨(some 14), .mv (.tmp 32), none⟩] [0, 3, 10, 11, 12, 13, 14])
 (.seq (.seq (.reg [⟨(some 33), .mv (.tmp 10), none⟩,
   ⟨(some 34), .bin .geq 3 (.tmp 33) (.con (.sc (.int .i64 8))), none⟩] [0, 3, 10, 11, 12, 13, 14, 34])
 (.cond (.tmp 34)
  (.seq (.seq (.reg [⟨(some 35), .mv (.tmp 10), none⟩,
    ⟨(some 36), .bin .geq 3 (.tmp 35) (.con (.sc (.int .i64 50))), none⟩] [0, 3, 11, 12, 13, 14, 36])
  (.cond (.tmp 36)
   (.seq (.reg [⟨(some 37), .mv (.tmp 0), none⟩,
     ⟨(some 38), .mv (.tmp 12), none⟩,
     ⟨(some 39), .mv (.tmp 3), none⟩,
     ⟨(some 40), .call 194 [(.tmp 37), (.tmp 38), (.tmp 11), (.tmp 39)], none⟩,
     ⟨(some 12), .mv (.tmp 40), none⟩] [0, 3, 11, 12, 13, 14])
   (.seq (.reg [⟨(some 41), .mv (.tmp 0), none⟩,
     ⟨(some 42), .mv (.tmp 13), none⟩,
     ⟨(some 43), .mv (.tmp 3), none⟩,
     ⟨(some 44), .call 194 [(.tmp 41), (.tmp 42), (.tmp 11), (.tmp 43)], none⟩,
     ⟨(some 13), .mv (.tmp 44), none⟩] [0, 3, 11, 12, 13, 14])
   (.reg [⟨(some 45), .mv (.tmp 0), none⟩,
     ⟨(some 46), .mv (.tmp 14), none⟩,
     ⟨(some 47), .mv (.tmp 3), none⟩,
     ⟨(some 48), .call 194 [(.tmp 45), (.tmp 46), (.tmp 11), (.tmp 47)], none⟩,
     ⟨(some 14), .mv (.tmp 48), none⟩] [0, 3, 11, 12, 13, 14])))
   (.skip)))
  (.reg [⟨(some 49), .mv (.tmp 0), none⟩,
    ⟨(some 50), .mv (.tmp 12), none⟩,
    ⟨(some 51), .mv (.tmp 13), none⟩,
    ⟨(some 52), .mv (.tmp 14), none⟩,
    ⟨(some 53), .mv (.tmp 3), none⟩,
    ⟨(some 54), .call 195 [(.tmp 49), (.tmp 50), (.tmp 51), (.tmp 52), (.tmp 11), (.tmp 53)], none⟩,
    ⟨(some 13), .mv (.tmp 54), none⟩] [11, 13]))
  (.skip)))
 (.seq (.reg [⟨(some 55), .load none (.tmp 11), none⟩] [13, 55])
 (.block 0 (.seq (.reg [⟨(some 58), .bin .eql 3 (.tmp 55) (.con (.sc (.int .i64 0))), none⟩,
    ⟨(some 57), .mv (.tmp 58), none⟩] [13, 55, 57])
  (.cond (.tmp 57)
   (.seq (.reg [⟨(some 59), .mv (.tmp 13), none⟩,
     ⟨(some 8), .mv (.tmp 59), none⟩,
     ⟨(some 9), .mv (.con (.sc (.int .i64 1))), none⟩] [8, 9])
   (.ret))
   (.seq (.reg [⟨(some 61), .bin .eql 3 (.tmp 55) (.con (.sc (.int .i64 12))), none⟩,
     ⟨(some 60), .mv (.tmp 61), none⟩] [13, 60])
   (.cond (.tmp 60)
    (.seq (.reg [⟨(some 62), .mv (.tmp 13), none⟩,
      ⟨(some 8), .mv (.tmp 62), none⟩,
      ⟨(some 9), .mv (.con (.sc (.int .i64 2))), none⟩] [8, 9])
    (.ret))
    (.seq (.reg [⟨(some 56), .mv (.tmp 13), none⟩,
      ⟨(some 8), .mv (.tmp 56), none⟩,
      ⟨(some 9), .mv (.con (.sc (.int .i64 0))), none⟩] [8, 9])
    (.ret)))))))))))))),
 63, [.tmp 8, .tmp 9], .made⟩
def h144 : List Hint := [.keep [0, 1, 2, 3], .keep [0, 1, 3, 10], .keep [0, 1, 3, 10, 11], .keep [0, 1, 3, 10, 11, 12], .keep [0, 1, 3, 10, 11, 12, 13], .keep [0, 3, 10, 11, 12, 13, 14], .keep [0, 3, 10, 11, 12, 13, 14, 34], .keep [0, 3, 11, 12, 13, 14, 36], .keep [0, 3, 11, 12, 13, 14], .keep [0, 3, 11, 12, 13, 14], .keep [0, 3, 11, 12, 13, 14], .keep [11, 13], .keep [13, 55], .keep [13, 55, 57], .keep [8, 9], .keep [13, 60], .keep [8, 9], .keep [8, 9]]
theorem g144 : digFn Tryz.prog Tryz.f144 h144 .made = some d144 := by kernel_rfl

/-- slices.reverseRangeCmpFunc[deadbolt/api.File] -/
def d145 : DFn := ⟨.seq (.reg [⟨(some 10), .mv (.tmp 1), none⟩,
   ⟨(some 8), .mv (.tmp 10), none⟩] [0, 2, 8])
 (.seq (.reg [⟨(some 11), .mv (.tmp 2), none⟩,
   ⟨(some 12), .bin .sub 3 (.tmp 11) (.con (.sc (.int .i64 1))), none⟩,
   ⟨(some 9), .mv (.tmp 12), none⟩] [0, 8, 9])
 (.block 0 (.loop (.seq (.seq (.reg [⟨(some 13), .mv (.tmp 8), none⟩,
     ⟨(some 14), .mv (.tmp 9), none⟩,
     ⟨(some 15), .bin .lss 3 (.tmp 13) (.tmp 14), none⟩] [0, 8, 9, 15])
   (.cond (.tmp 15)
    (.skip)
    (.exit 0)))
   (.block 1 (.seq (.drw [⟨(some 16), .mv (.tmp 0), none⟩,
      ⟨(some 17), .mv (.tmp 8), none⟩,
      ⟨(some 18), .mv (.tmp 0), none⟩,
      ⟨(some 19), .mv (.tmp 9), none⟩,
      ⟨(some 20), .mv (.tmp 0), none⟩,
      ⟨(some 21), .mv (.tmp 9), none⟩,
      ⟨(some 22), .iaddr 2 (.tmp 20) (.tmp 21), none⟩,
      ⟨(some 23), .load (some 2) (.tmp 22), none⟩,
      ⟨(some 24), .mv (.tmp 0), none⟩,
      ⟨(some 25), .mv (.tmp 8), none⟩,
      ⟨(some 26), .iaddr 2 (.tmp 24) (.tmp 25), none⟩,
      ⟨(some 27), .load (some 2) (.tmp 26), none⟩,
      ⟨(some 28), .iaddr 2 (.tmp 16) (.tmp 17), none⟩,
      ⟨none, .store 2 (.tmp 28) (.tmp 23), none⟩,
      ⟨(some 29), .iaddr 2 (.tmp 18) (.tmp 19), none⟩,
      ⟨none, .store 2 (.tmp 29) (.tmp 27), none⟩] [0, 0, 0, 0, 0, 0, 48, 112, 0, 0, 768, 1792, 4083, 8179, 16383, 32767] [0, 8, 9])
    (.seq (.reg [⟨(some 30), .mv (.tmp 8), none⟩,
      ⟨(some 31), .bin .add 3 (.tmp 30) (.con (.sc (.int .i64 1))), none⟩,
      ⟨(some 8), .mv (.tmp 31), none⟩] [0, 8, 9])
    (.reg [⟨(some 32), .mv (.tmp 9), none⟩,
      ⟨(some 33), .bin .sub 3 (.tmp 32) (.con (.sc (.int .i64 1))), none⟩,
      ⟨(some 9), .mv (.tmp 33), none⟩] [0, 8, 9])))))))),
 34, [], .made⟩
def h145 : List Hint := [.keep [0, 2, 8], .keep [0, 8, 9], .keep [0, 8, 9, 15], .keep [0, 8, 9], .keep [0, 8, 9], .keep [0, 8, 9]]
theorem g145 : digFn Tryz.prog Tryz.f145 h145 .made = some d145 := by kernel_rfl

/-- slices.partialInsertionSortCmpFunc[deadbolt/api.File] -/
def d146 : DFn := ⟨.seq (.reg [⟨(some 8), .mv (.con (.sc (.bool false))), none⟩] [0, 1, 2, 3])
 (.seq (.reg [⟨(some 13), .mv (.tmp 1), none⟩,
   ⟨(some 14), .bin .add 3 (.tmp 13) (.con (.sc (.int .i64 1))), none⟩,
   ⟨(some 9), .mv (.tmp 14), none⟩] [0, 1, 2, 3, 9])
 (.seq (.seq (.reg [⟨(some 10), .mv (.con (.sc (.int .i64 0))), none⟩] [0, 1, 2, 3, 9, 10])
 (.block 0 (.loop (.seq (.seq (.reg [⟨(some 15), .mv (.tmp 10), none⟩,
     ⟨(some 16), .bin .lss 3 (.tmp 15) (.con (.sc (.int .i64 5))), none⟩] [0, 1, 2, 3, 9, 10, 16])
   (.cond (.tmp 16)
    (.skip)
    (.exit 0)))
   (.seq (.block 1 (.seq (.block 2 (.loop (.seq (.seq (.drw [⟨(some 19), .mv (.tmp 9), none⟩,
        ⟨(some 20), .mv (.tmp 2), none⟩,
        ⟨(some 21), .bin .lss 3 (.tmp 19) (.tmp 20), none⟩,
        ⟨(some 22), .mv (.tmp 21), none⟩,
        ⟨(some 23), .mv (.tmp 3), (some (22, true))⟩,
        ⟨(some 24), .mv (.tmp 0), (some (22, true))⟩,
        ⟨(some 25), .mv (.tmp 9), (some (22, true))⟩,
        ⟨(some 26), .iaddr 2 (.tmp 24) (.tmp 25), (some (22, true))⟩,
        ⟨(some 27), .load (some 2) (.tmp 26), (some (22, true))⟩,
        ⟨(some 28), .mv (.tmp 0), (some (22, true))⟩,
        ⟨(some 29), .mv (.tmp 9), (some (22, true))⟩,
        ⟨(some 30), .bin .sub 3 (.tmp 29) (.con (.sc (.int .i64 1))), (some (22, true))⟩,
        ⟨(some 31), .iaddr 2 (.tmp 28) (.tmp 30), (some (22, true))⟩,
        ⟨(some 32), .load (some 2) (.tmp 31), (some (22, true))⟩,
        ⟨(some 33), .callv (.tmp 23) [(.tmp 27), (.tmp 32)], (some (22, true))⟩,
        ⟨(some 34), .bin .lss 3 (.tmp 33) (.con (.sc (.int .i64 0))), (some (22, true))⟩,
        ⟨(some 35), .un .not (.tmp 34), (some (22, true))⟩,
        ⟨(some 36), .pick (.tmp 22) (.tmp 35) (.con (.sc (.bool false))), none⟩] [0, 0, 3, 7, 15, 15, 15, 111, 239, 15, 15, 1039, 3599, 7695, 16383, 32767, 65535, 131071] [0, 1, 2, 3, 9, 10, 36])
      (.cond (.tmp 36)
       (.skip)
       (.exit 2)))
      (.block 3 (.reg [⟨(some 37), .mv (.tmp 9), none⟩,
         ⟨(some 38), .bin .add 3 (.tmp 37) (.con (.sc (.int .i64 1))), none⟩,
         ⟨(some 9), .mv (.tmp 38), none⟩] [0, 1, 2, 3, 9, 10])))))
    (.seq (.seq (.reg [⟨(some 39), .mv (.tmp 9), none⟩,
      ⟨(some 40), .mv (.tmp 2), none⟩,
      ⟨(some 41), .bin .eql 3 (.tmp 39) (.tmp 40), none⟩] [0, 1, 2, 3, 9, 10, 41])
    (.cond (.tmp 41)
     (.seq (.reg [⟨(some 8), .mv (.con (.sc (.bool true))), none⟩] [8])
     (.ret))
     (.skip)))
    (.seq (.seq (.reg [⟨(some 42), .mv (.tmp 2), none⟩,
      ⟨(some 43), .mv (.tmp 1), none⟩,
      ⟨(some 44), .bin .sub 3 (.tmp 42) (.tmp 43), none⟩,
      ⟨(some 45), .bin .lss 3 (.tmp 44) (.con (.sc (.int .i64 50))), none⟩] [0, 1, 2, 3, 9, 10, 45])
    (.cond (.tmp 45)
     (.seq (.reg [⟨(some 8), .mv (.con (.sc (.bool false))), none⟩] [8])
     (.ret))
     (.skip)))
    (.seq (.drw [⟨(some 46), .mv (.tmp 0), none⟩,
      ⟨(some 47), .mv (.tmp 9), none⟩,
      ⟨(some 48), .mv (.tmp 0), none⟩,
      ⟨(some 49), .mv (.tmp 9), none⟩,
      ⟨(some 50), .bin .sub 3 (.tmp 49) (.con (.sc (.int .i64 1))), none⟩,
      ⟨(some 51), .mv (.tmp 0), none⟩,
      ⟨(some 52), .mv (.tmp 9), none⟩,
      ⟨(some 53), .bin .sub 3 (.tmp 52) (.con (.sc (.int .i64 1))), none⟩,
      ⟨(some 54), .iaddr 2 (.tmp 51) (.tmp 53), none⟩,
      ⟨(some 55), .load (some 2) (.tmp 54), none⟩,
      ⟨(some 56), .mv (.tmp 0), none⟩,
      ⟨(some 57), .mv (.tmp 9), none⟩,
      ⟨(some 58), .iaddr 2 (.tmp 56) (.tmp 57), none⟩,
      ⟨(some 59), .load (some 2) (.tmp 58), none⟩,
      ⟨(some 60), .iaddr 2 (.tmp 46) (.tmp 47), none⟩,
      ⟨none, .store 2 (.tmp 60) (.tmp 55), none⟩,
      ⟨(some 61), .iaddr 2 (.tmp 48) (.tmp 50), none⟩,
      ⟨none, .store 2 (.tmp 61) (.tmp 59), none⟩] [0, 0, 0, 0, 8, 0, 0, 64, 224, 480, 0, 0, 3072, 7168, 16355, 32739, 65535, 131071] [0, 1, 2, 3, 9, 10])
    (.seq (.seq (.reg [⟨(some 62), .mv (.tmp 9), none⟩,
      ⟨(some 63), .mv (.tmp 1), none⟩,
      ⟨(some 64), .bin .sub 3 (.tmp 62) (.tmp 63), none⟩,
      ⟨(some 65), .bin .geq 3 (.tmp 64) (.con (.sc (.int .i64 2))), none⟩] [0, 1, 2, 3, 9, 10, 65])
    (.cond (.tmp 65)
     (.seq (.reg [⟨(some 66), .mv (.tmp 9), none⟩,
       ⟨(some 67), .bin .sub 3 (.tmp 66) (.con (.sc (.int .i64 1))), none⟩,
       ⟨(some 11), .mv (.tmp 67), none⟩] [0, 1, 2, 3, 9, 10, 11])
     (.block 4 (.loop (.seq (.seq (.reg [⟨(some 68), .mv (.tmp 11), none⟩,
         ⟨(some 69), .bin .geq 3 (.tmp 68) (.con (.sc (.int .i64 1))), none⟩] [0, 1, 2, 3, 9, 10, 11, 69])
       (.cond (.tmp 69)
        (.skip)
        (.exit 4)))
       (.seq (.block 5 (.seq (.seq (.drw [⟨(some 72), .mv (.tmp 3), none⟩,
          ⟨(some 73), .mv (.tmp 0), none⟩,
          ⟨(some 74), .mv (.tmp 11), none⟩,
          ⟨(some 75), .iaddr 2 (.tmp 73) (.tmp 74), none⟩,
          ⟨(some 76), .load (some 2) (.tmp 75), none⟩,
          ⟨(some 77), .mv (.tmp 0), none⟩,
          ⟨(some 78), .mv (.tmp 11), none⟩,
          ⟨(some 79), .bin .sub 3 (.tmp 78) (.con (.sc (.int .i64 1))), none⟩,
          ⟨(some 80), .iaddr 2 (.tmp 77) (.tmp 79), none⟩,
          ⟨(some 81), .load (some 2) (.tmp 80), none⟩,
          ⟨(some 82), .callv (.tmp 72) [(.tmp 76), (.tmp 81)], none⟩,
          ⟨(some 83), .bin .lss 3 (.tmp 82) (.con (.sc (.int .i64 0))), none⟩,
          ⟨(some 84), .un .not (.tmp 83), none⟩] [0, 0, 0, 6, 14, 0, 0, 64, 224, 480, 1023, 2047, 4095] [0, 1, 2, 3, 9, 10, 11, 84])
        (.cond (.tmp 84)
         (.exit 4)
         (.skip)))
        (.drw [⟨(some 85), .mv (.tmp 0), none⟩,
          ⟨(some 86), .mv (.tmp 11), none⟩,
          ⟨(some 87), .mv (.tmp 0), none⟩,
          ⟨(some 88), .mv (.tmp 11), none⟩,
          ⟨(some 89), .bin .sub 3 (.tmp 88) (.con (.sc (.int .i64 1))), none⟩,
          ⟨(some 90), .mv (.tmp 0), none⟩,
          ⟨(some 91), .mv (.tmp 11), none⟩,
          ⟨(some 92), .bin .sub 3 (.tmp 91) (.con (.sc (.int .i64 1))), none⟩,
          ⟨(some 93), .iaddr 2 (.tmp 90) (.tmp 92), none⟩,
          ⟨(some 94), .load (some 2) (.tmp 93), none⟩,
          ⟨(some 95), .mv (.tmp 0), none⟩,
          ⟨(some 96), .mv (.tmp 11), none⟩,
          ⟨(some 97), .iaddr 2 (.tmp 95) (.tmp 96), none⟩,
          ⟨(some 98), .load (some 2) (.tmp 97), none⟩,
          ⟨(some 99), .iaddr 2 (.tmp 85) (.tmp 86), none⟩,
          ⟨none, .store 2 (.tmp 99) (.tmp 94), none⟩,
          ⟨(some 100), .iaddr 2 (.tmp 87) (.tmp 89), none⟩,
          ⟨none, .store 2 (.tmp 100) (.tmp 98), none⟩] [0, 0, 0, 0, 8, 0, 0, 64, 224, 480, 0, 0, 3072, 7168, 16355, 32739, 65535, 131071] [0, 1, 2, 3, 9, 10, 11])))
       (.reg [⟨(some 70), .mv (.tmp 11), none⟩,
         ⟨(some 71), .bin .sub 3 (.tmp 70) (.con (.sc (.int .i64 1))), none⟩,
         ⟨(some 11), .mv (.tmp 71), none⟩] [0, 1, 2, 3, 9, 10, 11]))))))
     (.skip)))
    (.seq (.reg [⟨(some 101), .mv (.tmp 2), none⟩,
      ⟨(some 102), .mv (.tmp 9), none⟩,
      ⟨(some 103), .bin .sub 3 (.tmp 101) (.tmp 102), none⟩,
      ⟨(some 104), .bin .geq 3 (.tmp 103) (.con (.sc (.int .i64 2))), none⟩] [0, 1, 2, 3, 9, 10, 104])
    (.cond (.tmp 104)
     (.seq (.reg [⟨(some 105), .mv (.tmp 9), none⟩,
       ⟨(some 106), .bin .add 3 (.tmp 105) (.con (.sc (.int .i64 1))), none⟩,
       ⟨(some 12), .mv (.tmp 106), none⟩] [0, 1, 2, 3, 9, 10, 12])
     (.block 6 (.loop (.seq (.seq (.reg [⟨(some 107), .mv (.tmp 12), none⟩,
         ⟨(some 108), .mv (.tmp 2), none⟩,
         ⟨(some 109), .bin .lss 3 (.tmp 107) (.tmp 108), none⟩] [0, 1, 2, 3, 9, 10, 12, 109])
       (.cond (.tmp 109)
        (.skip)
        (.exit 6)))
       (.seq (.block 7 (.seq (.seq (.drw [⟨(some 112), .mv (.tmp 3), none⟩,
          ⟨(some 113), .mv (.tmp 0), none⟩,
          ⟨(some 114), .mv (.tmp 12), none⟩,
          ⟨(some 115), .iaddr 2 (.tmp 113) (.tmp 114), none⟩,
          ⟨(some 116), .load (some 2) (.tmp 115), none⟩,
          ⟨(some 117), .mv (.tmp 0), none⟩,
          ⟨(some 118), .mv (.tmp 12), none⟩,
          ⟨(some 119), .bin .sub 3 (.tmp 118) (.con (.sc (.int .i64 1))), none⟩,
          ⟨(some 120), .iaddr 2 (.tmp 117) (.tmp 119), none⟩,
          ⟨(some 121), .load (some 2) (.tmp 120), none⟩,
          ⟨(some 122), .callv (.tmp 112) [(.tmp 116), (.tmp 121)], none⟩,
          ⟨(some 123), .bin .lss 3 (.tmp 122) (.con (.sc (.int .i64 0))), none⟩,
          ⟨(some 124), .un .not (.tmp 123), none⟩] [0, 0, 0, 6, 14, 0, 0, 64, 224, 480, 1023, 2047, 4095] [0, 1, 2, 3, 9, 10, 12, 124])
        (.cond (.tmp 124)
         (.exit 6)
         (.skip)))
        (.drw [⟨(some 125), .mv (.tmp 0), none⟩,
          ⟨(some 126), .mv (.tmp 12), none⟩,
          ⟨(some 127), .mv (.tmp 0), none⟩,
          ⟨(some 128), .mv (.tmp 12), none⟩,
          ⟨(some 129), .bin .sub 3 (.tmp 128) (.con (.sc (.int .i64 1))), none⟩,
          ⟨(some 130), .mv (.tmp 0), none⟩,
          ⟨(some 131), .mv (.tmp 12), none⟩,
          ⟨(some 132), .bin .sub 3 (.tmp 131) (.con (.sc (.int .i64 1))), none⟩,
          ⟨(some 133), .iaddr 2 (.tmp 130) (.tmp 132), none⟩,
          ⟨(some 134), .load (some 2) (.tmp 133), none⟩,
          ⟨(some 135), .mv (.tmp 0), none⟩,
          ⟨(some 136), .mv (.tmp 12), none⟩,
          ⟨(some 137), .iaddr 2 (.tmp 135) (.tmp 136), none⟩,
          ⟨(some 138), .load (some 2) (.tmp 137), none⟩,
          ⟨(some 139), .iaddr 2 (.tmp 125) (.tmp 126), none⟩,
          ⟨none, .store 2 (.tmp 139) (.tmp 134), none⟩,
          ⟨(some 140), .iaddr 2 (.tmp 127) (.tmp 129), none⟩,
          ⟨none, .store 2 (.tmp 140) (.tmp 138), none⟩] [0, 0, 0, 0, 8, 0, 0, 64, 224, 480, 0, 0, 3072, 7168, 16355, 32739, 65535, 131071] [0, 1, 2, 3, 9, 10, 12])))
       (.reg [⟨(some 110), .mv (.tmp 12), none⟩,
         ⟨(some 111), .bin .add 3 (.tmp 110) (.con (.sc (.int .i64 1))), none⟩,
         ⟨(some 12), .mv (.tmp 111), none⟩] [0, 1, 2, 3, 9, 10, 12]))))))
     (.skip)))))))))
   (.reg [⟨(some 17), .mv (.tmp 10), none⟩,
     ⟨(some 18), .bin .add 3 (.tmp 17) (.con (.sc (.int .i64 1))), none⟩,
     ⟨(some 10), .mv (.tmp 18), none⟩] [0, 1, 2, 3, 9, 10]))))))
 (.seq (.reg [⟨(some 8), .mv (.con (.sc (.bool false))), none⟩] [8])
 (.ret)))),
 141, [.tmp 8], .made⟩
def h146 : List Hint := [.keep [0, 1, 2, 3], .keep [0, 1, 2, 3, 9], .keep [0, 1, 2, 3, 9, 10], .keep [0, 1, 2, 3, 9, 10, 16], .keep [0, 1, 2, 3, 9, 10, 36], .keep [0, 1, 2, 3, 9, 10], .keep [0, 1, 2, 3, 9, 10, 41], .keep [8], .keep [0, 1, 2, 3, 9, 10, 45], .keep [8], .keep [0, 1, 2, 3, 9, 10], .keep [0, 1, 2, 3, 9, 10, 65], .keep [0, 1, 2, 3, 9, 10, 11], .keep [0, 1, 2, 3, 9, 10, 11, 69], .keep [0, 1, 2, 3, 9, 10, 11, 84], .keep [0, 1, 2, 3, 9, 10, 11], .keep [0, 1, 2, 3, 9, 10, 11], .keep [0, 1, 2, 3, 9, 10, 104], .keep [0, 1, 2, 3, 9, 10, 12], .keep [0, 1, 2, 3, 9, 10, 12, 109], .keep [0, 1, 2, 3, 9, 10, 12, 124], .keep [0, 1, 2, 3, 9, 10, 12], .keep [0, 1, 2, 3, 9, 10, 12], .keep [0, 1, 2, 3, 9, 10], .keep [8]]
theorem g146 : digFn Tryz.prog Tryz.f146 h146 .made = some d146 := by kernel_rfl

/-- slices.partitionEqualCmpFunc[deadbolt/api.File] -/
def d147 : DFn := ⟨.seq (.reg [⟨(some 10), .mv (.con (.sc (.int .i64 0))), none⟩] [0, 1, 2, 3, 4])
 (.seq (.drw [⟨(some 13), .mv (.tmp 0), none⟩,
   ⟨(some 14), .mv (.tmp 1), none⟩,
   ⟨(some 15), .mv (.tmp 0), none⟩,
   ⟨(some 16), .mv (.tmp 3), none⟩,
   ⟨(some 17), .mv (.tmp 0), none⟩,
   ⟨(some 18), .mv (.tmp 3), none⟩,
   ⟨(some 19), .iaddr 2 (.tmp 17) (.tmp 18), none⟩,
   ⟨(some 20), .load (some 2) (.tmp 19), none⟩,
   ⟨(some 21), .mv (.tmp 0), none⟩,
   ⟨(some 22), .mv (.tmp 1), none⟩,
   ⟨(some 23), .iaddr 2 (.tmp 21) (.tmp 22), none⟩,
   ⟨(some 24), .load (some 2) (.tmp 23), none⟩,
   ⟨(some 25), .iaddr 2 (.tmp 13) (.tmp 14), none⟩,
   ⟨none, .store 2 (.tmp 25) (.tmp 20), none⟩,
   ⟨(some 26), .iaddr 2 (.tmp 15) (.tmp 16), none⟩,
   ⟨none, .store 2 (.tmp 26) (.tmp 24), none⟩] [0, 0, 0, 0, 0, 0, 48, 112, 0, 0, 768, 1792, 4083, 8179, 16383, 32767] [0, 1, 2, 4])
 (.seq (.reg [⟨(some 27), .mv (.tmp 1), none⟩,
   ⟨(some 28), .bin .add 3 (.tmp 27) (.con (.sc (.int .i64 1))), none⟩,
   ⟨(some 29), .mv (.tmp 2), none⟩,
   ⟨(some 30), .bin .sub 3 (.tmp 29) (.con (.sc (.int .i64 1))), none⟩,
   ⟨(some 11), .mv (.tmp 28), none⟩,
   ⟨(some 12), .mv (.tmp 30), none⟩] [0, 1, 4, 11, 12])
 (.seq (.block 0 (.loop (.block 1 (.seq (.block 2 (.loop (.seq (.seq (.drw [⟨(some 31), .mv (.tmp 11), none⟩,
        ⟨(some 32), .mv (.tmp 12), none⟩,
        ⟨(some 33), .bin .leq 3 (.tmp 31) (.tmp 32), none⟩,
        ⟨(some 34), .mv (.tmp 33), none⟩,
        ⟨(some 35), .mv (.tmp 4), (some (34, true))⟩,
        ⟨(some 36), .mv (.tmp 0), (some (34, true))⟩,
        ⟨(some 37), .mv (.tmp 1), (some (34, true))⟩,
        ⟨(some 38), .iaddr 2 (.tmp 36) (.tmp 37), (some (34, true))⟩,
        ⟨(some 39), .load (some 2) (.tmp 38), (some (34, true))⟩,
        ⟨(some 40), .mv (.tmp 0), (some (34, true))⟩,
        ⟨(some 41), .mv (.tmp 11), (some (34, true))⟩,
        ⟨(some 42), .iaddr 2 (.tmp 40) (.tmp 41), (some (34, true))⟩,
        ⟨(some 43), .load (some 2) (.tmp 42), (some (34, true))⟩,
        ⟨(some 44), .callv (.tmp 35) [(.tmp 39), (.tmp 43)], (some (34, true))⟩,
        ⟨(some 45), .bin .lss 3 (.tmp 44) (.con (.sc (.int .i64 0))), (some (34, true))⟩,
        ⟨(some 46), .un .not (.tmp 45), (some (34, true))⟩,
        ⟨(some 47), .pick (.tmp 34) (.tmp 46) (.con (.sc (.bool false))), none⟩] [0, 0, 3, 7, 15, 15, 15, 111, 239, 15, 15, 1551, 3599, 8191, 16383, 32767, 65535] [0, 1, 4, 11, 12, 47])
      (.cond (.tmp 47)
       (.skip)
       (.exit 2)))
      (.block 3 (.reg [⟨(some 48), .mv (.tmp 11), none⟩,
         ⟨(some 49), .bin .add 3 (.tmp 48) (.con (.sc (.int .i64 1))), none⟩,
         ⟨(some 11), .mv (.tmp 49), none⟩] [0, 1, 4, 11, 12])))))
    (.seq (.block 4 (.loop (.seq (.seq (.drw [⟨(some 50), .mv (.tmp 11), none⟩,
        ⟨(some 51), .mv (.tmp 12), none⟩,
        ⟨(some 52), .bin .leq 3 (.tmp 50) (.tmp 51), none⟩,
        ⟨(some 53), .mv (.tmp 52), none⟩,
        ⟨(some 54), .mv (.tmp 4), (some (53, true))⟩,
        ⟨(some 55), .mv (.tmp 0), (some (53, true))⟩,
        ⟨(some 56), .mv (.tmp 1), (some (53, true))⟩,
        ⟨(some 57), .iaddr 2 (.tmp 55) (.tmp 56), (some (53, true))⟩,
        ⟨(some 58), .load (some 2) (.tmp 57), (some (53, true))⟩,
        ⟨(some 59), .mv (.tmp 0), (some (53, true))⟩,
        ⟨(some 60), .mv (.tmp 12), (some (53, true))⟩,
        ⟨(some 61), .iaddr 2 (.tmp 59) (.tmp 60), (some (53, true))⟩,
        ⟨(some 62), .load (some 2) (.tmp 61), (some (53, true))⟩,
        ⟨(some 63), .callv (.tmp 54) [(.tmp 58), (.tmp 62)], (some (53, true))⟩,
        ⟨(some 64), .bin .lss 3 (.tmp 63) (.con (.sc (.int .i64 0))), (some (53, true))⟩,
        ⟨(some 65), .pick (.tmp 53) (.tmp 64) (.con (.sc (.bool false))), none⟩] [0, 0, 3, 7, 15, 15, 15, 111, 239, 15, 15, 1551, 3599, 8191, 16383, 32767] [0, 1, 4, 11, 12, 65])
      (.cond (.tmp 65)
       (.skip)
       (.exit 4)))
      (.block 5 (.reg [⟨(some 66), .mv (.tmp 12), none⟩,
         ⟨(some 67), .bin .sub 3 (.tmp 66) (.con (.sc (.int .i64 1))), none⟩,
         ⟨(some 12), .mv (.tmp 67), none⟩] [0, 1, 4, 11, 12])))))
    (.seq (.seq (.reg [⟨(some 68), .mv (.tmp 11), none⟩,
      ⟨(some 69), .mv (.tmp 12), none⟩,
      ⟨(some 70), .bin .gtr 3 (.tmp 68) (.tmp 69), none⟩] [0, 1, 4, 11, 12, 70])
    (.cond (.tmp 70)
     (.exit 0)
     (.skip)))
    (.seq (.drw [⟨(some 71), .mv (.tmp 0), none⟩,
      ⟨(some 72), .mv (.tmp 11), none⟩,
      ⟨(some 73), .mv (.tmp 0), none⟩,
      ⟨(some 74), .mv (.tmp 12), none⟩,
      ⟨(some 75), .mv (.tmp 0), none⟩,
      ⟨(some 76), .mv (.tmp 12), none⟩,
      ⟨(some 77), .iaddr 2 (.tmp 75) (.tmp 76), none⟩,
      ⟨(some 78), .load (some 2) (.tmp 77), none⟩,
      ⟨(some 79), .mv (.tmp 0), none⟩,
      ⟨(some 80), .mv (.tmp 11), none⟩,
      ⟨(some 81), .iaddr 2 (.tmp 79) (.tmp 80), none⟩,
      ⟨(some 82), .load (some 2) (.tmp 81), none⟩,
      ⟨(some 83), .iaddr 2 (.tmp 71) (.tmp 72), none⟩,
      ⟨none, .store 2 (.tmp 83) (.tmp 78), none⟩,
      ⟨(some 84), .iaddr 2 (.tmp 73) (.tmp 74), none⟩,
      ⟨none, .store 2 (.tmp 84) (.tmp 82), none⟩] [0, 0, 0, 0, 0, 0, 48, 112, 0, 0, 768, 1792, 4083, 8179, 16383, 32767] [0, 1, 4, 11, 12])
    (.seq (.reg [⟨(some 85), .mv (.tmp 11), none⟩,
      ⟨(some 86), .bin .add 3 (.tmp 85) (.con (.sc (.int .i64 1))), none⟩,
      ⟨(some 11), .mv (.tmp 86), none⟩] [0, 1, 4, 11, 12])
    (.reg [⟨(some 87), .mv (.tmp 12), none⟩,
      ⟨(some 88), .bin .sub 3 (.tmp 87) (.con (.sc (.int .i64 1))), none⟩,
      ⟨(some 12), .mv (.tmp 88), none⟩] [0, 1, 4, 11, 12])))))))))
 (.seq (.reg [⟨(some 89), .mv (.tmp 11), none⟩,
   ⟨(some 10), .mv (.tmp 89), none⟩] [10])
 (.ret))))),
 90, [.tmp 10], .made⟩
def h147 : List Hint := [.keep [0, 1, 2, 3, 4], .keep [0, 1, 2, 4], .keep [0, 1, 4, 11, 12], .keep [0, 1, 4, 11, 12, 47], .keep [0, 1, 4, 11, 12], .keep [0, 1, 4, 11, 12, 65], .keep [0, 1, 4, 11, 12], .keep [0, 1, 4, 11, 12, 70], .keep [0, 1, 4, 11, 12], .keep [0, 1, 4, 11, 12], .keep [0, 1, 4, 11, 12], .keep [10]]
theorem g147 : digFn Tryz.prog Tryz.f147 h147 .made = some d147 := by kernel_rfl

/-- slices.partitionCmpFunc[deadbolt/api.File] -/
def d148 : DFn := ⟨.seq (.reg [⟨(some 10), .mv (.con (.sc (.int .i64 0))), none⟩,
   ⟨(some 11), .mv (.con (.sc (.bool false))), none⟩] [0, 1, 2, 3, 4])
 (.seq (.drw [⟨(some 14), .mv (.tmp 0), none⟩,
   ⟨(some 15), .mv (.tmp 1), none⟩,
   ⟨(some 16), .mv (.tmp 0), none⟩,
   ⟨(some 17), .mv (.tmp 3), none⟩,
   ⟨(some 18), .mv (.tmp 0), none⟩,
   ⟨(some 19), .mv (.tmp 3), none⟩,
   ⟨(some 20), .iaddr 2 (.tmp 18) (.tmp 19), none⟩,
   ⟨(some 21), .load (some 2) (.tmp 20), none⟩,
   ⟨(some 22), .mv (.tmp 0), none⟩,
   ⟨(some 23), .mv (.tmp 1), none⟩,
   ⟨(some 24), .iaddr 2 (.tmp 22) (.tmp 23), none⟩,
   ⟨(some 25), .load (some 2) (.tmp 24), none⟩,
   ⟨(some 26), .iaddr 2 (.tmp 14) (.tmp 15), none⟩,
   ⟨none, .store 2 (.tmp 26) (.tmp 21), none⟩,
   ⟨(some 27), .iaddr 2 (.tmp 16) (.tmp 17), none⟩,
   ⟨none, .store 2 (.tmp 27) (.tmp 25), none⟩] [0, 0, 0, 0, 0, 0, 48, 112, 0, 0, 768, 1792, 4083, 8179, 16383, 32767] [0, 1, 2, 4])
 (.seq (.reg [⟨(some 28), .mv (.tmp 1), none⟩,
   ⟨(some 29), .bin .add 3 (.tmp 28) (.con (.sc (.int .i64 1))), none⟩,
   ⟨(some 30), .mv (.tmp 2), none⟩,
   ⟨(some 31), .bin .sub 3 (.tmp 30) (.con (.sc (.int .i64 1))), none⟩,
   ⟨(some 12), .mv (.tmp 29), none⟩,
   ⟨(some 13), .mv (.tmp 31), none⟩] [0, 1, 4, 12, 13])
 (.seq (.block 0 (.loop (.seq (.seq (.drw [⟨(some 32), .mv (.tmp 12), none⟩,
     ⟨(some 33), .mv (.tmp 13), none⟩,
     ⟨(some 34), .bin .leq 3 (.tmp 32) (.tmp 33), none⟩,
     ⟨(some 35), .mv (.tmp 34), none⟩,
     ⟨(some 36), .mv (.tmp 4), (some (35, true))⟩,
     ⟨(some 37), .mv (.tmp 0), (some (35, true))⟩,
     ⟨(some 38), .mv (.tmp 12), (some (35, true))⟩,
     ⟨(some 39), .iaddr 2 (.tmp 37) (.tmp 38), (some (35, true))⟩,
     ⟨(some 40), .load (some 2) (.tmp 39), (some (35, true))⟩,
     ⟨(some 41), .mv (.tmp 0), (some (35, true))⟩,
     ⟨(some 42), .mv (.tmp 1), (some (35, true))⟩,
     ⟨(some 43), .iaddr 2 (.tmp 41) (.tmp 42), (some (35, true))⟩,
     ⟨(some 44), .load (some 2) (.tmp 43), (some (35, true))⟩,
     ⟨(some 45), .callv (.tmp 36) [(.tmp 40), (.tmp 44)], (some (35, true))⟩,
     ⟨(some 46), .bin .lss 3 (.tmp 45) (.con (.sc (.int .i64 0))), (some (35, true))⟩,
     ⟨(some 47), .pick (.tmp 35) (.tmp 46) (.con (.sc (.bool false))), none⟩] [0, 0, 3, 7, 15, 15, 15, 111, 239, 15, 15, 1551, 3599, 8191, 16383, 32767] [0, 1, 4, 12, 13, 47])
   (.cond (.tmp 47)
    (.skip)
    (.exit 0)))
   (.block 1 (.reg [⟨(some 48), .mv (.tmp 12), none⟩,
      ⟨(some 49), .bin .add 3 (.tmp 48) (.con (.sc (.int .i64 1))), none⟩,
      ⟨(some 12), .mv (.tmp 49), none⟩] [0, 1, 4, 12, 13])))))
 (.seq (.block 2 (.loop (.seq (.seq (.drw [⟨(some 50), .mv (.tmp 12), none⟩,
     ⟨(some 51), .mv (.tmp 13), none⟩,
     ⟨(some 52), .bin .leq 3 (.tmp 50) (.tmp 51), none⟩,
     ⟨(some 53), .mv (.tmp 52), none⟩,
     ⟨(some 54), .mv (.tmp 4), (some (53, true))⟩,
     ⟨(some 55), .mv (.tmp 0), (some (53, true))⟩,
     ⟨(some 56), .mv (.tmp 13), (some (53, true))⟩,
     ⟨(some 57), .iaddr 2 (.tmp 55) (.tmp 56), (some (53, true))⟩,
     ⟨(some 58), .load (some 2) (.tmp 57), (some (53, true))⟩,
     ⟨(some 59), .mv (.tmp 0), (some (53, true))⟩,
     ⟨(some 60), .mv (.tmp 1), (some (53, true))⟩,
     ⟨(some 61), .iaddr 2 (.tmp 59) (.tmp 60), (some (53, true))⟩,
     ⟨(some 62), .load (some 2) (.tmp 61), (some (53, true))⟩,
     ⟨(some 63), .callv (.tmp 54) [(.tmp 58), (.tmp 62)], (some (53, true))⟩,
     ⟨(some 64), .bin .lss 3 (.tmp 63) (.con (.sc (.int .i64 0))), (some (53, true))⟩,
     ⟨(some 65), .un .not (.tmp 64), (some (53, true))⟩,
     ⟨(some 66), .pick (.tmp 53) (.tmp 65) (.con (.sc (.bool false))), none⟩] [0, 0, 3, 7, 15, 15, 15, 111, 239, 15, 15, 1551, 3599, 8191, 16383, 32767, 65535] [0, 1, 4, 12, 13, 66])
   (.cond (.tmp 66)
    (.skip)
    (.exit 2)))
   (.block 3 (.reg [⟨(some 67), .mv (.tmp 13), none⟩,
      ⟨(some 68), .bin .sub 3 (.tmp 67) (.con (.sc (.int .i64 1))), none⟩,
      ⟨(some 13), .mv (.tmp 68), none⟩] [0, 1, 4, 12, 13])))))
 (.seq (.seq (.reg [⟨(some 69), .mv (.tmp 12), none⟩,
   ⟨(some 70), .mv (.tmp 13), none⟩,
   ⟨(some 71), .bin .gtr 3 (.tmp 69) (.tmp 70), none⟩] [0, 1, 4, 12, 13, 71])
 (.cond (.tmp 71)
  (.seq (.drw [⟨(some 72), .mv (.tmp 0), none⟩,
    ⟨(some 73), .mv (.tmp 13), none⟩,
    ⟨(some 74), .mv (.tmp 0), none⟩,
    ⟨(some 75), .mv (.tmp 1), none⟩,
    ⟨(some 76), .mv (.tmp 0), none⟩,
    ⟨(some 77), .mv (.tmp 1), none⟩,
    ⟨(some 78), .iaddr 2 (.tmp 76) (.tmp 77), none⟩,
    ⟨(some 79), .load (some 2) (.tmp 78), none⟩,
    ⟨(some 80), .mv (.tmp 0), none⟩,
    ⟨(some 81), .mv (.tmp 13), none⟩,
    ⟨(some 82), .iaddr 2 (.tmp 80) (.tmp 81), none⟩,
    ⟨(some 83), .load (some 2) (.tmp 82), none⟩,
    ⟨(some 84), .iaddr 2 (.tmp 72) (.tmp 73), none⟩,
    ⟨none, .store 2 (.tmp 84) (.tmp 79), none⟩,
    ⟨(some 85), .iaddr 2 (.tmp 74) (.tmp 75), none⟩,
    ⟨none, .store 2 (.tmp 85) (.tmp 83), none⟩] [0, 0, 0, 0, 0, 0, 48, 112, 0, 0, 768, 1792, 4083, 8179, 16383, 32767] [13])
  (.seq (.reg [⟨(some 86), .mv (.tmp 13), none⟩,
    ⟨(some 10), .mv (.tmp 86), none⟩,
    ⟨(some 11), .mv (.con (.sc (.bool true))), none⟩] [10, 11])
  (.ret)))
  (.skip)))
 (.seq (.drw [⟨(some 87), .mv (.tmp 0), none⟩,
   ⟨(some 88), .mv (.tmp 12), none⟩,
   ⟨(some 89), .mv (.tmp 0), none⟩,
   ⟨(some 90), .mv (.tmp 13), none⟩,
   ⟨(some 91), .mv (.tmp 0), none⟩,
   ⟨(some 92), .mv (.tmp 13), none⟩,
   ⟨(some 93), .iaddr 2 (.tmp 91) (.tmp 92), none⟩,
   ⟨(some 94), .load (some 2) (.tmp 93), none⟩,
   ⟨(some 95), .mv (.tmp 0), none⟩,
   ⟨(some 96), .mv (.tmp 12), none⟩,
   ⟨(some 97), .iaddr 2 (.tmp 95) (.tmp 96), none⟩,
   ⟨(some 98), .load (some 2) (.tmp 97), none⟩,
   ⟨(some 99), .iaddr 2 (.tmp 87) (.tmp 88), none⟩,
   ⟨none, .store 2 (.tmp 99) (.tmp 94), none⟩,
   ⟨(some 100), .iaddr 2 (.tmp 89) (.tmp 90), none⟩,
   ⟨none, .store 2 (.tmp 100) (.tmp 98), none⟩] [0, 0, 0, 0, 0, 0, 48, 112, 0, 0, 768, 1792, 4083, 8179, 16383, 32767] [0, 1, 4, 12, 13])
 (.seq (.reg [⟨(some 101), .mv (.tmp 12), none⟩,
   ⟨(some 102), .bin .add 3 (.tmp 101) (.con (.sc (.int .i64 1))), none⟩,
   ⟨(some 12), .mv (.tmp 102), none⟩] [0, 1, 4, 12, 13])
 (.seq (.reg [⟨(some 103), .mv (.tmp 13), none⟩,
   ⟨(some 104), .bin .sub 3 (.tmp 103) (.con (.sc (.int .i64 1))), none⟩,
   ⟨(some 13), .mv (.tmp 104), none⟩] [0, 1, 4, 12, 13])
 (.seq (.block 4 (.loop (.block 5 (.seq (.block 6 (.loop (.seq (.seq (.drw [⟨(some 105), .mv (.tmp 12), none⟩,
        ⟨(some 106), .mv (.tmp 13), none⟩,
        ⟨(some 107), .bin .leq 3 (.tmp 105) (.tmp 106), none⟩,
        ⟨(some 108), .mv (.tmp 107), none⟩,
        ⟨(some 109), .mv (.tmp 4), (some (108, true))⟩,
        ⟨(some 110), .mv (.tmp 0), (some (108, true))⟩,
        ⟨(some 111), .mv (.tmp 12), (some (108, true))⟩,
        ⟨(some 112), .iaddr 2 (.tmp 110) (.tmp 111), (some (108, true))⟩,
        ⟨(some 113), .load (some 2) (.tmp 112), (some (108, true))⟩,
        ⟨(some 114), .mv (.tmp 0), (some (108, true))⟩,
        ⟨(some 115), .mv (.tmp 1), (some (108, true))⟩,
        ⟨(some 116), .iaddr 2 (.tmp 114) (.tmp 115), (some (108, true))⟩,
        ⟨(some 117), .load (some 2) (.tmp 116), (some (108, true))⟩,
        ⟨(some 118), .callv (.tmp 109) [(.tmp 113), (.tmp 117)], (some (108, true))⟩,
        ⟨(some 119), .bin .lss 3 (.tmp 118) (.con (.sc (.int .i64 0))), (some (108, true))⟩,
        ⟨(some 120), .pick (.tmp 108) (.tmp 119) (.con (.sc (.bool false))), none⟩] [0, 0, 3, 7, 15, 15, 15, 111, 239, 15, 15, 1551, 3599, 8191, 16383, 32767] [0, 1, 4, 12, 13, 120])
      (.cond (.tmp 120)
       (.skip)
       (.exit 6)))
      (.block 7 (.reg [⟨(some 121), .mv (.tmp 12), none⟩,
         ⟨(some 122), .bin .add 3 (.tmp 121) (.con (.sc (.int .i64 1))), none⟩,
         ⟨(some 12), .mv (.tmp 122), none⟩] [0, 1, 4, 12, 13])))))
    (.seq (.block 8 (.loop (.seq (.seq (.drw [⟨(some 123), .mv (.tmp 12), none⟩,
        ⟨(some 124), .mv (.tmp 13), none⟩,
        ⟨(some 125), .bin .leq 3 (.tmp 123) (.tmp 124), none⟩,
        ⟨(some 126), .mv (.tmp 125), none⟩,
        ⟨(some 127), .mv (.tmp 4), (some (126, true))⟩,
        ⟨(some 128), .mv (.tmp 0), (some (126, true))⟩,
        ⟨(some 129), .mv (.tmp 13), (some (126, true))⟩,
        ⟨(some 130), .iaddr 2 (.tmp 128) (.tmp 129), (some (126, true))⟩,
        ⟨(some 131), .load (some 2) (.tmp 130), (some (126, true))⟩,
        ⟨(some 132), .mv (.tmp 0), (some (126, true))⟩,
        ⟨(some 133), .mv (.tmp 1), (some (126, true))⟩,
        ⟨(some 134), .iaddr 2 (.tmp 132) (.tmp 133), (some (126, true))⟩,
        ⟨(some 135), .load (some 2) (.tmp 134), (some (126, true))⟩,
        ⟨(some 136), .callv (.tmp 127) [(.tmp 131), (.tmp 135)], (some (126, true))⟩,
        ⟨(some 137), .bin .lss 3 (.tmp 136) (.con (.sc (.int .i64 0))), (some (126, true))⟩,
        ⟨(some 138), .un .not (.tmp 137), (some (126, true))⟩,
        ⟨(some 139), .pick (.tmp 126) (.tmp 138) (.con (.sc (.bool false))), none⟩] [0, 0, 3, 7, 15, 15, 15, 111, 239, 15, 15, 1551, 3599, 8191, 16383, 32767, 65535] [0, 1, 4, 12, 13, 139])
      (.cond (.tmp 139)
       (.skip)
       (.exit 8)))
      (.block 9 (.reg [⟨(some 140), .mv (.tmp 13), none⟩,
         ⟨(some 141), .bin .sub 3 (.tmp 140) (.con (.sc (.int .i64 1))), none⟩,
         ⟨(some 13), .mv (.tmp 141), none⟩] [0, 1, 4, 12, 13])))))
    (.seq (.seq (.reg [⟨(some 142), .mv (.tmp 12), none⟩,
      ⟨(some 143), .mv (.tmp 13), none⟩,
      ⟨(some 144), .bin .gtr 3 (.tmp 142) (.tmp 143), none⟩] [0, 1, 4, 12, 13, 144])
    (.cond (.tmp 144)
     (.exit 4)
     (.skip)))
    (.seq (.drw [⟨(some 145), .mv (.tmp 0), none⟩,
      ⟨(some 146), .mv (.tmp 12), none⟩,
      ⟨(some 147), .mv (.tmp 0), none⟩,
      ⟨(some 148), .mv (.tmp 13), none⟩,
      ⟨(some 149), .mv (.tmp 0), none⟩,
      ⟨(some 150), .mv (.tmp 13), none⟩,
      ⟨(some 151), .iaddr 2 (.tmp 149) (.tmp 150), none⟩,
      ⟨(some 152), .load (some 2) (.tmp 151), none⟩,
      ⟨(some 153), .mv (.tmp 0), none⟩,
      ⟨(some 154), .mv (.tmp 12), none⟩,
      ⟨(some 155), .iaddr 2 (.tmp 153) (.tmp 154), none⟩,
      ⟨(some 156), .load (some 2) (.tmp 155), none⟩,
      ⟨(some 157), .iaddr 2 (.tmp 145) (.tmp 146), none⟩,
      ⟨none, .store 2 (.tmp 157) (.tmp 152), none⟩,
      ⟨(some 158), .iaddr 2 (.tmp 147) (.tmp 148), none⟩,
      ⟨none, .store 2 (.tmp 158) (.tmp 156), none⟩] [0, 0, 0, 0, 0, 0, 48, 112, 0, 0, 768, 1792, 4083, 8179, 16383, 32767] [0, 1, 4, 12, 13])
    (.seq (.reg [⟨(some 159), .mv (.tmp 12), none⟩,
      ⟨(some 160), .bin .add 3 (.tmp 159) (.con (.sc (.int .i64 1))), none⟩,
      ⟨(some 12), .mv (.tmp 160), none⟩] [0, 1, 4, 12, 13])
    (.reg [⟨(some 161), .mv (.tmp 13), none⟩,
      ⟨(some 162), .bin .sub 3 (.tmp 161) (.con (.sc (.int .i64 1))), none⟩,
      ⟨(some 13), .mv (.tmp 162), none⟩] [0, 1, 4, 12, 13])))))))))
 (.seq (.drw [⟨(some 163), .mv (.tmp 0), none⟩,
   ⟨(some 164), .mv (.tmp 13), none⟩,
   ⟨(some 165), .mv (.tmp 0), none⟩,
   ⟨(some 166), .mv (.tmp 1), none⟩,
   ⟨(some 167), .mv (.tmp 0), none⟩,
   ⟨(some 168), .mv (.tmp 1), none⟩,
   ⟨(some 169), .iaddr 2 (.tmp 167) (.tmp 168), none⟩,
   ⟨(some 170), .load (some 2) (.tmp 169), none⟩,
   ⟨(some 171), .mv (.tmp 0), none⟩,
   ⟨(some 172), .mv (.tmp 13), none⟩,
   ⟨(some 173), .iaddr 2 (.tmp 171) (.tmp 172), none⟩,
   ⟨(some 174), .load (some 2) (.tmp 173), none⟩,
   ⟨(some 175), .iaddr 2 (.tmp 163) (.tmp 164), none⟩,
   ⟨none, .store 2 (.tmp 175) (.tmp 170), none⟩,
   ⟨(some 176), .iaddr 2 (.tmp 165) (.tmp 166), none⟩,
   ⟨none, .store 2 (.tmp 176) (.tmp 174), none⟩] [0, 0, 0, 0, 0, 0, 48, 112, 0, 0, 768, 1792, 4083, 8179, 16383, 32767] [13])
 (.seq (.reg [⟨(some 177), .mv (.tmp 13), none⟩,
   ⟨(some 10), .mv (.tmp 177), none⟩,
   ⟨(some 11), .mv (.con (.sc (.bool false))), none⟩] [10, 11])
 (.ret)))))))))))),
 178, [.tmp 10, .tmp 11], .made⟩
def h148 : List Hint := [.keep [0, 1, 2, 3, 4], .keep [0, 1, 2, 4], .keep [0, 1, 4, 12, 13], .keep [0, 1, 4, 12, 13, 47], .keep [0, 1, 4, 12, 13], .keep [0, 1, 4, 12, 13, 66], .keep [0, 1, 4, 12, 13], .keep [0, 1, 4, 12, 13, 71], .keep [13], .keep [10, 11], .keep [0, 1, 4, 12, 13], .keep [0, 1, 4, 12, 13], .keep [0, 1, 4, 12, 13], .keep [0, 1, 4, 12, 13, 120], .keep [0, 1, 4, 12, 13], .keep [0, 1, 4, 12, 13, 139], .keep [0, 1, 4, 12, 13], .keep [0, 1, 4, 12, 13, 144], .keep [0, 1, 4, 12, 13], .keep [0, 1, 4, 12, 13], .keep [0, 1, 4, 12, 13], .keep [13], .keep [10, 11]]
theorem g148 : digFn Tryz.prog Tryz.f148 h148 .made = some d148 := by kernel_rfl

/-- deadbolt/lex.letter -/
def d152 : DFn := ⟨.seq (.reg [⟨(some 2), .mv (.con (.sc (.bool false))), none⟩] [0])
 (.seq (.reg [⟨(some 3), .mv (.tmp 0), none⟩,
   ⟨(some 4), .bin .geq 21 (.tmp 3) (.con (.sc (.int .i32 97))), none⟩,
   ⟨(some 5), .mv (.tmp 4), none⟩,
   ⟨(some 6), .mv (.tmp 0), (some (5, true))⟩,
   ⟨(some 7), .bin .leq 21 (.tmp 6) (.con (.sc (.int .i32 122))), (some (5, true))⟩,
   ⟨(some 8), .pick (.tmp 5) (.tmp 7) (.con (.sc (.bool false))), none⟩,
   ⟨(some 2), .mv (.tmp 8), none⟩] [2])
 (.ret)),
 9, [.tmp 2], .pure⟩
def h152 : List Hint := [.keep [0], .keep [2]]
theorem g152 : digFn Tryz.prog Tryz.f152 h152 .pure = some d152 := by kernel_rfl

/-- deadbolt/lex.row -/
def d153 : DFn := ⟨.seq (.reg [⟨(some 2), .mv (.con (.sc (.int .i64 0))), none⟩] [0])
 (.seq (.seq (.reg [⟨(some 5), .mv (.tmp 0), none⟩,
   ⟨(some 6), .rngS (.tmp 5), none⟩] [0, 6])
 (.block 0 (.loop (.seq (.reg [⟨(some 7), .nxtS (.tmp 6), none⟩,
     ⟨(some 8), .extr (.tmp 7) 0, none⟩] [0, 6, 7, 8])
   (.seq (.cond (.tmp 8)
    (.skip)
    (.exit 0))
   (.block 1 (.seq (.reg [⟨(some 9), .extr (.tmp 7) 1, none⟩,
      ⟨(some 10), .extr (.tmp 7) 2, none⟩,
      ⟨(some 3), .mv (.tmp 9), none⟩,
      ⟨(some 4), .mv (.tmp 10), none⟩] [0, 3, 4, 6])
    (.seq (.reg [⟨(some 11), .mv (.tmp 4), none⟩,
      ⟨(some 12), .call 196 [(.tmp 11)], none⟩,
      ⟨(some 13), .un .not (.tmp 12), none⟩] [0, 3, 6, 13])
    (.cond (.tmp 13)
     (.seq (.reg [⟨(some 14), .mv (.tmp 3), none⟩,
       ⟨(some 2), .mv (.tmp 14), none⟩] [2])
     (.ret))
     (.skip))))))))))
 (.seq (.reg [⟨(some 15), .mv (.tmp 0), none⟩,
   ⟨(some 16), .len true (.tmp 15), none⟩,
   ⟨(some 2), .mv (.tmp 16), none⟩] [2])
 (.ret))),
 17, [.tmp 2], .pure⟩
def h153 : List Hint := [.keep [0], .keep [0, 6], .keep [0, 6, 7, 8], .keep [0, 3, 4, 6], .keep [0, 3, 6, 13], .keep [2], .keep [2]]
theorem g153 : digFn Tryz.prog Tryz.f153 h153 .pure = some d153 := by kernel_rfl

/-- deadbolt/lex.blank -/
def d155 : DFn := ⟨.seq (.reg [⟨(some 2), .mv (.con (.sc (.bool false))), none⟩] [0])
 (.seq (.reg [⟨(some 3), .mv (.tmp 0), none⟩,
   ⟨(some 4), .bin .eql 21 (.tmp 3) (.con (.sc (.int .i32 32))), none⟩,
   ⟨(some 5), .mv (.tmp 4), none⟩,
   ⟨(some 6), .mv (.tmp 0), (some (5, false))⟩,
   ⟨(some 7), .bin .eql 21 (.tmp 6) (.con (.sc (.int .i32 9))), (some (5, false))⟩,
   ⟨(some 8), .pick (.tmp 5) (.con (.sc (.bool true))) (.tmp 7), none⟩,
   ⟨(some 9), .mv (.tmp 8), none⟩,
   ⟨(some 10), .mv (.tmp 0), (some (9, false))⟩,
   ⟨(some 11), .bin .eql 21 (.tmp 10) (.con (.sc (.int .i32 10))), (some (9, false))⟩,
   ⟨(some 12), .pick (.tmp 9) (.con (.sc (.bool true))) (.tmp 11), none⟩,
   ⟨(some 2), .mv (.tmp 12), none⟩] [2])
 (.ret)),
 13, [.tmp 2], .pure⟩
def h155 : List Hint := [.keep [0], .keep [2]]
theorem g155 : digFn Tryz.prog Tryz.f155 h155 .pure = some d155 := by kernel_rfl

/-- (*deadbolt/parse.parser).next -/
def d156 : DFn := ⟨.seq (.reg [⟨(some 2), .alloc 154 [(.sc (.int .i64 0)), (.sc (.int .i64 0)), (.sc (.string ⟨#[]⟩))], none⟩] [0, 2])
 (.seq (.seq (.reg [⟨(some 3), .mv (.tmp 0), none⟩,
   ⟨(some 4), .nilc (.tmp 3), none⟩,
   ⟨(some 5), .faddr 0 (.tmp 4), none⟩,
   ⟨(some 6), .load none (.tmp 5), none⟩,
   ⟨(some 7), .len false (.tmp 6), none⟩,
   ⟨(some 8), .bin .eql 3 (.tmp 7) (.con (.sc (.int .i64 0))), none⟩] [0, 2, 8])
 (.cond (.tmp 8)
  (.seq (.reg [⟨(some 9), .mv (.tmp 0), none⟩,
    ⟨(some 10), .nilc (.tmp 9), none⟩,
    ⟨(some 11), .faddr 1 (.tmp 10), none⟩,
    ⟨(some 12), .load none (.tmp 11), none⟩,
    ⟨(some 13), .build [(.sc (.int .i64 0)), (.sc (.int .i64 0)), (.sc (.string ⟨#[]⟩))] [(1, 1, (.tmp 12))], none⟩,
    ⟨none, .store 3 (.tmp 2) (.tmp 13), none⟩] [2])
  (.ret))
  (.skip)))
 (.seq (.reg [⟨(some 14), .mv (.tmp 0), none⟩,
   ⟨(some 15), .nilc (.tmp 14), none⟩,
   ⟨(some 16), .faddr 0 (.tmp 15), none⟩,
   ⟨(some 17), .load none (.tmp 16), none⟩,
   ⟨(some 18), .iaddr 3 (.tmp 17) (.con (.sc (.int .i64 0))), none⟩,
   ⟨(some 19), .load (some 3) (.tmp 18), none⟩,
   ⟨none, .store 3 (.tmp 2) (.tmp 19), none⟩] [2])
 (.ret))),
 20, [.cell 2 (some 3)], .made⟩
def h156 : List Hint := [.keep [0, 2], .keep [0, 2, 8], .keep [2], .keep [2]]
theorem g156 : digFn Tryz.prog Tryz.f156 h156 .made = some d156 := by kernel_rfl

/-- (*deadbolt/parse.parser).take -/
def d157 : DFn := ⟨.seq (.reg [⟨(some 2), .alloc 154 [(.sc (.int .i64 0)), (.sc (.int .i64 0)), (.sc (.string ⟨#[]⟩))], none⟩] [0, 2])
 (.seq (.reg [⟨(some 4), .mv (.tmp 0), none⟩,
   ⟨(some 5), .call 156 [(.tmp 4)], none⟩,
   ⟨(some 3), .alloc 154 [(.sc (.int .i64 0)), (.sc (.int .i64 0)), (.sc (.string ⟨#[]⟩))], none⟩,
   ⟨none, .store 3 (.tmp 3) (.tmp 5), none⟩] [0, 2, 3])
 (.seq (.seq (.reg [⟨(some 6), .faddr 0 (.tmp 3), none⟩,
   ⟨(some 7), .load none (.tmp 6), none⟩,
   ⟨(some 8), .bin .eql 3 (.tmp 7) (.con (.sc (.int .i64 0))), none⟩] [0, 2, 3, 8])
 (.cond (.tmp 8)
  (.reg [⟨(some 9), .mv (.tmp 0), none⟩,
    ⟨(some 10), .call 160 [(.tmp 9), (.con (.sc (.int .i64 7)))], none⟩] [0, 2, 3])
  (.skip)))
 (.seq (.reg [⟨(some 11), .mv (.tmp 0), none⟩,
   ⟨(some 12), .mv (.tmp 0), none⟩,
   ⟨(some 13), .nilc (.tmp 12), none⟩,
   ⟨(some 14), .faddr 0 (.tmp 13), none⟩,
   ⟨(some 15), .load none (.tmp 14), none⟩,
   ⟨(some 16), .slc 3 (.tmp 15) (some (.con (.sc (.int .i64 1)))) none none, none⟩,
   ⟨(some 17), .nilc (.tmp 11), none⟩,
   ⟨(some 18), .faddr 0 (.tmp 17), none⟩,
   ⟨none, .store 1 (.tmp 18) (.tmp 16), none⟩] [2, 3])
 (.seq (.reg [⟨(some 19), .load (some 3) (.tmp 3), none⟩,
   ⟨none, .store 3 (.tmp 2) (.tmp 19), none⟩] [2])
 (.ret))))),
 20, [.cell 2 (some 3)], .made⟩
def h157 : List Hint := [.keep [0, 2], .keep [0, 2, 3], .keep [0, 2, 3, 8], .keep [0, 2, 3], .keep [2, 3], .keep [2]]
theorem g157 : digFn Tryz.prog Tryz.f157 h157 .made = some d157 := by kernel_rfl

/-- (*deadbolt/parse.parser).name -/
def d158 : DFn := ⟨.seq (.reg [⟨(some 2), .mv (.con (.sc (.string ⟨#[]⟩))), none⟩] [0])
 (.seq (.seq (.reg [⟨(some 4), .mv (.tmp 0), none⟩,
   ⟨(some 5), .call 156 [(.tmp 4)], none⟩,
   ⟨(some 3), .alloc 154 [(.sc (.int .i64 0)), (.sc (.int .i64 0)), (.sc (.string ⟨#[]⟩))], none⟩,
   ⟨none, .store 3 (.tmp 3) (.tmp 5), none⟩] [0, 3])
 (.seq (.reg [⟨(some 6), .faddr 0 (.tmp 3), none⟩,
   ⟨(some 7), .load none (.tmp 6), none⟩,
   ⟨(some 8), .bin .neq 3 (.tmp 7) (.con (.sc (.int .i64 1))), none⟩,
   ⟨(some 9), .mv (.tmp 8), none⟩,
   ⟨(some 10), .faddr 2 (.tmp 3), (some (9, false))⟩,
   ⟨(some 11), .load none (.tmp 10), (some (9, false))⟩,
   ⟨(some 12), .call 98 [(.tmp 11)], (some (9, false))⟩,
   ⟨(some 13), .un .not (.tmp 12), (some (9, false))⟩,
   ⟨(some 14), .pick (.tmp 9) (.con (.sc (.bool true))) (.tmp 13), none⟩] [0, 14])
 (.cond (.tmp 14)
  (.reg [⟨(some 15), .mv (.tmp 0), none⟩,
    ⟨(some 16), .call 160 [(.tmp 15), (.con (.sc (.int .i64 7)))], none⟩] [0])
  (.skip))))
 (.seq (.reg [⟨(some 17), .mv (.tmp 0), none⟩,
   ⟨(some 18), .call 157 [(.tmp 17)], none⟩,
   ⟨(some 19), .fld 2 none (.tmp 18), none⟩,
   ⟨(some 2), .mv (.tmp 19), none⟩] [2])
 (.ret))),
 20, [.tmp 2], .made⟩
def h158 : List Hint := [.keep [0], .keep [0, 3], .keep [0, 14], .keep [0], .keep [2]]
theorem g158 : digFn Tryz.prog Tryz.f158 h158 .made = some d158 := by kernel_rfl

/-- (*deadbolt/parse.parser).block -/
def d159 : DFn := ⟨.seq (.reg [⟨(some 4), .mv (.con (.lst 0 [] .nil)), none⟩] [0, 1])
 (.seq (.seq (.reg [⟨(some 6), .mv (.tmp 0), none⟩,
   ⟨(some 7), .call 156 [(.tmp 6)], none⟩,
   ⟨(some 8), .fld 0 none (.tmp 7), none⟩,
   ⟨(some 9), .bin .neq 3 (.tmp 8) (.con (.sc (.int .i64 2))), none⟩] [0, 1, 9])
 (.cond (.tmp 9)
  (.reg [⟨(some 10), .mv (.tmp 0), none⟩,
    ⟨(some 11), .call 160 [(.tmp 10), (.con (.sc (.int .i64 7)))], none⟩] [0, 1])
  (.skip)))
 (.seq (.seq (.reg [⟨(some 12), .mv (.tmp 1), none⟩,
   ⟨(some 13), .bin .geq 3 (.tmp 12) (.con (.sc (.int .i64 20))), none⟩] [0, 1, 13])
 (.cond (.tmp 13)
  (.reg [⟨(some 14), .mv (.tmp 0), none⟩,
    ⟨(some 15), .call 160 [(.tmp 14), (.con (.sc (.int .i64 8)))], none⟩] [0, 1])
  (.skip)))
 (.seq (.reg [⟨(some 16), .mv (.tmp 0), none⟩,
   ⟨(some 17), .call 157 [(.tmp 16)], none⟩] [0, 1])
 (.seq (.reg [⟨(some 5), .mv (.con (.lst 0 [] .nil)), none⟩] [0, 1, 5])
 (.seq (.block 0 (.virt 5 37 62 5 (.loop (.seq (.seq (.reg [⟨(some 18), .mv (.tmp 0), none⟩,
     ⟨(some 19), .call 156 [(.tmp 18)], none⟩,
     ⟨(some 20), .fld 0 none (.tmp 19), none⟩,
     ⟨(some 21), .bin .neq 3 (.tmp 20) (.con (.sc (.int .i64 3))), none⟩] [0, 1, 5, 21])
   (.cond (.tmp 21)
    (.skip)
    (.exit 0)))
   (.block 1 (.reg [⟨(some 22), .mv (.tmp 5), none⟩,
      ⟨(some 23), .mv (.tmp 0), none⟩,
      ⟨(some 24), .mv (.tmp 1), none⟩,
      ⟨(some 25), .bin .add 3 (.tmp 24) (.con (.sc (.int .i64 1))), none⟩,
      ⟨(some 26), .call 199 [(.tmp 23), (.tmp 25)], none⟩,
      ⟨(some 27), .bslice 62 5 1 (.agg [(.sc (.int .i64 0)), (.sc (.int .i64 0)), (.sc (.string ⟨#[]⟩)), (.lst 0 [] .nil), (.lst 0 [] .nil)]) [(0, (.tmp 26))], none⟩,
      ⟨(some 28), .app 62 5 (.tmp 22) (.tmp 27), none⟩,
      ⟨(some 5), .mv (.tmp 28), none⟩] [0, 1, 5]))))))
 (.seq (.reg [⟨(some 29), .mv (.tmp 0), none⟩,
   ⟨(some 30), .call 157 [(.tmp 29)], none⟩] [5])
 (.seq (.reg [⟨(some 31), .mv (.tmp 5), none⟩,
   ⟨(some 4), .mv (.tmp 31), none⟩] [4])
 (.ret)))))))),
 32, [.tmp 4], .made⟩
def h159 : List Hint := [.keep [0, 1], .keep [0, 1, 9], .keep [0, 1], .keep [0, 1, 13], .keep [0, 1], .keep [0, 1], .keep [0, 1, 5], .virt 5 37 62 5, .keep [0, 1, 5, 21], .keep [0, 1, 5], .keep [5], .keep [4]]
theorem g159 : digFn Tryz.prog Tryz.f159 h159 .made = some d159 := by kernel_rfl

/-- (*deadbolt/parse.parser).fail -/
def d160 : DFn := ⟨.reg [⟨(some 4), .mv (.tmp 0), none⟩,
   ⟨(some 5), .call 156 [(.tmp 4)], none⟩,
   ⟨(some 6), .fld 1 none (.tmp 5), none⟩,
   ⟨(some 7), .mv (.tmp 1), none⟩,
   ⟨(some 8), .build [(.sc (.int .i64 0)), (.sc (.int .i64 0))] [(0, 1, (.tmp 6)), (1, 1, (.tmp 7))], none⟩,
   ⟨(some 9), .mkif 176 (.tmp 8), none⟩,
   ⟨none, .panic (.tmp 9), none⟩] [],
 10, [], .made⟩
def h160 : List Hint := [.keep []]
theorem g160 : digFn Tryz.prog Tryz.f160 h160 .made = some d160 := by kernel_rfl

/-- deadbolt/parse.stmts -/
def d161 : DFn := ⟨.seq (.reg [⟨(some 2), .mv (.con (.lst 0 [] .nil)), none⟩] [0])
 (.seq (.reg [⟨(some 5), .mv (.tmp 0), none⟩,
   ⟨(some 6), .call 162 [(.tmp 5)], none⟩,
   ⟨(some 3), .mv (.tmp 6), none⟩] [3])
 (.seq (.seq (.reg [⟨(some 7), .mv (.tmp 3), none⟩,
   ⟨(some 8), .len false (.tmp 7), none⟩,
   ⟨(some 9), .mv (.con (.sc (.int .i64 0))), none⟩] [3, 8, 9])
 (.block 0 (.loop (.seq (.reg [⟨(some 10), .bin .lss 3 (.tmp 9) (.tmp 8), none⟩] [3, 8, 9, 10])
   (.seq (.cond (.tmp 10)
    (.skip)
    (.exit 0))
   (.seq (.block 1 (.seq (.reg [⟨(some 11), .mv (.tmp 9), none⟩,
      ⟨(some 4), .mv (.tmp 11), none⟩] [3, 4, 8, 9])
    (.drw [⟨(some 12), .mv (.tmp 3), none⟩,
      ⟨(some 13), .mv (.tmp 4), none⟩,
      ⟨(some 14), .mv (.tmp 3), none⟩,
      ⟨(some 15), .mv (.tmp 4), none⟩,
      ⟨(some 16), .mv (.tmp 3), none⟩,
      ⟨(some 17), .mv (.tmp 4), none⟩,
      ⟨(some 18), .iaddr 5 (.tmp 16) (.tmp 17), none⟩,
      ⟨(some 19), .faddr 3 (.tmp 18), none⟩,
      ⟨(some 20), .load none (.tmp 19), none⟩,
      ⟨(some 21), .call 161 [(.tmp 20)], none⟩,
      ⟨(some 22), .mv (.tmp 3), none⟩,
      ⟨(some 23), .mv (.tmp 4), none⟩,
      ⟨(some 24), .iaddr 5 (.tmp 22) (.tmp 23), none⟩,
      ⟨(some 25), .faddr 4 (.tmp 24), none⟩,
      ⟨(some 26), .load none (.tmp 25), none⟩,
      ⟨(some 27), .call 161 [(.tmp 26)], none⟩,
      ⟨(some 28), .iaddr 5 (.tmp 12) (.tmp 13), none⟩,
      ⟨(some 29), .faddr 3 (.tmp 28), none⟩,
      ⟨none, .store 1 (.tmp 29) (.tmp 21), none⟩,
      ⟨(some 30), .iaddr 5 (.tmp 14) (.tmp 15), none⟩,
      ⟨(some 31), .faddr 4 (.tmp 30), none⟩,
      ⟨none, .store 1 (.tmp 31) (.tmp 27), none⟩] [0, 0, 0, 0, 0, 0, 48, 112, 240, 496, 0, 0, 3072, 7168, 15360, 32752, 65523, 131059, 262131, 524287, 1048575, 2097151] [3, 8, 9])))
   (.reg [⟨(some 32), .bin .add 3 (.tmp 9) (.con (.sc (.int .i64 1))), none⟩,
     ⟨(some 9), .mv (.tmp 32), none⟩] [3, 8, 9])))))))
 (.seq (.reg [⟨(some 33), .mv (.tmp 3), none⟩,
   ⟨(some 34), .call 200 [(.tmp 33)], none⟩,
   ⟨(some 2), .mv (.tmp 34), none⟩] [2])
 (.ret)))),
 35, [.tmp 2], .pure⟩
def h161 : List Hint := [.keep [0], .keep [3], .keep [3, 8, 9], .keep [3, 8, 9, 10], .keep [3, 4, 8, 9], .keep [3, 8, 9], .keep [3, 8, 9], .keep [2]]
theorem g161 : digFn Tryz.prog Tryz.f161 h161 .pure = some d161 := by kernel_rfl

/-- slices.Clone[[]deadbolt/api.Stmt,deadbolt/api.Stmt] -/
def d162 : DFn := ⟨.seq (.reg [⟨(some 2), .mv (.con (.lst 0 [] .nil)), none⟩] [0])
 (.seq (.seq (.reg [⟨(some 3), .mv (.tmp 0), none⟩,
   ⟨(some 4), .ex (.isnil .slice false) [(.tmp 3)], none⟩] [0, 4])
 (.cond (.tmp 4)
  (.seq (.reg [⟨(some 2), .mv (.con (.lst 0 [] .nil)), none⟩] [2])
  (.ret))
  (.skip)))
 (.seq (.reg [⟨(some 5), .bslice 62 5 0 (.agg [(.sc (.int .i64 0)), (.sc (.int .i64 0)), (.sc (.string ⟨#[]⟩)), (.lst 0 [] .nil), (.lst 0 [] .nil)]) [], none⟩,
   ⟨(some 6), .mv (.tmp 0), none⟩,
   ⟨(some 7), .app 62 5 (.tmp 5) (.tmp 6), none⟩,
   ⟨(some 2), .mv (.tmp 7), none⟩] [2])
 (.ret))),
 8, [.tmp 2], .raw⟩
def h162 : List Hint := [.keep [0], .keep [0, 4], .keep [2], .keep [2]]
theorem g162 : digFn Tryz.prog Tryz.f162 h162 .raw = some d162 := by kernel_rfl

/-- deadbolt/names.checked$1 -/
def d88 : DClo := ⟨4, [⟨(some 5), .tas 158 (.agg [(.sc (.int .i64 0)), (.sc (.int .i64 0))]) true (.tmp 4), none⟩,
  ⟨(some 3), .mv (.tmp 5), none⟩,
  ⟨(some 6), .extr (.tmp 3) 0, none⟩,
  ⟨(some 7), .extr (.tmp 3) 1, none⟩,
  ⟨(some 1), .alloc 158 [(.sc (.int .i64 0)), (.sc (.int .i64 0))], none⟩,
  ⟨none, .store 2 (.tmp 1) (.tmp 6), none⟩,
  ⟨(some 2), .mv (.tmp 7), none⟩], [0, 1, 2],
 .seq (.reg [⟨(some 8), .mv (.tmp 2), none⟩] [0, 1, 8])
 (.cond (.tmp 8)
  (.reg [⟨(some 9), .load (some 2) (.tmp 1), none⟩,
    ⟨(some 10), .mkif 158 (.tmp 9), none⟩,
    ⟨none, .store 1 (.tmp 0) (.tmp 10), none⟩] [])
  (.skip)), 11⟩
def h88 : List Hint := [.keep [0, 1, 2], .keep [0, 1, 8], .keep []]
theorem g88 : digClo Tryz.prog Tryz.f88 h88 = some d88 := by kernel_rfl

/-- deadbolt/names.small -/
def d89 : DFn := ⟨.seq (.reg [⟨(some 1), .box 30 (.tmp 0), none⟩,
   ⟨(some 2), .mv (.con (.sc (.bool false))), none⟩] [1])
 (.seq (.reg [⟨(some 3), .alloc 3 [(.sc (.int .i64 0))], none⟩,
   ⟨none, .store 1 (.tmp 3) (.con (.sc (.int .i64 0))), none⟩] [1, 3])
 (.seq (.seq (.reg [⟨(some 6), .faddr 2 (.tmp 1), none⟩,
   ⟨(some 7), .load none (.tmp 6), none⟩,
   ⟨(some 8), .len false (.tmp 7), none⟩,
   ⟨(some 9), .mv (.con (.sc (.int .i64 0))), none⟩] [1, 3, 7, 8, 9])
 (.block 0 (.loop (.seq (.reg [⟨(some 10), .bin .lss 3 (.tmp 9) (.tmp 8), none⟩] [1, 3, 7, 8, 9, 10])
   (.seq (.cond (.tmp 10)
    (.skip)
    (.exit 0))
   (.seq (.block 1 (.seq (.reg [⟨(some 11), .iaddr 3 (.tmp 7) (.tmp 9), none⟩,
      ⟨(some 12), .load (some 3) (.tmp 11), none⟩,
      ⟨(some 5), .alloc 51 [(.sc (.string ⟨#[]⟩)), (.sc (.int .i64 0)), (.lst 0 [] .nil)], none⟩,
      ⟨none, .store 3 (.tmp 5) (.tmp 12), none⟩] [1, 3, 5, 7, 8, 9])
    (.reg [⟨(some 13), .faddr 2 (.tmp 5), none⟩,
      ⟨(some 14), .load none (.tmp 13), none⟩,
      ⟨(some 15), .mkfn (.func 139) [] [(.tmp 3)], none⟩,
      ⟨(some 16), .call 91 [(.tmp 14), (.tmp 15)], none⟩] [1, 3, 7, 8, 9])))
   (.reg [⟨(some 17), .bin .add 3 (.tmp 9) (.con (.sc (.int .i64 1))), none⟩,
     ⟨(some 9), .mv (.tmp 17), none⟩] [1, 3, 7, 8, 9])))))))
 (.seq (.reg [⟨(some 18), .load none (.tmp 3), none⟩,
   ⟨(some 19), .bin .leq 3 (.tmp 18) (.con (.sc (.int .i64 200))), none⟩,
   ⟨(some 20), .mv (.tmp 19), none⟩,
   ⟨(some 21), .faddr 0 (.tmp 1), (some (20, true))⟩,
   ⟨(some 22), .load none (.tmp 21), (some (20, true))⟩,
   ⟨(some 23), .len false (.tmp 22), (some (20, true))⟩,
   ⟨(some 24), .faddr 1 (.tmp 1), (some (20, true))⟩,
   ⟨(some 25), .load none (.tmp 24), (some (20, true))⟩,
   ⟨(some 26), .len false (.tmp 25), (some (20, true))⟩,
   ⟨(some 27), .faddr 2 (.tmp 1), (some (20, true))⟩,
   ⟨(some 28), .load none (.tmp 27), (some (20, true))⟩,
   ⟨(some 29), .len false (.tmp 28), (some (20, true))⟩,
   ⟨(some 30), .ex (.mx3 true) [(.tmp 23), (.tmp 26), (.tmp 29)], (some (20, true))⟩,
   ⟨(some 31), .bin .leq 3 (.tmp 30) (.con (.sc (.int .i64 20))), (some (20, true))⟩,
   ⟨(some 32), .pick (.tmp 20) (.tmp 31) (.con (.sc (.bool false))), none⟩,
   ⟨(some 2), .mv (.tmp 32), none⟩] [2])
 (.ret)))),
 33, [.tmp 2], .pure⟩
def h89 : List Hint := [.keep [1], .keep [1, 3], .keep [1, 3, 7, 8, 9], .keep [1, 3, 7, 8, 9, 10], .keep [1, 3, 5, 7, 8, 9], .keep [1, 3, 7, 8, 9], .keep [1, 3, 7, 8, 9], .keep [2]]
theorem g89 : digFn Tryz.prog Tryz.f89 h89 .pure = some d89 := by kernel_rfl

/-- deadbolt/names.of -/
def d90 : DFn := ⟨.seq (.reg [⟨(some 1), .box 30 (.tmp 0), none⟩,
   ⟨(some 2), .mv (.con (.sc (.map none))), none⟩] [1])
 (.seq (.reg [⟨(some 10), .ex .mmap [], none⟩,
   ⟨(some 3), .mv (.tmp 10), none⟩] [1, 3])
 (.seq (.seq (.reg [⟨(some 11), .faddr 0 (.tmp 1), none⟩,
   ⟨(some 12), .load none (.tmp 11), none⟩,
   ⟨(some 13), .len false (.tmp 12), none⟩,
   ⟨(some 14), .mv (.con (.sc (.int .i64 0))), none⟩] [1, 3, 12, 13, 14])
 (.block 0 (.loop (.seq (.reg [⟨(some 15), .bin .lss 3 (.tmp 14) (.tmp 13), none⟩] [1, 3, 12, 13, 14, 15])
   (.seq (.cond (.tmp 15)
    (.skip)
    (.exit 0))
   (.seq (.block 1 (.seq (.reg [⟨(some 16), .iaddr 2 (.tmp 12) (.tmp 14), none⟩,
      ⟨(some 17), .load (some 2) (.tmp 16), none⟩,
      ⟨(some 5), .alloc 59 [(.sc (.string ⟨#[]⟩)), (.sc (.int .i64 0))], none⟩,
      ⟨none, .store 2 (.tmp 5) (.tmp 17), none⟩] [1, 3, 5, 12, 13, 14])
    (.reg [⟨(some 18), .mv (.tmp 3), none⟩,
      ⟨(some 19), .faddr 0 (.tmp 5), none⟩,
      ⟨(some 20), .load none (.tmp 19), none⟩,
      ⟨(some 21), .faddr 1 (.tmp 5), none⟩,
      ⟨(some 22), .load none (.tmp 21), none⟩,
      ⟨(some 23), .call 140 [(.tmp 18), (.tmp 20), (.con (.sc (.string ⟨#[118, 97, 114]⟩))), (.tmp 22)], none⟩] [1, 3, 12, 13, 14])))
   (.reg [⟨(some 24), .bin .add 3 (.tmp 14) (.con (.sc (.int .i64 1))), none⟩,
     ⟨(some 14), .mv (.tmp 24), none⟩] [1, 3, 12, 13, 14])))))))
 (.seq (.seq (.reg [⟨(some 25), .faddr 1 (.tmp 1), none⟩,
   ⟨(some 26), .load none (.tmp 25), none⟩,
   ⟨(some 27), .len false (.tmp 26), none⟩,
   ⟨(some 28), .mv (.con (.sc (.int .i64 0))), none⟩] [1, 3, 26, 27, 28])
 (.block 2 (.loop (.seq (.reg [⟨(some 29), .bin .lss 3 (.tmp 28) (.tmp 27), none⟩] [1, 3, 26, 27, 28, 29])
   (.seq (.cond (.tmp 29)
    (.skip)
    (.exit 2))
   (.seq (.block 3 (.seq (.reg [⟨(some 30), .iaddr 2 (.tmp 26) (.tmp 28), none⟩,
      ⟨(some 31), .load (some 2) (.tmp 30), none⟩,
      ⟨(some 7), .alloc 59 [(.sc (.string ⟨#[]⟩)), (.sc (.int .i64 0))], none⟩,
      ⟨none, .store 2 (.tmp 7) (.tmp 31), none⟩] [1, 3, 7, 26, 27, 28])
    (.reg [⟨(some 32), .mv (.tmp 3), none⟩,
      ⟨(some 33), .faddr 0 (.tmp 7), none⟩,
      ⟨(some 34), .load none (.tmp 33), none⟩,
      ⟨(some 35), .faddr 1 (.tmp 7), none⟩,
      ⟨(some 36), .load none (.tmp 35), none⟩,
      ⟨(some 37), .call 140 [(.tmp 32), (.tmp 34), (.con (.sc (.string ⟨#[108, 111, 99, 107]⟩))), (.tmp 36)], none⟩] [1, 3, 26, 27, 28])))
   (.reg [⟨(some 38), .bin .add 3 (.tmp 28) (.con (.sc (.int .i64 1))), none⟩,
     ⟨(some 28), .mv (.tmp 38), none⟩] [1, 3, 26, 27, 28])))))))
 (.seq (.seq (.reg [⟨(some 39), .faddr 2 (.tmp 1), none⟩,
   ⟨(some 40), .load none (.tmp 39), none⟩,
   ⟨(some 41), .len false (.tmp 40), none⟩,
   ⟨(some 42), .mv (.con (.sc (.int .i64 0))), none⟩] [3, 40, 41, 42])
 (.block 4 (.loop (.seq (.reg [⟨(some 43), .bin .lss 3 (.tmp 42) (.tmp 41), none⟩] [3, 40, 41, 42, 43])
   (.seq (.cond (.tmp 43)
    (.skip)
    (.exit 4))
   (.seq (.block 5 (.seq (.reg [⟨(some 44), .iaddr 3 (.tmp 40) (.tmp 42), none⟩,
      ⟨(some 45), .load (some 3) (.tmp 44), none⟩,
      ⟨(some 9), .alloc 51 [(.sc (.string ⟨#[]⟩)), (.sc (.int .i64 0)), (.lst 0 [] .nil)], none⟩,
      ⟨none, .store 3 (.tmp 9) (.tmp 45), none⟩] [3, 9, 40, 41, 42])
    (.reg [⟨(some 46), .mv (.tmp 3), none⟩,
      ⟨(some 47), .faddr 0 (.tmp 9), none⟩,
      ⟨(some 48), .load none (.tmp 47), none⟩,
      ⟨(some 49), .faddr 1 (.tmp 9), none⟩,
      ⟨(some 50), .load none (.tmp 49), none⟩,
      ⟨(some 51), .call 140 [(.tmp 46), (.tmp 48), (.con (.sc (.string ⟨#[102, 117, 110, 99]⟩))), (.tmp 50)], none⟩] [3, 40, 41, 42])))
   (.reg [⟨(some 52), .bin .add 3 (.tmp 42) (.con (.sc (.int .i64 1))), none⟩,
     ⟨(some 42), .mv (.tmp 52), none⟩] [3, 40, 41, 42])))))))
 (.seq (.reg [⟨(some 53), .mv (.tmp 3), none⟩,
   ⟨(some 2), .mv (.tmp 53), none⟩] [2])
 (.ret)))))),
 54, [.tmp 2], .raw⟩
def h90 : List Hint := [.keep [1], .keep [1, 3], .keep [1, 3, 12, 13, 14], .keep [1, 3, 12, 13, 14, 15], .keep [1, 3, 5, 12, 13, 14], .keep [1, 3, 12, 13, 14], .keep [1, 3, 12, 13, 14], .keep [1, 3, 26, 27, 28], .keep [1, 3, 26, 27, 28, 29], .keep [1, 3, 7, 26, 27, 28], .keep [1, 3, 26, 27, 28], .keep [1, 3, 26, 27, 28], .keep [3, 40, 41, 42], .keep [3, 40, 41, 42, 43], .keep [3, 9, 40, 41, 42], .keep [3, 40, 41, 42], .keep [3, 40, 41, 42], .keep [2]]
theorem g90 : digFn Tryz.prog Tryz.f90 h90 .raw = some d90 := by kernel_rfl

/-- deadbolt/names.checked$2 -/
def d92 : DFn := ⟨.seq (.reg [⟨(some 2), .box 62 (.tmp 0), none⟩] [1, 2])
 (.seq (.reg [⟨(some 4), .faddr 0 (.tmp 2), none⟩,
   ⟨(some 5), .load none (.tmp 4), none⟩,
   ⟨(some 6), .call 93 [(.tmp 5)], none⟩,
   ⟨(some 3), .mv (.tmp 6), none⟩] [1, 2, 3])
 (.seq (.reg [⟨(some 7), .mv (.tmp 3), none⟩,
   ⟨(some 8), .bin .neq 9 (.tmp 7) (.con (.sc (.string ⟨#[]⟩))), none⟩,
   ⟨(some 9), .mv (.tmp 8), none⟩,
   ⟨(some 10), .load none (.tmp 1), (some (9, true))⟩,
   ⟨(some 11), .faddr 2 (.tmp 2), (some (9, true))⟩,
   ⟨(some 12), .load none (.tmp 11), (some (9, true))⟩,
   ⟨(some 13), .ex (.lkup .str (.sc (.string ⟨#[]⟩)) false) [(.tmp 10), (.tmp 12)], (some (9, true))⟩,
   ⟨(some 14), .mv (.tmp 3), (some (9, true))⟩,
   ⟨(some 15), .bin .neq 9 (.tmp 13) (.tmp 14), (some (9, true))⟩,
   ⟨(some 16), .pick (.tmp 9) (.tmp 15) (.con (.sc (.bool false))), none⟩] [2, 16])
 (.cond (.tmp 16)
  (.reg [⟨(some 17), .faddr 1 (.tmp 2), none⟩,
    ⟨(some 18), .load none (.tmp 17), none⟩,
    ⟨(some 19), .build [(.sc (.int .i64 0)), (.sc (.int .i64 0))] [(0, 1, (.tmp 18)), (1, 1, (.con (.sc (.int .i64 10))))], none⟩,
    ⟨(some 20), .mkif 158 (.tmp 19), none⟩,
    ⟨none, .panic (.tmp 20), none⟩] [])
  (.skip)))),
 21, [], .made⟩
def h92 : List Hint := [.keep [1, 2], .keep [1, 2, 3], .keep [2, 16], .keep []]
theorem g92 : digFn Tryz.prog Tryz.f92 h92 .made = some d92 := by kernel_rfl

/-- deadbolt/names.all -/
def d91 : DFn := ⟨.seq (.reg [⟨(some 6), .mv (.tmp 0), none⟩,
   ⟨(some 7), .len false (.tmp 6), none⟩,
   ⟨(some 8), .mv (.con (.sc (.int .i64 0))), none⟩] [1, 6, 7, 8])
 (.block 0 (.loop (.seq (.reg [⟨(some 9), .bin .lss 3 (.tmp 8) (.tmp 7), none⟩] [1, 6, 7, 8, 9])
   (.seq (.cond (.tmp 9)
    (.skip)
    (.exit 0))
   (.seq (.block 1 (.seq (.reg [⟨(some 10), .iaddr 5 (.tmp 6) (.tmp 8), none⟩,
      ⟨(some 11), .load (some 5) (.tmp 10), none⟩,
      ⟨(some 5), .alloc 62 [(.sc (.int .i64 0)), (.sc (.int .i64 0)), (.sc (.string ⟨#[]⟩)), (.lst 0 [] .nil), (.lst 0 [] .nil)], none⟩,
      ⟨none, .store 5 (.tmp 5) (.tmp 11), none⟩] [1, 5, 6, 7, 8])
    (.seq (.reg [⟨(some 12), .mv (.tmp 1), none⟩,
      ⟨(some 13), .load (some 5) (.tmp 5), none⟩,
      ⟨(some 14), .callv (.tmp 12) [(.tmp 13)], none⟩] [1, 5, 6, 7, 8])
    (.seq (.reg [⟨(some 15), .faddr 3 (.tmp 5), none⟩,
      ⟨(some 16), .load none (.tmp 15), none⟩,
      ⟨(some 17), .mv (.tmp 1), none⟩,
      ⟨(some 18), .call 91 [(.tmp 16), (.tmp 17)], none⟩] [1, 5, 6, 7, 8])
    (.reg [⟨(some 19), .faddr 4 (.tmp 5), none⟩,
      ⟨(some 20), .load none (.tmp 19), none⟩,
      ⟨(some 21), .mv (.tmp 1), none⟩,
      ⟨(some 22), .call 91 [(.tmp 20), (.tmp 21)], none⟩] [1, 6, 7, 8])))))
   (.reg [⟨(some 23), .bin .add 3 (.tmp 8) (.con (.sc (.int .i64 1))), none⟩,
     ⟨(some 8), .mv (.tmp 23), none⟩] [1, 6, 7, 8])))))),
 24, [], .made⟩
def h91 : List Hint := [.keep [1, 6, 7, 8], .keep [1, 6, 7, 8, 9], .keep [1, 5, 6, 7, 8], .keep [1, 5, 6, 7, 8], .keep [1, 5, 6, 7, 8], .keep [1, 6, 7, 8], .keep [1, 6, 7, 8]]
theorem g91 : digFn Tryz.prog Tryz.f91 h91 .made = some d91 := by kernel_rfl

/-- slices.siftDownCmpFunc[deadbolt/api.File] -/
def d191 : DFn := ⟨.seq (.reg [⟨(some 12), .mv (.tmp 1), none⟩,
   ⟨(some 10), .mv (.tmp 12), none⟩] [0, 2, 3, 4, 10])
 (.block 0 (.loop (.block 1 (.seq (.reg [⟨(some 13), .mv (.tmp 10), none⟩,
      ⟨(some 14), .bin .mul 3 (.con (.sc (.int .i64 2))) (.tmp 13), none⟩,
      ⟨(some 15), .bin .add 3 (.tmp 14) (.con (.sc (.int .i64 1))), none⟩,
      ⟨(some 11), .mv (.tmp 15), none⟩] [0, 2, 3, 4, 10, 11])
    (.seq (.seq (.reg [⟨(some 16), .mv (.tmp 11), none⟩,
      ⟨(some 17), .mv (.tmp 2), none⟩,
      ⟨(some 18), .bin .geq 3 (.tmp 16) (.tmp 17), none⟩] [0, 2, 3, 4, 10, 11, 18])
    (.cond (.tmp 18)
     (.exit 0)
     (.skip)))
    (.seq (.seq (.drw [⟨(some 19), .mv (.tmp 11), none⟩,
      ⟨(some 20), .bin .add 3 (.tmp 19) (.con (.sc (.int .i64 1))), none⟩,
      ⟨(some 21), .mv (.tmp 2), none⟩,
      ⟨(some 22), .bin .lss 3 (.tmp 20) (.tmp 21), none⟩,
      ⟨(some 23), .mv (.tmp 22), none⟩,
      ⟨(some 24), .mv (.tmp 4), (some (23, true))⟩,
      ⟨(some 25), .mv (.tmp 0), (some (23, true))⟩,
      ⟨(some 26), .mv (.tmp 3), (some (23, true))⟩,
      ⟨(some 27), .mv (.tmp 11), (some (23, true))⟩,
      ⟨(some 28), .bin .add 3 (.tmp 26) (.tmp 27), (some (23, true))⟩,
      ⟨(some 29), .iaddr 2 (.tmp 25) (.tmp 28), (some (23, true))⟩,
      ⟨(some 30), .load (some 2) (.tmp 29), (some (23, true))⟩,
      ⟨(some 31), .mv (.tmp 0), (some (23, true))⟩,
      ⟨(some 32), .mv (.tmp 3), (some (23, true))⟩,
      ⟨(some 33), .mv (.tmp 11), (some (23, true))⟩,
      ⟨(some 34), .bin .add 3 (.tmp 32) (.tmp 33), (some (23, true))⟩,
      ⟨(some 35), .bin .add 3 (.tmp 34) (.con (.sc (.int .i64 1))), (some (23, true))⟩,
      ⟨(some 36), .iaddr 2 (.tmp 31) (.tmp 35), (some (23, true))⟩,
      ⟨(some 37), .load (some 2) (.tmp 36), (some (23, true))⟩,
      ⟨(some 38), .callv (.tmp 24) [(.tmp 30), (.tmp 37)], (some (23, true))⟩,
      ⟨(some 39), .bin .lss 3 (.tmp 38) (.con (.sc (.int .i64 0))), (some (23, true))⟩,
      ⟨(some 40), .pick (.tmp 23) (.tmp 39) (.con (.sc (.bool false))), none⟩] [0, 1, 0, 7, 15, 31, 31, 31, 31, 415, 991, 2015, 31, 31, 31, 24607, 57375, 127007, 258079, 524287, 1048575, 2097151] [0, 2, 3, 4, 10, 11, 40])
    (.cond (.tmp 40)
     (.reg [⟨(some 41), .mv (.tmp 11), none⟩,
       ⟨(some 42), .bin .add 3 (.tmp 41) (.con (.sc (.int .i64 1))), none⟩,
       ⟨(some 11), .mv (.tmp 42), none⟩] [0, 2, 3, 4, 10, 11])
     (.skip)))
    (.seq (.seq (.drw [⟨(some 43), .mv (.tmp 4), none⟩,
      ⟨(some 44), .mv (.tmp 0), none⟩,
      ⟨(some 45), .mv (.tmp 3), none⟩,
      ⟨(some 46), .mv (.tmp 10), none⟩,
      ⟨(some 47), .bin .add 3 (.tmp 45) (.tmp 46), none⟩,
      ⟨(some 48), .iaddr 2 (.tmp 44) (.tmp 47), none⟩,
      ⟨(some 49), .load (some 2) (.tmp 48), none⟩,
      ⟨(some 50), .mv (.tmp 0), none⟩,
      ⟨(some 51), .mv (.tmp 3), none⟩,
      ⟨(some 52), .mv (.tmp 11), none⟩,
      ⟨(some 53), .bin .add 3 (.tmp 51) (.tmp 52), none⟩,
      ⟨(some 54), .iaddr 2 (.tmp 50) (.tmp 53), none⟩,
      ⟨(some 55), .load (some 2) (.tmp 54), none⟩,
      ⟨(some 56), .callv (.tmp 43) [(.tmp 49), (.tmp 55)], none⟩,
      ⟨(some 57), .bin .lss 3 (.tmp 56) (.con (.sc (.int .i64 0))), none⟩,
      ⟨(some 58), .un .not (.tmp 57), none⟩] [0, 0, 0, 0, 12, 30, 62, 0, 0, 0, 768, 1920, 3968, 8191, 16383, 32767] [0, 2, 3, 4, 10, 11, 58])
    (.cond (.tmp 58)
     (.ret)
     (.skip)))
    (.seq (.drw [⟨(some 59), .mv (.tmp 0), none⟩,
      ⟨(some 60), .mv (.tmp 3), none⟩,
      ⟨(some 61), .mv (.tmp 10), none⟩,
      ⟨(some 62), .bin .add 3 (.tmp 60) (.tmp 61), none⟩,
      ⟨(some 63), .mv (.tmp 0), none⟩,
      ⟨(some 64), .mv (.tmp 3), none⟩,
      ⟨(some 65), .mv (.tmp 11), none⟩,
      ⟨(some 66), .bin .add 3 (.tmp 64) (.tmp 65), none⟩,
      ⟨(some 67), .mv (.tmp 0), none⟩,
      ⟨(some 68), .mv (.tmp 3), none⟩,
      ⟨(some 69), .mv (.tmp 11), none⟩,
      ⟨(some 70), .bin .add 3 (.tmp 68) (.tmp 69), none⟩,
      ⟨(some 71), .iaddr 2 (.tmp 67) (.tmp 70), none⟩,
      ⟨(some 72), .load (some 2) (.tmp 71), none⟩,
      ⟨(some 73), .mv (.tmp 0), none⟩,
      ⟨(some 74), .mv (.tmp 3), none⟩,
      ⟨(some 75), .mv (.tmp 10), none⟩,
      ⟨(some 76), .bin .add 3 (.tmp 74) (.tmp 75), none⟩,
      ⟨(some 77), .iaddr 2 (.tmp 73) (.tmp 76), none⟩,
      ⟨(some 78), .load (some 2) (.tmp 77), none⟩,
      ⟨(some 79), .iaddr 2 (.tmp 59) (.tmp 62), none⟩,
      ⟨none, .store 2 (.tmp 79) (.tmp 72), none⟩,
      ⟨(some 80), .iaddr 2 (.tmp 63) (.tmp 66), none⟩,
      ⟨none, .store 2 (.tmp 80) (.tmp 78), none⟩] [0, 0, 0, 6, 0, 0, 0, 96, 0, 0, 0, 1536, 3840, 7936, 0, 0, 0, 98304, 245760, 507904, 1048335, 2096911, 4194303, 8388607] [0, 2, 3, 4, 11])
    (.reg [⟨(some 81), .mv (.tmp 11), none⟩,
      ⟨(some 10), .mv (.tmp 81), none⟩] [0, 2, 3, 4, 10]))))))))),
 82, [], .made⟩
def h191 : List Hint := [.keep [0, 2, 3, 4, 10], .keep [0, 2, 3, 4, 10, 11], .keep [0, 2, 3, 4, 10, 11, 18], .keep [0, 2, 3, 4, 10, 11, 40], .keep [0, 2, 3, 4, 10, 11], .keep [0, 2, 3, 4, 10, 11, 58], .keep [0, 2, 3, 4, 11], .keep [0, 2, 3, 4, 10]]
theorem g191 : digFn Tryz.prog Tryz.f191 h191 .made = some d191 := by kernel_rfl

/-- slices.nextPowerOfTwo -/
def d192 : DFn := ⟨.seq (.reg [⟨(some 2), .mv (.con (.sc (.int .u64 0))), none⟩] [0])
 (.seq (.reg [⟨(some 3), .mv (.tmp 0), none⟩,
   ⟨(some 4), .cvt .u64 (.tmp 3), none⟩,
   ⟨(some 5), .call 96 [(.tmp 4)], none⟩,
   ⟨(some 6), .bin .shl 172 (.con (.sc (.int .u64 1))) (.tmp 5), none⟩,
   ⟨(some 2), .mv (.tmp 6), none⟩] [2])
 (.ret)),
 7, [.tmp 2], .pure⟩
def h192 : List Hint := [.keep [0], .keep [2]]
theorem g192 : digFn Tryz.prog Tryz.f192 h192 .pure = some d192 := by kernel_rfl

/-- (*slices.xorshift).Next -/
def d193 : DFn := ⟨.seq (.reg [⟨(some 2), .mv (.con (.sc (.int .u64 0))), none⟩] [0])
 (.seq (.drw [⟨(some 3), .mv (.tmp 0), none⟩,
   ⟨(some 4), .nilc (.tmp 3), none⟩,
   ⟨(some 5), .load none (.tmp 4), none⟩,
   ⟨(some 6), .mv (.tmp 0), none⟩,
   ⟨(some 7), .nilc (.tmp 6), none⟩,
   ⟨(some 8), .load none (.tmp 7), none⟩,
   ⟨(some 9), .bin .shl 295 (.tmp 8) (.con (.sc (.int .u64 13))), none⟩,
   ⟨(some 10), .bin .xor 295 (.tmp 5) (.tmp 9), none⟩,
   ⟨(some 11), .nilc (.tmp 3), none⟩,
   ⟨none, .store 1 (.tmp 11) (.tmp 10), none⟩] [0, 1, 3, 0, 8, 24, 56, 127, 255, 511] [0])
 (.seq (.drw [⟨(some 12), .mv (.tmp 0), none⟩,
   ⟨(some 13), .nilc (.tmp 12), none⟩,
   ⟨(some 14), .load none (.tmp 13), none⟩,
   ⟨(some 15), .mv (.tmp 0), none⟩,
   ⟨(some 16), .nilc (.tmp 15), none⟩,
   ⟨(some 17), .load none (.tmp 16), none⟩,
   ⟨(some 18), .bin .shr 295 (.tmp 17) (.con (.sc (.int .u64 7))), none⟩,
   ⟨(some 19), .bin .xor 295 (.tmp 14) (.tmp 18), none⟩,
   ⟨(some 20), .nilc (.tmp 12), none⟩,
   ⟨none, .store 1 (.tmp 20) (.tmp 19), none⟩] [0, 1, 3, 0, 8, 24, 56, 127, 255, 511] [0])
 (.seq (.drw [⟨(some 21), .mv (.tmp 0), none⟩,
   ⟨(some 22), .nilc (.tmp 21), none⟩,
   ⟨(some 23), .load none (.tmp 22), none⟩,
   ⟨(some 24), .mv (.tmp 0), none⟩,
   ⟨(some 25), .nilc (.tmp 24), none⟩,
   ⟨(some 26), .load none (.tmp 25), none⟩,
   ⟨(some 27), .bin .shl 295 (.tmp 26) (.con (.sc (.int .u64 17))), none⟩,
   ⟨(some 28), .bin .xor 295 (.tmp 23) (.tmp 27), none⟩,
   ⟨(some 29), .nilc (.tmp 21), none⟩,
   ⟨none, .store 1 (.tmp 29) (.tmp 28), none⟩] [0, 1, 3, 0, 8, 24, 56, 127, 255, 511] [0])
 (.seq (.reg [⟨(some 30), .mv (.tmp 0), none⟩,
   ⟨(some 31), .nilc (.tmp 30), none⟩,
   ⟨(some 32), .load none (.tmp 31), none⟩,
   ⟨(some 2), .mv (.tmp 32), none⟩] [2])
 (.ret))))),
 33, [.tmp 2], .made⟩
def h193 : List Hint := [.keep [0], .keep [0], .keep [0], .keep [0], .keep [2]]
theorem g193 : digFn Tryz.prog Tryz.f193 h193 .made = some d193 := by kernel_rfl

/-- slices.medianAdjacentCmpFunc[deadbolt/api.File] -/
def d194 : DFn := ⟨.seq (.reg [⟨(some 8), .mv (.con (.sc (.int .i64 0))), none⟩] [0, 1, 2, 3])
 (.seq (.reg [⟨(some 9), .mv (.tmp 0), none⟩,
   ⟨(some 10), .mv (.tmp 1), none⟩,
   ⟨(some 11), .bin .sub 3 (.tmp 10) (.con (.sc (.int .i64 1))), none⟩,
   ⟨(some 12), .mv (.tmp 1), none⟩,
   ⟨(some 13), .mv (.tmp 1), none⟩,
   ⟨(some 14), .bin .add 3 (.tmp 13) (.con (.sc (.int .i64 1))), none⟩,
   ⟨(some 15), .mv (.tmp 2), none⟩,
   ⟨(some 16), .mv (.tmp 3), none⟩,
   ⟨(some 17), .call 195 [(.tmp 9), (.tmp 11), (.tmp 12), (.tmp 14), (.tmp 15), (.tmp 16)], none⟩,
   ⟨(some 8), .mv (.tmp 17), none⟩] [8])
 (.ret)),
 18, [.tmp 8], .made⟩
def h194 : List Hint := [.keep [0, 1, 2, 3], .keep [8]]
theorem g194 : digFn Tryz.prog Tryz.f194 h194 .made = some d194 := by kernel_rfl

/-- slices.medianCmpFunc[deadbolt/api.File] -/
def d195 : DFn := ⟨.seq (.reg [⟨(some 12), .mv (.con (.sc (.int .i64 0))), none⟩] [0, 1, 2, 3, 4, 5])
 (.seq (.reg [⟨(some 14), .mv (.tmp 0), none⟩,
   ⟨(some 15), .mv (.tmp 1), none⟩,
   ⟨(some 16), .mv (.tmp 2), none⟩,
   ⟨(some 17), .mv (.tmp 4), none⟩,
   ⟨(some 18), .mv (.tmp 5), none⟩,
   ⟨(some 19), .call 216 [(.tmp 14), (.tmp 15), (.tmp 16), (.tmp 17), (.tmp 18)], none⟩,
   ⟨(some 13), .mv (.tmp 19), none⟩,
   ⟨(some 20), .extr (.tmp 13) 0, none⟩,
   ⟨(some 21), .extr (.tmp 13) 1, none⟩,
   ⟨(some 1), .mv (.tmp 20), none⟩,
   ⟨(some 2), .mv (.tmp 21), none⟩] [0, 1, 2, 3, 4, 5])
 (.seq (.reg [⟨(some 23), .mv (.tmp 0), none⟩,
   ⟨(some 24), .mv (.tmp 2), none⟩,
   ⟨(some 25), .mv (.tmp 3), none⟩,
   ⟨(some 26), .mv (.tmp 4), none⟩,
   ⟨(some 27), .mv (.tmp 5), none⟩,
   ⟨(some 28), .call 216 [(.tmp 23), (.tmp 24), (.tmp 25), (.tmp 26), (.tmp 27)], none⟩,
   ⟨(some 22), .mv (.tmp 28), none⟩,
   ⟨(some 29), .extr (.tmp 22) 0, none⟩,
   ⟨(some 30), .extr (.tmp 22) 1, none⟩,
   ⟨(some 2), .mv (.tmp 29), none⟩,
   ⟨(some 3), .mv (.tmp 30), none⟩] [0, 1, 2, 4, 5])
 (.seq (.reg [⟨(some 32), .mv (.tmp 0), none⟩,
   ⟨(some 33), .mv (.tmp 1), none⟩,
   ⟨(some 34), .mv (.tmp 2), none⟩,
   ⟨(some 35), .mv (.tmp 4), none⟩,
   ⟨(some 36), .mv (.tmp 5), none⟩,
   ⟨(some 37), .call 216 [(.tmp 32), (.tmp 33), (.tmp 34), (.tmp 35), (.tmp 36)], none⟩,
   ⟨(some 31), .mv (.tmp 37), none⟩,
   ⟨(some 38), .extr (.tmp 31) 0, none⟩,
   ⟨(some 39), .extr (.tmp 31) 1, none⟩,
   ⟨(some 1), .mv (.tmp 38), none⟩,
   ⟨(some 2), .mv (.tmp 39), none⟩] [2])
 (.seq (.reg [⟨(some 40), .mv (.tmp 2), none⟩,
   ⟨(some 12), .mv (.tmp 40), none⟩] [12])
 (.ret))))),
 41, [.tmp 12], .made⟩
def h195 : List Hint := [.keep [0, 1, 2, 3, 4, 5], .keep [0, 1, 2, 3, 4, 5], .keep [0, 1, 2, 4, 5], .keep [2], .keep [12]]
theorem g195 : digFn Tryz.prog Tryz.f195 h195 .made = some d195 := by kernel_rfl

/-- deadbolt/lex.sign -/
def d196 : DFn := ⟨.seq (.reg [⟨(some 2), .mv (.con (.sc (.bool false))), none⟩] [0])
 (.seq (.reg [⟨(some 3), .mv (.tmp 0), none⟩,
   ⟨(some 4), .call 152 [(.tmp 3)], none⟩,
   ⟨(some 5), .mv (.tmp 4), none⟩,
   ⟨(some 6), .mv (.tmp 0), (some (5, false))⟩,
   ⟨(some 7), .bin .geq 21 (.tmp 6) (.con (.sc (.int .i32 48))), (some (5, false))⟩,
   ⟨(some 8), .mv (.tmp 7), (some (5, false))⟩,
   ⟨(some 9), .mv (.tmp 0), (some (8, true))⟩,
   ⟨(some 10), .bin .leq 21 (.tmp 9) (.con (.sc (.int .i32 57))), (some (8, true))⟩,
   ⟨(some 11), .pick (.tmp 8) (.tmp 10) (.con (.sc (.bool false))), (some (5, false))⟩,
   ⟨(some 12), .pick (.tmp 5) (.con (.sc (.bool true))) (.tmp 11), none⟩,
   ⟨(some 2), .mv (.tmp 12), none⟩] [2])
 (.ret)),
 13, [.tmp 2], .pure⟩
def h196 : List Hint := [.keep [0], .keep [2]]
theorem g196 : digFn Tryz.prog Tryz.f196 h196 .pure = some d196 := by kernel_rfl

/-- (*deadbolt/parse.parser).stmt -/
def d199 : DFn := ⟨.seq (.reg [⟨(some 4), .alloc 62 [(.sc (.int .i64 0)), (.sc (.int .i64 0)), (.sc (.string ⟨#[]⟩)), (.lst 0 [] .nil), (.lst 0 [] .nil)], none⟩] [0, 1, 4])
 (.seq (.reg [⟨(some 7), .mv (.tmp 0), none⟩,
   ⟨(some 8), .call 156 [(.tmp 7)], none⟩,
   ⟨(some 5), .alloc 154 [(.sc (.int .i64 0)), (.sc (.int .i64 0)), (.sc (.string ⟨#[]⟩))], none⟩,
   ⟨none, .store 3 (.tmp 5) (.tmp 8), none⟩] [0, 1, 4, 5])
 (.seq (.seq (.reg [⟨(some 9), .faddr 0 (.tmp 5), none⟩,
   ⟨(some 10), .load none (.tmp 9), none⟩,
   ⟨(some 11), .bin .neq 3 (.tmp 10) (.con (.sc (.int .i64 1))), none⟩] [0, 1, 4, 5, 11])
 (.cond (.tmp 11)
  (.reg [⟨(some 12), .mv (.tmp 0), none⟩,
    ⟨(some 13), .call 160 [(.tmp 12), (.con (.sc (.int .i64 7)))], none⟩] [0, 1, 4, 5])
  (.skip)))
 (.seq (.drw [⟨(some 14), .faddr 2 (.tmp 5), none⟩,
   ⟨(some 15), .load none (.tmp 14), none⟩,
   ⟨(some 16), .call 218 [(.tmp 15)], none⟩,
   ⟨(some 17), .faddr 1 (.tmp 5), none⟩,
   ⟨(some 18), .load none (.tmp 17), none⟩,
   ⟨(some 19), .build [(.sc (.int .i64 0)), (.sc (.int .i64 0)), (.sc (.string ⟨#[]⟩)), (.lst 0 [] .nil), (.lst 0 [] .nil)] [(0, 1, (.tmp 16)), (1, 1, (.tmp 18))], none⟩,
   ⟨(some 6), .alloc 62 [(.sc (.int .i64 0)), (.sc (.int .i64 0)), (.sc (.string ⟨#[]⟩)), (.lst 0 [] .nil), (.lst 0 [] .nil)], none⟩,
   ⟨none, .store 5 (.tmp 6) (.tmp 19), none⟩] [0, 1, 3, 0, 8, 31, 0, 127] [0, 1, 4, 6])
 (.seq (.seq (.reg [⟨(some 20), .faddr 0 (.tmp 6), none⟩,
   ⟨(some 21), .load none (.tmp 20), none⟩,
   ⟨(some 22), .call 219 [(.tmp 21)], none⟩] [0, 1, 4, 6, 22])
 (.block 0 (.seq (.reg [⟨(some 26), .bin .eql 21 (.tmp 22) (.con (.sc (.int .i32 110))), none⟩,
    ⟨(some 25), .mv (.tmp 26), none⟩] [0, 1, 4, 6, 22, 25])
  (.cond (.tmp 25)
   (.seq (.reg [⟨(some 27), .mv (.tmp 0), none⟩,
     ⟨(some 28), .call 157 [(.tmp 27)], none⟩] [0, 4, 6])
   (.reg [⟨(some 29), .mv (.tmp 0), none⟩,
     ⟨(some 30), .call 158 [(.tmp 29)], none⟩,
     ⟨(some 31), .faddr 2 (.tmp 6), none⟩,
     ⟨none, .store 1 (.tmp 31) (.tmp 30), none⟩] [4, 6]))
   (.seq (.reg [⟨(some 33), .bin .eql 21 (.tmp 22) (.con (.sc (.int .i32 111))), none⟩,
     ⟨(some 32), .mv (.tmp 33), none⟩] [0, 1, 4, 6, 22, 32])
   (.cond (.tmp 32)
    (.seq (.reg [⟨(some 34), .mv (.tmp 0), none⟩,
      ⟨(some 35), .call 157 [(.tmp 34)], none⟩] [0, 1, 4, 6])
    (.reg [⟨(some 36), .mv (.tmp 0), none⟩,
      ⟨(some 37), .mv (.tmp 1), none⟩,
      ⟨(some 38), .call 159 [(.tmp 36), (.tmp 37)], none⟩,
      ⟨(some 39), .faddr 3 (.tmp 6), none⟩,
      ⟨none, .store 1 (.tmp 39) (.tmp 38), none⟩] [4, 6]))
    (.seq (.reg [⟨(some 41), .bin .eql 21 (.tmp 22) (.con (.sc (.int .i32 105))), none⟩,
      ⟨(some 40), .mv (.tmp 41), none⟩] [0, 1, 4, 6, 40])
    (.cond (.tmp 40)
     (.seq (.reg [⟨(some 42), .mv (.tmp 0), none⟩,
       ⟨(some 43), .call 157 [(.tmp 42)], none⟩] [0, 1, 4, 6])
     (.seq (.reg [⟨(some 44), .mv (.tmp 0), none⟩,
       ⟨(some 45), .mv (.tmp 1), none⟩,
       ⟨(some 46), .call 159 [(.tmp 44), (.tmp 45)], none⟩,
       ⟨(some 47), .faddr 3 (.tmp 6), none⟩,
       ⟨none, .store 1 (.tmp 47) (.tmp 46), none⟩] [0, 1, 4, 6])
     (.seq (.reg [⟨(some 48), .mv (.tmp 0), none⟩,
       ⟨(some 49), .call 156 [(.tmp 48)], none⟩,
       ⟨(some 50), .fld 2 none (.tmp 49), none⟩,
       ⟨(some 51), .bin .eql 9 (.tmp 50) (.con (.sc (.string ⟨#[101, 108, 115, 101]⟩))), none⟩] [0, 1, 4, 6, 51])
     (.cond (.tmp 51)
      (.seq (.reg [⟨(some 52), .mv (.tmp 0), none⟩,
        ⟨(some 53), .call 157 [(.tmp 52)], none⟩] [0, 1, 4, 6])
      (.reg [⟨(some 54), .mv (.tmp 0), none⟩,
        ⟨(some 55), .mv (.tmp 1), none⟩,
        ⟨(some 56), .call 159 [(.tmp 54), (.tmp 55)], none⟩,
        ⟨(some 57), .faddr 4 (.tmp 6), none⟩,
        ⟨none, .store 1 (.tmp 57) (.tmp 56), none⟩] [4, 6]))
      (.skip)))))
     (.reg [⟨(some 23), .mv (.tmp 0), none⟩,
       ⟨(some 24), .call 160 [(.tmp 23), (.con (.sc (.int .i64 7)))], none⟩] [4, 6])))))))))
 (.seq (.reg [⟨(some 58), .load (some 5) (.tmp 6), none⟩,
   ⟨none, .store 5 (.tmp 4) (.tmp 58), none⟩] [4])
 (.ret)))))),
 59, [.cell 4 (some 5)], .made⟩
def h199 : List Hint := [.keep [0, 1, 4], .keep [0, 1, 4, 5], .keep [0, 1, 4, 5, 11], .keep [0, 1, 4, 5], .keep [0, 1, 4, 6], .keep [0, 1, 4, 6, 22], .keep [0, 1, 4, 6, 22, 25], .keep [0, 4, 6], .keep [4, 6], .keep [0, 1, 4, 6, 22, 32], .keep [0, 1, 4, 6], .keep [4, 6], .keep [0, 1, 4, 6, 40], .keep [0, 1, 4, 6], .keep [0, 1, 4, 6], .keep [0, 1, 4, 6, 51], .keep [0, 1, 4, 6], .keep [4, 6], .keep [4, 6], .keep [4]]
theorem g199 : digFn Tryz.prog Tryz.f199 h199 .made = some d199 := by kernel_rfl

/-- slices.Clip[[]deadbolt/api.Stmt,deadbolt/api.Stmt] -/
def d200 : DFn := ⟨.seq (.reg [⟨(some 2), .mv (.con (.lst 0 [] .nil)), none⟩] [0])
 (.seq (.reg [⟨(some 3), .mv (.tmp 0), none⟩,
   ⟨(some 4), .mv (.tmp 0), none⟩,
   ⟨(some 5), .len false (.tmp 4), none⟩,
   ⟨(some 6), .mv (.tmp 0), none⟩,
   ⟨(some 7), .len false (.tmp 6), none⟩,
   ⟨(some 8), .slc 5 (.tmp 3) none (some (.tmp 5)) (some (.tmp 7)), none⟩,
   ⟨(some 2), .mv (.tmp 8), none⟩] [2])
 (.ret)),
 9, [.tmp 2], .pure⟩
def h200 : List Hint := [.keep [0], .keep [2]]
theorem g200 : digFn Tryz.prog Tryz.f200 h200 .pure = some d200 := by kernel_rfl

/-- deadbolt/names.small$1 -/
def d139 : DFn := ⟨.seq (.reg [⟨(some 2), .box 62 (.tmp 0), none⟩] [1])
 (.reg [⟨(some 3), .load none (.tmp 1), none⟩,
   ⟨(some 4), .bin .add 3 (.tmp 3) (.con (.sc (.int .i64 1))), none⟩,
   ⟨none, .store 1 (.tmp 1) (.tmp 4), none⟩] []),
 5, [], .made⟩
def h139 : List Hint := [.keep [1], .keep []]
theorem g139 : digFn Tryz.prog Tryz.f139 h139 .made = some d139 := by kernel_rfl

/-- (deadbolt/names.table).put -/
def d140 : DFn := ⟨.seq (.seq (.reg [⟨(some 11), .mv (.tmp 0), none⟩,
   ⟨(some 12), .mv (.tmp 1), none⟩,
   ⟨(some 13), .ex (.lkup .str (.sc (.string ⟨#[]⟩)) true) [(.tmp 11), (.tmp 12)], none⟩,
   ⟨(some 10), .mv (.tmp 13), none⟩,
   ⟨(some 14), .extr (.tmp 10) 0, none⟩,
   ⟨(some 15), .extr (.tmp 10) 1, none⟩,
   ⟨(some 8), .mv (.tmp 14), none⟩,
   ⟨(some 9), .mv (.tmp 15), none⟩] [0, 1, 2, 3, 9])
 (.seq (.reg [⟨(some 16), .mv (.tmp 9), none⟩] [0, 1, 2, 3, 16])
 (.cond (.tmp 16)
  (.reg [⟨(some 17), .mv (.tmp 3), none⟩,
    ⟨(some 18), .build [(.sc (.int .i64 0)), (.sc (.int .i64 0))] [(0, 1, (.tmp 17)), (1, 1, (.con (.sc (.int .i64 9))))], none⟩,
    ⟨(some 19), .mkif 158 (.tmp 18), none⟩,
    ⟨none, .panic (.tmp 19), none⟩] [0, 1, 2])
  (.skip))))
 (.reg [⟨(some 20), .mv (.tmp 0), none⟩,
   ⟨(some 21), .mv (.tmp 1), none⟩,
   ⟨(some 22), .mv (.tmp 2), none⟩,
   ⟨none, .ex (.mupd .str) [(.tmp 20), (.tmp 21), (.tmp 22)], none⟩] []),
 23, [], .made⟩
def h140 : List Hint := [.keep [0, 1, 2, 3, 9], .keep [0, 1, 2, 3, 16], .keep [0, 1, 2], .keep []]
theorem g140 : digFn Tryz.prog Tryz.f140 h140 .made = some d140 := by kernel_rfl

/-- deadbolt/names.asks -/
def d93 : DFn := ⟨.seq (.reg [⟨(some 2), .mv (.con (.sc (.string ⟨#[]⟩))), none⟩] [0])
 (.seq (.seq (.reg [⟨(some 3), .mv (.tmp 0), none⟩] [3])
 (.block 0 (.seq (.seq (.reg [⟨(some 5), .bin .eql 3 (.tmp 3) (.con (.sc (.int .i64 1))), none⟩,
    ⟨(some 4), .mv (.tmp 5), none⟩] [3, 4])
  (.cond (.tmp 4)
   (.skip)
   (.reg [⟨(some 6), .bin .eql 3 (.tmp 3) (.con (.sc (.int .i64 2))), none⟩,
     ⟨(some 4), .mv (.tmp 6), none⟩] [3, 4])))
  (.cond (.tmp 4)
   (.seq (.reg [⟨(some 2), .mv (.con (.sc (.string ⟨#[118, 97, 114]⟩))), none⟩] [2])
   (.ret))
   (.seq (.seq (.reg [⟨(some 8), .bin .eql 3 (.tmp 3) (.con (.sc (.int .i64 3))), none⟩,
     ⟨(some 7), .mv (.tmp 8), none⟩] [3, 7])
   (.cond (.tmp 7)
    (.skip)
    (.reg [⟨(some 9), .bin .eql 3 (.tmp 3) (.con (.sc (.int .i64 4))), none⟩,
      ⟨(some 7), .mv (.tmp 9), none⟩] [3, 7])))
   (.cond (.tmp 7)
    (.seq (.reg [⟨(some 2), .mv (.con (.sc (.string ⟨#[108, 111, 99, 107]⟩))), none⟩] [2])
    (.ret))
    (.seq (.seq (.reg [⟨(some 11), .bin .eql 3 (.tmp 3) (.con (.sc (.int .i64 5))), none⟩,
      ⟨(some 10), .mv (.tmp 11), none⟩] [3, 10])
    (.cond (.tmp 10)
     (.skip)
     (.reg [⟨(some 12), .bin .eql 3 (.tmp 3) (.con (.sc (.int .i64 6))), none⟩,
       ⟨(some 10), .mv (.tmp 12), none⟩] [10])))
    (.cond (.tmp 10)
     (.seq (.reg [⟨(some 2), .mv (.con (.sc (.string ⟨#[102, 117, 110, 99]⟩))), none⟩] [2])
     (.ret))
     (.skip)))))))))
 (.seq (.reg [⟨(some 2), .mv (.con (.sc (.string ⟨#[]⟩))), none⟩] [2])
 (.ret))),
 13, [.tmp 2], .pure⟩
def h93 : List Hint := [.keep [0], .keep [3], .keep [3, 4], .keep [3, 4], .keep [2], .keep [3, 7], .keep [3, 7], .keep [2], .keep [3, 10], .keep [10], .keep [2], .keep [2]]
theorem g93 : digFn Tryz.prog Tryz.f93 h93 .pure = some d93 := by kernel_rfl

/-- slices.order2CmpFunc[deadbolt/api.File] -/
def d216 : DFn := ⟨.seq (.reg [⟨(some 10), .mv (.con (.sc (.int .i64 0))), none⟩,
   ⟨(some 11), .mv (.con (.sc (.int .i64 0))), none⟩] [0, 1, 2, 3, 4])
 (.seq (.seq (.drw [⟨(some 12), .mv (.tmp 4), none⟩,
   ⟨(some 13), .mv (.tmp 0), none⟩,
   ⟨(some 14), .mv (.tmp 2), none⟩,
   ⟨(some 15), .iaddr 2 (.tmp 13) (.tmp 14), none⟩,
   ⟨(some 16), .load (some 2) (.tmp 15), none⟩,
   ⟨(some 17), .mv (.tmp 0), none⟩,
   ⟨(some 18), .mv (.tmp 1), none⟩,
   ⟨(some 19), .iaddr 2 (.tmp 17) (.tmp 18), none⟩,
   ⟨(some 20), .load (some 2) (.tmp 19), none⟩,
   ⟨(some 21), .callv (.tmp 12) [(.tmp 16), (.tmp 20)], none⟩,
   ⟨(some 22), .bin .lss 3 (.tmp 21) (.con (.sc (.int .i64 0))), none⟩] [0, 0, 0, 6, 14, 0, 0, 96, 224, 511, 1023] [1, 2, 3, 22])
 (.cond (.tmp 22)
  (.seq (.reg [⟨(some 23), .mv (.tmp 3), none⟩,
    ⟨(some 24), .nilc (.tmp 23), none⟩,
    ⟨(some 25), .load none (.tmp 24), none⟩,
    ⟨(some 26), .bin .add 3 (.tmp 25) (.con (.sc (.int .i64 1))), none⟩,
    ⟨(some 27), .nilc (.tmp 23), none⟩,
    ⟨none, .store 1 (.tmp 27) (.tmp 26), none⟩] [1, 2])
  (.seq (.reg [⟨(some 28), .mv (.tmp 2), none⟩,
    ⟨(some 29), .mv (.tmp 1), none⟩,
    ⟨(some 10), .mv (.tmp 28), none⟩,
    ⟨(some 11), .mv (.tmp 29), none⟩] [10, 11])
  (.ret)))
  (.skip)))
 (.seq (.reg [⟨(some 30), .mv (.tmp 1), none⟩,
   ⟨(some 31), .mv (.tmp 2), none⟩,
   ⟨(some 10), .mv (.tmp 30), none⟩,
   ⟨(some 11), .mv (.tmp 31), none⟩] [10, 11])
 (.ret))),
 32, [.tmp 10, .tmp 11], .made⟩
def h216 : List Hint := [.keep [0, 1, 2, 3, 4], .keep [1, 2, 3, 22], .keep [1, 2], .keep [10, 11], .keep [10, 11]]
theorem g216 : digFn Tryz.prog Tryz.f216 h216 .made = some d216 := by kernel_rfl

/-- deadbolt/parse.kind -/
def d218 : DFn := ⟨.seq (.reg [⟨(some 2), .mv (.con (.sc (.int .i64 0))), none⟩] [0])
 (.seq (.reg [⟨(some 3), .call 154 [(.con (.sc (.string ⟨#[117, 115, 101, 32, 115, 101, 116, 32, 108, 111, 99, 107, 32, 117, 110, 108, 111, 99, 107, 32, 99, 97, 108, 108, 32, 115, 112, 97, 119, 110, 32, 105, 102, 32, 108, 111, 111, 112]⟩)))], none⟩,
   ⟨(some 4), .mv (.tmp 0), none⟩,
   ⟨(some 5), .call 249 [(.tmp 3), (.tmp 4)], none⟩,
   ⟨(some 6), .bin .add 3 (.tmp 5) (.con (.sc (.int .i64 1))), none⟩,
   ⟨(some 2), .mv (.tmp 6), none⟩] [2])
 (.ret)),
 7, [.tmp 2], .pure⟩
def h218 : List Hint := [.keep [0], .keep [2]]
theorem g218 : digFn Tryz.prog Tryz.f218 h218 .pure = some d218 := by kernel_rfl

/-- deadbolt/parse.shape -/
def d219 : DFn := ⟨.seq (.reg [⟨(some 2), .mv (.con (.sc (.int .i32 0))), none⟩] [0])
 (.seq (.seq (.reg [⟨(some 5), .rngS (.con (.sc (.string ⟨#[110, 110, 110, 110, 110, 110, 105, 111]⟩))), none⟩] [0, 5])
 (.block 0 (.loop (.seq (.reg [⟨(some 6), .nxtS (.tmp 5), none⟩,
     ⟨(some 7), .extr (.tmp 6) 0, none⟩] [0, 5, 6, 7])
   (.seq (.cond (.tmp 7)
    (.skip)
    (.exit 0))
   (.block 1 (.seq (.reg [⟨(some 8), .extr (.tmp 6) 1, none⟩,
      ⟨(some 9), .extr (.tmp 6) 2, none⟩,
      ⟨(some 3), .mv (.tmp 8), none⟩,
      ⟨(some 4), .mv (.tmp 9), none⟩] [0, 3, 4, 5])
    (.seq (.reg [⟨(some 10), .mv (.tmp 3), none⟩,
      ⟨(some 11), .bin .add 3 (.tmp 10) (.con (.sc (.int .i64 1))), none⟩,
      ⟨(some 12), .mv (.tmp 0), none⟩,
      ⟨(some 13), .bin .eql 3 (.tmp 11) (.tmp 12), none⟩] [0, 4, 5, 13])
    (.cond (.tmp 13)
     (.seq (.reg [⟨(some 14), .mv (.tmp 4), none⟩,
       ⟨(some 2), .mv (.tmp 14), none⟩] [2])
     (.ret))
     (.skip))))))))))
 (.seq (.reg [⟨(some 2), .mv (.con (.sc (.int .i32 0))), none⟩] [2])
 (.ret))),
 15, [.tmp 2], .pure⟩
def h219 : List Hint := [.keep [0], .keep [0, 5], .keep [0, 5, 6, 7], .keep [0, 3, 4, 5], .keep [0, 4, 5, 13], .keep [2], .keep [2]]
theorem g219 : digFn Tryz.prog Tryz.f219 h219 .pure = some d219 := by kernel_rfl

/-- slices.Index[[]string,string] -/
def d249 : DFn := ⟨.seq (.reg [⟨(some 4), .mv (.con (.sc (.int .i64 0))), none⟩] [0, 1])
 (.seq (.seq (.reg [⟨(some 6), .mv (.tmp 0), none⟩,
   ⟨(some 7), .len false (.tmp 6), none⟩,
   ⟨(some 8), .mv (.con (.sc (.int .i64 0))), none⟩] [0, 1, 7, 8])
 (.block 0 (.loop (.seq (.reg [⟨(some 9), .bin .lss 3 (.tmp 8) (.tmp 7), none⟩] [0, 1, 7, 8, 9])
   (.seq (.cond (.tmp 9)
    (.skip)
    (.exit 0))
   (.seq (.block 1 (.seq (.reg [⟨(some 10), .mv (.tmp 8), none⟩,
      ⟨(some 5), .mv (.tmp 10), none⟩] [0, 1, 5, 7, 8])
    (.seq (.reg [⟨(some 11), .mv (.tmp 1), none⟩,
      ⟨(some 12), .mv (.tmp 0), none⟩,
      ⟨(some 13), .mv (.tmp 5), none⟩,
      ⟨(some 14), .iaddr 1 (.tmp 12) (.tmp 13), none⟩,
      ⟨(some 15), .load none (.tmp 14), none⟩,
      ⟨(some 16), .bin .eql 9 (.tmp 11) (.tmp 15), none⟩] [0, 1, 5, 7, 8, 16])
    (.cond (.tmp 16)
     (.seq (.reg [⟨(some 17), .mv (.tmp 5), none⟩,
       ⟨(some 4), .mv (.tmp 17), none⟩] [4])
     (.ret))
     (.skip)))))
   (.reg [⟨(some 18), .bin .add 3 (.tmp 8) (.con (.sc (.int .i64 1))), none⟩,
     ⟨(some 8), .mv (.tmp 18), none⟩] [0, 1, 7, 8])))))))
 (.seq (.reg [⟨(some 4), .mv (.con (.sc (.int .i64 (-1)))), none⟩] [4])
 (.ret))),
 19, [.tmp 4], .pure⟩
def h249 : List Hint := [.keep [0, 1], .keep [0, 1, 7, 8], .keep [0, 1, 7, 8, 9], .keep [0, 1, 5, 7, 8], .keep [0, 1, 5, 7, 8, 16], .keep [4], .keep [0, 1, 7, 8], .keep [4]]
theorem g249 : digFn Tryz.prog Tryz.f249 h249 .pure = some d249 := by kernel_rfl

def rows : List (FuncId × Row) := [(6, .fn d6), (11, .fn d11), (15, .fn d15), (23, .fn d23), (50, .spl d50), (52, .fn d52), (51, .fn d51), (54, .fn d54), (55, .dfr d55), (56, .fn d56), (18, .fn d18), (57, .spl d57), (58, .spl d58), (96, .fn d96), (95, .fn d95), (98, .fn d98), (99, .fn d99), (101, .fn d101), (102, .fn d102), (103, .fn d103), (45, .dfr d45), (44, .fn d44), (149, .fn d149), (150, .fn d150), (141, .fn d141), (142, .fn d142), (143, .fn d143), (144, .fn d144), (145, .fn d145), (146, .fn d146), (147, .fn d147), (148, .fn d148), (152, .fn d152), (153, .fn d153), (155, .fn d155), (156, .fn d156), (157, .fn d157), (158, .fn d158), (159, .fn d159), (160, .fn d160), (161, .fn d161), (162, .spl d162), (89, .fn d89), (90, .fn d90), (92, .fn d92), (91, .fn d91), (191, .fn d191), (192, .fn d192), (193, .fn d193), (194, .fn d194), (195, .fn d195), (196, .fn d196), (199, .fn d199), (200, .fn d200), (139, .fn d139), (140, .fn d140), (93, .fn d93), (216, .fn d216), (218, .fn d218), (219, .fn d219), (249, .fn d249)]
def clos : List (FuncId × DClo) := [(100, d100), (88, d88)]
theorem rows_ok {W0 : World} : RowsOkL Tryz.prog W0 rows := ⟨⟨Tryz.f6, h6, Tryz.func6, g6⟩,
 ⟨Tryz.f11, h11, Tryz.func11, g11⟩,
 ⟨Tryz.f15, h15, Tryz.func15, g15⟩,
 ⟨Tryz.f23, h23, Tryz.func23, g23⟩,
 ⟨Tryz.f50, h50, Tryz.func50, g50⟩,
 ⟨Tryz.f52, h52, Tryz.func52, g52⟩,
 ⟨Tryz.f51, h51, Tryz.func51, g51⟩,
 ⟨Tryz.f54, h54, Tryz.func54, g54⟩,
 ⟨Tryz.f55, [2, 3, 4], h55, Tryz.func55, g55⟩,
 ⟨Tryz.f56, h56, Tryz.func56, g56⟩,
 ⟨Tryz.f18, h18, Tryz.func18, g18⟩,
 ⟨Tryz.f57, h57, Tryz.func57, g57⟩,
 ⟨Tryz.f58, h58, Tryz.func58, g58⟩,
 ⟨Tryz.f96, h96, Tryz.func96, g96⟩,
 ⟨Tryz.f95, h95, Tryz.func95, g95⟩,
 ⟨Tryz.f98, h98, Tryz.func98, g98⟩,
 ⟨Tryz.f99, h99, Tryz.func99, g99⟩,
 ⟨Tryz.f101, h101, Tryz.func101, g101⟩,
 ⟨Tryz.f102, h102, Tryz.func102, g102⟩,
 ⟨Tryz.f103, h103, Tryz.func103, g103⟩,
 ⟨Tryz.f45, [2], h45, Tryz.func45, g45⟩,
 ⟨Tryz.f44, h44, Tryz.func44, g44⟩,
 ⟨Tryz.f149, h149, Tryz.func149, g149⟩,
 ⟨Tryz.f150, h150, Tryz.func150, g150⟩,
 ⟨Tryz.f141, h141, Tryz.func141, g141⟩,
 ⟨Tryz.f142, h142, Tryz.func142, g142⟩,
 ⟨Tryz.f143, h143, Tryz.func143, g143⟩,
 ⟨Tryz.f144, h144, Tryz.func144, g144⟩,
 ⟨Tryz.f145, h145, Tryz.func145, g145⟩,
 ⟨Tryz.f146, h146, Tryz.func146, g146⟩,
 ⟨Tryz.f147, h147, Tryz.func147, g147⟩,
 ⟨Tryz.f148, h148, Tryz.func148, g148⟩,
 ⟨Tryz.f152, h152, Tryz.func152, g152⟩,
 ⟨Tryz.f153, h153, Tryz.func153, g153⟩,
 ⟨Tryz.f155, h155, Tryz.func155, g155⟩,
 ⟨Tryz.f156, h156, Tryz.func156, g156⟩,
 ⟨Tryz.f157, h157, Tryz.func157, g157⟩,
 ⟨Tryz.f158, h158, Tryz.func158, g158⟩,
 ⟨Tryz.f159, h159, Tryz.func159, g159⟩,
 ⟨Tryz.f160, h160, Tryz.func160, g160⟩,
 ⟨Tryz.f161, h161, Tryz.func161, g161⟩,
 ⟨Tryz.f162, h162, Tryz.func162, g162⟩,
 ⟨Tryz.f89, h89, Tryz.func89, g89⟩,
 ⟨Tryz.f90, h90, Tryz.func90, g90⟩,
 ⟨Tryz.f92, h92, Tryz.func92, g92⟩,
 ⟨Tryz.f91, h91, Tryz.func91, g91⟩,
 ⟨Tryz.f191, h191, Tryz.func191, g191⟩,
 ⟨Tryz.f192, h192, Tryz.func192, g192⟩,
 ⟨Tryz.f193, h193, Tryz.func193, g193⟩,
 ⟨Tryz.f194, h194, Tryz.func194, g194⟩,
 ⟨Tryz.f195, h195, Tryz.func195, g195⟩,
 ⟨Tryz.f196, h196, Tryz.func196, g196⟩,
 ⟨Tryz.f199, h199, Tryz.func199, g199⟩,
 ⟨Tryz.f200, h200, Tryz.func200, g200⟩,
 ⟨Tryz.f139, h139, Tryz.func139, g139⟩,
 ⟨Tryz.f140, h140, Tryz.func140, g140⟩,
 ⟨Tryz.f93, h93, Tryz.func93, g93⟩,
 ⟨Tryz.f216, h216, Tryz.func216, g216⟩,
 ⟨Tryz.f218, h218, Tryz.func218, g218⟩,
 ⟨Tryz.f219, h219, Tryz.func219, g219⟩,
 ⟨Tryz.f249, h249, Tryz.func249, g249⟩,
 trivial⟩
theorem clos_ok : ClosOkL Tryz.prog clos := ⟨⟨Tryz.f100, h100, Tryz.func100, by kernel_rfl, g100⟩,
 ⟨Tryz.f88, h88, Tryz.func88, by kernel_rfl, g88⟩,
 trivial⟩
end Go.Proofs.YtnmjgpnidpgimaaGreatDoor
