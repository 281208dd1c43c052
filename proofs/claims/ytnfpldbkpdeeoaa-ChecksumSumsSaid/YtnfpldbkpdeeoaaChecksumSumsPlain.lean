/- Plain Lean functions, as lift.py reads them off the Go functions that ChecksumSums reaches. -/
import Derived.Test.YtnfpldbkpdeeoaaLiftR
namespace Lift
open Go


def law01_light (fuel : Nat) (a0 : List Int) : Option (Bool) :=
  letP (decide ((a0.length : Int) ≤ 2000)) fun x1 =>
  some x1
def checksum_CRC8 (fuel : Nat) (a0 : List Int) : Option (Int) :=
  loopP (fun k1 (s1 : (Int × Int)) =>
  iteP (decide (s1.2 < (a0.length : Int))) (
  bindP (idx a0 s1.2) fun x1 =>
  loopP (fun k2 (s2 : (Int × Int)) =>
  iteP (decide (s2.2 < 8)) (
  letP (bXor .u8 (bShl .u8 s2.1 1) (IntKind.u8.wrap ((bShr .u8 s2.1 7) * 7))) fun x2 =>
  k2 (x2, (IntKind.i64.wrap (s2.2 + 1)))) (
  k1 (s2.1, (IntKind.i64.wrap (s1.2 + 1))))) fuel ((bXor .u8 s1.1 x1), 0)) (
  some s1.1)) fuel (0, 0)
def checksum_CRC32 (fuel : Nat) (a0 : List Int) : Option (Int) :=
  loopP (fun k1 (s1 : (Int × Int)) =>
  iteP (decide (s1.2 < (a0.length : Int))) (
  bindP (idx a0 s1.2) fun x1 =>
  letP (bXor .u32 s1.1 (IntKind.u32.wrap x1)) fun x2 =>
  loopP (fun k2 (s2 : (Int × Int)) =>
  iteP (decide (s2.2 < 8)) (
  letP (bXor .u32 (bShr .u32 s2.1 1) (IntKind.u32.wrap ((bAnd .u32 s2.1 1) * 3988292384))) fun x3 =>
  k2 (x3, (IntKind.i64.wrap (s2.2 + 1)))) (
  k1 (s2.1, (IntKind.i64.wrap (s1.2 + 1))))) fuel (x2, 0)) (
  some (bNot .u32 s1.1))) fuel (4294967295, 0)
def checksum_Sum8 (fuel : Nat) (a0 : List Int) : Option (Int) :=
  loopP (fun k1 (s1 : (Int × Int)) =>
  iteP (decide (s1.2 < (a0.length : Int))) (
  bindP (idx a0 s1.2) fun x1 =>
  letP (IntKind.u8.wrap (s1.1 + x1)) fun x2 =>
  k1 (x2, (IntKind.i64.wrap (s1.2 + 1)))) (
  letP (IntKind.u8.wrap (0 - s1.1)) fun x3 =>
  some x3)) fuel (0, 0)
def slices_Clone_byte_byte (fuel : Nat) (a0 : List Int) : Option ((List Int)) :=
  bindP (app 1 ([]) a0) fun x1 =>
  some x1
def checksum_Seal8 (fuel : Nat) (a0 : List Int) : Option ((List Int)) :=
  bindP (slices_Clone_byte_byte fuel a0) fun y1 =>
  bindP (checksum_Sum8 fuel a0) fun y2 =>
  bindP (app 1 y1 ([y2])) fun x1 =>
  some x1
def law01_awake (fuel : Nat)  : Option (Bool) :=
  bindP (checksum_CRC8 fuel ([49, 50, 51, 52, 53, 54, 55, 56, 57])) fun y1 =>
  iteP (y1 == 244) (
  bindP (checksum_CRC32 fuel ([49, 50, 51, 52, 53, 54, 55, 56, 57])) fun y2 =>
  iteP (y2 == 3421780262) (
  bindP (checksum_Sum8 fuel ([32, 24])) fun y3 =>
  iteP (y3 == 200) (
  bindP (checksum_Seal8 fuel ([49, 50, 51, 52, 53, 54, 55, 56, 57])) fun y4 =>
  letP ((y4.length : Int) == 10) fun x1 =>
  some x1) (
  some false)) (
  some false)) (
  some false)
def ref01_Sum8 (fuel : Nat) (a0 : List Int) : Option (Int) :=
  loopP (fun k1 (s1 : (Int × Int)) =>
  iteP (decide (s1.2 < (a0.length : Int))) (
  bindP (idx a0 s1.2) fun x1 =>
  letP (Int.tmod (IntKind.i64.wrap (s1.1 + (IntKind.i64.wrap x1))) 256) fun x2 =>
  letP (IntKind.i64.wrap (s1.2 + 1)) fun x3 =>
  k1 (x2, x3)) (
  letP (IntKind.u8.wrap (Int.tmod (IntKind.i64.wrap (256 - s1.1)) 256)) fun x4 =>
  some x4)) fuel (0, 0)
def ref01_CRC8 (fuel : Nat) (a0 : List Int) : Option (Int) :=
  loopP (fun k1 (s1 : (Int × Int)) =>
  iteP (decide (s1.2 < (a0.length : Int))) (
  bindP (idx a0 s1.2) fun x1 =>
  letP (bXor .i64 s1.1 (IntKind.i64.wrap x1)) fun x2 =>
  loopP (fun k2 (s2 : (Int × Int)) =>
  iteP (decide (s2.2 < 8)) (
  letP (IntKind.i64.wrap (2 * s2.1)) fun x3 =>
  iteP (decide (x3 ≥ 256)) (
  letP (bXor .i64 (IntKind.i64.wrap (x3 - 256)) 7) fun x4 =>
  letP (IntKind.i64.wrap (s2.2 + 1)) fun x5 =>
  k2 (x4, x5)) (
  letP (IntKind.i64.wrap (s2.2 + 1)) fun x6 =>
  k2 (x3, x6))) (
  letP (IntKind.i64.wrap (s1.2 + 1)) fun x7 =>
  k1 (s2.1, x7))) fuel (x2, 0)) (
  some (IntKind.u8.wrap s1.1))) fuel (0, 0)
def ref01_CRC32 (fuel : Nat) (a0 : List Int) : Option (Int) :=
  loopP (fun k1 (s1 : (Int × Int)) =>
  iteP (decide (s1.2 < (a0.length : Int))) (
  bindP (idx a0 s1.2) fun x1 =>
  letP (bXor .u32 s1.1 (IntKind.u32.wrap x1)) fun x2 =>
  loopP (fun k2 (s2 : (Int × Int)) =>
  iteP (decide (s2.2 < 8)) (
  letP (IntKind.u32.wrap (Int.tdiv s2.1 2)) fun x3 =>
  iteP ((Int.tmod s2.1 2) == 1) (
  letP (bXor .u32 x3 3988292384) fun x4 =>
  letP (IntKind.i64.wrap (s2.2 + 1)) fun x5 =>
  k2 (x4, x5)) (
  letP (IntKind.i64.wrap (s2.2 + 1)) fun x6 =>
  k2 (x3, x6))) (
  letP (IntKind.i64.wrap (s1.2 + 1)) fun x7 =>
  k1 (s2.1, x7))) fuel (x2, 0)) (
  letP (IntKind.u32.wrap (4294967295 - s1.1)) fun x8 =>
  some x8)) fuel (4294967295, 0)
def law01_ChecksumSums (fuel : Nat) (a0 : List Int) : Option (Bool) :=
  bindP (law01_light fuel a0) fun y1 =>
  iteP (!y1) (
  bindP (law01_awake fuel) fun y2 =>
  some y2) (
  bindP (checksum_Sum8 fuel a0) fun y3 =>
  bindP (ref01_Sum8 fuel a0) fun y4 =>
  iteP (y3 == y4) (
  bindP (checksum_CRC8 fuel a0) fun y5 =>
  bindP (ref01_CRC8 fuel a0) fun y6 =>
  iteP (y5 == y6) (
  bindP (checksum_CRC32 fuel a0) fun y7 =>
  bindP (ref01_CRC32 fuel a0) fun y8 =>
  iteP (y7 == y8) (
  bindP (law01_awake fuel) fun y9 =>
  some y9) (
  some false)) (
  some false)) (
  some false))
end Lift
