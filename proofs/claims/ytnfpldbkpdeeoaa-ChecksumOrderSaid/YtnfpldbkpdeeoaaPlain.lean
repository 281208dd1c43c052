/- Plain Lean functions, as lift.py reads them off the Go functions of the seat. -/
import Derived.Test.YtnfpldbkpdeeoaaLiftR
namespace Lift
open Go
structure made_Dice where
  L : List Int
  At : Int
def made_Dice.rep : Rep made_Dice := Rep.iso (fun s => (s.L, s.At, ())) (Rep.prod (Rep.slice (Rep.int .i64)) (Rep.prod (Rep.int .i64) Rep.unit))
def made_Dice.z : made_Dice := ⟨[], 0⟩
theorem made_Dice.zr : Zr made_Dice.rep [.slice none 0 0, .int .i64 0] made_Dice.z := Zr.iso (r := (Rep.prod (Rep.slice (Rep.int .i64)) (Rep.prod (Rep.int .i64) Rep.unit))) _ (Zr.of (Zr.prod (Zr.slice (Rep.int .i64)) (Zr.prod (Zr.int .i64 0) Zr.unit)) rfl)
theorem made_Dice.f0 : Fld made_Dice.rep 0 (Rep.slice (Rep.int .i64)) made_Dice.L (fun s y => { s with L := y }) := Fld.iso (fun s : made_Dice => (s.L, s.At, ())) Fld.here (fun _ => rfl) (fun _ _ => rfl)
theorem made_Dice.f1 : Fld made_Dice.rep 1 (Rep.int .i64) made_Dice.At (fun s y => { s with At := y }) := Fld.iso (fun s : made_Dice => (s.L, s.At, ())) (Fld.there Fld.here) (fun _ => rfl) (fun _ _ => rfl)
def made_Dice.ok (s : made_Dice) : Prop := (okL (okI .i64)) s.L ∧ (okI .i64) s.At ∧ True
def law01_light (fuel : Nat) (a0 : List Int) : Option (Bool) :=
  letP (decide ((a0.length : Int) ≤ 2000)) fun x1 =>
  some x1
def checksum_CRC8 (fuel : Nat) (a0 : List Int) : Option (Int) :=
  loopP (fun k1 (s1 : (Int × Int)) =>
  iteP (decide (s1.2 < (a0.length : Int))) (
  bindP (idx a0 s1.2) fun x1 =>
  loopP (fun k2 (s2 : (Int × Int)) =>
  iteP (decide (s2.2 < 8)) (
  letP (bXor .u8 (bShl .u8 s2.1 1) (IntKind.u8.wrap ((bShr .u8 s2.1 7) * 7))) fun x2 =>
  k2 (x2, (IntKind.i64.wrap (s2.2 + 1)))) (
  k1 (s2.1, (IntKind.i64.wrap (s1.2 + 1))))) fuel ((bXor .u8 s1.1 x1), 0)) (
  some s1.1)) fuel (0, 0)
def checksum_CRC32 (fuel : Nat) (a0 : List Int) : Option (Int) :=
  loopP (fun k1 (s1 : (Int × Int)) =>
  iteP (decide (s1.2 < (a0.length : Int))) (
  bindP (idx a0 s1.2) fun x1 =>
  letP (bXor .u32 s1.1 (IntKind.u32.wrap x1)) fun x2 =>
  loopP (fun k2 (s2 : (Int × Int)) =>
  iteP (decide (s2.2 < 8)) (
  letP (bXor .u32 (bShr .u32 s2.1 1) (IntKind.u32.wrap ((bAnd .u32 s2.1 1) * 3988292384))) fun x3 =>
  k2 (x3, (IntKind.i64.wrap (s2.2 + 1)))) (
  k1 (s2.1, (IntKind.i64.wrap (s1.2 + 1))))) fuel (x2, 0)) (
  some (bNot .u32 s1.1))) fuel (4294967295, 0)
def checksum_Sum8 (fuel : Nat) (a0 : List Int) : Option (Int) :=
  loopP (fun k1 (s1 : (Int × Int)) =>
  iteP (decide (s1.2 < (a0.length : Int))) (
  bindP (idx a0 s1.2) fun x1 =>
  letP (IntKind.u8.wrap (s1.1 + x1)) fun x2 =>
  k1 (x2, (IntKind.i64.wrap (s1.2 + 1)))) (
  letP (IntKind.u8.wrap (0 - s1.1)) fun x3 =>
  some x3)) fuel (0, 0)
def slices_Clone_byte_byte (fuel : Nat) (a0 : List Int) : Option ((List Int)) :=
  bindP (app 1 ([]) a0) fun x1 =>
  some x1
def checksum_Seal8 (fuel : Nat) (a0 : List Int) : Option ((List Int)) :=
  bindP (slices_Clone_byte_byte fuel a0) fun y1 =>
  bindP (checksum_Sum8 fuel a0) fun y2 =>
  bindP (app 1 y1 ([y2])) fun x1 =>
  some x1
def law01_awake (fuel : Nat)  : Option (Bool) :=
  bindP (checksum_CRC8 fuel ([49, 50, 51, 52, 53, 54, 55, 56, 57])) fun y1 =>
  iteP (y1 == 244) (
  bindP (checksum_CRC32 fuel ([49, 50, 51, 52, 53, 54, 55, 56, 57])) fun y2 =>
  iteP (y2 == 3421780262) (
  bindP (checksum_Sum8 fuel ([32, 24])) fun y3 =>
  iteP (y3 == 200) (
  bindP (checksum_Seal8 fuel ([49, 50, 51, 52, 53, 54, 55, 56, 57])) fun y4 =>
  letP ((y4.length : Int) == 10) fun x1 =>
  some x1) (
  some false)) (
  some false)) (
  some false)
def ref01_Sum8 (fuel : Nat) (a0 : List Int) : Option (Int) :=
  loopP (fun k1 (s1 : (Int × Int)) =>
  iteP (decide (s1.2 < (a0.length : Int))) (
  bindP (idx a0 s1.2) fun x1 =>
  letP (Int.tmod (IntKind.i64.wrap (s1.1 + (IntKind.i64.wrap x1))) 256) fun x2 =>
  letP (IntKind.i64.wrap (s1.2 + 1)) fun x3 =>
  k1 (x2, x3)) (
  letP (IntKind.u8.wrap (Int.tmod (IntKind.i64.wrap (256 - s1.1)) 256)) fun x4 =>
  some x4)) fuel (0, 0)
def ref01_CRC8 (fuel : Nat) (a0 : List Int) : Option (Int) :=
  loopP (fun k1 (s1 : (Int × Int)) =>
  iteP (decide (s1.2 < (a0.length : Int))) (
  bindP (idx a0 s1.2) fun x1 =>
  letP (bXor .i64 s1.1 (IntKind.i64.wrap x1)) fun x2 =>
  loopP (fun k2 (s2 : (Int × Int)) =>
  iteP (decide (s2.2 < 8)) (
  letP (IntKind.i64.wrap (2 * s2.1)) fun x3 =>
  iteP (decide (x3 ≥ 256)) (
  letP (bXor .i64 (IntKind.i64.wrap (x3 - 256)) 7) fun x4 =>
  letP (IntKind.i64.wrap (s2.2 + 1)) fun x5 =>
  k2 (x4, x5)) (
  letP (IntKind.i64.wrap (s2.2 + 1)) fun x6 =>
  k2 (x3, x6))) (
  letP (IntKind.i64.wrap (s1.2 + 1)) fun x7 =>
  k1 (s2.1, x7))) fuel (x2, 0)) (
  some (IntKind.u8.wrap s1.1))) fuel (0, 0)
def ref01_CRC32 (fuel : Nat) (a0 : List Int) : Option (Int) :=
  loopP (fun k1 (s1 : (Int × Int)) =>
  iteP (decide (s1.2 < (a0.length : Int))) (
  bindP (idx a0 s1.2) fun x1 =>
  letP (bXor .u32 s1.1 (IntKind.u32.wrap x1)) fun x2 =>
  loopP (fun k2 (s2 : (Int × Int)) =>
  iteP (decide (s2.2 < 8)) (
  letP (IntKind.u32.wrap (Int.tdiv s2.1 2)) fun x3 =>
  iteP ((Int.tmod s2.1 2) == 1) (
  letP (bXor .u32 x3 3988292384) fun x4 =>
  letP (IntKind.i64.wrap (s2.2 + 1)) fun x5 =>
  k2 (x4, x5)) (
  letP (IntKind.i64.wrap (s2.2 + 1)) fun x6 =>
  k2 (x3, x6))) (
  letP (IntKind.i64.wrap (s1.2 + 1)) fun x7 =>
  k1 (s2.1, x7))) fuel (x2, 0)) (
  letP (IntKind.u32.wrap (4294967295 - s1.1)) fun x8 =>
  some x8)) fuel (4294967295, 0)
def law01_ChecksumSums (fuel : Nat) (a0 : List Int) : Option (Bool) :=
  bindP (law01_light fuel a0) fun y1 =>
  iteP (!y1) (
  bindP (law01_awake fuel) fun y2 =>
  some y2) (
  bindP (checksum_Sum8 fuel a0) fun y3 =>
  bindP (ref01_Sum8 fuel a0) fun y4 =>
  iteP (y3 == y4) (
  bindP (checksum_CRC8 fuel a0) fun y5 =>
  bindP (ref01_CRC8 fuel a0) fun y6 =>
  iteP (y5 == y6) (
  bindP (checksum_CRC32 fuel a0) fun y7 =>
  bindP (ref01_CRC32 fuel a0) fun y8 =>
  iteP (y7 == y8) (
  bindP (law01_awake fuel) fun y9 =>
  some y9) (
  some false)) (
  some false)) (
  some false))
def made_Light (fuel : Nat) (a0 : List Int) : Option (Bool) :=
  letP (decide ((a0.length : Int) ≤ 600)) fun x1 =>
  some x1
def made_Roll (fuel : Nat) (a0 : List Int) : Option (made_Dice) :=
  some (⟨a0, 0⟩ : made_Dice)
def made_Mod (fuel : Nat) (a0 : Int) (a1 : Int) : Option (Int) :=
  bindP (chk (decide (a1 ≠ 0))) fun _ =>
  iteP (decide ((Int.tmod a0 a1) < 0)) (
  letP (IntKind.i64.wrap ((Int.tmod a0 a1) + a1)) fun x1 =>
  some x1) (
  some (Int.tmod a0 a1))
def made_Dice_Next (fuel : Nat) (a0 : made_Dice) (a1 : Int) : Option (Int × made_Dice) :=
  iteP (decide (a0.At ≥ (a0.L.length : Int))) (
  some (0, a0)) (
  letP ({ a0 with At := (IntKind.i64.wrap (a0.At + 1)) }) fun d1 =>
  bindP (idx d1.L (IntKind.i64.wrap (d1.At - 1))) fun x1 =>
  bindP (made_Mod fuel x1 a1) fun y1 =>
  some (y1, d1))
def made_Dice_Bool (fuel : Nat) (a0 : made_Dice) (a1 : Int) : Option (Bool × made_Dice) :=
  bindP (made_Dice_Next fuel a0 a1) fun y1 =>
  letP (y1.1 == (IntKind.i64.wrap (a1 - 1))) fun x1 =>
  some (x1, y1.2)
def made_Dice_Byte (fuel : Nat) (a0 : made_Dice) : Option (Int × made_Dice) :=
  letP ([0, 1, 127, 128, 254, 255, 15, 240]) fun d1 =>
  bindP (made_Dice_Bool fuel a0 3) fun y1 =>
  iteP y1.1 (
  bindP (made_Dice_Next fuel y1.2 8) fun y2 =>
  bindP (idx d1 y2.1) fun x1 =>
  bindP (chk (Nat.beq d1.length 8)) fun _ =>
  some (x1, y2.2)) (
  bindP (made_Dice_Next fuel y1.2 256) fun y3 =>
  some ((IntKind.u8.wrap y3.1), y3.2))
def law01_ChecksumLinear (fuel : Nat) (a0 : List Int) (a1 : Int) : Option (Bool) :=
  bindP (made_Light fuel a0) fun y1 =>
  iteP (!y1) (
  bindP (law01_awake fuel) fun y2 =>
  some y2) (
  bindP (made_Roll fuel a0) fun y3 =>
  bindP (made_Mod fuel a1 100) fun y4 =>
  bindP (mk 1 0 y4) fun x1 =>
  bindP (mk 1 0 y4) fun x2 =>
  bindP (mk 1 0 y4) fun x3 =>
  bindP (mk 1 0 y4) fun x4 =>
  bindP (mk 1 0 y4) fun x5 =>
  loopP (fun k1 (s1 : (Int × made_Dice × (List Int) × (List Int) × (List Int) × (List Int) × (List Int))) =>
  iteP (decide (s1.1 < y4)) (
  bindP (made_Dice_Byte fuel s1.2.1) fun y5 =>
  bindP (made_Dice_Byte fuel y5.2) fun y6 =>
  bindP (made_Dice_Byte fuel y6.2) fun y7 =>
  bindP (idx s1.2.2.1 s1.1) fun x6 =>
  letP (upd s1.2.2.1 s1.1 y5.1) fun d1 =>
  bindP (idx s1.2.2.2.1 s1.1) fun x7 =>
  letP (upd s1.2.2.2.1 s1.1 y6.1) fun d2 =>
  bindP (idx s1.2.2.2.2.1 s1.1) fun x8 =>
  letP (upd s1.2.2.2.2.1 s1.1 y7.1) fun d3 =>
  bindP (idx d1 s1.1) fun x9 =>
  bindP (idx d2 s1.1) fun x10 =>
  bindP (idx s1.2.2.2.2.2.1 s1.1) fun x11 =>
  letP (upd s1.2.2.2.2.2.1 s1.1 (bXor .u8 x9 x10)) fun d4 =>
  bindP (idx d1 s1.1) fun x12 =>
  bindP (idx d2 s1.1) fun x13 =>
  bindP (idx d3 s1.1) fun x14 =>
  bindP (idx s1.2.2.2.2.2.2 s1.1) fun x15 =>
  letP (upd s1.2.2.2.2.2.2 s1.1 (bXor .u8 (bXor .u8 x12 x13) x14)) fun d5 =>
  letP (IntKind.i64.wrap (s1.1 + 1)) fun x16 =>
  k1 (x16, y7.2, d1, d2, d3, d4, d5)) (
  bindP (checksum_CRC8 fuel s1.2.2.2.2.2.1) fun y8 =>
  bindP (checksum_CRC8 fuel s1.2.2.1) fun y9 =>
  bindP (checksum_CRC8 fuel s1.2.2.2.1) fun y10 =>
  iteP (y8 == (bXor .u8 y9 y10)) (
  bindP (checksum_CRC32 fuel s1.2.2.2.2.2.2) fun y11 =>
  bindP (checksum_CRC32 fuel s1.2.2.1) fun y12 =>
  bindP (checksum_CRC32 fuel s1.2.2.2.1) fun y13 =>
  bindP (checksum_CRC32 fuel s1.2.2.2.2.1) fun y14 =>
  iteP (y11 == (bXor .u32 (bXor .u32 y12 y13) y14)) (
  bindP (law01_awake fuel) fun y15 =>
  some y15) (
  some false)) (
  some false))) fuel (0, y3, x1, x2, x3, x4, x5))
def law01_ChecksumOrder (fuel : Nat) (a0 : List Int) (a1 : List Int) (a2 : Int) (a3 : Int) : Option (Bool) :=
  bindP (law01_light fuel a0) fun y1 =>
  joinP (fun (s1 : Bool) =>
  iteP s1 (
  bindP (law01_awake fuel) fun y2 =>
  some y2) (
  bindP (app 1 ([]) a0) fun x1 =>
  bindP (app 1 x1 a1) fun x2 =>
  bindP (checksum_Sum8 fuel x2) fun y3 =>
  bindP (checksum_Sum8 fuel a0) fun y4 =>
  bindP (checksum_Sum8 fuel a1) fun y5 =>
  iteP (y3 != (IntKind.u8.wrap (y4 + y5))) (
  some false) (
  joinP (fun (s2 : ((List Int))) =>
  bindP (checksum_Sum8 fuel s2) fun y6 =>
  iteP (y6 == y3) (
  bindP (law01_awake fuel) fun y7 =>
  some y7) (
  some false)) fun j2 =>
  iteP (decide ((x2.length : Int) > 0)) (
  bindP (made_Mod fuel a2 (x2.length : Int)) fun y8 =>
  bindP (made_Mod fuel a3 (x2.length : Int)) fun y9 =>
  bindP (idx x2 y9) fun x3 =>
  bindP (idx x2 y8) fun x4 =>
  bindP (idx x2 y8) fun x5 =>
  letP (upd x2 y8 x3) fun d1 =>
  bindP (idx d1 y9) fun x6 =>
  letP (upd d1 y9 x4) fun d2 =>
  j2 (d2)) (
  j2 (x2))))) fun j1 =>
  iteP (!y1) (
  j1 (true)) (
  bindP (law01_light fuel a1) fun y10 =>
  j1 (!y10))
def checksum_SealCRC8 (fuel : Nat) (a0 : List Int) : Option ((List Int)) :=
  bindP (slices_Clone_byte_byte fuel a0) fun y1 =>
  bindP (checksum_CRC8 fuel a0) fun y2 =>
  bindP (app 1 y1 ([y2])) fun x1 =>
  some x1
def law01_flip (fuel : Nat) (a0 : List Int) (a1 : Int) : Option ((List Int)) :=
  bindP (idx a0 (IntKind.i64.wrap (Int.tdiv a1 8))) fun x1 =>
  bindP (chk (decide (0 ≤ (IntKind.u64.wrap (Int.tmod a1 8))))) fun _ =>
  bindP (idx a0 (IntKind.i64.wrap (Int.tdiv a1 8))) fun x2 =>
  letP (upd a0 (IntKind.i64.wrap (Int.tdiv a1 8)) (bXor .u8 x1 (bShr .u8 128 (IntKind.u64.wrap (Int.tmod a1 8))))) fun d1 =>
  some d1
def checksum_OpenCRC8 (fuel : Nat) (a0 : List Int) : Option ((List Int) × Int) :=
  letP (IntKind.i64.wrap ((a0.length : Int) - 1)) fun x1 =>
  letP (decide (x1 < 0)) fun x2 =>
  iteP x2 (
  some ([], 4)) (
  bindP (sub a0 0 x1) fun x3 =>
  bindP (checksum_CRC8 fuel x3) fun y1 =>
  bindP (idx a0 x1) fun x4 =>
  iteP (y1 != x4) (
  some ([], 5)) (
  bindP (sub a0 0 x1) fun x5 =>
  bindP (slices_Clone_byte_byte fuel x5) fun y2 =>
  some (y2, 0)))
def law01_ChecksumBurst (fuel : Nat) (a0 : List Int) (a1 : Int) (a2 : Int) : Option (Bool) :=
  bindP (law01_light fuel a0) fun y1 =>
  joinP (fun (s1 : Bool) =>
  iteP s1 (
  bindP (law01_awake fuel) fun y2 =>
  some y2) (
  bindP (checksum_SealCRC8 fuel a0) fun y3 =>
  iteP ((y3.length : Int) != (IntKind.i64.wrap ((a0.length : Int) + 1))) (
  some false) (
  bindP (made_Mod fuel a1 (IntKind.i64.wrap ((IntKind.i64.wrap (8 * (y3.length : Int))) - 7))) fun y4 =>
  loopP (fun k1 (s2 : (Int × (List Int))) =>
  iteP (decide (s2.1 < 8)) (
  bindP (chk (decide (0 ≤ (IntKind.u64.wrap (IntKind.i64.wrap (7 - s2.1)))))) fun _ =>
  iteP ((Int.tmod (bShr .u8 a2 (IntKind.u64.wrap (IntKind.i64.wrap (7 - s2.1)))) 2) == 1) (
  bindP (law01_flip fuel s2.2 (IntKind.i64.wrap (y4 + s2.1))) fun y5 =>
  letP (IntKind.i64.wrap (s2.1 + 1)) fun x1 =>
  k1 (x1, y5)) (
  letP (IntKind.i64.wrap (s2.1 + 1)) fun x2 =>
  k1 (x2, s2.2))) (
  bindP (checksum_OpenCRC8 fuel s2.2) fun y6 =>
  iteP (y6.2 == 5) (
  bindP (law01_awake fuel) fun y7 =>
  some y7) (
  some false))) fuel (0, y3)))) fun j1 =>
  iteP (!y1) (
  j1 (true)) (
  j1 (a2 == 0))
def law01_ChecksumOdd (fuel : Nat) (a0 : List Int) (a1 : List Int) : Option (Bool) :=
  bindP (law01_light fuel a0) fun y1 =>
  joinP (fun (s1 : Bool) =>
  iteP s1 (
  bindP (law01_awake fuel) fun y2 =>
  some y2) (
  bindP (checksum_SealCRC8 fuel a0) fun y3 =>
  iteP ((y3.length : Int) != (IntKind.i64.wrap ((a0.length : Int) + 1))) (
  some false) (
  bindP (mk 1 false (IntKind.i64.wrap (8 * (y3.length : Int)))) fun x1 =>
  loopP (fun k1 (s2 : (Int × Int × (List Int) × (List Bool))) =>
  iteP (decide (s2.2.1 < (a1.length : Int))) (
  bindP (idx a1 s2.2.1) fun x2 =>
  bindP (made_Mod fuel x2 (IntKind.i64.wrap (8 * (s2.2.2.1.length : Int)))) fun y4 =>
  bindP (idx s2.2.2.2 y4) fun x3 =>
  iteP (!x3) (
  bindP (idx s2.2.2.2 y4) fun x4 =>
  letP (upd s2.2.2.2 y4 true) fun d1 =>
  letP (IntKind.i64.wrap (s2.1 + 1)) fun x5 =>
  bindP (law01_flip fuel s2.2.2.1 y4) fun y5 =>
  letP (IntKind.i64.wrap (s2.2.1 + 1)) fun x6 =>
  k1 (x5, x6, y5, d1)) (
  letP (IntKind.i64.wrap (s2.2.1 + 1)) fun x7 =>
  k1 (s2.1, x7, s2.2.2.1, s2.2.2.2))) (
  bindP (checksum_OpenCRC8 fuel s2.2.2.1) fun y6 =>
  iteP (s2.1 == 0) (
  joinP (fun (s3 : Bool) =>
  some s3) fun j2 =>
  iteP (y6.2 == 0) (
  bindP (law01_awake fuel) fun y7 =>
  j2 (y7)) (
  j2 (false))) (
  iteP ((Int.tmod s2.1 2) == 0) (
  bindP (law01_awake fuel) fun y8 =>
  some y8) (
  iteP (y6.2 == 5) (
  bindP (law01_awake fuel) fun y9 =>
  some y9) (
  some false))))) fuel (0, 0, y3, x1)))) fun j1 =>
  iteP (!y1) (
  j1 (true)) (
  j1 (decide ((a1.length : Int) > 40)))
def law01_ChecksumPairs (fuel : Nat) (a0 : List Int) (a1 : Int) (a2 : Int) : Option (Bool) :=
  bindP (law01_light fuel a0) fun y1 =>
  iteP (!y1) (
  bindP (law01_awake fuel) fun y2 =>
  some y2) (
  bindP (checksum_SealCRC8 fuel a0) fun y3 =>
  iteP ((y3.length : Int) != (IntKind.i64.wrap ((a0.length : Int) + 1))) (
  some false) (
  bindP (made_Mod fuel a2 (min 126 (IntKind.i64.wrap ((IntKind.i64.wrap (8 * (y3.length : Int))) - 1)))) fun y4 =>
  letP (IntKind.i64.wrap (1 + y4)) fun x1 =>
  bindP (made_Mod fuel a1 (IntKind.i64.wrap ((IntKind.i64.wrap (8 * (y3.length : Int))) - x1))) fun y5 =>
  bindP (law01_flip fuel y3 y5) fun y6 =>
  bindP (law01_flip fuel y6 (IntKind.i64.wrap (y5 + x1))) fun y7 =>
  bindP (checksum_OpenCRC8 fuel y7) fun y8 =>
  iteP (y8.2 == 5) (
  bindP (law01_awake fuel) fun y9 =>
  some y9) (
  some false)))
def checksum_four (fuel : Nat) (a0 : Int) : Option ((List Int)) :=
  some ([(IntKind.u8.wrap a0), (IntKind.u8.wrap (bShr .u32 a0 8)), (IntKind.u8.wrap (bShr .u32 a0 16)), (IntKind.u8.wrap (bShr .u32 a0 24))])
def checksum_SealCRC32 (fuel : Nat) (a0 : List Int) : Option ((List Int)) :=
  bindP (slices_Clone_byte_byte fuel a0) fun y1 =>
  bindP (checksum_CRC32 fuel a0) fun y2 =>
  bindP (checksum_four fuel y2) fun y3 =>
  bindP (app 1 y1 y3) fun x1 =>
  some x1
def slices_Equal_byte_byte (fuel : Nat) (a0 : List Int) (a1 : List Int) : Option (Bool) :=
  iteP ((a0.length : Int) != (a1.length : Int)) (
  some false) (
  loopP (fun k1 (s1 : Int) =>
  iteP (decide (s1 < (a0.length : Int))) (
  bindP (idx a0 s1) fun x1 =>
  bindP (idx a1 s1) fun x2 =>
  iteP (x1 != x2) (
  some false) (
  k1 ((IntKind.i64.wrap (s1 + 1))))) (
  some true)) fuel (0))
def checksum_OpenCRC32 (fuel : Nat) (a0 : List Int) : Option ((List Int) × Int) :=
  letP (IntKind.i64.wrap ((a0.length : Int) - 4)) fun x1 =>
  letP (decide (x1 < 0)) fun x2 =>
  iteP x2 (
  some ([], 4)) (
  bindP (sub a0 0 x1) fun x3 =>
  bindP (checksum_CRC32 fuel x3) fun y1 =>
  bindP (checksum_four fuel y1) fun y2 =>
  bindP (sub a0 x1 a0.length) fun x4 =>
  bindP (slices_Equal_byte_byte fuel y2 x4) fun y3 =>
  iteP (!y3) (
  some ([], 5)) (
  bindP (sub a0 0 x1) fun x5 =>
  bindP (slices_Clone_byte_byte fuel x5) fun y4 =>
  some (y4, 0)))
def law01_ChecksumLong (fuel : Nat) (a0 : List Int) (a1 : Int) (a2 : Int) : Option (Bool) :=
  bindP (law01_light fuel a0) fun y1 =>
  joinP (fun (s1 : Bool) =>
  iteP s1 (
  bindP (law01_awake fuel) fun y2 =>
  some y2) (
  bindP (checksum_SealCRC32 fuel a0) fun y3 =>
  iteP ((y3.length : Int) != (IntKind.i64.wrap ((a0.length : Int) + 4))) (
  some false) (
  bindP (made_Mod fuel a1 (IntKind.i64.wrap ((IntKind.i64.wrap (8 * (y3.length : Int))) - 31))) fun y4 =>
  loopP (fun k1 (s2 : (Int × (List Int))) =>
  iteP (decide (s2.1 < 32)) (
  bindP (chk (decide (0 ≤ (IntKind.u64.wrap s2.1)))) fun _ =>
  iteP ((Int.tmod (bShr .u32 a2 (IntKind.u64.wrap s2.1)) 2) == 1) (
  bindP (idx s2.2 (IntKind.i64.wrap (Int.tdiv (IntKind.i64.wrap (y4 + s2.1)) 8))) fun x1 =>
  bindP (chk (decide (0 ≤ (IntKind.u64.wrap (Int.tmod (IntKind.i64.wrap (y4 + s2.1)) 8))))) fun _ =>
  bindP (idx s2.2 (IntKind.i64.wrap (Int.tdiv (IntKind.i64.wrap (y4 + s2.1)) 8))) fun x2 =>
  letP (upd s2.2 (IntKind.i64.wrap (Int.tdiv (IntKind.i64.wrap (y4 + s2.1)) 8)) (bXor .u8 x1 (bShl .u8 1 (IntKind.u64.wrap (Int.tmod (IntKind.i64.wrap (y4 + s2.1)) 8))))) fun d1 =>
  letP (IntKind.i64.wrap (s2.1 + 1)) fun x3 =>
  k1 (x3, d1)) (
  letP (IntKind.i64.wrap (s2.1 + 1)) fun x4 =>
  k1 (x4, s2.2))) (
  bindP (checksum_OpenCRC32 fuel s2.2) fun y5 =>
  iteP (y5.2 == 5) (
  bindP (law01_awake fuel) fun y6 =>
  some y6) (
  some false))) fuel (0, y3)))) fun j1 =>
  iteP (!y1) (
  j1 (true)) (
  j1 (a2 == 0))
def checksum_Open8 (fuel : Nat) (a0 : List Int) : Option ((List Int) × Int) :=
  letP ((a0.length : Int) == 0) fun x1 =>
  iteP x1 (
  some ([], 4)) (
  bindP (checksum_Sum8 fuel a0) fun y1 =>
  letP (y1 != 0) fun x2 =>
  iteP x2 (
  some ([], 5)) (
  bindP (sub a0 0 (IntKind.i64.wrap ((a0.length : Int) - 1))) fun x3 =>
  bindP (slices_Clone_byte_byte fuel x3) fun y2 =>
  some (y2, 0)))
def ref01_Copy (fuel : Nat) (a0 : List Int) : Option ((List Int)) :=
  loopP (fun k1 (s1 : (Int × (List Int))) =>
  iteP (decide (s1.1 < (a0.length : Int))) (
  bindP (idx a0 s1.1) fun x1 =>
  bindP (app 1 s1.2 ([x1])) fun x2 =>
  letP (IntKind.i64.wrap (s1.1 + 1)) fun x3 =>
  k1 (x3, x2)) (
  some s1.2)) fuel (0, [])
def ref01_Open8 (fuel : Nat) (a0 : List Int) : Option ((List Int) × Int) :=
  iteP ((a0.length : Int) == 0) (
  some ([], 4)) (
  bindP (ref01_Sum8 fuel a0) fun y1 =>
  iteP (y1 != 0) (
  some ([], 5)) (
  bindP (sub a0 0 (IntKind.i64.wrap ((a0.length : Int) - 1))) fun x1 =>
  bindP (ref01_Copy fuel x1) fun y2 =>
  some (y2, 0)))
def ref01_OpenCRC8 (fuel : Nat) (a0 : List Int) : Option ((List Int) × Int) :=
  iteP ((a0.length : Int) == 0) (
  some ([], 4)) (
  letP (IntKind.i64.wrap ((a0.length : Int) - 1)) fun x1 =>
  bindP (sub a0 0 x1) fun x2 =>
  bindP (ref01_CRC8 fuel x2) fun y1 =>
  bindP (idx a0 x1) fun x3 =>
  iteP (y1 != x3) (
  some ([], 5)) (
  bindP (sub a0 0 x1) fun x4 =>
  bindP (ref01_Copy fuel x4) fun y2 =>
  some (y2, 0)))
def ref01_Number (fuel : Nat) (a0 : List Int) : Option (Int) :=
  letP (IntKind.i64.wrap ((a0.length : Int) - 1)) fun x1 =>
  loopP (fun k1 (s1 : (Int × Int)) =>
  iteP (decide (s1.2 ≥ 0)) (
  bindP (idx a0 s1.2) fun x2 =>
  letP (IntKind.u64.wrap ((IntKind.u64.wrap (256 * s1.1)) + (IntKind.u64.wrap x2))) fun x3 =>
  letP (IntKind.i64.wrap (s1.2 - 1)) fun x4 =>
  k1 (x3, x4)) (
  some s1.1)) fuel (0, x1)
def ref01_OpenCRC32 (fuel : Nat) (a0 : List Int) : Option ((List Int) × Int) :=
  iteP (decide ((a0.length : Int) < 4)) (
  some ([], 4)) (
  letP (IntKind.i64.wrap ((a0.length : Int) - 4)) fun x1 =>
  bindP (sub a0 0 x1) fun x2 =>
  bindP (ref01_CRC32 fuel x2) fun y1 =>
  bindP (sub a0 x1 a0.length) fun x3 =>
  bindP (ref01_Number fuel x3) fun y2 =>
  iteP ((IntKind.u64.wrap y1) != y2) (
  some ([], 5)) (
  bindP (sub a0 0 x1) fun x4 =>
  bindP (ref01_Copy fuel x4) fun y3 =>
  some (y3, 0)))
def ref01_Same (fuel : Nat) (a0 : List Int) (a1 : List Int) : Option (Bool) :=
  iteP ((a0.length : Int) != (a1.length : Int)) (
  some false) (
  loopP (fun k1 (s1 : Int) =>
  iteP (decide (s1 < (a0.length : Int))) (
  bindP (idx a0 s1) fun x1 =>
  bindP (idx a1 s1) fun x2 =>
  iteP (x1 != x2) (
  some false) (
  letP (IntKind.i64.wrap (s1 + 1)) fun x3 =>
  k1 (x3))) (
  some true)) fuel (0))
def ref01_Seal8 (fuel : Nat) (a0 : List Int) : Option ((List Int)) :=
  bindP (ref01_Copy fuel a0) fun y1 =>
  bindP (ref01_Sum8 fuel a0) fun y2 =>
  bindP (app 1 y1 ([y2])) fun x1 =>
  some x1
def ref01_SealCRC8 (fuel : Nat) (a0 : List Int) : Option ((List Int)) :=
  bindP (ref01_Copy fuel a0) fun y1 =>
  bindP (ref01_CRC8 fuel a0) fun y2 =>
  bindP (app 1 y1 ([y2])) fun x1 =>
  some x1
def ref01_Little (fuel : Nat) (a0 : Int) (a1 : Int) : Option ((List Int)) :=
  loopP (fun k1 (s1 : (Int × Int × (List Int))) =>
  iteP (decide (s1.2.1 < a1)) (
  bindP (app 1 s1.2.2 ([(IntKind.u8.wrap (Int.tmod s1.1 256))])) fun x1 =>
  letP (IntKind.u64.wrap (Int.tdiv s1.1 256)) fun x2 =>
  letP (IntKind.i64.wrap (s1.2.1 + 1)) fun x3 =>
  k1 (x2, x3, x1)) (
  some s1.2.2)) fuel (a0, 0, [])
def ref01_SealCRC32 (fuel : Nat) (a0 : List Int) : Option ((List Int)) :=
  bindP (ref01_Copy fuel a0) fun y1 =>
  bindP (ref01_CRC32 fuel a0) fun y2 =>
  bindP (ref01_Little fuel (IntKind.u64.wrap y2) 4) fun y3 =>
  bindP (app 1 y1 y3) fun x1 =>
  some x1
def law01_ChecksumSeals (fuel : Nat) (a0 : List Int) : Option (Bool) :=
  bindP (law01_light fuel a0) fun y1 =>
  iteP (!y1) (
  bindP (law01_awake fuel) fun y2 =>
  some y2) (
  bindP (checksum_Open8 fuel a0) fun y3 =>
  bindP (ref01_Open8 fuel a0) fun y4 =>
  bindP (checksum_OpenCRC8 fuel a0) fun y5 =>
  bindP (ref01_OpenCRC8 fuel a0) fun y6 =>
  bindP (checksum_OpenCRC32 fuel a0) fun y7 =>
  bindP (ref01_OpenCRC32 fuel a0) fun y8 =>
  joinP (fun (s1 : Bool) =>
  iteP s1 (
  some false) (
  bindP (checksum_Seal8 fuel a0) fun y9 =>
  bindP (ref01_Seal8 fuel a0) fun y10 =>
  bindP (ref01_Same fuel y9 y10) fun y11 =>
  iteP y11 (
  bindP (checksum_SealCRC8 fuel a0) fun y12 =>
  bindP (ref01_SealCRC8 fuel a0) fun y13 =>
  bindP (ref01_Same fuel y12 y13) fun y14 =>
  iteP y14 (
  bindP (checksum_SealCRC32 fuel a0) fun y15 =>
  bindP (ref01_SealCRC32 fuel a0) fun y16 =>
  bindP (ref01_Same fuel y15 y16) fun y17 =>
  iteP y17 (
  bindP (law01_awake fuel) fun y18 =>
  some y18) (
  some false)) (
  some false)) (
  some false))) fun j1 =>
  iteP (y3.2 != y4.2) (
  j1 (true)) (
  iteP (y5.2 != y6.2) (
  j1 (true)) (
  iteP (y7.2 != y8.2) (
  j1 (true)) (
  bindP (ref01_Same fuel y3.1 y4.1) fun y19 =>
  iteP (!y19) (
  j1 (true)) (
  bindP (ref01_Same fuel y5.1 y6.1) fun y20 =>
  iteP (!y20) (
  j1 (true)) (
  bindP (ref01_Same fuel y7.1 y8.1) fun y21 =>
  j1 (!y21)))))))
def law01_ChecksumReturns (fuel : Nat) (a0 : List Int) : Option (Bool) :=
  bindP (law01_light fuel a0) fun y1 =>
  iteP (!y1) (
  bindP (law01_awake fuel) fun y2 =>
  some y2) (
  bindP (checksum_Seal8 fuel a0) fun y3 =>
  bindP (checksum_Open8 fuel y3) fun y4 =>
  bindP (checksum_SealCRC8 fuel a0) fun y5 =>
  bindP (checksum_OpenCRC8 fuel y5) fun y6 =>
  bindP (checksum_SealCRC32 fuel a0) fun y7 =>
  bindP (checksum_OpenCRC32 fuel y7) fun y8 =>
  bindP (checksum_Seal8 fuel a0) fun y9 =>
  bindP (checksum_SealCRC32 fuel y9) fun y10 =>
  bindP (checksum_SealCRC8 fuel y10) fun y11 =>
  bindP (checksum_OpenCRC8 fuel y11) fun y12 =>
  bindP (checksum_OpenCRC32 fuel y12.1) fun y13 =>
  bindP (checksum_Open8 fuel y13.1) fun y14 =>
  iteP (y4.2 == 0) (
  iteP (y6.2 == 0) (
  iteP (y8.2 == 0) (
  iteP (y12.2 == 0) (
  iteP (y13.2 == 0) (
  iteP (y14.2 == 0) (
  bindP (ref01_Same fuel y4.1 a0) fun y15 =>
  iteP y15 (
  bindP (ref01_Same fuel y6.1 a0) fun y16 =>
  iteP y16 (
  bindP (ref01_Same fuel y8.1 a0) fun y17 =>
  iteP y17 (
  bindP (ref01_Same fuel y14.1 a0) fun y18 =>
  iteP y18 (
  bindP (law01_awake fuel) fun y19 =>
  some y19) (
  some false)) (
  some false)) (
  some false)) (
  some false)) (
  some false)) (
  some false)) (
  some false)) (
  some false)) (
  some false)) (
  some false))
def law01_ChecksumByte (fuel : Nat) (a0 : List Int) (a1 : Int) (a2 : Int) : Option (Bool) :=
  bindP (law01_light fuel a0) fun y1 =>
  joinP (fun (s1 : Bool) =>
  iteP s1 (
  bindP (law01_awake fuel) fun y2 =>
  some y2) (
  bindP (checksum_Seal8 fuel a0) fun y3 =>
  bindP (checksum_SealCRC8 fuel a0) fun y4 =>
  bindP (checksum_SealCRC32 fuel a0) fun y5 =>
  joinP (fun (s2 : Bool) =>
  iteP s2 (
  some false) (
  bindP (made_Mod fuel a1 (y3.length : Int)) fun y6 =>
  bindP (idx y3 y6) fun x1 =>
  bindP (idx y3 y6) fun x2 =>
  letP (upd y3 y6 (bXor .u8 x1 a2)) fun d1 =>
  bindP (made_Mod fuel a1 (y4.length : Int)) fun y7 =>
  bindP (idx y4 y7) fun x3 =>
  bindP (idx y4 y7) fun x4 =>
  letP (upd y4 y7 (bXor .u8 x3 a2)) fun d2 =>
  bindP (made_Mod fuel a1 (y5.length : Int)) fun y8 =>
  bindP (idx y5 y8) fun x5 =>
  bindP (idx y5 y8) fun x6 =>
  letP (upd y5 y8 (bXor .u8 x5 a2)) fun d3 =>
  bindP (checksum_Open8 fuel d1) fun y9 =>
  bindP (checksum_OpenCRC8 fuel d2) fun y10 =>
  bindP (checksum_OpenCRC32 fuel d3) fun y11 =>
  iteP (y9.2 == 5) (
  iteP (y10.2 == 5) (
  iteP (y11.2 == 5) (
  iteP ((IntKind.i64.wrap ((IntKind.i64.wrap ((y9.1.length : Int) + (y10.1.length : Int))) + (y11.1.length : Int))) == 0) (
  bindP (law01_awake fuel) fun y12 =>
  some y12) (
  some false)) (
  some false)) (
  some false)) (
  some false))) fun j2 =>
  iteP ((y3.length : Int) != (IntKind.i64.wrap ((a0.length : Int) + 1))) (
  j2 (true)) (
  iteP ((y4.length : Int) != (IntKind.i64.wrap ((a0.length : Int) + 1))) (
  j2 (true)) (
  j2 ((y5.length : Int) != (IntKind.i64.wrap ((a0.length : Int) + 4))))))) fun j1 =>
  iteP (!y1) (
  j1 (true)) (
  j1 (a2 == 0))
end Lift
