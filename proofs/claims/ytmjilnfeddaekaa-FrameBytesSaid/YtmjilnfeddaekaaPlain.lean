/- Plain Lean functions, as lift.py reads them off the Go functions of the seat. -/
import Derived.Test.YtmjilnfeddaekaaLiftR
namespace Lift
open Go
structure Frame_ where
  To : Int
  From : Int
  Data : List Int
def Frame_.rep : Rep Frame_ := Rep.iso (fun s => (s.To, s.From, s.Data, ())) (Rep.prod (Rep.int .u8) (Rep.prod (Rep.int .u8) (Rep.prod (Rep.slice (Rep.int .u8)) Rep.unit)))
def Frame_.z : Frame_ := ⟨0, 0, []⟩
theorem Frame_.zr : Zr Frame_.rep [.int .u8 0, .int .u8 0, .slice none 0 0] Frame_.z := Zr.iso (r := (Rep.prod (Rep.int .u8) (Rep.prod (Rep.int .u8) (Rep.prod (Rep.slice (Rep.int .u8)) Rep.unit)))) _ (Zr.of (Zr.prod (Zr.int .u8 0) (Zr.prod (Zr.int .u8 0) (Zr.prod (Zr.slice (Rep.int .u8)) Zr.unit))) rfl)
theorem Frame_.f0 : Fld Frame_.rep 0 (Rep.int .u8) Frame_.To (fun s y => { s with To := y }) := Fld.iso (fun s : Frame_ => (s.To, s.From, s.Data, ())) Fld.here (fun _ => rfl) (fun _ _ => rfl)
theorem Frame_.f1 : Fld Frame_.rep 1 (Rep.int .u8) Frame_.From (fun s y => { s with From := y }) := Fld.iso (fun s : Frame_ => (s.To, s.From, s.Data, ())) (Fld.there Fld.here) (fun _ => rfl) (fun _ _ => rfl)
theorem Frame_.f2 : Fld Frame_.rep 2 (Rep.slice (Rep.int .u8)) Frame_.Data (fun s y => { s with Data := y }) := Fld.iso (fun s : Frame_ => (s.To, s.From, s.Data, ())) (Fld.there (Fld.there Fld.here)) (fun _ => rfl) (fun _ _ => rfl)
structure made_Dice where
  L : List Int
  At : Int
def made_Dice.rep : Rep made_Dice := Rep.iso (fun s => (s.L, s.At, ())) (Rep.prod (Rep.slice (Rep.int .i64)) (Rep.prod (Rep.int .i64) Rep.unit))
def made_Dice.z : made_Dice := ⟨[], 0⟩
theorem made_Dice.zr : Zr made_Dice.rep [.slice none 0 0, .int .i64 0] made_Dice.z := Zr.iso (r := (Rep.prod (Rep.slice (Rep.int .i64)) (Rep.prod (Rep.int .i64) Rep.unit))) _ (Zr.of (Zr.prod (Zr.slice (Rep.int .i64)) (Zr.prod (Zr.int .i64 0) Zr.unit)) rfl)
theorem made_Dice.f0 : Fld made_Dice.rep 0 (Rep.slice (Rep.int .i64)) made_Dice.L (fun s y => { s with L := y }) := Fld.iso (fun s : made_Dice => (s.L, s.At, ())) Fld.here (fun _ => rfl) (fun _ _ => rfl)
theorem made_Dice.f1 : Fld made_Dice.rep 1 (Rep.int .i64) made_Dice.At (fun s y => { s with At := y }) := Fld.iso (fun s : made_Dice => (s.L, s.At, ())) (Fld.there Fld.here) (fun _ => rfl) (fun _ _ => rfl)
def Frame_.ok (s : Frame_) : Prop := (okI .u8) s.To ∧ (okI .u8) s.From ∧ (okL (okI .u8)) s.Data ∧ True
def made_Dice.ok (s : made_Dice) : Prop := (okL (okI .i64)) s.L ∧ (okI .i64) s.At ∧ True
def made_Light (fuel : Nat) (a0 : List Int) : Option (Bool) :=
  letP (decide ((a0.length : Int) ≤ 600)) fun x1 =>
  some x1
def frame_address (fuel : Nat) (a0 : Int) : Option (Bool) :=
  iteP (decide (a0 ≥ 8)) (
  letP (decide (a0 ≤ 119)) fun x1 =>
  some x1) (
  some false)
def frame_Valid (fuel : Nat) (a0 : Frame_) : Option (Bool) :=
  bindP (frame_address fuel a0.To) fun y1 =>
  iteP y1 (
  bindP (frame_address fuel a0.From) fun y2 =>
  iteP y2 (
  letP (decide ((a0.Data.length : Int) ≤ 72)) fun x1 =>
  some x1) (
  some false)) (
  some false)
def slices_Clone_byte_byte (fuel : Nat) (a0 : List Int) : Option ((List Int)) :=
  bindP (app 1 ([]) a0) fun x1 =>
  some x1
def checksum_CRC8 (fuel : Nat) (a0 : List Int) : Option (Int) :=
  loopP (fun k1 (s1 : (Int × Int)) =>
  iteP (decide (s1.2 < (a0.length : Int))) (
  bindP (idx a0 s1.2) fun x1 =>
  loopP (fun k2 (s2 : (Int × Int)) =>
  iteP (decide (s2.2 < 8)) (
  letP (bXor .u8 (bShl .u8 s2.1 1) (IntKind.u8.wrap ((bShr .u8 s2.1 7) * 7))) fun x2 =>
  k2 (x2, (IntKind.i64.wrap (s2.2 + 1)))) (
  k1 (s2.1, (IntKind.i64.wrap (s1.2 + 1))))) fuel ((bXor .u8 s1.1 x1), 0)) (
  some s1.1)) fuel (0, 0)
def checksum_SealCRC8 (fuel : Nat) (a0 : List Int) : Option ((List Int)) :=
  bindP (slices_Clone_byte_byte fuel a0) fun y1 =>
  bindP (checksum_CRC8 fuel a0) fun y2 =>
  bindP (app 1 y1 ([y2])) fun x1 =>
  some x1
def frame_Encode (fuel : Nat) (a0 : Frame_) : Option ((List Int) × Int) :=
  bindP (frame_Valid fuel a0) fun y1 =>
  iteP (!y1) (
  some ([], 1)) (
  bindP (app 1 ([(IntKind.u8.wrap (2 * a0.To)), 15, (IntKind.u8.wrap (IntKind.i64.wrap ((a0.Data.length : Int) + 1))), (IntKind.u8.wrap ((IntKind.u8.wrap (2 * a0.From)) + 1))]) a0.Data) fun x1 =>
  bindP (checksum_SealCRC8 fuel x1) fun y2 =>
  some (y2, 0))
def ref01_Same (fuel : Nat) (a0 : List Int) (a1 : List Int) : Option (Bool) :=
  iteP ((a0.length : Int) != (a1.length : Int)) (
  some false) (
  loopP (fun k1 (s1 : Int) =>
  iteP (decide (s1 < (a0.length : Int))) (
  bindP (idx a0 s1) fun x1 =>
  bindP (idx a1 s1) fun x2 =>
  iteP (x1 != x2) (
  some false) (
  letP (IntKind.i64.wrap (s1 + 1)) fun x3 =>
  k1 (x3))) (
  some true)) fuel (0))
def bytes_Compare (fuel : Nat) (a0 : List Int) (a1 : List Int) : Option (Int) :=
  some (cmpB a0 a1)
def frame_Compare (fuel : Nat) (a0 : List Int) (a1 : List Int) : Option (Int) :=
  bindP (bytes_Compare fuel a0 a1) fun y1 =>
  some y1
def law20_awake (fuel : Nat)  : Option (Bool) :=
  bindP (frame_Encode fuel (⟨16, 32, [171]⟩ : Frame_)) fun y1 =>
  iteP (y1.2 == 0) (
  iteP ((y1.1.length : Int) == 6) (
  bindP (sub y1.1 0 5) fun x1 =>
  bindP (ref01_Same fuel x1 ([32, 15, 2, 65, 171])) fun y2 =>
  iteP y2 (
  bindP (frame_Compare fuel ([1]) ([2])) fun y3 =>
  letP (y3 == (-1)) fun x2 =>
  some x2) (
  some false)) (
  some false)) (
  some false)
def made_Roll (fuel : Nat) (a0 : List Int) : Option (made_Dice) :=
  some (⟨a0, 0⟩ : made_Dice)
def made_Mod (fuel : Nat) (a0 : Int) (a1 : Int) : Option (Int) :=
  bindP (chk (decide (a1 ≠ 0))) fun _ =>
  iteP (decide ((Int.tmod a0 a1) < 0)) (
  letP (IntKind.i64.wrap ((Int.tmod a0 a1) + a1)) fun x1 =>
  some x1) (
  some (Int.tmod a0 a1))
def made_Dice_Next (fuel : Nat) (a0 : made_Dice) (a1 : Int) : Option (Int × made_Dice) :=
  iteP (decide (a0.At ≥ (a0.L.length : Int))) (
  some (0, a0)) (
  letP ({ a0 with At := (IntKind.i64.wrap (a0.At + 1)) }) fun d1 =>
  bindP (idx d1.L (IntKind.i64.wrap (d1.At - 1))) fun x1 =>
  bindP (made_Mod fuel x1 a1) fun y1 =>
  some (y1, d1))
def made_Dice_Bool (fuel : Nat) (a0 : made_Dice) (a1 : Int) : Option (Bool × made_Dice) :=
  bindP (made_Dice_Next fuel a0 a1) fun y1 =>
  letP (y1.1 == (IntKind.i64.wrap (a1 - 1))) fun x1 =>
  some (x1, y1.2)
def made_Dice_Byte (fuel : Nat) (a0 : made_Dice) : Option (Int × made_Dice) :=
  letP ([0, 1, 127, 128, 254, 255, 15, 240]) fun d1 =>
  bindP (made_Dice_Bool fuel a0 3) fun y1 =>
  iteP y1.1 (
  bindP (made_Dice_Next fuel y1.2 8) fun y2 =>
  bindP (idx d1 y2.1) fun x1 =>
  bindP (chk (Nat.beq d1.length 8)) fun _ =>
  some (x1, y2.2)) (
  bindP (made_Dice_Next fuel y1.2 256) fun y3 =>
  some ((IntKind.u8.wrap y3.1), y3.2))
def made_Dice_Bytes (fuel : Nat) (a0 : made_Dice) (a1 : Int) : Option ((List Int) × made_Dice) :=
  bindP (made_Dice_Next fuel a0 (IntKind.i64.wrap (a1 + 1))) fun y1 =>
  loopP (fun k1 (s1 : (Int × made_Dice × (List Int))) =>
  iteP (decide (s1.1 > 0)) (
  bindP (made_Dice_Byte fuel s1.2.1) fun y2 =>
  bindP (app 1 s1.2.2 ([y2.1])) fun x1 =>
  letP (IntKind.i64.wrap (s1.1 - 1)) fun x2 =>
  k1 (x2, y2.2, x1)) (
  some (s1.2.2, s1.2.1))) fuel (y1.1, y1.2, [])
def made_Dice_Frame (fuel : Nat) (a0 : made_Dice) : Option (Frame_ × made_Dice) :=
  bindP (made_Dice_Next fuel a0 4) fun y1 =>
  bindP (made_Dice_Next fuel y1.2 3) fun y2 =>
  bindP (made_Dice_Bytes fuel y2.2 6) fun y3 =>
  bindP (made_Dice_Bool fuel y3.2 30) fun y4 =>
  iteP y4.1 (
  bindP (mk 1 0 72) fun x1 =>
  letP ({ (⟨(IntKind.u8.wrap (IntKind.i64.wrap (8 + y1.1))), (IntKind.u8.wrap (IntKind.i64.wrap (32 + y2.1))), y3.1⟩ : Frame_) with Data := x1 }) fun d1 =>
  letP ({ d1 with To := 119 }) fun d2 =>
  some (d2, y4.2)) (
  some ((⟨(IntKind.u8.wrap (IntKind.i64.wrap (8 + y1.1))), (IntKind.u8.wrap (IntKind.i64.wrap (32 + y2.1))), y3.1⟩ : Frame_), y4.2))
def ref20_Address (fuel : Nat) (a0 : Int) : Option (Bool) :=
  iteP (decide (a0 ≥ 8)) (
  letP (decide (a0 ≤ 119)) fun x1 =>
  some x1) (
  some false)
def ref20_Valid (fuel : Nat) (a0 : Frame_) : Option (Bool) :=
  bindP (ref20_Address fuel a0.To) fun y1 =>
  iteP y1 (
  bindP (ref20_Address fuel a0.From) fun y2 =>
  iteP y2 (
  letP (decide ((a0.Data.length : Int) ≤ 72)) fun x1 =>
  some x1) (
  some false)) (
  some false)
def ref01_Copy (fuel : Nat) (a0 : List Int) : Option ((List Int)) :=
  loopP (fun k1 (s1 : (Int × (List Int))) =>
  iteP (decide (s1.1 < (a0.length : Int))) (
  bindP (idx a0 s1.1) fun x1 =>
  bindP (app 1 s1.2 ([x1])) fun x2 =>
  letP (IntKind.i64.wrap (s1.1 + 1)) fun x3 =>
  k1 (x3, x2)) (
  some s1.2)) fuel (0, [])
def ref01_CRC8 (fuel : Nat) (a0 : List Int) : Option (Int) :=
  loopP (fun k1 (s1 : (Int × Int)) =>
  iteP (decide (s1.2 < (a0.length : Int))) (
  bindP (idx a0 s1.2) fun x1 =>
  letP (bXor .i64 s1.1 (IntKind.i64.wrap x1)) fun x2 =>
  loopP (fun k2 (s2 : (Int × Int)) =>
  iteP (decide (s2.2 < 8)) (
  letP (IntKind.i64.wrap (2 * s2.1)) fun x3 =>
  iteP (decide (x3 ≥ 256)) (
  letP (bXor .i64 (IntKind.i64.wrap (x3 - 256)) 7) fun x4 =>
  letP (IntKind.i64.wrap (s2.2 + 1)) fun x5 =>
  k2 (x4, x5)) (
  letP (IntKind.i64.wrap (s2.2 + 1)) fun x6 =>
  k2 (x3, x6))) (
  letP (IntKind.i64.wrap (s1.2 + 1)) fun x7 =>
  k1 (s2.1, x7))) fuel (x2, 0)) (
  some (IntKind.u8.wrap s1.1))) fuel (0, 0)
def ref01_SealCRC8 (fuel : Nat) (a0 : List Int) : Option ((List Int)) :=
  bindP (ref01_Copy fuel a0) fun y1 =>
  bindP (ref01_CRC8 fuel a0) fun y2 =>
  bindP (app 1 y1 ([y2])) fun x1 =>
  some x1
def ref20_Encode (fuel : Nat) (a0 : Frame_) : Option ((List Int) × Int) :=
  bindP (ref20_Valid fuel a0) fun y1 =>
  iteP (!y1) (
  some ([], 1)) (
  bindP (app 1 ([(IntKind.u8.wrap (2 * a0.To)), 15, (IntKind.u8.wrap (IntKind.i64.wrap ((a0.Data.length : Int) + 1))), (IntKind.u8.wrap ((IntKind.u8.wrap (2 * a0.From)) + 1))]) a0.Data) fun x1 =>
  bindP (ref01_SealCRC8 fuel x1) fun y2 =>
  some (y2, 0))
def ref20_Compare (fuel : Nat) (a0 : List Int) (a1 : List Int) : Option (Int) :=
  loopP (fun k1 (s1 : Int) =>
  joinP (fun (s2 : Bool) =>
  iteP s2 (
  bindP (idx a0 s1) fun x1 =>
  bindP (idx a1 s1) fun x2 =>
  iteP (decide (x1 < x2)) (
  some (-1)) (
  bindP (idx a0 s1) fun x3 =>
  bindP (idx a1 s1) fun x4 =>
  iteP (decide (x3 > x4)) (
  some 1) (
  letP (IntKind.i64.wrap (s1 + 1)) fun x5 =>
  k1 (x5)))) (
  letP (decide ((a0.length : Int) < (a1.length : Int))) fun x6 =>
  iteP x6 (
  some (-1)) (
  letP (decide ((a0.length : Int) > (a1.length : Int))) fun x7 =>
  iteP x7 (
  some 1) (
  some 0)))) fun j1 =>
  iteP (decide (s1 < (a0.length : Int))) (
  j1 (decide (s1 < (a1.length : Int)))) (
  j1 (false))) fuel (0)
def law20_FrameCompares (fuel : Nat) (a0 : List Int) (a1 : List Int) (a2 : List Int) (a3 : List Int) : Option (Bool) :=
  joinP (fun (s1 : Bool) =>
  iteP s1 (
  bindP (law20_awake fuel) fun y1 =>
  some y1) (
  bindP (made_Roll fuel a2) fun y2 =>
  bindP (made_Dice_Frame fuel y2) fun y3 =>
  bindP (ref20_Encode fuel y3.1) fun y4 =>
  bindP (made_Roll fuel a3) fun y5 =>
  bindP (made_Dice_Frame fuel y5) fun y6 =>
  bindP (ref20_Encode fuel y6.1) fun y7 =>
  bindP (frame_Compare fuel a0 a1) fun y8 =>
  bindP (ref20_Compare fuel a0 a1) fun y9 =>
  iteP (y8 == y9) (
  bindP (frame_Compare fuel y4.1 y7.1) fun y10 =>
  bindP (ref20_Compare fuel y4.1 y7.1) fun y11 =>
  iteP (y10 == y11) (
  bindP (sub y4.1 0 3) fun x1 =>
  bindP (frame_Compare fuel x1 y4.1) fun y12 =>
  iteP (y12 == (-1)) (
  bindP (frame_Compare fuel a0 a0) fun y13 =>
  iteP (y13 == 0) (
  bindP (law20_awake fuel) fun y14 =>
  some y14) (
  some false)) (
  some false)) (
  some false)) (
  some false))) fun j1 =>
  iteP (decide ((a0.length : Int) > 200)) (
  j1 (true)) (
  iteP (decide ((a1.length : Int) > 200)) (
  j1 (true)) (
  bindP (made_Light fuel a2) fun y15 =>
  iteP (!y15) (
  j1 (true)) (
  bindP (made_Light fuel a3) fun y16 =>
  j1 (!y16))))
def ref20_Same (fuel : Nat) (a0 : Frame_) (a1 : Frame_) : Option (Bool) :=
  iteP (a0.To == a1.To) (
  iteP (a0.From == a1.From) (
  bindP (ref01_Same fuel a0.Data a1.Data) fun y1 =>
  some y1) (
  some false)) (
  some false)
def law20_FrameOrder (fuel : Nat) (a0 : List Int) (a1 : List Int) (a2 : List Int) : Option (Bool) :=
  bindP (made_Light fuel a0) fun y1 =>
  joinP (fun (s1 : Bool) =>
  iteP s1 (
  bindP (law20_awake fuel) fun y2 =>
  some y2) (
  bindP (made_Roll fuel a0) fun y3 =>
  bindP (made_Dice_Frame fuel y3) fun y4 =>
  bindP (made_Roll fuel a1) fun y5 =>
  bindP (made_Dice_Frame fuel y5) fun y6 =>
  bindP (made_Roll fuel a2) fun y7 =>
  bindP (made_Dice_Frame fuel y7) fun y8 =>
  bindP (frame_Encode fuel y4.1) fun y9 =>
  bindP (frame_Encode fuel y6.1) fun y10 =>
  bindP (frame_Encode fuel y8.1) fun y11 =>
  joinP (fun (s2 : Bool) =>
  iteP s2 (
  some false) (
  bindP (frame_Compare fuel y9.1 y10.1) fun y12 =>
  bindP (frame_Compare fuel y10.1 y11.1) fun y13 =>
  bindP (frame_Compare fuel y9.1 y11.1) fun y14 =>
  bindP (frame_Compare fuel y10.1 y9.1) fun y15 =>
  joinP (fun (s3 : Bool) =>
  iteP s3 (
  some false) (
  joinP (fun (s4 : Bool) =>
  iteP s4 (
  some false) (
  iteP (decide (y12 > 0)) (
  bindP (law20_awake fuel) fun y16 =>
  some y16) (
  iteP (decide (y13 > 0)) (
  bindP (law20_awake fuel) fun y17 =>
  some y17) (
  iteP (decide (y14 ≤ 0)) (
  iteP (decide (y14 < 0)) (
  bindP (law20_awake fuel) fun y18 =>
  some y18) (
  iteP (y12 == 0) (
  iteP (y13 == 0) (
  bindP (law20_awake fuel) fun y19 =>
  some y19) (
  some false)) (
  some false))) (
  some false))))) fun j4 =>
  iteP (y4.1.To != y6.1.To) (
  j4 ((y12 == (-1)) != (decide (y4.1.To < y6.1.To)))) (
  j4 (false)))) fun j3 =>
  iteP (y12 != (IntKind.i64.wrap (0 - y15))) (
  j3 (true)) (
  iteP (decide (y12 < (-1))) (
  j3 (true)) (
  iteP (decide (y12 > 1)) (
  j3 (true)) (
  bindP (ref20_Same fuel y4.1 y6.1) fun y20 =>
  j3 ((y12 == 0) != y20)))))) fun j2 =>
  iteP (y9.2 != 0) (
  j2 (true)) (
  iteP (y10.2 != 0) (
  j2 (true)) (
  j2 (y11.2 != 0))))) fun j1 =>
  iteP (!y1) (
  j1 (true)) (
  bindP (made_Light fuel a1) fun y21 =>
  iteP (!y21) (
  j1 (true)) (
  bindP (made_Light fuel a2) fun y22 =>
  j1 (!y22)))
def checksum_OpenCRC8 (fuel : Nat) (a0 : List Int) : Option ((List Int) × Int) :=
  letP (IntKind.i64.wrap ((a0.length : Int) - 1)) fun x1 =>
  letP (decide (x1 < 0)) fun x2 =>
  iteP x2 (
  some ([], 4)) (
  bindP (sub a0 0 x1) fun x3 =>
  bindP (checksum_CRC8 fuel x3) fun y1 =>
  bindP (idx a0 x1) fun x4 =>
  iteP (y1 != x4) (
  some ([], 5)) (
  bindP (sub a0 0 x1) fun x5 =>
  bindP (slices_Clone_byte_byte fuel x5) fun y2 =>
  some (y2, 0)))
def frame_Decode (fuel : Nat) (a0 : List Int) : Option (Frame_ × Int) :=
  iteP (decide ((a0.length : Int) < 5)) (
  some (Frame_.z, 4)) (
  bindP (checksum_OpenCRC8 fuel a0) fun y1 =>
  iteP (y1.2 != 0) (
  some (Frame_.z, y1.2)) (
  bindP (idx y1.1 0) fun x1 =>
  bindP (idx y1.1 3) fun x2 =>
  bindP (sub y1.1 4 y1.1.length) fun x3 =>
  bindP (slices_Clone_byte_byte fuel x3) fun y2 =>
  bindP (idx y1.1 0) fun x4 =>
  joinP (fun (s1 : Bool) =>
  iteP s1 (
  some (Frame_.z, 6)) (
  bindP (frame_address fuel ((⟨(IntKind.u8.wrap (Int.tdiv x1 2)), (IntKind.u8.wrap (Int.tdiv x2 2)), y2⟩ : Frame_).To)) fun y3 =>
  joinP (fun (s2 : Bool) =>
  iteP s2 (
  some (Frame_.z, 13)) (
  letP (decide ((((⟨(IntKind.u8.wrap (Int.tdiv x1 2)), (IntKind.u8.wrap (Int.tdiv x2 2)), y2⟩ : Frame_).Data).length : Int) > 72)) fun x5 =>
  iteP x5 (
  some (Frame_.z, 3)) (
  some ((⟨(IntKind.u8.wrap (Int.tdiv x1 2)), (IntKind.u8.wrap (Int.tdiv x2 2)), y2⟩ : Frame_), 0)))) fun j2 =>
  iteP (!y3) (
  j2 (true)) (
  bindP (frame_address fuel ((⟨(IntKind.u8.wrap (Int.tdiv x1 2)), (IntKind.u8.wrap (Int.tdiv x2 2)), y2⟩ : Frame_).From)) fun y4 =>
  letP (!y4) fun x6 =>
  j2 (x6)))) fun j1 =>
  iteP ((Int.tmod x4 2) != 0) (
  j1 (true)) (
  bindP (idx y1.1 1) fun x7 =>
  iteP (x7 != 15) (
  j1 (true)) (
  bindP (idx y1.1 2) fun x8 =>
  iteP ((IntKind.i64.wrap x8) != (IntKind.i64.wrap ((a0.length : Int) - 4))) (
  j1 (true)) (
  bindP (idx y1.1 3) fun x9 =>
  letP ((Int.tmod x9 2) == 0) fun x10 =>
  j1 (x10))))))
def ref01_OpenCRC8 (fuel : Nat) (a0 : List Int) : Option ((List Int) × Int) :=
  iteP ((a0.length : Int) == 0) (
  some ([], 4)) (
  letP (IntKind.i64.wrap ((a0.length : Int) - 1)) fun x1 =>
  bindP (sub a0 0 x1) fun x2 =>
  bindP (ref01_CRC8 fuel x2) fun y1 =>
  bindP (idx a0 x1) fun x3 =>
  iteP (y1 != x3) (
  some ([], 5)) (
  bindP (sub a0 0 x1) fun x4 =>
  bindP (ref01_Copy fuel x4) fun y2 =>
  some (y2, 0)))
def ref20_Decode (fuel : Nat) (a0 : List Int) : Option (Frame_ × Int) :=
  iteP (decide ((a0.length : Int) < 5)) (
  some (Frame_.z, 4)) (
  bindP (ref01_OpenCRC8 fuel a0) fun y1 =>
  iteP (y1.2 != 0) (
  some (Frame_.z, y1.2)) (
  bindP (idx y1.1 0) fun x1 =>
  joinP (fun (s1 : Bool) =>
  iteP s1 (
  some (Frame_.z, 6)) (
  bindP (idx y1.1 0) fun x2 =>
  bindP (idx y1.1 3) fun x3 =>
  bindP (sub y1.1 4 y1.1.length) fun x4 =>
  bindP (ref01_Copy fuel x4) fun y2 =>
  bindP (ref20_Address fuel ((⟨(IntKind.u8.wrap (Int.tdiv x2 2)), (IntKind.u8.wrap (Int.tdiv x3 2)), y2⟩ : Frame_).To)) fun y3 =>
  joinP (fun (s2 : Bool) =>
  iteP s2 (
  some (Frame_.z, 13)) (
  iteP (decide ((((⟨(IntKind.u8.wrap (Int.tdiv x2 2)), (IntKind.u8.wrap (Int.tdiv x3 2)), y2⟩ : Frame_).Data).length : Int) > 72)) (
  some (Frame_.z, 3)) (
  some ((⟨(IntKind.u8.wrap (Int.tdiv x2 2)), (IntKind.u8.wrap (Int.tdiv x3 2)), y2⟩ : Frame_), 0)))) fun j2 =>
  iteP (!y3) (
  j2 (true)) (
  bindP (ref20_Address fuel ((⟨(IntKind.u8.wrap (Int.tdiv x2 2)), (IntKind.u8.wrap (Int.tdiv x3 2)), y2⟩ : Frame_).From)) fun y4 =>
  j2 (!y4)))) fun j1 =>
  iteP ((Int.tmod x1 2) != 0) (
  j1 (true)) (
  bindP (idx y1.1 1) fun x5 =>
  iteP (x5 != 15) (
  j1 (true)) (
  bindP (idx y1.1 2) fun x6 =>
  iteP ((IntKind.i64.wrap x6) != (IntKind.i64.wrap ((a0.length : Int) - 4))) (
  j1 (true)) (
  bindP (idx y1.1 3) fun x7 =>
  j1 ((Int.tmod x7 2) != 1))))))
def law20_FrameBytes (fuel : Nat) (a0 : Frame_) (a1 : List Int) (a2 : List Int) : Option (Bool) :=
  joinP (fun (s1 : Bool) =>
  iteP s1 (
  bindP (law20_awake fuel) fun y1 =>
  some y1) (
  bindP (made_Roll fuel a2) fun y2 =>
  bindP (made_Dice_Frame fuel y2) fun y3 =>
  bindP (made_Dice_Byte fuel y3.2) fun y4 =>
  letP ({ y3.1 with To := y4.1 }) fun d1 =>
  bindP (made_Dice_Bytes fuel y4.2 80) fun y5 =>
  letP ({ d1 with Data := y5.1 }) fun d2 =>
  loopP (fun k1 (s2 : Int) =>
  iteP (decide (s2 < (([a0, y3.1, d2]).length : Int))) (
  bindP (idx ([a0, y3.1, d2]) s2) fun x1 =>
  bindP (frame_Encode fuel x1) fun y6 =>
  bindP (ref20_Encode fuel x1) fun y7 =>
  joinP (fun (s3 : Bool) =>
  iteP s3 (
  some false) (
  k1 ((IntKind.i64.wrap (s2 + 1))))) fun j2 =>
  bindP (frame_Valid fuel x1) fun y8 =>
  bindP (ref20_Valid fuel x1) fun y9 =>
  letP (y8 != y9) fun x2 =>
  iteP x2 (
  j2 (true)) (
  letP (y6.2 != y7.2) fun x3 =>
  iteP x3 (
  j2 (true)) (
  bindP (ref01_Same fuel y6.1 y7.1) fun y10 =>
  j2 (!y10)))) (
  bindP (ref20_Encode fuel y3.1) fun y11 =>
  bindP (sub y11.1 0 (IntKind.i64.wrap ((y11.1.length : Int) - 1))) fun x4 =>
  bindP (app 1 ([]) x4) fun x5 =>
  bindP (made_Dice_Next fuel y5.2 (x5.length : Int)) fun y12 =>
  bindP (made_Dice_Byte fuel y12.2) fun y13 =>
  bindP (idx x5 y12.1) fun x6 =>
  letP (upd x5 y12.1 y13.1) fun d3 =>
  bindP (made_Dice_Next fuel y13.2 3) fun y14 =>
  bindP (mk 1 0 73) fun x7 =>
  bindP (app 1 ([32, 15, (IntKind.u8.wrap (IntKind.i64.wrap (73 + y14.1))), 65]) x7) fun x8 =>
  bindP (ref01_SealCRC8 fuel d3) fun y15 =>
  bindP (ref01_SealCRC8 fuel a1) fun y16 =>
  bindP (ref01_SealCRC8 fuel x8) fun y17 =>
  bindP (made_Dice_Next fuel y14.2 (y11.1.length : Int)) fun y18 =>
  bindP (sub y11.1 0 y18.1) fun x9 =>
  loopP (fun k2 (s4 : Int) =>
  iteP (decide (s4 < (([a1, y11.1, d3, y15, y16, y17, x9]).length : Int))) (
  bindP (idx ([a1, y11.1, d3, y15, y16, y17, x9]) s4) fun x10 =>
  bindP (frame_Decode fuel x10) fun y19 =>
  bindP (ref20_Decode fuel x10) fun y20 =>
  joinP (fun (s5 : Bool) =>
  iteP s5 (
  some false) (
  k2 ((IntKind.i64.wrap (s4 + 1))))) fun j3 =>
  iteP (y19.2 != y20.2) (
  j3 (true)) (
  bindP (ref20_Same fuel y19.1 y20.1) fun y21 =>
  j3 (!y21))) (
  bindP (law20_awake fuel) fun y22 =>
  some y22)) fuel (0))) fuel (0))) fun j1 =>
  iteP (decide ((a0.Data.length : Int) > 200)) (
  j1 (true)) (
  iteP (decide ((a1.length : Int) > 200)) (
  j1 (true)) (
  bindP (made_Light fuel a2) fun y23 =>
  j1 (!y23)))
def law20_FrameReturns (fuel : Nat) (a0 : List Int) (a1 : Int) (a2 : Int) : Option (Bool) :=
  bindP (made_Light fuel a0) fun y1 =>
  iteP (!y1) (
  bindP (law20_awake fuel) fun y2 =>
  some y2) (
  bindP (made_Roll fuel a0) fun y3 =>
  bindP (made_Dice_Frame fuel y3) fun y4 =>
  bindP (frame_Encode fuel y4.1) fun y5 =>
  bindP (frame_Decode fuel y5.1) fun y6 =>
  joinP (fun (s1 : Bool) =>
  iteP s1 (
  some false) (
  iteP (a2 == 0) (
  bindP (law20_awake fuel) fun y7 =>
  some y7) (
  bindP (made_Mod fuel a1 (IntKind.i64.wrap ((IntKind.i64.wrap (8 * (y5.1.length : Int))) - 7))) fun y8 =>
  loopP (fun k1 (s2 : (Int × (List Int))) =>
  iteP (decide (s2.1 < 8)) (
  bindP (chk (decide (0 ≤ (IntKind.u64.wrap (IntKind.i64.wrap (7 - s2.1)))))) fun _ =>
  iteP ((Int.tmod (bShr .u8 a2 (IntKind.u64.wrap (IntKind.i64.wrap (7 - s2.1)))) 2) == 1) (
  bindP (idx s2.2 (IntKind.i64.wrap (Int.tdiv (IntKind.i64.wrap (y8 + s2.1)) 8))) fun x1 =>
  bindP (chk (decide (0 ≤ (IntKind.u64.wrap (Int.tmod (IntKind.i64.wrap (y8 + s2.1)) 8))))) fun _ =>
  bindP (idx s2.2 (IntKind.i64.wrap (Int.tdiv (IntKind.i64.wrap (y8 + s2.1)) 8))) fun x2 =>
  letP (upd s2.2 (IntKind.i64.wrap (Int.tdiv (IntKind.i64.wrap (y8 + s2.1)) 8)) (bXor .u8 x1 (bShr .u8 128 (IntKind.u64.wrap (Int.tmod (IntKind.i64.wrap (y8 + s2.1)) 8))))) fun d1 =>
  letP (IntKind.i64.wrap (s2.1 + 1)) fun x3 =>
  k1 (x3, d1)) (
  letP (IntKind.i64.wrap (s2.1 + 1)) fun x4 =>
  k1 (x4, s2.2))) (
  bindP (frame_Decode fuel s2.2) fun y9 =>
  iteP (y9.2 == 5) (
  iteP ((y9.1.Data.length : Int) == 0) (
  bindP (law20_awake fuel) fun y10 =>
  some y10) (
  some false)) (
  some false))) fuel (0, y5.1)))) fun j1 =>
  iteP (y5.2 != 0) (
  j1 (true)) (
  iteP (y6.2 != 0) (
  j1 (true)) (
  bindP (ref20_Same fuel y4.1 y6.1) fun y11 =>
  iteP (!y11) (
  j1 (true)) (
  j1 ((y5.1.length : Int) != (IntKind.i64.wrap (5 + (y4.1.Data.length : Int))))))))
def law20_FrameAgain (fuel : Nat) (a0 : List Int) : Option (Bool) :=
  iteP (decide ((a0.length : Int) > 200)) (
  bindP (law20_awake fuel) fun y1 =>
  some y1) (
  bindP (ref01_SealCRC8 fuel a0) fun y2 =>
  loopP (fun k1 (s1 : Int) =>
  iteP (decide (s1 < (([a0, y2]).length : Int))) (
  bindP (idx ([a0, y2]) s1) fun x1 =>
  bindP (frame_Decode fuel x1) fun y3 =>
  iteP (y3.2 != 0) (
  k1 ((IntKind.i64.wrap (s1 + 1)))) (
  bindP (frame_Encode fuel y3.1) fun y4 =>
  bindP (frame_Valid fuel y3.1) fun y5 =>
  joinP (fun (s2 : Bool) =>
  iteP s2 (
  some false) (
  k1 ((IntKind.i64.wrap (s1 + 1))))) fun j1 =>
  iteP (!y5) (
  j1 (true)) (
  iteP (y4.2 != 0) (
  j1 (true)) (
  bindP (ref01_Same fuel x1 y4.1) fun y6 =>
  j1 (!y6))))) (
  bindP (law20_awake fuel) fun y7 =>
  some y7)) fuel (0))
end Lift
