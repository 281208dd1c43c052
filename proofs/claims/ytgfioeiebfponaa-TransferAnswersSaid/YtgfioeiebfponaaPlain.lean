/- Plain Lean functions, as lift.py reads them off the Go functions of the seat. -/
import Derived.Test.YtgfioeiebfponaaLiftR
set_option linter.unusedVariables false
set_option linter.unusedSimpArgs false
namespace Lift
open Go
structure Download_ where
  Size : Int
  Part : Int
  Have : List Bool
  Data : List Int
def Download_.rep : Rep Download_ := Rep.iso (fun s => (s.Size, s.Part, s.Have, s.Data, ())) (Rep.prod (Rep.int .i64) (Rep.prod (Rep.int .i64) (Rep.prod (Rep.slice Rep.bool) (Rep.prod (Rep.slice (Rep.int .u8)) Rep.unit))))
def Download_.z : Download_ := ⟨0, 0, [], []⟩
theorem Download_.zr : Zr Download_.rep [.int .i64 0, .int .i64 0, .slice none 0 0, .slice none 0 0] Download_.z := Zr.iso (r := (Rep.prod (Rep.int .i64) (Rep.prod (Rep.int .i64) (Rep.prod (Rep.slice Rep.bool) (Rep.prod (Rep.slice (Rep.int .u8)) Rep.unit))))) _ (Zr.of (Zr.prod (Zr.int .i64 0) (Zr.prod (Zr.int .i64 0) (Zr.prod (Zr.slice Rep.bool) (Zr.prod (Zr.slice (Rep.int .u8)) Zr.unit)))) rfl)
theorem Download_.f0 : Fld Download_.rep 0 (Rep.int .i64) Download_.Size (fun s y => { s with Size := y }) := Fld.iso (fun s : Download_ => (s.Size, s.Part, s.Have, s.Data, ())) Fld.here (fun _ => rfl) (fun _ _ => rfl)
theorem Download_.f1 : Fld Download_.rep 1 (Rep.int .i64) Download_.Part (fun s y => { s with Part := y }) := Fld.iso (fun s : Download_ => (s.Size, s.Part, s.Have, s.Data, ())) (Fld.there Fld.here) (fun _ => rfl) (fun _ _ => rfl)
theorem Download_.f2 : Fld Download_.rep 2 (Rep.slice Rep.bool) Download_.Have (fun s y => { s with Have := y }) := Fld.iso (fun s : Download_ => (s.Size, s.Part, s.Have, s.Data, ())) (Fld.there (Fld.there Fld.here)) (fun _ => rfl) (fun _ _ => rfl)
theorem Download_.f3 : Fld Download_.rep 3 (Rep.slice (Rep.int .u8)) Download_.Data (fun s y => { s with Data := y }) := Fld.iso (fun s : Download_ => (s.Size, s.Part, s.Have, s.Data, ())) (Fld.there (Fld.there (Fld.there Fld.here))) (fun _ => rfl) (fun _ _ => rfl)
structure field_Codes where
  L : List Int
  At : Int
def field_Codes.rep : Rep field_Codes := Rep.iso (fun s => (s.L, s.At, ())) (Rep.prod (Rep.slice (Rep.int .u8)) (Rep.prod (Rep.int .i64) Rep.unit))
def field_Codes.z : field_Codes := ⟨[], 0⟩
theorem field_Codes.zr : Zr field_Codes.rep [.slice none 0 0, .int .i64 0] field_Codes.z := Zr.iso (r := (Rep.prod (Rep.slice (Rep.int .u8)) (Rep.prod (Rep.int .i64) Rep.unit))) _ (Zr.of (Zr.prod (Zr.slice (Rep.int .u8)) (Zr.prod (Zr.int .i64 0) Zr.unit)) rfl)
theorem field_Codes.f0 : Fld field_Codes.rep 0 (Rep.slice (Rep.int .u8)) field_Codes.L (fun s y => { s with L := y }) := Fld.iso (fun s : field_Codes => (s.L, s.At, ())) Fld.here (fun _ => rfl) (fun _ _ => rfl)
theorem field_Codes.f1 : Fld field_Codes.rep 1 (Rep.int .i64) field_Codes.At (fun s y => { s with At := y }) := Fld.iso (fun s : field_Codes => (s.L, s.At, ())) (Fld.there Fld.here) (fun _ => rfl) (fun _ _ => rfl)
def Download_.ok (s : Download_) : Prop := (okI .i64) s.Size ∧ (okI .i64) s.Part ∧ (okL (fun (_ : Bool) => True)) s.Have ∧ (okL (okI .u8)) s.Data ∧ True
def field_Codes.ok (s : field_Codes) : Prop := (okL (okI .u8)) s.L ∧ (okI .i64) s.At ∧ True
def transfer_right (fuel : Nat) (a0 : Int) (a1 : Int) : Option (Bool) :=
  iteP (decide (a0 ≥ 1)) (
  iteP (decide (a0 ≤ 8192)) (
  iteP (decide (a1 ≥ 1)) (
  letP (decide (a1 ≤ 64)) fun x1 =>
  some x1) (
  some false)) (
  some false)) (
  some false)
def transfer_count (fuel : Nat) (a0 : Int) (a1 : Int) : Option (Int) :=
  bindP (chk (decide (a1 ≠ 0))) fun _ =>
  letP (IntKind.i64.wrap (Int.tdiv (IntKind.i64.wrap ((IntKind.i64.wrap (a0 + a1)) - 1)) a1)) fun x1 =>
  some x1
def transfer_New (fuel : Nat) (a0 : Int) (a1 : Int) : Option (Download_ × Int) :=
  bindP (transfer_right fuel a0 a1) fun y1 =>
  iteP (!y1) (
  some (Download_.z, 2)) (
  bindP (transfer_count fuel a0 a1) fun y2 =>
  bindP (mk 1 false y2) fun x1 =>
  bindP (mk 1 0 a0) fun x2 =>
  some ((⟨a0, a1, x1, x2⟩ : Download_), 0))
def transfer_piece (fuel : Nat) (a0 : Download_) (a1 : Int) : Option ((List Int)) :=
  letP (IntKind.i64.wrap (a1 * a0.Part)) fun x1 =>
  letP (min (IntKind.i64.wrap (x1 + a0.Part)) a0.Size) fun x2 =>
  bindP (sub a0.Data x1 x2) fun x3 =>
  some x3
def transfer_Valid_1 (fuel : Nat) (a0 : Int) : Option (Bool) :=
  letP (a0 != 0) fun x1 =>
  some x1
def slices_IndexFunc_byte_byte_transfer_Valid_1 (fuel : Nat) (a0 : List Int) : Option (Int) :=
  loopP (fun k1 (s1 : Int) =>
  iteP (decide (s1 < (a0.length : Int))) (
  bindP (idx a0 s1) fun x1 =>
  bindP (transfer_Valid_1 fuel x1) fun y1 =>
  iteP y1 (
  some s1) (
  k1 ((IntKind.i64.wrap (s1 + 1))))) (
  some (-1))) fuel (0)
def slices_ContainsFunc_byte_byte_transfer_Valid_1 (fuel : Nat) (a0 : List Int) : Option (Bool) :=
  bindP (slices_IndexFunc_byte_byte_transfer_Valid_1 fuel a0) fun y1 =>
  letP (decide (y1 ≥ 0)) fun x1 =>
  some x1
def transfer_Valid (fuel : Nat) (a0 : Download_) : Option (Bool) :=
  joinP (fun (s1 : Bool) =>
  iteP s1 (
  some false) (
  loopP (fun k1 (s2 : Int) =>
  iteP (decide (s2 < (a0.Have.length : Int))) (
  bindP (idx a0.Have s2) fun x1 =>
  joinP (fun (s3 : Bool) =>
  iteP s3 (
  some false) (
  k1 ((IntKind.i64.wrap (s2 + 1))))) fun j2 =>
  iteP (!x1) (
  bindP (transfer_piece fuel a0 s2) fun y1 =>
  bindP (slices_ContainsFunc_byte_byte_transfer_Valid_1 fuel y1) fun y2 =>
  j2 (y2)) (
  j2 (false))) (
  some true)) fuel (0))) fun j1 =>
  bindP (transfer_right fuel a0.Size a0.Part) fun y3 =>
  letP (!y3) fun x2 =>
  iteP x2 (
  j1 (true)) (
  bindP (transfer_count fuel a0.Size a0.Part) fun y4 =>
  letP ((a0.Have.length : Int) != y4) fun x3 =>
  iteP x3 (
  j1 (true)) (
  j1 ((a0.Data.length : Int) != a0.Size)))
def slices_Equal_byte_byte (fuel : Nat) (a0 : List Int) (a1 : List Int) : Option (Bool) :=
  iteP ((a0.length : Int) != (a1.length : Int)) (
  some false) (
  loopP (fun k1 (s1 : Int) =>
  iteP (decide (s1 < (a0.length : Int))) (
  bindP (idx a0 s1) fun x1 =>
  bindP (idx a1 s1) fun x2 =>
  iteP (x1 != x2) (
  some false) (
  k1 ((IntKind.i64.wrap (s1 + 1))))) (
  some true)) fuel (0))
def slices_Clone_bool_bool (fuel : Nat) (a0 : List Bool) : Option ((List Bool)) :=
  bindP (app 1 ([]) a0) fun x1 =>
  some x1
def slices_Clone_byte_byte (fuel : Nat) (a0 : List Int) : Option ((List Int)) :=
  bindP (app 1 ([]) a0) fun x1 =>
  some x1
def transfer_piece_view (fuel : Nat) (a0 : Download_) (a1 : Int) : Option ((Int × Int × Int)) :=
  letP (IntKind.i64.wrap (a1 * a0.Part)) fun x1 =>
  letP (min (IntKind.i64.wrap (x1 + a0.Part)) a0.Size) fun x2 =>
  bindP (sub a0.Data x1 x2) fun x3 =>
  some (x1, x2, x2)
def transfer_Accept (fuel : Nat) (a0 : Download_) (a1 : Int) (a2 : List Int) : Option (Download_ × Int) :=
  bindP (transfer_Valid fuel a0) fun y1 =>
  iteP (!y1) (
  some (Download_.z, 1)) (
  joinP (fun (s1 : Bool) =>
  iteP s1 (
  some (Download_.z, 2)) (
  bindP (transfer_piece fuel a0 a1) fun y2 =>
  iteP ((a2.length : Int) != (y2.length : Int)) (
  some (Download_.z, 4)) (
  bindP (idx a0.Have a1) fun x1 =>
  joinP (fun (s2 : Bool) =>
  iteP s2 (
  some (Download_.z, 42)) (
  bindP (slices_Clone_bool_bool fuel a0.Have) fun y3 =>
  bindP (slices_Clone_byte_byte fuel a0.Data) fun y4 =>
  bindP (idx y3 a1) fun x2 =>
  letP (upd y3 a1 true) fun d1 =>
  bindP (transfer_piece_view fuel ({ { a0 with Have := d1 } with Data := y4 }) a1) fun y5 =>
  bindP (chk (decide (0 ≤ y5.1 ∧ y5.1 ≤ y5.2.1 ∧ y5.2.1 ≤ y5.2.2 ∧ y5.2.1 ≤ (y4.length : Int)))) fun _ =>
  letP (lay y4 (y5.1).toNat (a2.take ((y5.2.1).toNat - (y5.1).toNat))) fun d2 =>
  some ({ { a0 with Have := d1 } with Data := d2 }, 0))) fun j2 =>
  iteP x1 (
  bindP (transfer_piece fuel a0 a1) fun y6 =>
  bindP (slices_Equal_byte_byte fuel a2 y6) fun y7 =>
  j2 (!y7)) (
  j2 (false))))) fun j1 =>
  iteP (decide (a1 < 0)) (
  j1 (true)) (
  j1 (decide (a1 ≥ (a0.Have.length : Int)))))
def transfer_Wanted (fuel : Nat) (a0 : Download_) (a1 : Int) : Option ((List Int)) :=
  bindP (transfer_Valid fuel a0) fun y1 =>
  iteP (!y1) (
  some ([])) (
  loopP (fun k1 (s1 : (Int × (List Int))) =>
  iteP (decide (s1.1 < (a0.Have.length : Int))) (
  bindP (idx a0.Have s1.1) fun x1 =>
  joinP (fun (s2 : Bool) =>
  iteP s2 (
  bindP (app 8 s1.2 ([s1.1])) fun x2 =>
  k1 ((IntKind.i64.wrap (s1.1 + 1)), x2)) (
  k1 ((IntKind.i64.wrap (s1.1 + 1)), s1.2))) fun j1 =>
  iteP (!x1) (
  j1 (decide ((s1.2.length : Int) < a1))) (
  j1 (false))) (
  some s1.2)) fuel (0, []))
def slices_Index_bool_bool (fuel : Nat) (a0 : List Bool) (a1 : Bool) : Option (Int) :=
  loopP (fun k1 (s1 : Int) =>
  iteP (decide (s1 < (a0.length : Int))) (
  bindP (idx a0 s1) fun x1 =>
  iteP (a1 == x1) (
  some s1) (
  k1 ((IntKind.i64.wrap (s1 + 1))))) (
  some (-1))) fuel (0)
def slices_Contains_bool_bool (fuel : Nat) (a0 : List Bool) (a1 : Bool) : Option (Bool) :=
  bindP (slices_Index_bool_bool fuel a0 a1) fun y1 =>
  letP (decide (y1 ≥ 0)) fun x1 =>
  some x1
def transfer_Complete (fuel : Nat) (a0 : Download_) : Option (Bool) :=
  bindP (transfer_Valid fuel a0) fun y1 =>
  iteP y1 (
  bindP (slices_Contains_bool_bool fuel a0.Have false) fun y2 =>
  letP (!y2) fun x1 =>
  some x1) (
  some false)
def law30_awake (fuel : Nat)  : Option (Bool) :=
  bindP (transfer_New fuel 10 4) fun y1 =>
  bindP (transfer_Accept fuel y1.1 2 ([9, 9])) fun y2 =>
  bindP (transfer_Wanted fuel y2.1 9) fun y3 =>
  iteP (y1.2 == 0) (
  iteP (y2.2 == 0) (
  iteP ((y3.length : Int) == 2) (
  bindP (idx y3 0) fun x1 =>
  iteP (x1 == 0) (
  bindP (idx y3 1) fun x2 =>
  iteP (x2 == 1) (
  bindP (transfer_Complete fuel y2.1) fun y4 =>
  letP (!y4) fun x3 =>
  some x3) (
  some false)) (
  some false)) (
  some false)) (
  some false)) (
  some false)
def field_New (fuel : Nat) (a0 : List Int) (a1 : Int) : Option (field_Codes) :=
  bindP (sub a0 0 (min (a0.length : Int) a1)) fun x1 =>
  some (⟨x1, 0⟩ : field_Codes)
def field_Codes_Left (fuel : Nat) (a0 : field_Codes) : Option (Bool) :=
  letP (decide (a0.At < (a0.L.length : Int))) fun x1 =>
  some x1
def field_Codes_Next (fuel : Nat) (a0 : field_Codes) (a1 : Int) : Option (Int × field_Codes) :=
  bindP (field_Codes_Left fuel a0) fun y1 =>
  joinP (fun (s1 : Bool) =>
  iteP s1 (
  some (0, a0)) (
  bindP (idx a0.L a0.At) fun x1 =>
  letP ({ a0 with At := (IntKind.i64.wrap (a0.At + 1)) }) fun d1 =>
  joinP (fun (s2 : Bool) =>
  iteP s2 (
  bindP (idx d1.L d1.At) fun x2 =>
  letP (bOr .i64 (IntKind.i64.wrap x1) (bShl .i64 (IntKind.i64.wrap x2) 8)) fun x3 =>
  letP ({ d1 with At := (IntKind.i64.wrap (d1.At + 1)) }) fun d2 =>
  bindP (chk (decide (a1 ≠ 0))) fun _ =>
  some ((Int.tmod x3 a1), d2)) (
  bindP (chk (decide (a1 ≠ 0))) fun _ =>
  letP (Int.tmod (IntKind.i64.wrap x1) a1) fun x4 =>
  some (x4, d1))) fun j2 =>
  iteP (decide (a1 > 256)) (
  bindP (field_Codes_Left fuel d1) fun y2 =>
  j2 (y2)) (
  j2 (false)))) fun j1 =>
  iteP (!y1) (
  j1 (true)) (
  j1 (decide (a1 < 1)))
def ref30_parts (fuel : Nat) (a0 : Int) (a1 : Int) : Option (Int) :=
  bindP (chk (decide (a1 ≠ 0))) fun _ =>
  letP (IntKind.i64.wrap (Int.tdiv (IntKind.i64.wrap ((IntKind.i64.wrap (a0 + a1)) - 1)) a1)) fun x1 =>
  some x1
def ref30_New (fuel : Nat) (a0 : Int) (a1 : Int) : Option (Download_ × Int) :=
  joinP (fun (s1 : Bool) =>
  iteP s1 (
  some (Download_.z, 2)) (
  bindP (ref30_parts fuel a0 a1) fun y1 =>
  bindP (mk 1 false y1) fun x1 =>
  bindP (mk 1 0 a0) fun x2 =>
  some ((⟨a0, a1, x1, x2⟩ : Download_), 0))) fun j1 =>
  iteP (decide (a0 < 1)) (
  j1 (true)) (
  iteP (decide (a0 > 8192)) (
  j1 (true)) (
  iteP (decide (a1 < 1)) (
  j1 (true)) (
  j1 (decide (a1 > 64)))))
def ref30_Valid (fuel : Nat) (a0 : Download_) : Option (Bool) :=
  joinP (fun (s1 : Bool) =>
  iteP s1 (
  some false) (
  loopP (fun k1 (s2 : Int) =>
  iteP (decide (s2 < a0.Size)) (
  joinP (fun (s3 : Bool) =>
  iteP s3 (
  some false) (
  letP (IntKind.i64.wrap (s2 + 1)) fun x1 =>
  k1 (x1))) fun j2 =>
  bindP (chk (decide (a0.Part ≠ 0))) fun _ =>
  bindP (idx a0.Have (IntKind.i64.wrap (Int.tdiv s2 a0.Part))) fun x2 =>
  letP (!x2) fun x3 =>
  iteP x3 (
  bindP (idx a0.Data s2) fun x4 =>
  j2 (x4 != 0)) (
  j2 (false))) (
  some true)) fuel (0))) fun j1 =>
  letP (decide (a0.Size < 1)) fun x5 =>
  iteP x5 (
  j1 (true)) (
  letP (decide (a0.Size > 8192)) fun x6 =>
  iteP x6 (
  j1 (true)) (
  letP (decide (a0.Part < 1)) fun x7 =>
  iteP x7 (
  j1 (true)) (
  letP (decide (a0.Part > 64)) fun x8 =>
  iteP x8 (
  j1 (true)) (
  bindP (ref30_parts fuel a0.Size a0.Part) fun y1 =>
  letP ((a0.Have.length : Int) != y1) fun x9 =>
  iteP x9 (
  j1 (true)) (
  j1 ((a0.Data.length : Int) != a0.Size))))))
def ref30_Copy (fuel : Nat) (a0 : Download_) : Option (Download_) :=
  bindP (app 1 ([]) a0.Have) fun x1 =>
  bindP (app 1 ([]) a0.Data) fun x2 =>
  some ({ { a0 with Have := x1 } with Data := x2 })
def ref30_Accept (fuel : Nat) (a0 : Download_) (a1 : Int) (a2 : List Int) : Option (Download_ × Int) :=
  bindP (ref30_Valid fuel a0) fun y1 =>
  iteP (!y1) (
  some (Download_.z, 1)) (
  joinP (fun (s1 : Bool) =>
  iteP s1 (
  some (Download_.z, 2)) (
  letP (IntKind.i64.wrap (a1 * a0.Part)) fun x1 =>
  letP (min (IntKind.i64.wrap (x1 + a0.Part)) a0.Size) fun x2 =>
  iteP ((a2.length : Int) != (IntKind.i64.wrap (x2 - x1))) (
  some (Download_.z, 4)) (
  joinP (fun (s2 : Bool) =>
  iteP s2 (
  some (Download_.z, 42)) (
  bindP (ref30_Copy fuel a0) fun y2 =>
  bindP (idx y2.Have a1) fun x3 =>
  letP (upd y2.Have a1 true) fun d1 =>
  loopP (fun k1 (s3 : (Int × (List Int))) =>
  iteP (decide (s3.1 < (a2.length : Int))) (
  bindP (idx a2 s3.1) fun x4 =>
  bindP (idx s3.2 (IntKind.i64.wrap (x1 + s3.1))) fun x5 =>
  letP (upd s3.2 (IntKind.i64.wrap (x1 + s3.1)) x4) fun d2 =>
  letP (IntKind.i64.wrap (s3.1 + 1)) fun x6 =>
  k1 (x6, d2)) (
  letP ({ y2 with Have := d1 }) fun d3 =>
  some ({ d3 with Data := s3.2 }, 0))) fuel (0, y2.Data))) fun j2 =>
  bindP (idx a0.Have a1) fun x7 =>
  iteP x7 (
  bindP (sub a0.Data x1 x2) fun x8 =>
  j2 ((toStr x8) != (toStr a2))) (
  j2 (false))))) fun j1 =>
  iteP (decide (a1 < 0)) (
  j1 (true)) (
  j1 (decide (a1 ≥ (a0.Have.length : Int)))))
def law30_play (fuel : Nat) (a0 : field_Codes) : Option (Download_ × field_Codes) :=
  bindP (field_Codes_Next fuel a0 60) fun y1 =>
  bindP (field_Codes_Next fuel y1.2 9) fun y2 =>
  bindP (ref30_New fuel (IntKind.i64.wrap (1 + y1.1)) (IntKind.i64.wrap (1 + y2.1))) fun y3 =>
  bindP (field_Codes_Next fuel y2.2 12) fun y4 =>
  loopP (fun k1 (s1 : (Int × field_Codes × Download_)) =>
  iteP (decide (s1.1 > 0)) (
  bindP (field_Codes_Next fuel s1.2.1 (s1.2.2.Have.length : Int)) fun y5 =>
  bindP (mk 1 0 (min s1.2.2.Part (IntKind.i64.wrap (s1.2.2.Size - (IntKind.i64.wrap (y5.1 * s1.2.2.Part)))))) fun x1 =>
  loopP (fun k2 (s2 : (Int × field_Codes × (List Int))) =>
  iteP (decide (s2.1 < (x1.length : Int))) (
  bindP (field_Codes_Next fuel s2.2.1 256) fun y6 =>
  bindP (idx s2.2.2 s2.1) fun x2 =>
  letP (upd s2.2.2 s2.1 (IntKind.u8.wrap y6.1)) fun d1 =>
  k2 ((IntKind.i64.wrap (s2.1 + 1)), y6.2, d1)) (
  bindP (ref30_Accept fuel s1.2.2 y5.1 s2.2.2) fun y7 =>
  iteP (y7.2 == 0) (
  letP (IntKind.i64.wrap (s1.1 - 1)) fun x3 =>
  k1 (x3, s2.2.1, y7.1)) (
  letP (IntKind.i64.wrap (s1.1 - 1)) fun x4 =>
  k1 (x4, s2.2.1, s1.2.2)))) fuel (0, y5.2, x1)) (
  some (s1.2.2, s1.2.1))) fuel (y4.1, y4.2, y3.1)
def ref30_Same (fuel : Nat) (a0 : Download_) (a1 : Download_) : Option (Bool) :=
  joinP (fun (s1 : Bool) =>
  iteP s1 (
  some false) (
  loopP (fun k1 (s2 : Int) =>
  iteP (decide (s2 < (a0.Have.length : Int))) (
  bindP (idx a0.Have s2) fun x1 =>
  bindP (idx a1.Have s2) fun x2 =>
  iteP (x1 != x2) (
  some false) (
  letP (IntKind.i64.wrap (s2 + 1)) fun x3 =>
  k1 (x3))) (
  some true)) fuel (0))) fun j1 =>
  iteP (a0.Size != a1.Size) (
  j1 (true)) (
  iteP (a0.Part != a1.Part) (
  j1 (true)) (
  iteP ((a0.Have.length : Int) != (a1.Have.length : Int)) (
  j1 (true)) (
  j1 ((toStr a0.Data) != (toStr a1.Data)))))
def law30_TransferConflicts (fuel : Nat) (a0 : List Int) (a1 : Int) (a2 : Int) : Option (Bool) :=
  bindP (law30_awake fuel) fun y1 =>
  iteP (!y1) (
  some false) (
  bindP (field_New fuel a0 200) fun y2 =>
  bindP (law30_play fuel y2) fun y3 =>
  loopP (fun k1 (s1 : Int) =>
  iteP (decide (s1 < (y3.1.Have.length : Int))) (
  bindP (idx y3.1.Have s1) fun x1 =>
  iteP (!x1) (
  k1 ((IntKind.i64.wrap (s1 + 1)))) (
  bindP (sub y3.1.Data (IntKind.i64.wrap (s1 * y3.1.Part)) (min y3.1.Size (IntKind.i64.wrap ((IntKind.i64.wrap (s1 * y3.1.Part)) + y3.1.Part)))) fun x2 =>
  bindP (app 1 ([]) x2) fun x3 =>
  bindP (transfer_Accept fuel y3.1 s1 x3) fun y4 =>
  joinP (fun (s2 : Bool) =>
  iteP s2 (
  some false) (
  bindP (chk (decide ((x3.length : Int) ≠ 0))) fun _ =>
  bindP (idx x3 (Int.tmod (IntKind.i64.wrap a1) (x3.length : Int))) fun x4 =>
  bindP (idx x3 (Int.tmod (IntKind.i64.wrap a1) (x3.length : Int))) fun x5 =>
  letP (upd x3 (Int.tmod (IntKind.i64.wrap a1) (x3.length : Int)) (bXor .u8 x4 a2)) fun d1 =>
  bindP (transfer_Accept fuel y3.1 s1 d1) fun y5 =>
  joinP (fun (s3 : Bool) =>
  iteP s3 (
  some false) (
  k1 ((IntKind.i64.wrap (s1 + 1))))) fun j2 =>
  iteP (y5.2 != 42) (
  j2 (a2 != 0)) (
  j2 (false)))) fun j1 =>
  iteP (y4.2 != 0) (
  j1 (true)) (
  bindP (ref30_Same fuel y4.1 y3.1) fun y6 =>
  j1 (!y6)))) (
  some true)) fuel (0))
def law30_TransferSizes (fuel : Nat) (a0 : Int) (a1 : Int) : Option (Bool) :=
  bindP (law30_awake fuel) fun y1 =>
  iteP (!y1) (
  some false) (
  letP (IntKind.i64.wrap (1 + (Int.tmod (IntKind.i64.wrap a0) 8192))) fun x1 =>
  letP (IntKind.i64.wrap (1 + (Int.tmod (IntKind.i64.wrap a1) 64))) fun x2 =>
  bindP (transfer_New fuel x1 x2) fun y2 =>
  bindP (transfer_Wanted fuel y2.1 x1) fun y3 =>
  joinP (fun (s1 : Bool) =>
  iteP s1 (
  some false) (
  loopP (fun k1 (s2 : (Int × Int)) =>
  iteP (decide (s2.2 < (([0, (IntKind.i64.wrap (Int.tdiv (y3.length : Int) 2)), (IntKind.i64.wrap ((y3.length : Int) - 1))]).length : Int))) (
  bindP (idx ([0, (IntKind.i64.wrap (Int.tdiv (y3.length : Int) 2)), (IntKind.i64.wrap ((y3.length : Int) - 1))]) s2.2) fun x3 =>
  letP (min x2 (IntKind.i64.wrap (x1 - (IntKind.i64.wrap (x3 * x2))))) fun x4 =>
  bindP (idx y3 x3) fun x5 =>
  iteP (x5 != x3) (
  some false) (
  loopP (fun k2 (s3 : Int) =>
  iteP (decide (s3 < (([(IntKind.i64.wrap (x4 - 1)), x4, (IntKind.i64.wrap (x4 + 1))]).length : Int))) (
  bindP (idx ([(IntKind.i64.wrap (x4 - 1)), x4, (IntKind.i64.wrap (x4 + 1))]) s3) fun x6 =>
  bindP (mk 1 0 x6) fun x7 =>
  bindP (transfer_Accept fuel y2.1 x3 x7) fun y4 =>
  joinP (fun (s4 : Bool) =>
  iteP s4 (
  some false) (
  k2 ((IntKind.i64.wrap (s3 + 1))))) fun j2 =>
  iteP ((y4.2 == 0) != (x6 == x4)) (
  j2 (true)) (
  iteP (y4.2 != 0) (
  j2 (y4.2 != 4)) (
  j2 (false)))) (
  iteP (x3 == (IntKind.i64.wrap ((y3.length : Int) - 1))) (
  letP (IntKind.i64.wrap ((IntKind.i64.wrap (x3 * x2)) + x4)) fun x8 =>
  k1 (x8, (IntKind.i64.wrap (s2.2 + 1)))) (
  k1 (s2.1, (IntKind.i64.wrap (s2.2 + 1)))))) fuel (0))) (
  bindP (mk 1 0 x2) fun x9 =>
  bindP (transfer_Accept fuel y2.1 (y3.length : Int) x9) fun y5 =>
  iteP (s2.1 == x1) (
  letP (y5.2 == 2) fun x10 =>
  some x10) (
  some false))) fuel (0, 0))) fun j1 =>
  iteP (y2.2 != 0) (
  j1 (true)) (
  bindP (chk (decide (x2 ≠ 0))) fun _ =>
  j1 ((y3.length : Int) != (IntKind.i64.wrap (Int.tdiv (IntKind.i64.wrap ((IntKind.i64.wrap (x1 + x2)) - 1)) x2)))))
def law30_TransferZero (fuel : Nat) (a0 : Int) (a1 : Int) (a2 : Int) : Option (Bool) :=
  bindP (law30_awake fuel) fun y1 =>
  iteP (!y1) (
  some false) (
  letP (IntKind.i64.wrap (1 + (IntKind.i64.wrap a0))) fun x1 =>
  letP (IntKind.i64.wrap (1 + (Int.tmod (IntKind.i64.wrap a1) 64))) fun x2 =>
  bindP (transfer_New fuel x1 x2) fun y2 =>
  bindP (chk (decide (x2 ≠ 0))) fun _ =>
  letP (IntKind.i64.wrap (Int.tdiv (IntKind.i64.wrap ((IntKind.i64.wrap (x1 + x2)) - 1)) x2)) fun x3 =>
  bindP (chk (decide (x3 ≠ 0))) fun _ =>
  letP (Int.tmod (IntKind.i64.wrap a2) x3) fun x4 =>
  bindP (mk 1 0 (min x2 (IntKind.i64.wrap (x1 - (IntKind.i64.wrap (x4 * x2)))))) fun x5 =>
  bindP (transfer_Accept fuel y2.1 x4 x5) fun y3 =>
  joinP (fun (s1 : Bool) =>
  iteP s1 (
  some false) (
  bindP (transfer_Wanted fuel y3.1 x3) fun y4 =>
  loopP (fun k1 (s2 : ((List Int) × Int)) =>
  iteP (decide (s2.2 < (y4.length : Int))) (
  bindP (idx s2.1 s2.2) fun x6 =>
  iteP (x6 == x4) (
  some false) (
  k1 (s2.1, (IntKind.i64.wrap (s2.2 + 1))))) (
  bindP (transfer_Complete fuel y3.1) fun y5 =>
  letP (y5 == (x3 == 1)) fun x7 =>
  some x7)) fuel (y4, 0))) fun j1 =>
  iteP (y2.2 != 0) (
  j1 (true)) (
  iteP (y3.2 != 0) (
  j1 (true)) (
  bindP (transfer_Wanted fuel y2.1 x3) fun y6 =>
  iteP ((y6.length : Int) != x3) (
  j1 (true)) (
  bindP (transfer_Wanted fuel y3.1 x3) fun y7 =>
  j1 ((y7.length : Int) != (IntKind.i64.wrap (x3 - 1)))))))
def transfer_Bytes (fuel : Nat) (a0 : Download_) : Option ((List Int) × Int) :=
  bindP (transfer_Valid fuel a0) fun y1 =>
  iteP (!y1) (
  some ([], 1)) (
  bindP (transfer_Complete fuel a0) fun y2 =>
  iteP (!y2) (
  some ([], 46)) (
  bindP (slices_Clone_byte_byte fuel a0.Data) fun y3 =>
  some (y3, 0)))
def ref30_Wanted (fuel : Nat) (a0 : Download_) (a1 : Int) : Option ((List Int)) :=
  bindP (ref30_Valid fuel a0) fun y1 =>
  iteP (!y1) (
  some ([])) (
  loopP (fun k1 (s1 : (Int × (List Int))) =>
  joinP (fun (s2 : Bool) =>
  iteP s2 (
  bindP (idx a0.Have s1.1) fun x1 =>
  iteP (!x1) (
  bindP (app 8 s1.2 ([s1.1])) fun x2 =>
  letP (IntKind.i64.wrap (s1.1 + 1)) fun x3 =>
  k1 (x3, x2)) (
  letP (IntKind.i64.wrap (s1.1 + 1)) fun x4 =>
  k1 (x4, s1.2))) (
  some s1.2)) fun j1 =>
  iteP (decide (s1.1 < (a0.Have.length : Int))) (
  j1 (decide ((s1.2.length : Int) < a1))) (
  j1 (false))) fuel (0, []))
def ref30_Complete (fuel : Nat) (a0 : Download_) : Option (Bool) :=
  bindP (ref30_Valid fuel a0) fun y1 =>
  iteP y1 (
  bindP (ref30_Wanted fuel a0 1) fun y2 =>
  letP ((y2.length : Int) == 0) fun x1 =>
  some x1) (
  some false)
def ref30_Bytes (fuel : Nat) (a0 : Download_) : Option ((List Int) × Int) :=
  bindP (ref30_Valid fuel a0) fun y1 =>
  letP (!y1) fun x1 =>
  iteP x1 (
  some ([], 1)) (
  bindP (ref30_Complete fuel a0) fun y2 =>
  letP (!y2) fun x2 =>
  iteP x2 (
  some ([], 46)) (
  bindP (app 1 ([]) a0.Data) fun x3 =>
  some (x3, 0)))
def law30_ints (fuel : Nat) (a0 : List Int) (a1 : List Int) : Option (Bool) :=
  iteP ((a0.length : Int) != (a1.length : Int)) (
  some false) (
  loopP (fun k1 (s1 : Int) =>
  iteP (decide (s1 < (a0.length : Int))) (
  bindP (idx a0 s1) fun x1 =>
  bindP (idx a1 s1) fun x2 =>
  iteP (x1 != x2) (
  some false) (
  letP (IntKind.i64.wrap (s1 + 1)) fun x3 =>
  k1 (x3))) (
  some true)) fuel (0))
def law30_TransferAnswers (fuel : Nat) (a0 : List Int) (a1 : Download_) (a2 : List Int) (a3 : Int) (a4 : Int) (a5 : Int) (a6 : Int) : Option (Bool) :=
  bindP (law30_awake fuel) fun y1 =>
  iteP (!y1) (
  some false) (
  joinP (fun (s1 : Bool) =>
  iteP s1 (
  some true) (
  bindP (transfer_New fuel a3 a4) fun y2 =>
  bindP (ref30_New fuel a3 a4) fun y3 =>
  joinP (fun (s2 : Bool) =>
  iteP s2 (
  some false) (
  bindP (field_New fuel a0 200) fun y4 =>
  bindP (law30_play fuel y4) fun y5 =>
  bindP (ref30_Copy fuel y5.1) fun y6 =>
  bindP (field_Codes_Next fuel y5.2 4) fun y7 =>
  letP (y7.1 == 0) fun x1 =>
  joinP (fun (s3 : (field_Codes × Download_)) =>
  loopP (fun k1 (s4 : (Int × field_Codes)) =>
  iteP (decide (s4.1 < (([y5.1, s3.2, a1]).length : Int))) (
  bindP (idx ([y5.1, s3.2, a1]) s4.1) fun x2 =>
  bindP (field_Codes_Next fuel s4.2 (IntKind.i64.wrap ((y5.1.Have.length : Int) + 1))) fun y8 =>
  bindP (field_Codes_Next fuel y8.2 4) fun y9 =>
  joinP (fun (s5 : ((List Int) × field_Codes)) =>
  bindP (field_Codes_Next fuel s5.2 6) fun y10 =>
  joinP (fun (s6 : Int) =>
  bindP (transfer_Accept fuel x2 s6 s5.1) fun y11 =>
  bindP (ref30_Accept fuel x2 s6 s5.1) fun y12 =>
  bindP (transfer_Bytes fuel x2) fun y13 =>
  bindP (ref30_Bytes fuel x2) fun y14 =>
  joinP (fun (s7 : Bool) =>
  iteP s7 (
  some false) (
  k1 ((IntKind.i64.wrap (s4.1 + 1)), y10.2))) fun j6 =>
  letP (y11.2 != y12.2) fun x3 =>
  iteP x3 (
  j6 (true)) (
  letP (y13.2 != y14.2) fun x4 =>
  iteP x4 (
  j6 (true)) (
  letP ((toStr y13.1) != (toStr y14.1)) fun x5 =>
  iteP x5 (
  j6 (true)) (
  bindP (ref30_Same fuel y11.1 y12.1) fun y15 =>
  letP (!y15) fun x6 =>
  iteP x6 (
  j6 (true)) (
  bindP (transfer_Valid fuel x2) fun y16 =>
  bindP (ref30_Valid fuel x2) fun y17 =>
  letP (y16 != y17) fun x7 =>
  iteP x7 (
  j6 (true)) (
  bindP (transfer_Complete fuel x2) fun y18 =>
  bindP (ref30_Complete fuel x2) fun y19 =>
  letP (y18 != y19) fun x8 =>
  iteP x8 (
  j6 (true)) (
  bindP (transfer_Wanted fuel x2 a6) fun y20 =>
  bindP (ref30_Wanted fuel x2 a6) fun y21 =>
  bindP (law30_ints fuel y20 y21) fun y22 =>
  j6 (!y22)))))))) fun j5 =>
  iteP (y10.1 == 5) (
  j5 (a5)) (
  j5 (y8.1))) fun j4 =>
  iteP (decide (y9.1 > 0)) (
  bindP (mk 1 0 (max 0 (min y5.1.Part (IntKind.i64.wrap (y5.1.Size - (IntKind.i64.wrap (y8.1 * y5.1.Part))))))) fun x9 =>
  loopP (fun k2 (s8 : (Int × field_Codes × (List Int))) =>
  iteP (decide (s8.1 < (x9.length : Int))) (
  bindP (field_Codes_Next fuel s8.2.1 3) fun y23 =>
  bindP (idx s8.2.2 s8.1) fun x10 =>
  letP (upd s8.2.2 s8.1 (IntKind.u8.wrap y23.1)) fun d1 =>
  k2 ((IntKind.i64.wrap (s8.1 + 1)), y23.2, d1)) (
  j4 (s8.2.2, s8.2.1))) fuel (0, y9.2, x9)) (
  j4 (a2, y9.2))) (
  some true)) fuel (0, s3.1)) fun j3 =>
  iteP x1 (
  letP ({ y6 with Size := (IntKind.i64.wrap (y6.Size + 1)) }) fun d2 =>
  j3 (y7.2, { { d2 with Have := y6.Have } with Data := y6.Data })) (
  letP (y7.1 == 1) fun x11 =>
  iteP x11 (
  bindP (sub y6.Have 1 y6.Have.length) fun x12 =>
  letP ({ { y6 with Have := y6.Have } with Have := x12 }) fun d3 =>
  j3 (y7.2, { d3 with Data := y6.Data })) (
  letP (y7.1 == 2) fun x13 =>
  iteP x13 (
  bindP (field_Codes_Next fuel y7.2 (({ y6 with Have := y6.Have }).Size)) fun y24 =>
  bindP (idx y6.Data y24.1) fun x14 =>
  bindP (idx y6.Data y24.1) fun x15 =>
  letP (upd y6.Data y24.1 (IntKind.u8.wrap (x14 + 1))) fun d4 =>
  j3 (y24.2, { { y6 with Have := y6.Have } with Data := d4 })) (
  letP (y7.1 == 3) fun x16 =>
  iteP x16 (
  bindP (field_Codes_Next fuel y7.2 4) fun y25 =>
  bindP (idx ([0, (-1), 65, (IntKind.i64.wrap (({ { y6 with Have := y6.Have } with Data := y6.Data }).Part + 1))]) y25.1) fun x17 =>
  letP ({ { { y6 with Have := y6.Have } with Data := y6.Data } with Part := x17 }) fun d5 =>
  j3 (y25.2, d5)) (
  j3 (y7.2, { { y6 with Have := y6.Have } with Data := y6.Data }))))))) fun j2 =>
  iteP (y2.2 != y3.2) (
  j2 (true)) (
  bindP (ref30_Same fuel y2.1 y3.1) fun y26 =>
  j2 (!y26)))) fun j1 =>
  iteP (decide ((a1.Have.length : Int) > 300)) (
  j1 (true)) (
  iteP (decide ((a1.Data.length : Int) > 9000)) (
  j1 (true)) (
  j1 (decide ((a2.length : Int) > 300)))))
def law30_TransferOrders (fuel : Nat) (a0 : List Int) (a1 : Int) (a2 : List Int) : Option (Bool) :=
  bindP (law30_awake fuel) fun y1 =>
  iteP (!y1) (
  some false) (
  joinP (fun (s1 : Bool) =>
  iteP s1 (
  some true) (
  letP (IntKind.i64.wrap (1 + (Int.tmod (IntKind.i64.wrap a1) 64))) fun x1 =>
  bindP (transfer_New fuel (a0.length : Int) x1) fun y2 =>
  iteP (y2.2 != 0) (
  some false) (
  bindP (chk (decide (x1 ≠ 0))) fun _ =>
  letP (IntKind.i64.wrap (Int.tdiv (IntKind.i64.wrap ((IntKind.i64.wrap ((a0.length : Int) + x1)) - 1)) x1)) fun x2 =>
  bindP (mk 1 false x2) fun x3 =>
  loopP (fun k1 (s2 : (Int × Download_ × (List Bool))) =>
  joinP (fun (s3 : Bool) =>
  iteP s3 (
  bindP (chk (decide (x2 ≠ 0))) fun _ =>
  joinP (fun (s4 : Bool) =>
  joinP (fun (s5 : Int) =>
  bindP (sub a0 (IntKind.i64.wrap (s5 * x1)) (min (a0.length : Int) (IntKind.i64.wrap ((IntKind.i64.wrap (s5 * x1)) + x1)))) fun x4 =>
  bindP (transfer_Accept fuel s2.2.1 s5 x4) fun y3 =>
  iteP (y3.2 != 0) (
  some false) (
  bindP (idx s2.2.2 s5) fun x5 =>
  letP (upd s2.2.2 s5 true) fun d1 =>
  bindP (transfer_Wanted fuel y3.1 x2) fun y4 =>
  loopP (fun k2 (s6 : (Int × (List Int) × Int)) =>
  iteP (decide (s6.2.2 < (y4.length : Int))) (
  bindP (idx s6.2.1 s6.2.2) fun x6 =>
  joinP (fun (s7 : Bool) =>
  iteP s7 (
  some false) (
  letP (IntKind.i64.wrap (s6.1 + 1)) fun x7 =>
  k2 (x7, s6.2.1, (IntKind.i64.wrap (s6.2.2 + 1))))) fun j5 =>
  iteP (decide (x6 < 0)) (
  j5 (true)) (
  iteP (decide (x6 ≥ x2)) (
  j5 (true)) (
  bindP (idx d1 x6) fun x8 =>
  j5 (x8)))) (
  loopP (fun k3 (s8 : (Int × Int)) =>
  iteP (decide (s8.2 < (d1.length : Int))) (
  bindP (idx d1 s8.2) fun x9 =>
  iteP (!x9) (
  letP (IntKind.i64.wrap (s8.1 - 1)) fun x10 =>
  k3 (x10, (IntKind.i64.wrap (s8.2 + 1)))) (
  k3 (s8.1, (IntKind.i64.wrap (s8.2 + 1))))) (
  joinP (fun (s9 : Bool) =>
  iteP s9 (
  some false) (
  letP (IntKind.i64.wrap (s2.1 + 1)) fun x11 =>
  k1 (x11, y3.1, d1))) fun j6 =>
  letP (s8.1 != 0) fun x12 =>
  iteP x12 (
  j6 (true)) (
  bindP (transfer_Complete fuel y3.1) fun y5 =>
  bindP (transfer_Wanted fuel y3.1 1) fun y6 =>
  j6 (y5 != ((y6.length : Int) == 0))))) fuel (s6.1, 0))) fuel (0, y4, 0))) fun j4 =>
  iteP s4 (
  bindP (idx a2 s2.1) fun x13 =>
  bindP (chk (decide (x2 ≠ 0))) fun _ =>
  letP (Int.tmod (IntKind.i64.wrap x13) x2) fun x14 =>
  j4 (x14)) (
  j4 ((Int.tmod s2.1 x2)))) fun j3 =>
  iteP (decide (s2.1 < (a2.length : Int))) (
  j3 (decide (s2.1 < 60))) (
  j3 (false))) (
  loopP (fun k4 (s10 : (Int × Download_)) =>
  iteP (decide (s10.1 < x2)) (
  bindP (sub a0 (IntKind.i64.wrap (s10.1 * x1)) (min (a0.length : Int) (IntKind.i64.wrap ((IntKind.i64.wrap (s10.1 * x1)) + x1)))) fun x15 =>
  bindP (transfer_Accept fuel s10.2 s10.1 x15) fun y7 =>
  iteP (y7.2 != 0) (
  some false) (
  letP (IntKind.i64.wrap (s10.1 + 1)) fun x16 =>
  k4 (x16, y7.1))) (
  bindP (transfer_Bytes fuel s10.2) fun y8 =>
  iteP (y8.2 == 0) (
  letP ((toStr y8.1) == (toStr a0)) fun x17 =>
  some x17) (
  some false))) fuel (0, s2.2.1))) fun j2 =>
  iteP (decide (s2.1 < (a2.length : Int))) (
  iteP (decide (s2.1 < 60)) (
  j2 (true)) (
  j2 (decide (s2.1 < (IntKind.i64.wrap (2 * x2)))))) (
  j2 (decide (s2.1 < (IntKind.i64.wrap (2 * x2)))))) fuel (0, y2.1, x3)))) fun j1 =>
  iteP (decide ((a0.length : Int) < 1)) (
  j1 (true)) (
  j1 (decide ((a0.length : Int) > 200))))
end Lift
