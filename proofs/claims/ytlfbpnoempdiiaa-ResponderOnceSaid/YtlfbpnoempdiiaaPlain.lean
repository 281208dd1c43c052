/- Plain Lean functions, as lift.py reads them off the Go functions of the seat. -/
import Derived.Test.YtlfbpnoempdiiaaLiftR
import Derived.Test.YtlfbpnoempdiiaaLiftN
set_option linter.unusedVariables false
set_option linter.unusedSimpArgs false
namespace Lift
open Go
structure Message_ where
  To : Int
  From : Int
  Function : Int
  Command : Int
  ToUnit : Int
  FromUnit : Int
  Sequence : Int
  Code : Int
  Data : List Int
def Message_.rep : Rep Message_ := Rep.iso (fun s => (s.To, s.From, s.Function, s.Command, s.ToUnit, s.FromUnit, s.Sequence, s.Code, s.Data, ())) (Rep.prod (Rep.int .u8) (Rep.prod (Rep.int .u8) (Rep.prod (Rep.int .u8) (Rep.prod (Rep.int .u8) (Rep.prod (Rep.int .i64) (Rep.prod (Rep.int .i64) (Rep.prod (Rep.int .i64) (Rep.prod (Rep.int .u8) (Rep.prod (Rep.slice (Rep.int .u8)) Rep.unit)))))))))
def Message_.z : Message_ := ⟨0, 0, 0, 0, 0, 0, 0, 0, []⟩
theorem Message_.zr : Zr Message_.rep [.int .u8 0, .int .u8 0, .int .u8 0, .int .u8 0, .int .i64 0, .int .i64 0, .int .i64 0, .int .u8 0, .slice none 0 0] Message_.z := Zr.iso (r := (Rep.prod (Rep.int .u8) (Rep.prod (Rep.int .u8) (Rep.prod (Rep.int .u8) (Rep.prod (Rep.int .u8) (Rep.prod (Rep.int .i64) (Rep.prod (Rep.int .i64) (Rep.prod (Rep.int .i64) (Rep.prod (Rep.int .u8) (Rep.prod (Rep.slice (Rep.int .u8)) Rep.unit)))))))))) _ (Zr.of (Zr.prod (Zr.int .u8 0) (Zr.prod (Zr.int .u8 0) (Zr.prod (Zr.int .u8 0) (Zr.prod (Zr.int .u8 0) (Zr.prod (Zr.int .i64 0) (Zr.prod (Zr.int .i64 0) (Zr.prod (Zr.int .i64 0) (Zr.prod (Zr.int .u8 0) (Zr.prod (Zr.slice (Rep.int .u8)) Zr.unit))))))))) rfl)
theorem Message_.f0 : Fld Message_.rep 0 (Rep.int .u8) Message_.To (fun s y => { s with To := y }) := Fld.iso (fun s : Message_ => (s.To, s.From, s.Function, s.Command, s.ToUnit, s.FromUnit, s.Sequence, s.Code, s.Data, ())) Fld.here (fun _ => rfl) (fun _ _ => rfl)
theorem Message_.f1 : Fld Message_.rep 1 (Rep.int .u8) Message_.From (fun s y => { s with From := y }) := Fld.iso (fun s : Message_ => (s.To, s.From, s.Function, s.Command, s.ToUnit, s.FromUnit, s.Sequence, s.Code, s.Data, ())) (Fld.there Fld.here) (fun _ => rfl) (fun _ _ => rfl)
theorem Message_.f2 : Fld Message_.rep 2 (Rep.int .u8) Message_.Function (fun s y => { s with Function := y }) := Fld.iso (fun s : Message_ => (s.To, s.From, s.Function, s.Command, s.ToUnit, s.FromUnit, s.Sequence, s.Code, s.Data, ())) (Fld.there (Fld.there Fld.here)) (fun _ => rfl) (fun _ _ => rfl)
theorem Message_.f3 : Fld Message_.rep 3 (Rep.int .u8) Message_.Command (fun s y => { s with Command := y }) := Fld.iso (fun s : Message_ => (s.To, s.From, s.Function, s.Command, s.ToUnit, s.FromUnit, s.Sequence, s.Code, s.Data, ())) (Fld.there (Fld.there (Fld.there Fld.here))) (fun _ => rfl) (fun _ _ => rfl)
theorem Message_.f4 : Fld Message_.rep 4 (Rep.int .i64) Message_.ToUnit (fun s y => { s with ToUnit := y }) := Fld.iso (fun s : Message_ => (s.To, s.From, s.Function, s.Command, s.ToUnit, s.FromUnit, s.Sequence, s.Code, s.Data, ())) (Fld.there (Fld.there (Fld.there (Fld.there Fld.here)))) (fun _ => rfl) (fun _ _ => rfl)
theorem Message_.f5 : Fld Message_.rep 5 (Rep.int .i64) Message_.FromUnit (fun s y => { s with FromUnit := y }) := Fld.iso (fun s : Message_ => (s.To, s.From, s.Function, s.Command, s.ToUnit, s.FromUnit, s.Sequence, s.Code, s.Data, ())) (Fld.there (Fld.there (Fld.there (Fld.there (Fld.there Fld.here))))) (fun _ => rfl) (fun _ _ => rfl)
theorem Message_.f6 : Fld Message_.rep 6 (Rep.int .i64) Message_.Sequence (fun s y => { s with Sequence := y }) := Fld.iso (fun s : Message_ => (s.To, s.From, s.Function, s.Command, s.ToUnit, s.FromUnit, s.Sequence, s.Code, s.Data, ())) (Fld.there (Fld.there (Fld.there (Fld.there (Fld.there (Fld.there Fld.here)))))) (fun _ => rfl) (fun _ _ => rfl)
theorem Message_.f7 : Fld Message_.rep 7 (Rep.int .u8) Message_.Code (fun s y => { s with Code := y }) := Fld.iso (fun s : Message_ => (s.To, s.From, s.Function, s.Command, s.ToUnit, s.FromUnit, s.Sequence, s.Code, s.Data, ())) (Fld.there (Fld.there (Fld.there (Fld.there (Fld.there (Fld.there (Fld.there Fld.here))))))) (fun _ => rfl) (fun _ _ => rfl)
theorem Message_.f8 : Fld Message_.rep 8 (Rep.slice (Rep.int .u8)) Message_.Data (fun s y => { s with Data := y }) := Fld.iso (fun s : Message_ => (s.To, s.From, s.Function, s.Command, s.ToUnit, s.FromUnit, s.Sequence, s.Code, s.Data, ())) (Fld.there (Fld.there (Fld.there (Fld.there (Fld.there (Fld.there (Fld.there (Fld.there Fld.here)))))))) (fun _ => rfl) (fun _ _ => rfl)
structure Memory_ where
  Request : Message_
  Reply : List Int
  Until : Int
def Memory_.rep : Rep Memory_ := Rep.iso (fun s => (s.Request, s.Reply, s.Until, ())) (Rep.prod Message_.rep (Rep.prod (Rep.slice (Rep.int .u8)) (Rep.prod (Rep.int .i64) Rep.unit)))
def Memory_.z : Memory_ := ⟨Message_.z, [], 0⟩
theorem Memory_.zr : Zr Memory_.rep [.int .u8 0, .int .u8 0, .int .u8 0, .int .u8 0, .int .i64 0, .int .i64 0, .int .i64 0, .int .u8 0, .slice none 0 0, .slice none 0 0, .int .i64 0] Memory_.z := Zr.iso (r := (Rep.prod Message_.rep (Rep.prod (Rep.slice (Rep.int .u8)) (Rep.prod (Rep.int .i64) Rep.unit)))) _ (Zr.of (Zr.prod Message_.zr (Zr.prod (Zr.slice (Rep.int .u8)) (Zr.prod (Zr.int .i64 0) Zr.unit))) rfl)
theorem Memory_.f0 : Fld Memory_.rep 0 Message_.rep Memory_.Request (fun s y => { s with Request := y }) := Fld.iso (fun s : Memory_ => (s.Request, s.Reply, s.Until, ())) Fld.here (fun _ => rfl) (fun _ _ => rfl)
theorem Memory_.f1 : Fld Memory_.rep 9 (Rep.slice (Rep.int .u8)) Memory_.Reply (fun s y => { s with Reply := y }) := Fld.iso (fun s : Memory_ => (s.Request, s.Reply, s.Until, ())) (Fld.there Fld.here) (fun _ => rfl) (fun _ _ => rfl)
theorem Memory_.f2 : Fld Memory_.rep 10 (Rep.int .i64) Memory_.Until (fun s y => { s with Until := y }) := Fld.iso (fun s : Memory_ => (s.Request, s.Reply, s.Until, ())) (Fld.there (Fld.there Fld.here)) (fun _ => rfl) (fun _ _ => rfl)
structure Responder_ where
  Own : Int
  Queue : List Message_
  Memory : List Memory_
def Responder_.rep : Rep Responder_ := Rep.iso (fun s => (s.Own, s.Queue, s.Memory, ())) (Rep.prod (Rep.int .u8) (Rep.prod (Rep.slice Message_.rep) (Rep.prod (Rep.slice Memory_.rep) Rep.unit)))
def Responder_.z : Responder_ := ⟨0, [], []⟩
theorem Responder_.zr : Zr Responder_.rep [.int .u8 0, .slice none 0 0, .slice none 0 0] Responder_.z := Zr.iso (r := (Rep.prod (Rep.int .u8) (Rep.prod (Rep.slice Message_.rep) (Rep.prod (Rep.slice Memory_.rep) Rep.unit)))) _ (Zr.of (Zr.prod (Zr.int .u8 0) (Zr.prod (Zr.slice Message_.rep) (Zr.prod (Zr.slice Memory_.rep) Zr.unit))) rfl)
theorem Responder_.f0 : Fld Responder_.rep 0 (Rep.int .u8) Responder_.Own (fun s y => { s with Own := y }) := Fld.iso (fun s : Responder_ => (s.Own, s.Queue, s.Memory, ())) Fld.here (fun _ => rfl) (fun _ _ => rfl)
theorem Responder_.f1 : Fld Responder_.rep 1 (Rep.slice Message_.rep) Responder_.Queue (fun s y => { s with Queue := y }) := Fld.iso (fun s : Responder_ => (s.Own, s.Queue, s.Memory, ())) (Fld.there Fld.here) (fun _ => rfl) (fun _ _ => rfl)
theorem Responder_.f2 : Fld Responder_.rep 2 (Rep.slice Memory_.rep) Responder_.Memory (fun s y => { s with Memory := y }) := Fld.iso (fun s : Responder_ => (s.Own, s.Queue, s.Memory, ())) (Fld.there (Fld.there Fld.here)) (fun _ => rfl) (fun _ _ => rfl)
structure field_Codes where
  L : List Int
  At : Int
def field_Codes.rep : Rep field_Codes := Rep.iso (fun s => (s.L, s.At, ())) (Rep.prod (Rep.slice (Rep.int .u8)) (Rep.prod (Rep.int .i64) Rep.unit))
def field_Codes.z : field_Codes := ⟨[], 0⟩
theorem field_Codes.zr : Zr field_Codes.rep [.slice none 0 0, .int .i64 0] field_Codes.z := Zr.iso (r := (Rep.prod (Rep.slice (Rep.int .u8)) (Rep.prod (Rep.int .i64) Rep.unit))) _ (Zr.of (Zr.prod (Zr.slice (Rep.int .u8)) (Zr.prod (Zr.int .i64 0) Zr.unit)) rfl)
theorem field_Codes.f0 : Fld field_Codes.rep 0 (Rep.slice (Rep.int .u8)) field_Codes.L (fun s y => { s with L := y }) := Fld.iso (fun s : field_Codes => (s.L, s.At, ())) Fld.here (fun _ => rfl) (fun _ _ => rfl)
theorem field_Codes.f1 : Fld field_Codes.rep 1 (Rep.int .i64) field_Codes.At (fun s y => { s with At := y }) := Fld.iso (fun s : field_Codes => (s.L, s.At, ())) (Fld.there Fld.here) (fun _ => rfl) (fun _ _ => rfl)
def Message_.ok (s : Message_) : Prop := (okI .u8) s.To ∧ (okI .u8) s.From ∧ (okI .u8) s.Function ∧ (okI .u8) s.Command ∧ (okI .i64) s.ToUnit ∧ (okI .i64) s.FromUnit ∧ (okI .i64) s.Sequence ∧ (okI .u8) s.Code ∧ (okL (okI .u8)) s.Data ∧ True
def Memory_.ok (s : Memory_) : Prop := Message_.ok s.Request ∧ (okL (okI .u8)) s.Reply ∧ (okI .i64) s.Until ∧ True
def Responder_.ok (s : Responder_) : Prop := (okI .u8) s.Own ∧ (okL Message_.ok) s.Queue ∧ (okL Memory_.ok) s.Memory ∧ True
def field_Codes.ok (s : field_Codes) : Prop := (okL (okI .u8)) s.L ∧ (okI .i64) s.At ∧ True
def responder_New (fuel : Nat) (a0 : Int) : Option (Responder_ × Int) :=
  joinP (fun (s1 : Bool) =>
  iteP s1 (
  some (Responder_.z, 13)) (
  some ((⟨a0, [], []⟩ : Responder_), 0))) fun j1 =>
  iteP (decide (a0 < 8)) (
  j1 (true)) (
  j1 (decide (a0 > 119)))
def message_address (fuel : Nat) (a0 : Int) : Option (Bool) :=
  iteP (decide (a0 ≥ 8)) (
  letP (decide (a0 ≤ 119)) fun x1 =>
  some x1) (
  some false)
def message_unit (fuel : Nat) (a0 : Int) : Option (Bool) :=
  iteP (decide (a0 ≥ 0)) (
  letP (decide (a0 < 4)) fun x1 =>
  some x1) (
  some false)
def message_request (fuel : Nat) (a0 : Message_) : Option (Bool) :=
  letP ((Int.tmod a0.Function 2) == 0) fun x1 =>
  some x1
def message_Valid (fuel : Nat) (a0 : Message_) : Option (Bool) :=
  bindP (message_address fuel a0.To) fun y1 =>
  joinP (fun (s1 : Bool) =>
  iteP s1 (
  some false) (
  iteP (decide (a0.Sequence ≥ 0)) (
  iteP (decide (a0.Sequence < 64)) (
  iteP (decide ((a0.Data.length : Int) ≤ 240)) (
  bindP (message_request fuel a0) fun y2 =>
  iteP (!y2) (
  some true) (
  letP (a0.Code == 0) fun x1 =>
  some x1)) (
  some false)) (
  some false)) (
  some false))) fun j1 =>
  iteP (!y1) (
  j1 (true)) (
  bindP (message_address fuel a0.From) fun y3 =>
  iteP (!y3) (
  j1 (true)) (
  iteP (decide (a0.Function ≥ 64)) (
  j1 (true)) (
  bindP (message_unit fuel a0.ToUnit) fun y4 =>
  iteP (!y4) (
  j1 (true)) (
  bindP (message_unit fuel a0.FromUnit) fun y5 =>
  j1 (!y5)))))
def slices_Clone_byte_byte (fuel : Nat) (a0 : List Int) : Option ((List Int)) :=
  bindP (app 1 ([]) a0) fun x1 =>
  some x1
def checksum_Sum8 (fuel : Nat) (a0 : List Int) : Option (Int) :=
  loopP (fun k1 (s1 : (Int × Int)) =>
  iteP (decide (s1.2 < (a0.length : Int))) (
  bindP (idx a0 s1.2) fun x1 =>
  letP (IntKind.u8.wrap (s1.1 + x1)) fun x2 =>
  k1 (x2, (IntKind.i64.wrap (s1.2 + 1)))) (
  letP (IntKind.u8.wrap (0 - s1.1)) fun x3 =>
  some x3)) fuel (0, 0)
def checksum_Seal8 (fuel : Nat) (a0 : List Int) : Option ((List Int)) :=
  bindP (slices_Clone_byte_byte fuel a0) fun y1 =>
  bindP (checksum_Sum8 fuel a0) fun y2 =>
  bindP (app 1 y1 ([y2])) fun x1 =>
  some x1
def message_encode (fuel : Nat) (a0 : Message_) : Option ((List Int)) :=
  bindP (checksum_Seal8 fuel ([(IntKind.u8.wrap (2 * a0.To)), (IntKind.u8.wrap ((IntKind.u8.wrap (4 * a0.Function)) + (IntKind.u8.wrap a0.ToUnit)))])) fun y1 =>
  bindP (message_request fuel a0) fun y2 =>
  joinP (fun (s1 : ((List Int))) =>
  bindP (app 1 s1 a0.Data) fun x1 =>
  bindP (checksum_Seal8 fuel x1) fun y3 =>
  bindP (app 1 y1 y3) fun x2 =>
  some x2) fun j1 =>
  iteP (!y2) (
  bindP (app 1 ([(IntKind.u8.wrap (2 * a0.From)), (IntKind.u8.wrap (IntKind.i64.wrap ((IntKind.i64.wrap (4 * a0.Sequence)) + a0.FromUnit))), a0.Command]) ([a0.Code])) fun x3 =>
  j1 (x3)) (
  j1 ([(IntKind.u8.wrap (2 * a0.From)), (IntKind.u8.wrap (IntKind.i64.wrap ((IntKind.i64.wrap (4 * a0.Sequence)) + a0.FromUnit))), a0.Command]))
def message_Request (fuel : Nat) (a0 : Message_) : Option ((List Int) × Int) :=
  bindP (message_Valid fuel a0) fun y1 =>
  joinP (fun (s1 : Bool) =>
  iteP s1 (
  some ([], 1)) (
  bindP (message_encode fuel a0) fun y2 =>
  some (y2, 0))) fun j1 =>
  iteP (!y1) (
  j1 (true)) (
  bindP (message_request fuel a0) fun y3 =>
  j1 (!y3))
def slices_Clone_api_Message_api_Message (fuel : Nat) (a0 : List Message_) : Option ((List Message_)) :=
  bindP (app 64 ([]) a0) fun x1 =>
  some x1
def message_parse (fuel : Nat) (a0 : List Int) (a1 : Int) : Option (Message_ × Int) :=
  bindP (sub a0 0 3) fun x1 =>
  bindP (checksum_Sum8 fuel x1) fun y1 =>
  joinP (fun (s1 : Bool) =>
  iteP s1 (
  some (Message_.z, 5)) (
  bindP (idx a0 0) fun x2 =>
  bindP (idx a0 3) fun x3 =>
  bindP (idx a0 1) fun x4 =>
  bindP (idx a0 5) fun x5 =>
  bindP (idx a0 1) fun x6 =>
  bindP (idx a0 4) fun x7 =>
  bindP (idx a0 4) fun x8 =>
  bindP (sub a0 a1 (IntKind.i64.wrap ((a0.length : Int) - 1))) fun x9 =>
  bindP (slices_Clone_byte_byte fuel x9) fun y2 =>
  joinP (fun (s2 : Message_) =>
  bindP (idx a0 0) fun x10 =>
  joinP (fun (s3 : Bool) =>
  iteP s3 (
  some (Message_.z, 6)) (
  bindP (message_address fuel s2.To) fun y3 =>
  joinP (fun (s4 : Bool) =>
  iteP s4 (
  some (Message_.z, 13)) (
  letP (decide ((s2.Data.length : Int) > 240)) fun x11 =>
  iteP x11 (
  some (Message_.z, 3)) (
  some (s2, 0)))) fun j4 =>
  iteP (!y3) (
  j4 (true)) (
  bindP (message_address fuel s2.From) fun y4 =>
  letP (!y4) fun x12 =>
  j4 (x12)))) fun j3 =>
  iteP ((Int.tmod x10 2) != 0) (
  j3 (true)) (
  bindP (idx a0 3) fun x13 =>
  iteP ((Int.tmod x13 2) != 0) (
  j3 (true)) (
  bindP (message_request fuel s2) fun y5 =>
  letP (y5 != (a1 == 6)) fun x14 =>
  j3 (x14)))) fun j2 =>
  iteP (a1 == 7) (
  bindP (idx a0 (IntKind.i64.wrap (a1 - 1))) fun x15 =>
  letP ({ (⟨(IntKind.u8.wrap (Int.tdiv x2 2)), (IntKind.u8.wrap (Int.tdiv x3 2)), (IntKind.u8.wrap (Int.tdiv x4 4)), x5, (IntKind.i64.wrap (Int.tmod x6 4)), (IntKind.i64.wrap (Int.tmod x7 4)), (IntKind.i64.wrap (IntKind.u8.wrap (Int.tdiv x8 4))), 0, y2⟩ : Message_) with Code := x15 }) fun d1 =>
  j2 (d1)) (
  j2 ((⟨(IntKind.u8.wrap (Int.tdiv x2 2)), (IntKind.u8.wrap (Int.tdiv x3 2)), (IntKind.u8.wrap (Int.tdiv x4 4)), x5, (IntKind.i64.wrap (Int.tmod x6 4)), (IntKind.i64.wrap (Int.tmod x7 4)), (IntKind.i64.wrap (IntKind.u8.wrap (Int.tdiv x8 4))), 0, y2⟩ : Message_))))) fun j1 =>
  iteP (y1 != 0) (
  j1 (true)) (
  bindP (sub a0 3 a0.length) fun x16 =>
  bindP (checksum_Sum8 fuel x16) fun y6 =>
  j1 (y6 != 0))
def message_ParseResponse (fuel : Nat) (a0 : List Int) : Option (Message_ × Int) :=
  iteP (decide ((a0.length : Int) < 8)) (
  some (Message_.z, 4)) (
  bindP (message_parse fuel a0 7) fun y1 =>
  some (y1.1, y1.2))
def message_Reply (fuel : Nat) (a0 : Message_) (a1 : Int) (a2 : List Int) : Option (Message_ × Int) :=
  bindP (message_Valid fuel a0) fun y1 =>
  joinP (fun (s1 : Bool) =>
  iteP s1 (
  some (Message_.z, 1)) (
  bindP (slices_Clone_byte_byte fuel a2) fun y2 =>
  some ((⟨a0.From, a0.To, (IntKind.u8.wrap (a0.Function + 1)), a0.Command, a0.FromUnit, a0.ToUnit, a0.Sequence, a1, y2⟩ : Message_), 0))) fun j1 =>
  iteP (!y1) (
  j1 (true)) (
  bindP (message_request fuel a0) fun y3 =>
  iteP (!y3) (
  j1 (true)) (
  j1 (decide ((a2.length : Int) > 240))))
def message_Matches (fuel : Nat) (a0 : Message_) (a1 : Message_) : Option (Bool) :=
  bindP (message_Reply fuel a0 a1.Code a1.Data) fun y1 =>
  joinP (fun (s1 : Bool) =>
  iteP s1 (
  some false) (
  joinP (fun (s2 : Bool) =>
  iteP s2 (
  iteP (y1.1.ToUnit == a1.ToUnit) (
  iteP (y1.1.FromUnit == a1.FromUnit) (
  letP (y1.1.Sequence == a1.Sequence) fun x1 =>
  some x1) (
  some false)) (
  some false)) (
  some false)) fun j2 =>
  iteP (y1.1.To == a1.To) (
  iteP (y1.1.From == a1.From) (
  iteP (y1.1.Function == a1.Function) (
  letP (y1.1.Command == a1.Command) fun x2 =>
  j2 (x2)) (
  j2 (false))) (
  j2 (false))) (
  j2 (false)))) fun j1 =>
  iteP (y1.2 != 0) (
  j1 (true)) (
  bindP (message_Valid fuel a1) fun y2 =>
  j1 (!y2))
def message_Response (fuel : Nat) (a0 : Message_) : Option ((List Int) × Int) :=
  bindP (message_Valid fuel a0) fun y1 =>
  joinP (fun (s1 : Bool) =>
  iteP s1 (
  some ([], 1)) (
  bindP (message_encode fuel a0) fun y2 =>
  some (y2, 0))) fun j1 =>
  iteP (!y1) (
  j1 (true)) (
  bindP (message_request fuel a0) fun y3 =>
  j1 (y3))
def slices_Equal_byte_byte (fuel : Nat) (a0 : List Int) (a1 : List Int) : Option (Bool) :=
  iteP ((a0.length : Int) != (a1.length : Int)) (
  some false) (
  loopP (fun k1 (s1 : Int) =>
  iteP (decide (s1 < (a0.length : Int))) (
  bindP (idx a0 s1) fun x1 =>
  bindP (idx a1 s1) fun x2 =>
  iteP (x1 != x2) (
  some false) (
  k1 ((IntKind.i64.wrap (s1 + 1))))) (
  some true)) fuel (0))
def responder_request_is (fuel : Nat) (a0 : Message_) (a1 : Message_) : Option (Bool) :=
  iteP (a0.To == a1.To) (
  iteP (a0.From == a1.From) (
  iteP (a0.Function == a1.Function) (
  iteP (a0.Command == a1.Command) (
  iteP (a0.ToUnit == a1.ToUnit) (
  iteP (a0.FromUnit == a1.FromUnit) (
  iteP (a0.Sequence == a1.Sequence) (
  bindP (slices_Equal_byte_byte fuel a0.Data a1.Data) fun y1 =>
  some y1) (
  some false)) (
  some false)) (
  some false)) (
  some false)) (
  some false)) (
  some false)) (
  some false)
def slices_IndexFunc_api_Message_api_Message_responder_request_is (fuel : Nat) (a0 : List Message_) (a1_0 : Message_) : Option (Int) :=
  loopP (fun k1 (s1 : Int) =>
  iteP (decide (s1 < (a0.length : Int))) (
  bindP (idx a0 s1) fun x1 =>
  bindP (responder_request_is fuel a1_0 x1) fun y1 =>
  iteP y1 (
  some s1) (
  k1 ((IntKind.i64.wrap (s1 + 1))))) (
  some (-1))) fuel (0)
def slices_ContainsFunc_api_Message_api_Message_responder_request_is (fuel : Nat) (a0 : List Message_) (a1_0 : Message_) : Option (Bool) :=
  bindP (slices_IndexFunc_api_Message_api_Message_responder_request_is fuel a0 a1_0) fun y1 =>
  letP (decide (y1 ≥ 0)) fun x1 =>
  some x1
def responder_Valid (fuel : Nat) (a0 : Responder_) : Option (Bool) :=
  joinP (fun (s1 : Bool) =>
  iteP s1 (
  some false) (
  bindP (slices_Clone_api_Message_api_Message fuel a0.Queue) fun y1 =>
  loopP (fun k1 (s2 : (Int × (List Message_))) =>
  iteP (decide (s2.1 < (a0.Memory.length : Int))) (
  bindP (idx a0.Memory s2.1) fun x1 =>
  bindP (message_ParseResponse fuel x1.Reply) fun y2 =>
  joinP (fun (s3 : Bool) =>
  iteP s3 (
  some false) (
  bindP (message_Response fuel y2.1) fun y3 =>
  joinP (fun (s4 : Bool) =>
  iteP s4 (
  some false) (
  bindP (app 64 s2.2 ([x1.Request])) fun x2 =>
  k1 ((IntKind.i64.wrap (s2.1 + 1)), x2))) fun j3 =>
  iteP (y3.2 != 0) (
  j3 (true)) (
  bindP (slices_Equal_byte_byte fuel y3.1 x1.Reply) fun y4 =>
  j3 (!y4)))) fun j2 =>
  iteP (y2.2 != 0) (
  j2 (true)) (
  iteP (decide (x1.Until < 0)) (
  j2 (true)) (
  bindP (message_Matches fuel x1.Request y2.1) fun y5 =>
  j2 (!y5)))) (
  loopP (fun k2 (s5 : ((List Message_) × (List Message_) × Int)) =>
  iteP (decide (s5.2.2 < (s2.2.length : Int))) (
  bindP (idx s5.2.1 s5.2.2) fun x3 =>
  bindP (message_Request fuel x3) fun y6 =>
  joinP (fun (s6 : Bool) =>
  iteP s6 (
  some false) (
  k2 (s5.1, s5.2.1, (IntKind.i64.wrap (s5.2.2 + 1))))) fun j4 =>
  letP (y6.2 != 0) fun x4 =>
  iteP x4 (
  j4 (true)) (
  letP (x3.To != a0.Own) fun x5 =>
  iteP x5 (
  j4 (true)) (
  bindP (sub s5.1 0 s5.2.2) fun x6 =>
  bindP (slices_ContainsFunc_api_Message_api_Message_responder_request_is fuel x6 x3) fun y7 =>
  j4 (y7)))) (
  some true)) fuel (s2.2, s2.2, 0))) fuel (0, y1))) fun j1 =>
  iteP (decide (a0.Own < 8)) (
  j1 (true)) (
  iteP (decide (a0.Own > 119)) (
  j1 (true)) (
  iteP (decide ((a0.Queue.length : Int) > 8)) (
  j1 (true)) (
  j1 (decide ((IntKind.i64.wrap ((a0.Queue.length : Int) + (a0.Memory.length : Int))) > 16)))))
def message_ParseRequest (fuel : Nat) (a0 : List Int) : Option (Message_ × Int) :=
  iteP (decide ((a0.length : Int) < 7)) (
  some (Message_.z, 4)) (
  bindP (message_parse fuel a0 6) fun y1 =>
  some (y1.1, y1.2))
def responder_copied (fuel : Nat) (a0 : Message_) : Option (Message_) :=
  bindP (slices_Clone_byte_byte fuel a0.Data) fun y1 =>
  some ({ a0 with Data := y1 })
def slices_Clone_api_Memory_api_Memory (fuel : Nat) (a0 : List Memory_) : Option ((List Memory_)) :=
  bindP (app 96 ([]) a0) fun x1 =>
  some x1
def responder_fresh (fuel : Nat) (a0 : Responder_) (a1 : Int) : Option (Responder_) :=
  bindP (mk 64 Message_.z 0) fun x1 =>
  bindP (chk (decide (0 ≤ (IntKind.i64.wrap ((a0.Queue.length : Int) + 1))))) fun _ =>
  bindP (chk (decide (((IntKind.i64.wrap ((a0.Queue.length : Int) + 1))).toNat * 64 ≤ 140737488355328))) fun _ =>
  loopP (fun k1 (s1 : (Int × (List Message_))) =>
  iteP (decide (s1.1 < (a0.Queue.length : Int))) (
  bindP (idx a0.Queue s1.1) fun x2 =>
  bindP (responder_copied fuel x2) fun y1 =>
  bindP (app 64 s1.2 ([y1])) fun x3 =>
  k1 ((IntKind.i64.wrap (s1.1 + 1)), x3)) (
  bindP (slices_Clone_api_Memory_api_Memory fuel a0.Memory) fun y2 =>
  loopP (fun k2 (s2 : (Nat × Int × (List Memory_))) =>
  iteP (decide (s2.2.1 < (y2.length : Int))) (
  bindP (idx s2.2.2 s2.2.1) fun x4 =>
  iteP (decide (x4.Until > a1)) (
  bindP (responder_copied fuel x4.Request) fun y3 =>
  bindP (slices_Clone_byte_byte fuel x4.Reply) fun y4 =>
  letP ({ x4 with Request := y3 }) fun d1 =>
  letP ({ d1 with Reply := y4 }) fun d2 =>
  bindP (chk (decide (s2.1 + ([d2]).length ≤ s2.2.2.length))) fun _ =>
  letP (lay s2.2.2 s2.1 ([d2])) fun d3 =>
  k2 ((s2.1 + ([d2]).length), (IntKind.i64.wrap (s2.2.1 + 1)), d3)) (
  k2 (s2.1, (IntKind.i64.wrap (s2.2.1 + 1)), s2.2.2))) (
  bindP (chk (decide (s2.1 ≤ s2.2.2.length))) fun _ =>
  some ({ { a0 with Queue := s1.2 } with Memory := (s2.2.2.take s2.1) }))) fuel (0, 0, y2))) fuel (0, x1)
def responder_answer (fuel : Nat) (a0 : Message_) (a1 : Int) (a2 : List Int) : Option ((List Int) × Int) :=
  bindP (message_Reply fuel a0 a1 a2) fun y1 =>
  iteP (y1.2 != 0) (
  some ([], y1.2)) (
  bindP (message_Response fuel y1.1) fun y2 =>
  some (y2.1, y2.2))
def responder_Accept_1_2 (fuel : Nat) (a0 : Memory_) (a1_0 : Message_) : Option (Bool) :=
  bindP (responder_request_is fuel a1_0 a0.Request) fun y1 =>
  some y1
def slices_IndexFunc_api_Memory_api_Memory_responder_Accept_1 (fuel : Nat) (a0 : List Memory_) (a1_0_0 : Message_) : Option (Int) :=
  loopP (fun k1 (s1 : Int) =>
  iteP (decide (s1 < (a0.length : Int))) (
  bindP (idx a0 s1) fun x1 =>
  bindP (responder_Accept_1_2 fuel x1 a1_0_0) fun y1 =>
  iteP y1 (
  some s1) (
  k1 ((IntKind.i64.wrap (s1 + 1))))) (
  some (-1))) fuel (0)
def responder_Accept (fuel : Nat) (a0 : Responder_) (a1 : List Int) (a2 : Int) : Option (Responder_ × (List Int) × Int) :=
  bindP (responder_Valid fuel a0) fun y1 =>
  iteP (!y1) (
  some (Responder_.z, [], 1)) (
  joinP (fun (s1 : Bool) =>
  iteP s1 (
  some (Responder_.z, [], 2)) (
  bindP (message_ParseRequest fuel a1) fun y2 =>
  iteP (y2.2 != 0) (
  some (Responder_.z, [], y2.2)) (
  iteP (y2.1.To != a0.Own) (
  some (Responder_.z, [], 13)) (
  bindP (responder_fresh fuel a0 a2) fun y3 =>
  bindP (slices_IndexFunc_api_Memory_api_Memory_responder_Accept_1 fuel y3.Memory y2.1) fun y4 =>
  iteP (decide (y4 ≥ 0)) (
  bindP (idx (({ { y3 with Queue := y3.Queue } with Memory := y3.Memory }).Memory) y4) fun x1 =>
  bindP (slices_Clone_byte_byte fuel x1.Reply) fun y5 =>
  letP ({ { y3 with Queue := y3.Queue } with Memory := y3.Memory }) fun d1 =>
  some (d1, y5, 0)) (
  bindP (slices_ContainsFunc_api_Message_api_Message_responder_request_is fuel y3.Queue y2.1) fun y6 =>
  iteP y6 (
  some ({ { y3 with Queue := y3.Queue } with Memory := y3.Memory }, [], 0)) (
  joinP (fun (s2 : Bool) =>
  iteP s2 (
  bindP (responder_answer fuel y2.1 192 ([])) fun y7 =>
  iteP (y7.2 != 0) (
  some (Responder_.z, [], y7.2)) (
  some ({ { y3 with Queue := y3.Queue } with Memory := y3.Memory }, y7.1, 0))) (
  bindP (responder_copied fuel y2.1) fun y8 =>
  bindP (app 64 y3.Queue ([y8])) fun x2 =>
  letP ({ y3 with Memory := y3.Memory }) fun d2 =>
  some ({ d2 with Queue := x2 }, [], 0))) fun j2 =>
  iteP ((y3.Queue.length : Int) == 8) (
  j2 (true)) (
  j2 ((IntKind.i64.wrap ((y3.Queue.length : Int) + (y3.Memory.length : Int))) == 16)))))))) fun j1 =>
  iteP (decide (a2 < 0)) (
  j1 (true)) (
  j1 (decide (a2 > 17179869184))))
def responder_Done (fuel : Nat) (a0 : Responder_) (a1 : Int) (a2 : List Int) (a3 : Int) : Option (Responder_ × (List Int) × Int) :=
  bindP (responder_Valid fuel a0) fun y1 =>
  letP (!y1) fun x1 =>
  iteP x1 (
  some (Responder_.z, [], 1)) (
  joinP (fun (s1 : Bool) =>
  iteP s1 (
  some (Responder_.z, [], 2)) (
  letP ((a0.Queue.length : Int) == 0) fun x2 =>
  iteP x2 (
  some (Responder_.z, [], 46)) (
  bindP (idx a0.Queue 0) fun x3 =>
  bindP (responder_answer fuel x3 a1 a2) fun y2 =>
  iteP (y2.2 != 0) (
  some (Responder_.z, [], y2.2)) (
  bindP (responder_fresh fuel a0 a3) fun y3 =>
  bindP (idx (({ y3 with Queue := y3.Queue }).Queue) 0) fun x4 =>
  bindP (slices_Clone_byte_byte fuel y2.1) fun y4 =>
  bindP (app 96 y3.Memory ([(⟨x4, y4, (IntKind.i64.wrap (a3 + 100))⟩ : Memory_)])) fun x5 =>
  bindP (sub (({ y3 with Queue := y3.Queue }).Queue) 1 ((({ y3 with Queue := y3.Queue }).Queue).length)) fun x6 =>
  letP ({ { y3 with Queue := y3.Queue } with Queue := x6 }) fun d1 =>
  some ({ d1 with Memory := x5 }, y2.1, 0))))) fun j1 =>
  iteP (decide (a3 < 0)) (
  j1 (true)) (
  letP (decide (a3 > 17179869184)) fun x7 =>
  j1 (x7)))
def law25_awake (fuel : Nat)  : Option (Bool) :=
  bindP (responder_New fuel 32) fun y1 =>
  bindP (message_Request fuel (⟨32, 64, 6, 1, 0, 0, 0, 0, []⟩ : Message_)) fun y2 =>
  bindP (responder_Accept fuel y1.1 y2.1 0) fun y3 =>
  bindP (responder_Accept fuel y3.1 y2.1 1) fun y4 =>
  bindP (responder_Done fuel y4.1 0 ([7]) 2) fun y5 =>
  bindP (responder_Accept fuel y5.1 y2.1 50) fun y6 =>
  iteP (y1.2 == 0) (
  iteP (y2.2 == 0) (
  iteP (y3.2.2 == 0) (
  iteP (y4.2.2 == 0) (
  iteP (y5.2.2 == 0) (
  iteP (y6.2.2 == 0) (
  iteP ((y3.2.1.length : Int) == 0) (
  iteP ((y4.2.1.length : Int) == 0) (
  iteP (decide ((y5.2.1.length : Int) > 0)) (
  letP ((toStr y5.2.1) == (toStr y6.2.1)) fun x1 =>
  some x1) (
  some false)) (
  some false)) (
  some false)) (
  some false)) (
  some false)) (
  some false)) (
  some false)) (
  some false)) (
  some false)
def field_New (fuel : Nat) (a0 : List Int) (a1 : Int) : Option (field_Codes) :=
  bindP (sub a0 0 (min (a0.length : Int) a1)) fun x1 =>
  some (⟨x1, 0⟩ : field_Codes)
def field_Codes_Left (fuel : Nat) (a0 : field_Codes) : Option (Bool) :=
  letP (decide (a0.At < (a0.L.length : Int))) fun x1 =>
  some x1
def field_Codes_Next (fuel : Nat) (a0 : field_Codes) (a1 : Int) : Option (Int × field_Codes) :=
  bindP (field_Codes_Left fuel a0) fun y1 =>
  joinP (fun (s1 : Bool) =>
  iteP s1 (
  some (0, a0)) (
  bindP (idx a0.L a0.At) fun x1 =>
  letP ({ a0 with At := (IntKind.i64.wrap (a0.At + 1)) }) fun d1 =>
  joinP (fun (s2 : Bool) =>
  iteP s2 (
  bindP (idx d1.L d1.At) fun x2 =>
  letP (bOr .i64 (IntKind.i64.wrap x1) (bShl .i64 (IntKind.i64.wrap x2) 8)) fun x3 =>
  letP ({ d1 with At := (IntKind.i64.wrap (d1.At + 1)) }) fun d2 =>
  bindP (chk (decide (a1 ≠ 0))) fun _ =>
  some ((Int.tmod x3 a1), d2)) (
  bindP (chk (decide (a1 ≠ 0))) fun _ =>
  letP (Int.tmod (IntKind.i64.wrap x1) a1) fun x4 =>
  some (x4, d1))) fun j2 =>
  iteP (decide (a1 > 256)) (
  bindP (field_Codes_Left fuel d1) fun y2 =>
  j2 (y2)) (
  j2 (false)))) fun j1 =>
  iteP (!y1) (
  j1 (true)) (
  j1 (decide (a1 < 1)))
def responder_Next (fuel : Nat) (a0 : Responder_) : Option (Message_ × Bool) :=
  bindP (responder_Valid fuel a0) fun y1 =>
  joinP (fun (s1 : Bool) =>
  iteP s1 (
  some (Message_.z, false)) (
  bindP (idx a0.Queue 0) fun x1 =>
  bindP (responder_copied fuel x1) fun y2 =>
  some (y2, true))) fun j1 =>
  iteP (!y1) (
  j1 (true)) (
  j1 ((a0.Queue.length : Int) == 0))
def law25_ResponderOnce (fuel : Nat) (a0 : List Int) : Option (Bool) :=
  bindP (law25_awake fuel) fun y1 =>
  iteP (!y1) (
  some false) (
  bindP (field_New fuel a0 200) fun y2 =>
  bindP (responder_New fuel 32) fun y3 =>
  iteP (y3.2 != 0) (
  some false) (
  loopP (fun k1 (s1 : (Int × field_Codes × Responder_ × (List (List Int × Int)) × (List (List Int × (List Int))))) =>
  iteP (decide (s1.1 < 99)) (
  bindP (field_Codes_Left fuel s1.2.1) fun y4 =>
  iteP (!y4) (
  some true) (
  bindP (field_Codes_Next fuel s1.2.1 2) fun y5 =>
  bindP (idx ([64, 66]) y5.1) fun x1 =>
  bindP (field_Codes_Next fuel y5.2 3) fun y6 =>
  bindP (field_Codes_Next fuel y6.2 4) fun y7 =>
  bindP (message_Request fuel (⟨32, x1, 6, 1, 0, 0, y6.1, 0, [(IntKind.u8.wrap y7.1)]⟩ : Message_)) fun y8 =>
  bindP (responder_Accept fuel s1.2.2.1 y8.1 s1.1) fun y9 =>
  joinP (fun (s2 : Bool) =>
  iteP s2 (
  some false) (
  joinP (fun (s3 : Unit) =>
  bindP (field_Codes_Next fuel y7.2 2) fun y10 =>
  iteP (y10.1 == 0) (
  bindP (responder_Next fuel y9.1) fun y11 =>
  iteP (!y11.2) (
  letP (IntKind.i64.wrap (s1.1 + 1)) fun x2 =>
  k1 (x2, y10.2, y9.1, s1.2.2.2.1, s1.2.2.2.2)) (
  bindP (message_Request fuel y11.1) fun y12 =>
  bindP (responder_Done fuel y9.1 0 ([(IntKind.u8.wrap s1.1)]) s1.1) fun y13 =>
  letP (mput s1.2.2.2.1 (toStr y12.1) (IntKind.i64.wrap ((mget 0 s1.2.2.2.1 (toStr y12.1)) + 1))) fun d1 =>
  letP (mput s1.2.2.2.2 (toStr y12.1) (toStr y13.2.1)) fun d2 =>
  joinP (fun (s4 : Bool) =>
  iteP s4 (
  some false) (
  letP (IntKind.i64.wrap (s1.1 + 1)) fun x3 =>
  k1 (x3, y10.2, y13.1, d1, d2))) fun j3 =>
  iteP (y13.2.2 != 0) (
  j3 (true)) (
  j3 (decide ((mget 0 d1 (toStr y12.1)) > 1))))) (
  letP (IntKind.i64.wrap (s1.1 + 1)) fun x4 =>
  k1 (x4, y10.2, y9.1, s1.2.2.2.1, s1.2.2.2.2))) fun j2 =>
  iteP (decide ((y9.2.1.length : Int) > 0)) (
  bindP (message_ParseResponse fuel y9.2.1) fun y14 =>
  iteP (y14.2 != 0) (
  some false) (
  iteP (y14.1.Code != 192) (
  iteP ((mget [] s1.2.2.2.2 (toStr y8.1)) != (toStr y9.2.1)) (
  some false) (
  j2 ())) (
  iteP (decide ((mget 0 s1.2.2.2.1 (toStr y8.1)) > 0)) (
  some false) (
  j2 ())))) (
  j2 ()))) fun j1 =>
  iteP (y8.2 != 0) (
  j1 (true)) (
  j1 (y9.2.2 != 0)))) (
  some true)) fuel (0, y2, y3.1, [], [])))
def ref24_SameMessage (fuel : Nat) (a0 : Message_) (a1 : Message_) : Option (Bool) :=
  iteP (a0.To == a1.To) (
  iteP (a0.From == a1.From) (
  iteP (a0.Function == a1.Function) (
  iteP (a0.Command == a1.Command) (
  iteP (a0.ToUnit == a1.ToUnit) (
  iteP (a0.FromUnit == a1.FromUnit) (
  iteP (a0.Sequence == a1.Sequence) (
  iteP (a0.Code == a1.Code) (
  letP ((toStr a0.Data) == (toStr a1.Data)) fun x1 =>
  some x1) (
  some false)) (
  some false)) (
  some false)) (
  some false)) (
  some false)) (
  some false)) (
  some false)) (
  some false)
def law25_ResponderForgets (fuel : Nat) (a0 : Int) (a1 : Int) (a2 : Int) (a3 : List Int) : Option (Bool) :=
  bindP (law25_awake fuel) fun y1 =>
  iteP (!y1) (
  some false) (
  iteP (decide ((a3.length : Int) > 100)) (
  some true) (
  bindP (message_Request fuel (⟨32, 64, 6, 1, 0, 0, 0, 0, a3⟩ : Message_)) fun y2 =>
  bindP (responder_New fuel 32) fun y3 =>
  bindP (responder_Accept fuel y3.1 y2.1 (IntKind.i64.wrap a0)) fun y4 =>
  bindP (responder_Done fuel y4.1 a2 a3 (IntKind.i64.wrap a0)) fun y5 =>
  joinP (fun (s1 : Bool) =>
  iteP s1 (
  some false) (
  bindP (responder_Accept fuel y5.1 y2.1 (IntKind.i64.wrap ((IntKind.i64.wrap a0) + (IntKind.i64.wrap a1)))) fun y6 =>
  bindP (responder_Next fuel y6.1) fun y7 =>
  iteP (y6.2.2 != 0) (
  some false) (
  iteP (decide (a1 < 100)) (
  joinP (fun (s2 : Bool) =>
  some s2) fun j2 =>
  iteP ((toStr y6.2.1) == (toStr y5.2.1)) (
  letP (!y7.2) fun x1 =>
  j2 (x1)) (
  j2 (false))) (
  bindP (message_ParseRequest fuel y2.1) fun y8 =>
  iteP ((y6.2.1.length : Int) == 0) (
  iteP y7.2 (
  bindP (ref24_SameMessage fuel y7.1 y8.1) fun y9 =>
  some y9) (
  some false)) (
  some false))))) fun j1 =>
  iteP (y2.2 != 0) (
  j1 (true)) (
  iteP (y3.2 != 0) (
  j1 (true)) (
  iteP (y4.2.2 != 0) (
  j1 (true)) (
  j1 (y5.2.2 != 0))))))
def law25_ResponderRefuses (fuel : Nat) (a0 : Int) (a1 : List Int) : Option (Bool) :=
  bindP (law25_awake fuel) fun y1 =>
  iteP (!y1) (
  some false) (
  iteP (decide ((a1.length : Int) > 50)) (
  some true) (
  bindP (responder_New fuel 32) fun y2 =>
  iteP (y2.2 != 0) (
  some false) (
  loopP (fun k1 (s1 : (Int × Responder_ × (List (List Int)))) =>
  iteP (decide (s1.1 < 16)) (
  bindP (message_Request fuel (⟨32, 64, 6, 1, 0, 0, s1.1, 0, []⟩ : Message_)) fun y3 =>
  bindP (responder_Accept fuel s1.2.1 y3.1 s1.1) fun y4 =>
  bindP (responder_Done fuel y4.1 0 ([]) s1.1) fun y5 =>
  joinP (fun (s2 : Bool) =>
  iteP s2 (
  some false) (
  bindP (app 24 s1.2.2 ([y3.1])) fun x1 =>
  letP (IntKind.i64.wrap (s1.1 + 1)) fun x2 =>
  k1 (x2, y5.1, x1))) fun j1 =>
  iteP (y3.2 != 0) (
  j1 (true)) (
  iteP (y4.2.2 != 0) (
  j1 (true)) (
  iteP (y5.2.2 != 0) (
  j1 (true)) (
  j1 ((y4.2.1.length : Int) != 0))))) (
  bindP (message_Request fuel (⟨32, 66, 6, 2, 0, 0, 0, 0, a1⟩ : Message_)) fun y6 =>
  bindP (responder_Accept fuel s1.2.1 y6.1 16) fun y7 =>
  bindP (message_ParseResponse fuel y7.2.1) fun y8 =>
  bindP (chk (decide ((s1.2.2.length : Int) ≠ 0))) fun _ =>
  bindP (idx s1.2.2 (Int.tmod (IntKind.i64.wrap a0) (s1.2.2.length : Int))) fun x3 =>
  bindP (responder_Accept fuel y7.1 x3 16) fun y9 =>
  bindP (responder_Accept fuel y7.1 y6.1 100) fun y10 =>
  bindP (responder_Next fuel y10.1) fun y11 =>
  iteP (y6.2 == 0) (
  iteP (y7.2.2 == 0) (
  iteP (y8.2 == 0) (
  iteP (y9.2.2 == 0) (
  iteP (y10.2.2 == 0) (
  iteP (y8.1.Code == 192) (
  iteP (decide ((y9.2.1.length : Int) > 0)) (
  iteP ((y10.2.1.length : Int) == 0) (
  iteP y11.2 (
  bindP (responder_Valid fuel y7.1) fun y12 =>
  some y12) (
  some false)) (
  some false)) (
  some false)) (
  some false)) (
  some false)) (
  some false)) (
  some false)) (
  some false)) (
  some false))) fuel (0, y2.1, []))))
def ref25_New (fuel : Nat) (a0 : Int) : Option (Responder_ × Int) :=
  joinP (fun (s1 : Bool) =>
  iteP s1 (
  some (Responder_.z, 13)) (
  some ((⟨a0, [], []⟩ : Responder_), 0))) fun j1 =>
  iteP (decide (a0 < 8)) (
  j1 (true)) (
  j1 (decide (a0 > 119)))
def field_Codes_Bytes (fuel : Nat) (a0 : field_Codes) (a1 : Int) : Option ((List Int) × field_Codes) :=
  bindP (field_Codes_Next fuel a0 (IntKind.i64.wrap (a1 + 1))) fun y1 =>
  loopP (fun k1 (s1 : (Int × field_Codes × (List Int))) =>
  iteP (decide (s1.1 > 0)) (
  bindP (field_Codes_Next fuel s1.2.1 256) fun y2 =>
  bindP (app 1 s1.2.2 ([(IntKind.u8.wrap y2.1)])) fun x1 =>
  letP (IntKind.i64.wrap (s1.1 - 1)) fun x2 =>
  k1 (x2, y2.2, x1)) (
  some (s1.2.2, s1.2.1))) fuel (y1.1, y1.2, [])
def field_Codes_Request (fuel : Nat) (a0 : field_Codes) (a1 : Int) : Option (Message_ × field_Codes) :=
  bindP (field_Codes_Next fuel a0 3) fun y1 =>
  bindP (idx ([64, 66, 8]) y1.1) fun x1 =>
  bindP (field_Codes_Next fuel y1.2 5) fun y2 =>
  bindP (idx ([0, 4, 6, 8, 10]) y2.1) fun x2 =>
  bindP (field_Codes_Next fuel y2.2 4) fun y3 =>
  bindP (idx ([1, 2, 45, 64]) y3.1) fun x3 =>
  bindP (field_Codes_Next fuel y3.2 5) fun y4 =>
  bindP (field_Codes_Next fuel y4.2 6) fun y5 =>
  bindP (field_Codes_Next fuel y5.2 4) fun y6 =>
  bindP (field_Codes_Bytes fuel y6.2 3) fun y7 =>
  bindP (field_Codes_Next fuel y7.2 20) fun y8 =>
  letP (y8.1 == 19) fun x4 =>
  iteP x4 (
  letP ({ (⟨a1, x1, x2, x3, (IntKind.i64.wrap (Int.tdiv y4.1 4)), (IntKind.i64.wrap (Int.tdiv y5.1 5)), y6.1, 0, y7.1⟩ : Message_) with Function := 7 }) fun d1 =>
  some (d1, y8.2)) (
  letP (y8.1 == 18) fun x5 =>
  iteP x5 (
  letP ({ (⟨a1, x1, x2, x3, (IntKind.i64.wrap (Int.tdiv y4.1 4)), (IntKind.i64.wrap (Int.tdiv y5.1 5)), y6.1, 0, y7.1⟩ : Message_) with Sequence := 64 }) fun d2 =>
  some (d2, y8.2)) (
  letP (y8.1 == 17) fun x6 =>
  iteP x6 (
  letP ({ (⟨a1, x1, x2, x3, (IntKind.i64.wrap (Int.tdiv y4.1 4)), (IntKind.i64.wrap (Int.tdiv y5.1 5)), y6.1, 0, y7.1⟩ : Message_) with From := 1 }) fun d3 =>
  some (d3, y8.2)) (
  some ((⟨a1, x1, x2, x3, (IntKind.i64.wrap (Int.tdiv y4.1 4)), (IntKind.i64.wrap (Int.tdiv y5.1 5)), y6.1, 0, y7.1⟩ : Message_), y8.2))))
def ref20_Address (fuel : Nat) (a0 : Int) : Option (Bool) :=
  iteP (decide (a0 ≥ 8)) (
  letP (decide (a0 ≤ 119)) fun x1 =>
  some x1) (
  some false)
def ref23_Valid (fuel : Nat) (a0 : Message_) : Option (Bool) :=
  bindP (ref20_Address fuel a0.To) fun y1 =>
  iteP y1 (
  bindP (ref20_Address fuel a0.From) fun y2 =>
  iteP y2 (
  iteP (decide (a0.Function ≤ 63)) (
  iteP (decide (a0.ToUnit ≥ 0)) (
  iteP (decide (a0.ToUnit ≤ 3)) (
  iteP (decide (a0.FromUnit ≥ 0)) (
  iteP (decide (a0.FromUnit ≤ 3)) (
  iteP (decide (a0.Sequence ≥ 0)) (
  iteP (decide (a0.Sequence ≤ 63)) (
  iteP (decide ((a0.Data.length : Int) ≤ 240)) (
  iteP ((Int.tmod a0.Function 2) == 1) (
  some true) (
  letP (a0.Code == 0) fun x1 =>
  some x1)) (
  some false)) (
  some false)) (
  some false)) (
  some false)) (
  some false)) (
  some false)) (
  some false)) (
  some false)) (
  some false)) (
  some false)
def ref01_Copy (fuel : Nat) (a0 : List Int) : Option ((List Int)) :=
  loopP (fun k1 (s1 : (Int × (List Int))) =>
  iteP (decide (s1.1 < (a0.length : Int))) (
  bindP (idx a0 s1.1) fun x1 =>
  bindP (app 1 s1.2 ([x1])) fun x2 =>
  letP (IntKind.i64.wrap (s1.1 + 1)) fun x3 =>
  k1 (x3, x2)) (
  some s1.2)) fuel (0, [])
def ref01_Sum8 (fuel : Nat) (a0 : List Int) : Option (Int) :=
  loopP (fun k1 (s1 : (Int × Int)) =>
  iteP (decide (s1.2 < (a0.length : Int))) (
  bindP (idx a0 s1.2) fun x1 =>
  letP (Int.tmod (IntKind.i64.wrap (s1.1 + (IntKind.i64.wrap x1))) 256) fun x2 =>
  letP (IntKind.i64.wrap (s1.2 + 1)) fun x3 =>
  k1 (x2, x3)) (
  letP (IntKind.u8.wrap (Int.tmod (IntKind.i64.wrap (256 - s1.1)) 256)) fun x4 =>
  some x4)) fuel (0, 0)
def ref01_Seal8 (fuel : Nat) (a0 : List Int) : Option ((List Int)) :=
  bindP (ref01_Copy fuel a0) fun y1 =>
  bindP (ref01_Sum8 fuel a0) fun y2 =>
  bindP (app 1 y1 ([y2])) fun x1 =>
  some x1
def ref23_encode (fuel : Nat) (a0 : Message_) : Option ((List Int)) :=
  bindP (ref01_Seal8 fuel ([(IntKind.u8.wrap (2 * a0.To)), (IntKind.u8.wrap ((IntKind.u8.wrap (4 * a0.Function)) + (IntKind.u8.wrap a0.ToUnit)))])) fun y1 =>
  joinP (fun (s1 : ((List Int))) =>
  bindP (app 1 s1 a0.Data) fun x1 =>
  bindP (ref01_Seal8 fuel x1) fun y2 =>
  bindP (app 1 y1 y2) fun x2 =>
  some x2) fun j1 =>
  iteP ((Int.tmod a0.Function 2) == 1) (
  bindP (app 1 ([(IntKind.u8.wrap (2 * a0.From)), (IntKind.u8.wrap (IntKind.i64.wrap ((IntKind.i64.wrap (4 * a0.Sequence)) + a0.FromUnit))), a0.Command]) ([a0.Code])) fun x3 =>
  j1 (x3)) (
  j1 ([(IntKind.u8.wrap (2 * a0.From)), (IntKind.u8.wrap (IntKind.i64.wrap ((IntKind.i64.wrap (4 * a0.Sequence)) + a0.FromUnit))), a0.Command]))
def ref23_Request (fuel : Nat) (a0 : Message_) : Option ((List Int) × Int) :=
  bindP (ref23_Valid fuel a0) fun y1 =>
  joinP (fun (s1 : Bool) =>
  iteP s1 (
  some ([], 1)) (
  bindP (ref23_encode fuel a0) fun y2 =>
  some (y2, 0))) fun j1 =>
  iteP (!y1) (
  j1 (true)) (
  j1 ((Int.tmod a0.Function 2) != 0))
def ref25_requests (fuel : Nat) (a0 : Responder_) : Option ((List Message_)) :=
  bindP (app 64 ([]) a0.Queue) fun x1 =>
  loopP (fun k1 (s1 : (Int × (List Message_))) =>
  iteP (decide (s1.1 < (a0.Memory.length : Int))) (
  bindP (idx a0.Memory s1.1) fun x2 =>
  bindP (app 64 s1.2 ([x2.Request])) fun x3 =>
  letP (IntKind.i64.wrap (s1.1 + 1)) fun x4 =>
  k1 (x4, x3)) (
  some s1.2)) fuel (0, x1)
def ref25_Same (fuel : Nat) (a0 : Message_) (a1 : Message_) : Option (Bool) :=
  iteP (a0.To == a1.To) (
  iteP (a0.From == a1.From) (
  iteP (a0.Function == a1.Function) (
  iteP (a0.Command == a1.Command) (
  iteP (a0.ToUnit == a1.ToUnit) (
  iteP (a0.FromUnit == a1.FromUnit) (
  iteP (a0.Sequence == a1.Sequence) (
  letP ((toStr a0.Data) == (toStr a1.Data)) fun x1 =>
  some x1) (
  some false)) (
  some false)) (
  some false)) (
  some false)) (
  some false)) (
  some false)) (
  some false)
def ref23_parse (fuel : Nat) (a0 : List Int) (a1 : Int) : Option (Message_ × Int) :=
  iteP (decide ((a0.length : Int) < (IntKind.i64.wrap (7 + a1)))) (
  some (Message_.z, 4)) (
  bindP (sub a0 0 3) fun x1 =>
  bindP (ref01_Sum8 fuel x1) fun y1 =>
  joinP (fun (s1 : Bool) =>
  iteP s1 (
  some (Message_.z, 5)) (
  bindP (idx a0 0) fun x2 =>
  bindP (idx a0 3) fun x3 =>
  bindP (idx a0 1) fun x4 =>
  bindP (idx a0 5) fun x5 =>
  bindP (idx a0 1) fun x6 =>
  bindP (idx a0 4) fun x7 =>
  bindP (idx a0 4) fun x8 =>
  bindP (idx a0 0) fun x9 =>
  joinP (fun (s2 : Bool) =>
  iteP s2 (
  some (Message_.z, 6)) (
  bindP (ref20_Address fuel ((⟨(IntKind.u8.wrap (Int.tdiv x2 2)), (IntKind.u8.wrap (Int.tdiv x3 2)), (IntKind.u8.wrap (Int.tdiv x4 4)), x5, (Int.tmod (IntKind.i64.wrap x6) 4), (Int.tmod (IntKind.i64.wrap x7) 4), (IntKind.i64.wrap (Int.tdiv (IntKind.i64.wrap x8) 4)), 0, []⟩ : Message_).To)) fun y2 =>
  joinP (fun (s3 : Bool) =>
  iteP s3 (
  some (Message_.z, 13)) (
  joinP (fun (s4 : Message_) =>
  bindP (sub a0 (IntKind.i64.wrap (6 + a1)) (IntKind.i64.wrap ((a0.length : Int) - 1))) fun x10 =>
  bindP (ref01_Copy fuel x10) fun y3 =>
  iteP (decide ((y3.length : Int) > 240)) (
  some (Message_.z, 3)) (
  some ({ s4 with Data := y3 }, 0))) fun j4 =>
  iteP (a1 == 1) (
  bindP (idx a0 6) fun x11 =>
  letP ({ (⟨(IntKind.u8.wrap (Int.tdiv x2 2)), (IntKind.u8.wrap (Int.tdiv x3 2)), (IntKind.u8.wrap (Int.tdiv x4 4)), x5, (Int.tmod (IntKind.i64.wrap x6) 4), (Int.tmod (IntKind.i64.wrap x7) 4), (IntKind.i64.wrap (Int.tdiv (IntKind.i64.wrap x8) 4)), 0, []⟩ : Message_) with Code := x11 }) fun d1 =>
  j4 (d1)) (
  j4 ((⟨(IntKind.u8.wrap (Int.tdiv x2 2)), (IntKind.u8.wrap (Int.tdiv x3 2)), (IntKind.u8.wrap (Int.tdiv x4 4)), x5, (Int.tmod (IntKind.i64.wrap x6) 4), (Int.tmod (IntKind.i64.wrap x7) 4), (IntKind.i64.wrap (Int.tdiv (IntKind.i64.wrap x8) 4)), 0, []⟩ : Message_))))) fun j3 =>
  iteP (!y2) (
  j3 (true)) (
  bindP (ref20_Address fuel ((⟨(IntKind.u8.wrap (Int.tdiv x2 2)), (IntKind.u8.wrap (Int.tdiv x3 2)), (IntKind.u8.wrap (Int.tdiv x4 4)), x5, (Int.tmod (IntKind.i64.wrap x6) 4), (Int.tmod (IntKind.i64.wrap x7) 4), (IntKind.i64.wrap (Int.tdiv (IntKind.i64.wrap x8) 4)), 0, []⟩ : Message_).From)) fun y4 =>
  j3 (!y4)))) fun j2 =>
  iteP ((Int.tmod x9 2) != 0) (
  j2 (true)) (
  bindP (idx a0 3) fun x12 =>
  iteP ((Int.tmod x12 2) != 0) (
  j2 (true)) (
  j2 ((Int.tmod (IntKind.i64.wrap ((⟨(IntKind.u8.wrap (Int.tdiv x2 2)), (IntKind.u8.wrap (Int.tdiv x3 2)), (IntKind.u8.wrap (Int.tdiv x4 4)), x5, (Int.tmod (IntKind.i64.wrap x6) 4), (Int.tmod (IntKind.i64.wrap x7) 4), (IntKind.i64.wrap (Int.tdiv (IntKind.i64.wrap x8) 4)), 0, []⟩ : Message_).Function)) 2) != a1))))) fun j1 =>
  iteP (y1 != 0) (
  j1 (true)) (
  bindP (sub a0 3 a0.length) fun x13 =>
  bindP (ref01_Sum8 fuel x13) fun y5 =>
  j1 (y5 != 0)))
def ref23_ParseResponse (fuel : Nat) (a0 : List Int) : Option (Message_ × Int) :=
  bindP (ref23_parse fuel a0 1) fun y1 =>
  some (y1.1, y1.2)
def ref23_Reply (fuel : Nat) (a0 : Message_) (a1 : Int) (a2 : List Int) : Option (Message_ × Int) :=
  bindP (ref23_Valid fuel a0) fun y1 =>
  joinP (fun (s1 : Bool) =>
  iteP s1 (
  some (Message_.z, 1)) (
  bindP (ref01_Copy fuel a2) fun y2 =>
  some ((⟨a0.From, a0.To, (IntKind.u8.wrap (a0.Function + 1)), a0.Command, a0.FromUnit, a0.ToUnit, a0.Sequence, a1, y2⟩ : Message_), 0))) fun j1 =>
  iteP (!y1) (
  j1 (true)) (
  iteP ((Int.tmod a0.Function 2) != 0) (
  j1 (true)) (
  j1 (decide ((a2.length : Int) > 240))))
def ref01_Same (fuel : Nat) (a0 : List Int) (a1 : List Int) : Option (Bool) :=
  iteP ((a0.length : Int) != (a1.length : Int)) (
  some false) (
  loopP (fun k1 (s1 : Int) =>
  iteP (decide (s1 < (a0.length : Int))) (
  bindP (idx a0 s1) fun x1 =>
  bindP (idx a1 s1) fun x2 =>
  iteP (x1 != x2) (
  some false) (
  letP (IntKind.i64.wrap (s1 + 1)) fun x3 =>
  k1 (x3))) (
  some true)) fuel (0))
def ref23_Same (fuel : Nat) (a0 : Message_) (a1 : Message_) : Option (Bool) :=
  iteP (a0.To == a1.To) (
  iteP (a0.From == a1.From) (
  iteP (a0.Function == a1.Function) (
  iteP (a0.Command == a1.Command) (
  iteP (a0.ToUnit == a1.ToUnit) (
  iteP (a0.FromUnit == a1.FromUnit) (
  iteP (a0.Sequence == a1.Sequence) (
  iteP (a0.Code == a1.Code) (
  bindP (ref01_Same fuel a0.Data a1.Data) fun y1 =>
  some y1) (
  some false)) (
  some false)) (
  some false)) (
  some false)) (
  some false)) (
  some false)) (
  some false)) (
  some false)
def ref23_Matches (fuel : Nat) (a0 : Message_) (a1 : Message_) : Option (Bool) :=
  bindP (ref23_Valid fuel a1) fun y1 =>
  joinP (fun (s1 : Bool) =>
  iteP s1 (
  some false) (
  bindP (ref23_Reply fuel a0 a1.Code a1.Data) fun y2 =>
  iteP (y2.2 == 0) (
  bindP (ref23_Same fuel y2.1 a1) fun y3 =>
  some y3) (
  some false))) fun j1 =>
  iteP (!y1) (
  j1 (true)) (
  j1 ((Int.tmod a1.Function 2) != 1))
def ref25_Valid (fuel : Nat) (a0 : Responder_) : Option (Bool) :=
  bindP (ref25_requests fuel a0) fun y1 =>
  joinP (fun (s1 : Bool) =>
  iteP s1 (
  some false) (
  loopP (fun k1 (s2 : Int) =>
  iteP (decide (s2 < (y1.length : Int))) (
  bindP (idx y1 s2) fun x1 =>
  bindP (ref23_Request fuel x1) fun y2 =>
  joinP (fun (s3 : Bool) =>
  iteP s3 (
  some false) (
  loopP (fun k2 (s4 : Int) =>
  iteP (decide (s4 < s2)) (
  bindP (idx y1 s4) fun x2 =>
  bindP (idx y1 s2) fun x3 =>
  bindP (ref25_Same fuel x2 x3) fun y3 =>
  iteP y3 (
  some false) (
  letP (IntKind.i64.wrap (s4 + 1)) fun x4 =>
  k2 (x4))) (
  letP (IntKind.i64.wrap (s2 + 1)) fun x5 =>
  k1 (x5))) fuel (0))) fun j2 =>
  letP (y2.2 != 0) fun x6 =>
  iteP x6 (
  j2 (true)) (
  bindP (idx y1 s2) fun x7 =>
  j2 (x7.To != a0.Own))) (
  loopP (fun k3 (s5 : Int) =>
  iteP (decide (s5 < (a0.Memory.length : Int))) (
  bindP (idx a0.Memory s5) fun x8 =>
  bindP (ref23_ParseResponse fuel x8.Reply) fun y4 =>
  joinP (fun (s6 : Bool) =>
  iteP s6 (
  some false) (
  letP (IntKind.i64.wrap (s5 + 1)) fun x9 =>
  k3 (x9))) fun j3 =>
  letP (y4.2 != 0) fun x10 =>
  iteP x10 (
  j3 (true)) (
  bindP (idx a0.Memory s5) fun x11 =>
  letP (decide (x11.Until < 0)) fun x12 =>
  iteP x12 (
  j3 (true)) (
  bindP (idx a0.Memory s5) fun x13 =>
  bindP (ref23_Matches fuel x13.Request y4.1) fun y5 =>
  j3 (!y5)))) (
  some true)) fuel (0))) fuel (0))) fun j1 =>
  iteP (decide (a0.Own < 8)) (
  j1 (true)) (
  iteP (decide (a0.Own > 119)) (
  j1 (true)) (
  iteP (decide ((a0.Queue.length : Int) > 8)) (
  j1 (true)) (
  j1 (decide ((y1.length : Int) > 16)))))
def ref24_Time (fuel : Nat) (a0 : Int) : Option (Bool) :=
  iteP (decide (a0 ≥ 0)) (
  letP (decide (a0 ≤ 17179869184)) fun x1 =>
  some x1) (
  some false)
def ref23_ParseRequest (fuel : Nat) (a0 : List Int) : Option (Message_ × Int) :=
  bindP (ref23_parse fuel a0 0) fun y1 =>
  some (y1.1, y1.2)
def ref25_Fresh (fuel : Nat) (a0 : Responder_) (a1 : Int) : Option (Responder_) :=
  loopP (fun k1 (s1 : (Int × (List Message_))) =>
  iteP (decide (s1.1 < (a0.Queue.length : Int))) (
  bindP (idx a0.Queue s1.1) fun x1 =>
  bindP (app 1 ([]) x1.Data) fun x2 =>
  bindP (app 64 s1.2 ([{ x1 with Data := x2 }])) fun x3 =>
  letP (IntKind.i64.wrap (s1.1 + 1)) fun x4 =>
  k1 (x4, x3)) (
  loopP (fun k2 (s2 : (Int × (List Memory_))) =>
  iteP (decide (s2.1 < (a0.Memory.length : Int))) (
  bindP (idx a0.Memory s2.1) fun x5 =>
  iteP (decide (x5.Until ≤ a1)) (
  letP (IntKind.i64.wrap (s2.1 + 1)) fun x6 =>
  k2 (x6, s2.2)) (
  bindP (idx a0.Memory s2.1) fun x7 =>
  bindP (app 1 ([]) x7.Request.Data) fun x8 =>
  bindP (app 1 ([]) x7.Reply) fun x9 =>
  letP ({ x7 with Request := { x7.Request with Data := x8 } }) fun d1 =>
  letP ({ d1 with Reply := x9 }) fun d2 =>
  bindP (app 96 s2.2 ([d2])) fun x10 =>
  letP (IntKind.i64.wrap (s2.1 + 1)) fun x11 =>
  k2 (x11, x10))) (
  some ({ { (⟨a0.Own, [], []⟩ : Responder_) with Queue := s1.2 } with Memory := s2.2 }))) fuel (0, []))) fuel (0, [])
def ref23_Response (fuel : Nat) (a0 : Message_) : Option ((List Int) × Int) :=
  bindP (ref23_Valid fuel a0) fun y1 =>
  joinP (fun (s1 : Bool) =>
  iteP s1 (
  some ([], 1)) (
  bindP (ref23_encode fuel a0) fun y2 =>
  some (y2, 0))) fun j1 =>
  iteP (!y1) (
  j1 (true)) (
  j1 ((Int.tmod a0.Function 2) != 1))
def ref25_Accept (fuel : Nat) (a0 : Responder_) (a1 : List Int) (a2 : Int) : Option (Responder_ × (List Int) × Int) :=
  bindP (ref25_Valid fuel a0) fun y1 =>
  letP (!y1) fun x1 =>
  iteP x1 (
  some (Responder_.z, [], 1)) (
  bindP (ref24_Time fuel a2) fun y2 =>
  letP (!y2) fun x2 =>
  iteP x2 (
  some (Responder_.z, [], 2)) (
  bindP (ref23_ParseRequest fuel a1) fun y3 =>
  iteP (y3.2 != 0) (
  some (Responder_.z, [], y3.2)) (
  iteP (y3.1.To != a0.Own) (
  some (Responder_.z, [], 13)) (
  bindP (ref25_Fresh fuel a0 a2) fun y4 =>
  loopP (fun k1 (s1 : Int) =>
  iteP (decide (s1 < ((({ y4 with Memory := y4.Memory }).Memory).length : Int))) (
  bindP (idx (({ y4 with Memory := y4.Memory }).Memory) s1) fun x3 =>
  bindP (ref25_Same fuel x3.Request y3.1) fun y5 =>
  iteP y5 (
  bindP (idx (({ { y4 with Memory := y4.Memory } with Queue := y4.Queue }).Memory) s1) fun x4 =>
  bindP (app 1 ([]) x4.Reply) fun x5 =>
  letP ({ { y4 with Memory := y4.Memory } with Queue := y4.Queue }) fun d1 =>
  some (d1, x5, 0)) (
  letP (IntKind.i64.wrap (s1 + 1)) fun x6 =>
  k1 (x6))) (
  loopP (fun k2 (s2 : Int) =>
  iteP (decide (s2 < (y4.Queue.length : Int))) (
  bindP (idx y4.Queue s2) fun x7 =>
  bindP (ref25_Same fuel x7 y3.1) fun y6 =>
  iteP y6 (
  letP ({ y4 with Memory := y4.Memory }) fun d2 =>
  some ({ d2 with Queue := y4.Queue }, [], 0)) (
  letP (IntKind.i64.wrap (s2 + 1)) fun x8 =>
  k2 (x8))) (
  joinP (fun (s3 : Bool) =>
  iteP s3 (
  bindP (ref23_Reply fuel y3.1 192 ([])) fun y7 =>
  bindP (ref23_Response fuel y7.1) fun y8 =>
  letP ({ y4 with Memory := y4.Memory }) fun d3 =>
  some ({ d3 with Queue := y4.Queue }, y8.1, 0)) (
  bindP (app 64 y4.Queue ([y3.1])) fun x9 =>
  letP ({ y4 with Memory := y4.Memory }) fun d4 =>
  some ({ d4 with Queue := x9 }, [], 0))) fun j1 =>
  iteP (decide ((y4.Queue.length : Int) ≥ 8)) (
  j1 (true)) (
  j1 (decide ((IntKind.i64.wrap ((y4.Queue.length : Int) + ((({ y4 with Memory := y4.Memory }).Memory).length : Int))) ≥ 16))))) fuel (0))) fuel (0)))))
def ref25_Done (fuel : Nat) (a0 : Responder_) (a1 : Int) (a2 : List Int) (a3 : Int) : Option (Responder_ × (List Int) × Int) :=
  bindP (ref25_Valid fuel a0) fun y1 =>
  letP (!y1) fun x1 =>
  iteP x1 (
  some (Responder_.z, [], 1)) (
  bindP (ref24_Time fuel a3) fun y2 =>
  letP (!y2) fun x2 =>
  iteP x2 (
  some (Responder_.z, [], 2)) (
  letP ((a0.Queue.length : Int) == 0) fun x3 =>
  iteP x3 (
  some (Responder_.z, [], 46)) (
  bindP (idx a0.Queue 0) fun x4 =>
  bindP (ref23_Reply fuel x4 a1 a2) fun y3 =>
  iteP (y3.2 != 0) (
  some (Responder_.z, [], y3.2)) (
  bindP (ref23_Response fuel y3.1) fun y4 =>
  iteP (y4.2 != 0) (
  some (Responder_.z, [], y4.2)) (
  bindP (ref25_Fresh fuel a0 a3) fun y5 =>
  bindP (idx (({ y5 with Queue := y5.Queue }).Queue) 0) fun x5 =>
  bindP (app 1 ([]) y4.1) fun x6 =>
  bindP (app 96 y5.Memory ([(⟨x5, x6, (IntKind.i64.wrap (a3 + 100))⟩ : Memory_)])) fun x7 =>
  bindP (sub (({ y5 with Queue := y5.Queue }).Queue) 1 ((({ y5 with Queue := y5.Queue }).Queue).length)) fun x8 =>
  letP ({ { y5 with Queue := y5.Queue } with Queue := x8 }) fun d1 =>
  some ({ d1 with Memory := x7 }, y4.1, 0))))))
def law25_play (fuel : Nat) (a0 : field_Codes) (a1 : Int) : Option (Responder_ × Int × field_Codes) :=
  bindP (ref25_New fuel 32) fun y1 =>
  bindP (field_Codes_Next fuel a0 (IntKind.i64.wrap (a1 + 1))) fun y2 =>
  loopP (fun k1 (s1 : (Int × Int × field_Codes × Responder_)) =>
  iteP (decide (s1.2.1 > 0)) (
  bindP (field_Codes_Next fuel s1.2.2.1 3) fun y3 =>
  joinP (fun (s2 : (field_Codes × Responder_)) =>
  bindP (field_Codes_Next fuel s2.1 3) fun y4 =>
  bindP (field_Codes_Next fuel y4.2 40) fun y5 =>
  letP (IntKind.i64.wrap (s1.1 + (IntKind.i64.wrap (y4.1 * y5.1)))) fun x1 =>
  letP (IntKind.i64.wrap (s1.2.1 - 1)) fun x2 =>
  k1 (x1, x2, y5.2, s2.2)) fun j1 =>
  iteP (decide (y3.1 < 2)) (
  bindP (field_Codes_Request fuel y3.2 32) fun y6 =>
  bindP (ref23_Request fuel y6.1) fun y7 =>
  bindP (ref25_Accept fuel s1.2.2.2 y7.1 s1.1) fun y8 =>
  iteP (y8.2.2 == 0) (
  j1 (y6.2, y8.1)) (
  j1 (y6.2, s1.2.2.2))) (
  bindP (field_Codes_Next fuel y3.2 2) fun y9 =>
  bindP (field_Codes_Bytes fuel y9.2 2) fun y10 =>
  bindP (ref25_Done fuel s1.2.2.2 (IntKind.u8.wrap y9.1) y10.1 s1.1) fun y11 =>
  iteP (y11.2.2 == 0) (
  j1 (y10.2, y11.1)) (
  j1 (y10.2, s1.2.2.2)))) (
  some (s1.2.2.2, s1.1, s1.2.2.1))) fuel (0, y2.1, y2.2, y1.1)
def ref24_SameMessages (fuel : Nat) (a0 : List Message_) (a1 : List Message_) : Option (Bool) :=
  iteP ((a0.length : Int) != (a1.length : Int)) (
  some false) (
  loopP (fun k1 (s1 : Int) =>
  iteP (decide (s1 < (a0.length : Int))) (
  bindP (idx a0 s1) fun x1 =>
  bindP (idx a1 s1) fun x2 =>
  bindP (ref24_SameMessage fuel x1 x2) fun y1 =>
  iteP (!y1) (
  some false) (
  letP (IntKind.i64.wrap (s1 + 1)) fun x3 =>
  k1 (x3))) (
  some true)) fuel (0))
def ref25_Equal (fuel : Nat) (a0 : Responder_) (a1 : Responder_) : Option (Bool) :=
  joinP (fun (s1 : Bool) =>
  iteP s1 (
  some false) (
  loopP (fun k1 (s2 : Int) =>
  iteP (decide (s2 < (a0.Memory.length : Int))) (
  joinP (fun (s3 : Bool) =>
  iteP s3 (
  some false) (
  letP (IntKind.i64.wrap (s2 + 1)) fun x1 =>
  k1 (x1))) fun j2 =>
  bindP (idx a0.Memory s2) fun x2 =>
  bindP (idx a1.Memory s2) fun x3 =>
  letP (x2.Until != x3.Until) fun x4 =>
  iteP x4 (
  j2 (true)) (
  bindP (idx a0.Memory s2) fun x5 =>
  bindP (idx a1.Memory s2) fun x6 =>
  letP ((toStr x5.Reply) != (toStr x6.Reply)) fun x7 =>
  iteP x7 (
  j2 (true)) (
  bindP (idx a0.Memory s2) fun x8 =>
  bindP (idx a1.Memory s2) fun x9 =>
  bindP (ref24_SameMessage fuel x8.Request x9.Request) fun y1 =>
  j2 (!y1)))) (
  some true)) fuel (0))) fun j1 =>
  iteP (a0.Own != a1.Own) (
  j1 (true)) (
  bindP (ref24_SameMessages fuel a0.Queue a1.Queue) fun y2 =>
  iteP (!y2) (
  j1 (true)) (
  j1 ((a0.Memory.length : Int) != (a1.Memory.length : Int))))
def law25_odd (fuel : Nat) (a0 : field_Codes) (a1 : Responder_) : Option (Responder_ × field_Codes) :=
  bindP (ref25_Fresh fuel a1 (-1)) fun y1 =>
  bindP (field_Codes_Next fuel a0 5) fun y2 =>
  joinP (fun (s1 : Bool) =>
  joinP (fun (s2 : Int) =>
  letP (s2 == 0) fun x1 =>
  iteP x1 (
  bindP (field_Codes_Next fuel y2.2 3) fun y3 =>
  bindP (idx ([(-1), 0, 9223372036854775807]) y3.1) fun x2 =>
  bindP (idx y1.Memory 0) fun x3 =>
  letP (upd y1.Memory 0 ({ x3 with Until := x2 })) fun d1 =>
  letP ({ y1 with Queue := y1.Queue }) fun d2 =>
  some ({ d2 with Memory := d1 }, y3.2)) (
  letP (s2 == 1) fun x4 =>
  iteP x4 (
  bindP (field_Codes_Bytes fuel y2.2 9) fun y4 =>
  bindP (idx y1.Memory 0) fun x5 =>
  letP (upd y1.Memory 0 ({ x5 with Reply := y4.1 })) fun d3 =>
  letP ({ y1 with Queue := y1.Queue }) fun d4 =>
  some ({ d4 with Memory := d3 }, y4.2)) (
  letP (s2 == 2) fun x6 =>
  iteP x6 (
  bindP (idx (({ y1 with Memory := y1.Memory }).Memory) 0) fun x7 =>
  bindP (app 64 y1.Queue ([x7.Request])) fun x8 =>
  letP ({ y1 with Memory := y1.Memory }) fun d5 =>
  some ({ d5 with Queue := x8 }, y2.2)) (
  letP (s2 == 3) fun x9 =>
  iteP x9 (
  bindP (field_Codes_Request fuel y2.2 33) fun y5 =>
  bindP (app 64 y1.Queue ([y5.1])) fun x10 =>
  letP ({ y1 with Memory := y1.Memory }) fun d6 =>
  some ({ d6 with Queue := x10 }, y5.2)) (
  letP (s2 == 4) fun x11 =>
  iteP x11 (
  bindP (field_Codes_Next fuel y2.2 256) fun y6 =>
  letP ({ y1 with Own := (IntKind.u8.wrap y6.1) }) fun d7 =>
  some ({ { d7 with Queue := y1.Queue } with Memory := y1.Memory }, y6.2)) (
  some ({ { y1 with Queue := y1.Queue } with Memory := y1.Memory }, y2.2))))))) fun j2 =>
  iteP s1 (
  j2 (3)) (
  j2 (y2.1))) fun j1 =>
  iteP (decide (y2.1 < 3)) (
  j1 ((y1.Memory.length : Int) == 0)) (
  j1 (false))
def field_Codes_Now (fuel : Nat) (a0 : field_Codes) : Option (Int × field_Codes) :=
  bindP (field_Codes_Next fuel a0 12) fun y1 =>
  iteP (y1.1 == 11) (
  bindP (field_Codes_Next fuel y1.2 5) fun y2 =>
  bindP (idx ([0, 17179869184, 17179869183, 17179869185, (-1)]) y2.1) fun x1 =>
  some (x1, y2.2)) (
  bindP (field_Codes_Next fuel y1.2 200) fun y3 =>
  some (y3.1, y3.2))
def responder_Same (fuel : Nat) (a0 : Message_) (a1 : Message_) : Option (Bool) :=
  bindP (responder_request_is fuel a0 a1) fun y1 =>
  some y1
def ref25_Next (fuel : Nat) (a0 : Responder_) : Option (Message_ × Bool) :=
  bindP (ref25_Valid fuel a0) fun y1 =>
  joinP (fun (s1 : Bool) =>
  iteP s1 (
  some (Message_.z, false)) (
  bindP (idx a0.Queue 0) fun x1 =>
  bindP (app 1 ([]) x1.Data) fun x2 =>
  some ({ x1 with Data := x2 }, true))) fun j1 =>
  iteP (!y1) (
  j1 (true)) (
  j1 ((a0.Queue.length : Int) == 0))
def law25_ResponderAnswers (fuel : Nat) (a0 : List Int) (a1 : List Int) (a2 : List Int) (a3 : Int) : Option (Bool) :=
  bindP (law25_awake fuel) fun y1 =>
  iteP (!y1) (
  some false) (
  joinP (fun (s1 : Bool) =>
  iteP s1 (
  some true) (
  bindP (field_New fuel a0 300) fun y2 =>
  bindP (law25_play fuel y2 24) fun y3 =>
  bindP (field_Codes_Next fuel y3.2.2 256) fun y4 =>
  bindP (responder_New fuel (IntKind.u8.wrap y4.1)) fun y5 =>
  bindP (ref25_New fuel (IntKind.u8.wrap y4.1)) fun y6 =>
  joinP (fun (s2 : Bool) =>
  iteP s2 (
  some false) (
  bindP (law25_odd fuel y4.2 y3.1) fun y7 =>
  loopP (fun k1 (s3 : (Int × field_Codes)) =>
  iteP (decide (s3.1 < (([y3.1, y7.1]).length : Int))) (
  bindP (idx ([y3.1, y7.1]) s3.1) fun x1 =>
  bindP (field_Codes_Next fuel s3.2 200) fun y8 =>
  bindP (field_Codes_Now fuel y8.2) fun y9 =>
  bindP (field_Codes_Next fuel y9.2 4) fun y10 =>
  bindP (idx ([y3.2.1, (IntKind.i64.wrap (y3.2.1 + y8.1)), a3, y9.1]) y10.1) fun x2 =>
  bindP (field_Codes_Request fuel y10.2 32) fun y11 =>
  bindP (field_Codes_Request fuel y11.2 32) fun y12 =>
  bindP (field_Codes_Next fuel y12.2 6) fun y13 =>
  joinP (fun (s4 : ((List Int))) =>
  joinP (fun (s5 : Bool) =>
  iteP s5 (
  some false) (
  bindP (responder_Accept fuel x1 s4 x2) fun y14 =>
  bindP (ref25_Accept fuel x1 s4 x2) fun y15 =>
  joinP (fun (s6 : Bool) =>
  iteP s6 (
  some false) (
  bindP (responder_Next fuel x1) fun y16 =>
  bindP (ref25_Next fuel x1) fun y17 =>
  joinP (fun (s7 : Bool) =>
  iteP s7 (
  some false) (
  bindP (field_Codes_Next fuel y13.2 256) fun y18 =>
  bindP (responder_Done fuel x1 (IntKind.u8.wrap y18.1) a2 x2) fun y19 =>
  bindP (ref25_Done fuel x1 (IntKind.u8.wrap y18.1) a2 x2) fun y20 =>
  joinP (fun (s8 : Bool) =>
  iteP s8 (
  some false) (
  k1 ((IntKind.i64.wrap (s3.1 + 1)), y18.2))) fun j7 =>
  iteP (y19.2.2 != y20.2.2) (
  j7 (true)) (
  iteP ((toStr y19.2.1) != (toStr y20.2.1)) (
  j7 (true)) (
  bindP (ref25_Equal fuel y19.1 y20.1) fun y21 =>
  j7 (!y21))))) fun j6 =>
  iteP (y16.2 != y17.2) (
  j6 (true)) (
  bindP (ref24_SameMessage fuel y16.1 y17.1) fun y22 =>
  j6 (!y22)))) fun j5 =>
  iteP (y14.2.2 != y15.2.2) (
  j5 (true)) (
  iteP ((toStr y14.2.1) != (toStr y15.2.1)) (
  j5 (true)) (
  bindP (ref25_Equal fuel y14.1 y15.1) fun y23 =>
  j5 (!y23))))) fun j4 =>
  bindP (responder_Valid fuel x1) fun y24 =>
  bindP (ref25_Valid fuel x1) fun y25 =>
  letP (y24 != y25) fun x3 =>
  iteP x3 (
  j4 (true)) (
  bindP (responder_Same fuel y11.1 y12.1) fun y26 =>
  bindP (ref25_Same fuel y11.1 y12.1) fun y27 =>
  letP (y26 != y27) fun x4 =>
  iteP x4 (
  j4 (true)) (
  bindP (responder_Same fuel y11.1 y11.1) fun y28 =>
  j4 (!y28)))) fun j3 =>
  iteP (decide (y13.1 > 0)) (
  bindP (ref23_Request fuel y11.1) fun y29 =>
  j3 (y29.1)) (
  j3 (a1))) (
  some true)) fuel (0, y7.2))) fun j2 =>
  iteP (y5.2 != y6.2) (
  j2 (true)) (
  bindP (ref25_Equal fuel y5.1 y6.1) fun y30 =>
  j2 (!y30)))) fun j1 =>
  iteP (decide ((a1.length : Int) > 300)) (
  j1 (true)) (
  j1 (decide ((a2.length : Int) > 300))))
def law25_ResponderOrder (fuel : Nat) (a0 : List Int) : Option (Bool) :=
  bindP (law25_awake fuel) fun y1 =>
  iteP (!y1) (
  some false) (
  bindP (field_New fuel a0 100) fun y2 =>
  bindP (responder_New fuel 32) fun y3 =>
  iteP (y3.2 != 0) (
  some false) (
  loopP (fun k1 (s1 : (Int × field_Codes × Responder_ × (List Message_))) =>
  iteP (decide (s1.1 < 8)) (
  bindP (field_Codes_Next fuel s1.2.1 3) fun y4 =>
  bindP (idx ([64, 66, 68]) y4.1) fun x1 =>
  bindP (field_Codes_Next fuel y4.2 4) fun y5 =>
  bindP (message_Request fuel (⟨32, x1, 6, 1, 0, 0, y5.1, 0, []⟩ : Message_)) fun y6 =>
  bindP (responder_Accept fuel s1.2.2.1 y6.1 5) fun y7 =>
  joinP (fun (s2 : Bool) =>
  iteP s2 (
  some false) (
  loopP (fun k2 (s3 : (Bool × Int)) =>
  iteP (decide (s3.2 < (s1.2.2.2.length : Int))) (
  bindP (idx s1.2.2.2 s3.2) fun x2 =>
  iteP s3.1 (
  k2 (true, (IntKind.i64.wrap (s3.2 + 1)))) (
  bindP (responder_Same fuel x2 (⟨32, x1, 6, 1, 0, 0, y5.1, 0, []⟩ : Message_)) fun y8 =>
  k2 (y8, (IntKind.i64.wrap (s3.2 + 1))))) (
  iteP (!s3.1) (
  bindP (app 64 s1.2.2.2 ([(⟨32, x1, 6, 1, 0, 0, y5.1, 0, []⟩ : Message_)])) fun x3 =>
  letP (IntKind.i64.wrap (s1.1 + 1)) fun x4 =>
  k1 (x4, y5.2, y7.1, x3)) (
  letP (IntKind.i64.wrap (s1.1 + 1)) fun x5 =>
  k1 (x5, y5.2, y7.1, s1.2.2.2)))) fuel (false, 0))) fun j1 =>
  iteP (y6.2 != 0) (
  j1 (true)) (
  j1 (y7.2.2 != 0))) (
  loopP (fun k3 (s4 : ((List Message_) × Int × Responder_)) =>
  iteP (decide (s4.2.1 < (s1.2.2.2.length : Int))) (
  bindP (idx s4.1 s4.2.1) fun x6 =>
  bindP (responder_Next fuel s4.2.2) fun y9 =>
  bindP (responder_Done fuel s4.2.2 0 ([]) 6) fun y10 =>
  joinP (fun (s5 : Bool) =>
  iteP s5 (
  some false) (
  k3 (s4.1, (IntKind.i64.wrap (s4.2.1 + 1)), y10.1))) fun j2 =>
  iteP (!y9.2) (
  j2 (true)) (
  iteP (y10.2.2 != 0) (
  j2 (true)) (
  bindP (ref24_SameMessage fuel y9.1 x6) fun y11 =>
  j2 (!y11)))) (
  bindP (responder_Next fuel s4.2.2) fun y12 =>
  letP (!y12.2) fun x7 =>
  some x7)) fuel (s1.2.2.2, 0, s1.2.2.1))) fuel (0, y2, y3.1, [])))
end Lift
