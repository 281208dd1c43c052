/- Plain Lean functions, as lift.py reads them off the Go functions of the seat. -/
import Derived.Test.YtkcogjblkenmgaaLiftR
import Derived.Test.YtkcogjblkenmgaaLiftN
set_option linter.unusedVariables false
set_option linter.unusedSimpArgs false
namespace Lift
open Go
structure Message_ where
  To : Int
  From : Int
  Function : Int
  Command : Int
  ToUnit : Int
  FromUnit : Int
  Sequence : Int
  Code : Int
  Data : List Int
def Message_.rep : Rep Message_ := Rep.iso (fun s => (s.To, s.From, s.Function, s.Command, s.ToUnit, s.FromUnit, s.Sequence, s.Code, s.Data, ())) (Rep.prod (Rep.int .u8) (Rep.prod (Rep.int .u8) (Rep.prod (Rep.int .u8) (Rep.prod (Rep.int .u8) (Rep.prod (Rep.int .i64) (Rep.prod (Rep.int .i64) (Rep.prod (Rep.int .i64) (Rep.prod (Rep.int .u8) (Rep.prod (Rep.slice (Rep.int .u8)) Rep.unit)))))))))
def Message_.z : Message_ := ⟨0, 0, 0, 0, 0, 0, 0, 0, []⟩
theorem Message_.zr : Zr Message_.rep [.int .u8 0, .int .u8 0, .int .u8 0, .int .u8 0, .int .i64 0, .int .i64 0, .int .i64 0, .int .u8 0, .slice none 0 0] Message_.z := Zr.iso (r := (Rep.prod (Rep.int .u8) (Rep.prod (Rep.int .u8) (Rep.prod (Rep.int .u8) (Rep.prod (Rep.int .u8) (Rep.prod (Rep.int .i64) (Rep.prod (Rep.int .i64) (Rep.prod (Rep.int .i64) (Rep.prod (Rep.int .u8) (Rep.prod (Rep.slice (Rep.int .u8)) Rep.unit)))))))))) _ (Zr.of (Zr.prod (Zr.int .u8 0) (Zr.prod (Zr.int .u8 0) (Zr.prod (Zr.int .u8 0) (Zr.prod (Zr.int .u8 0) (Zr.prod (Zr.int .i64 0) (Zr.prod (Zr.int .i64 0) (Zr.prod (Zr.int .i64 0) (Zr.prod (Zr.int .u8 0) (Zr.prod (Zr.slice (Rep.int .u8)) Zr.unit))))))))) rfl)
theorem Message_.f0 : Fld Message_.rep 0 (Rep.int .u8) Message_.To (fun s y => { s with To := y }) := Fld.iso (fun s : Message_ => (s.To, s.From, s.Function, s.Command, s.ToUnit, s.FromUnit, s.Sequence, s.Code, s.Data, ())) Fld.here (fun _ => rfl) (fun _ _ => rfl)
theorem Message_.f1 : Fld Message_.rep 1 (Rep.int .u8) Message_.From (fun s y => { s with From := y }) := Fld.iso (fun s : Message_ => (s.To, s.From, s.Function, s.Command, s.ToUnit, s.FromUnit, s.Sequence, s.Code, s.Data, ())) (Fld.there Fld.here) (fun _ => rfl) (fun _ _ => rfl)
theorem Message_.f2 : Fld Message_.rep 2 (Rep.int .u8) Message_.Function (fun s y => { s with Function := y }) := Fld.iso (fun s : Message_ => (s.To, s.From, s.Function, s.Command, s.ToUnit, s.FromUnit, s.Sequence, s.Code, s.Data, ())) (Fld.there (Fld.there Fld.here)) (fun _ => rfl) (fun _ _ => rfl)
theorem Message_.f3 : Fld Message_.rep 3 (Rep.int .u8) Message_.Command (fun s y => { s with Command := y }) := Fld.iso (fun s : Message_ => (s.To, s.From, s.Function, s.Command, s.ToUnit, s.FromUnit, s.Sequence, s.Code, s.Data, ())) (Fld.there (Fld.there (Fld.there Fld.here))) (fun _ => rfl) (fun _ _ => rfl)
theorem Message_.f4 : Fld Message_.rep 4 (Rep.int .i64) Message_.ToUnit (fun s y => { s with ToUnit := y }) := Fld.iso (fun s : Message_ => (s.To, s.From, s.Function, s.Command, s.ToUnit, s.FromUnit, s.Sequence, s.Code, s.Data, ())) (Fld.there (Fld.there (Fld.there (Fld.there Fld.here)))) (fun _ => rfl) (fun _ _ => rfl)
theorem Message_.f5 : Fld Message_.rep 5 (Rep.int .i64) Message_.FromUnit (fun s y => { s with FromUnit := y }) := Fld.iso (fun s : Message_ => (s.To, s.From, s.Function, s.Command, s.ToUnit, s.FromUnit, s.Sequence, s.Code, s.Data, ())) (Fld.there (Fld.there (Fld.there (Fld.there (Fld.there Fld.here))))) (fun _ => rfl) (fun _ _ => rfl)
theorem Message_.f6 : Fld Message_.rep 6 (Rep.int .i64) Message_.Sequence (fun s y => { s with Sequence := y }) := Fld.iso (fun s : Message_ => (s.To, s.From, s.Function, s.Command, s.ToUnit, s.FromUnit, s.Sequence, s.Code, s.Data, ())) (Fld.there (Fld.there (Fld.there (Fld.there (Fld.there (Fld.there Fld.here)))))) (fun _ => rfl) (fun _ _ => rfl)
theorem Message_.f7 : Fld Message_.rep 7 (Rep.int .u8) Message_.Code (fun s y => { s with Code := y }) := Fld.iso (fun s : Message_ => (s.To, s.From, s.Function, s.Command, s.ToUnit, s.FromUnit, s.Sequence, s.Code, s.Data, ())) (Fld.there (Fld.there (Fld.there (Fld.there (Fld.there (Fld.there (Fld.there Fld.here))))))) (fun _ => rfl) (fun _ _ => rfl)
theorem Message_.f8 : Fld Message_.rep 8 (Rep.slice (Rep.int .u8)) Message_.Data (fun s y => { s with Data := y }) := Fld.iso (fun s : Message_ => (s.To, s.From, s.Function, s.Command, s.ToUnit, s.FromUnit, s.Sequence, s.Code, s.Data, ())) (Fld.there (Fld.there (Fld.there (Fld.there (Fld.there (Fld.there (Fld.there (Fld.there Fld.here)))))))) (fun _ => rfl) (fun _ _ => rfl)
structure Pending_ where
  Request : Message_
  Deadline : Int
  Tries : Int
def Pending_.rep : Rep Pending_ := Rep.iso (fun s => (s.Request, s.Deadline, s.Tries, ())) (Rep.prod Message_.rep (Rep.prod (Rep.int .i64) (Rep.prod (Rep.int .i64) Rep.unit)))
def Pending_.z : Pending_ := ⟨Message_.z, 0, 0⟩
theorem Pending_.zr : Zr Pending_.rep [.int .u8 0, .int .u8 0, .int .u8 0, .int .u8 0, .int .i64 0, .int .i64 0, .int .i64 0, .int .u8 0, .slice none 0 0, .int .i64 0, .int .i64 0] Pending_.z := Zr.iso (r := (Rep.prod Message_.rep (Rep.prod (Rep.int .i64) (Rep.prod (Rep.int .i64) Rep.unit)))) _ (Zr.of (Zr.prod Message_.zr (Zr.prod (Zr.int .i64 0) (Zr.prod (Zr.int .i64 0) Zr.unit))) rfl)
theorem Pending_.f0 : Fld Pending_.rep 0 Message_.rep Pending_.Request (fun s y => { s with Request := y }) := Fld.iso (fun s : Pending_ => (s.Request, s.Deadline, s.Tries, ())) Fld.here (fun _ => rfl) (fun _ _ => rfl)
theorem Pending_.f1 : Fld Pending_.rep 9 (Rep.int .i64) Pending_.Deadline (fun s y => { s with Deadline := y }) := Fld.iso (fun s : Pending_ => (s.Request, s.Deadline, s.Tries, ())) (Fld.there Fld.here) (fun _ => rfl) (fun _ _ => rfl)
theorem Pending_.f2 : Fld Pending_.rep 10 (Rep.int .i64) Pending_.Tries (fun s y => { s with Tries := y }) := Fld.iso (fun s : Pending_ => (s.Request, s.Deadline, s.Tries, ())) (Fld.there (Fld.there Fld.here)) (fun _ => rfl) (fun _ _ => rfl)
structure Requester_ where
  Own : Int
  Next : Int
  Pending : List Pending_
def Requester_.rep : Rep Requester_ := Rep.iso (fun s => (s.Own, s.Next, s.Pending, ())) (Rep.prod (Rep.int .u8) (Rep.prod (Rep.int .i64) (Rep.prod (Rep.slice Pending_.rep) Rep.unit)))
def Requester_.z : Requester_ := ⟨0, 0, []⟩
theorem Requester_.zr : Zr Requester_.rep [.int .u8 0, .int .i64 0, .slice none 0 0] Requester_.z := Zr.iso (r := (Rep.prod (Rep.int .u8) (Rep.prod (Rep.int .i64) (Rep.prod (Rep.slice Pending_.rep) Rep.unit)))) _ (Zr.of (Zr.prod (Zr.int .u8 0) (Zr.prod (Zr.int .i64 0) (Zr.prod (Zr.slice Pending_.rep) Zr.unit))) rfl)
theorem Requester_.f0 : Fld Requester_.rep 0 (Rep.int .u8) Requester_.Own (fun s y => { s with Own := y }) := Fld.iso (fun s : Requester_ => (s.Own, s.Next, s.Pending, ())) Fld.here (fun _ => rfl) (fun _ _ => rfl)
theorem Requester_.f1 : Fld Requester_.rep 1 (Rep.int .i64) Requester_.Next (fun s y => { s with Next := y }) := Fld.iso (fun s : Requester_ => (s.Own, s.Next, s.Pending, ())) (Fld.there Fld.here) (fun _ => rfl) (fun _ _ => rfl)
theorem Requester_.f2 : Fld Requester_.rep 2 (Rep.slice Pending_.rep) Requester_.Pending (fun s y => { s with Pending := y }) := Fld.iso (fun s : Requester_ => (s.Own, s.Next, s.Pending, ())) (Fld.there (Fld.there Fld.here)) (fun _ => rfl) (fun _ _ => rfl)
structure field_Codes where
  L : List Int
  At : Int
def field_Codes.rep : Rep field_Codes := Rep.iso (fun s => (s.L, s.At, ())) (Rep.prod (Rep.slice (Rep.int .u8)) (Rep.prod (Rep.int .i64) Rep.unit))
def field_Codes.z : field_Codes := ⟨[], 0⟩
theorem field_Codes.zr : Zr field_Codes.rep [.slice none 0 0, .int .i64 0] field_Codes.z := Zr.iso (r := (Rep.prod (Rep.slice (Rep.int .u8)) (Rep.prod (Rep.int .i64) Rep.unit))) _ (Zr.of (Zr.prod (Zr.slice (Rep.int .u8)) (Zr.prod (Zr.int .i64 0) Zr.unit)) rfl)
theorem field_Codes.f0 : Fld field_Codes.rep 0 (Rep.slice (Rep.int .u8)) field_Codes.L (fun s y => { s with L := y }) := Fld.iso (fun s : field_Codes => (s.L, s.At, ())) Fld.here (fun _ => rfl) (fun _ _ => rfl)
theorem field_Codes.f1 : Fld field_Codes.rep 1 (Rep.int .i64) field_Codes.At (fun s y => { s with At := y }) := Fld.iso (fun s : field_Codes => (s.L, s.At, ())) (Fld.there Fld.here) (fun _ => rfl) (fun _ _ => rfl)
def Message_.ok (s : Message_) : Prop := (okI .u8) s.To ∧ (okI .u8) s.From ∧ (okI .u8) s.Function ∧ (okI .u8) s.Command ∧ (okI .i64) s.ToUnit ∧ (okI .i64) s.FromUnit ∧ (okI .i64) s.Sequence ∧ (okI .u8) s.Code ∧ (okL (okI .u8)) s.Data ∧ True
def Pending_.ok (s : Pending_) : Prop := Message_.ok s.Request ∧ (okI .i64) s.Deadline ∧ (okI .i64) s.Tries ∧ True
def Requester_.ok (s : Requester_) : Prop := (okI .u8) s.Own ∧ (okI .i64) s.Next ∧ (okL Pending_.ok) s.Pending ∧ True
def field_Codes.ok (s : field_Codes) : Prop := (okL (okI .u8)) s.L ∧ (okI .i64) s.At ∧ True
def exchange_New (fuel : Nat) (a0 : Int) : Option (Requester_ × Int) :=
  joinP (fun (s1 : Bool) =>
  iteP s1 (
  some (Requester_.z, 13)) (
  some ((⟨a0, 0, []⟩ : Requester_), 0))) fun j1 =>
  iteP (decide (a0 < 8)) (
  j1 (true)) (
  j1 (decide (a0 > 119)))
def message_address (fuel : Nat) (a0 : Int) : Option (Bool) :=
  iteP (decide (a0 ≥ 8)) (
  letP (decide (a0 ≤ 119)) fun x1 =>
  some x1) (
  some false)
def message_unit (fuel : Nat) (a0 : Int) : Option (Bool) :=
  iteP (decide (a0 ≥ 0)) (
  letP (decide (a0 < 4)) fun x1 =>
  some x1) (
  some false)
def message_request (fuel : Nat) (a0 : Message_) : Option (Bool) :=
  letP ((Int.tmod a0.Function 2) == 0) fun x1 =>
  some x1
def message_Valid (fuel : Nat) (a0 : Message_) : Option (Bool) :=
  bindP (message_address fuel a0.To) fun y1 =>
  joinP (fun (s1 : Bool) =>
  iteP s1 (
  some false) (
  iteP (decide (a0.Sequence ≥ 0)) (
  iteP (decide (a0.Sequence < 64)) (
  iteP (decide ((a0.Data.length : Int) ≤ 240)) (
  bindP (message_request fuel a0) fun y2 =>
  iteP (!y2) (
  some true) (
  letP (a0.Code == 0) fun x1 =>
  some x1)) (
  some false)) (
  some false)) (
  some false))) fun j1 =>
  iteP (!y1) (
  j1 (true)) (
  bindP (message_address fuel a0.From) fun y3 =>
  iteP (!y3) (
  j1 (true)) (
  iteP (decide (a0.Function ≥ 64)) (
  j1 (true)) (
  bindP (message_unit fuel a0.ToUnit) fun y4 =>
  iteP (!y4) (
  j1 (true)) (
  bindP (message_unit fuel a0.FromUnit) fun y5 =>
  j1 (!y5)))))
def slices_Clone_byte_byte (fuel : Nat) (a0 : List Int) : Option ((List Int)) :=
  bindP (app 1 ([]) a0) fun x1 =>
  some x1
def checksum_Sum8 (fuel : Nat) (a0 : List Int) : Option (Int) :=
  loopP (fun k1 (s1 : (Int × Int)) =>
  iteP (decide (s1.2 < (a0.length : Int))) (
  bindP (idx a0 s1.2) fun x1 =>
  letP (IntKind.u8.wrap (s1.1 + x1)) fun x2 =>
  k1 (x2, (IntKind.i64.wrap (s1.2 + 1)))) (
  letP (IntKind.u8.wrap (0 - s1.1)) fun x3 =>
  some x3)) fuel (0, 0)
def checksum_Seal8 (fuel : Nat) (a0 : List Int) : Option ((List Int)) :=
  bindP (slices_Clone_byte_byte fuel a0) fun y1 =>
  bindP (checksum_Sum8 fuel a0) fun y2 =>
  bindP (app 1 y1 ([y2])) fun x1 =>
  some x1
def message_encode (fuel : Nat) (a0 : Message_) : Option ((List Int)) :=
  bindP (checksum_Seal8 fuel ([(IntKind.u8.wrap (2 * a0.To)), (IntKind.u8.wrap ((IntKind.u8.wrap (4 * a0.Function)) + (IntKind.u8.wrap a0.ToUnit)))])) fun y1 =>
  bindP (message_request fuel a0) fun y2 =>
  joinP (fun (s1 : ((List Int))) =>
  bindP (app 1 s1 a0.Data) fun x1 =>
  bindP (checksum_Seal8 fuel x1) fun y3 =>
  bindP (app 1 y1 y3) fun x2 =>
  some x2) fun j1 =>
  iteP (!y2) (
  bindP (app 1 ([(IntKind.u8.wrap (2 * a0.From)), (IntKind.u8.wrap (IntKind.i64.wrap ((IntKind.i64.wrap (4 * a0.Sequence)) + a0.FromUnit))), a0.Command]) ([a0.Code])) fun x3 =>
  j1 (x3)) (
  j1 ([(IntKind.u8.wrap (2 * a0.From)), (IntKind.u8.wrap (IntKind.i64.wrap ((IntKind.i64.wrap (4 * a0.Sequence)) + a0.FromUnit))), a0.Command]))
def message_Request (fuel : Nat) (a0 : Message_) : Option ((List Int) × Int) :=
  bindP (message_Valid fuel a0) fun y1 =>
  joinP (fun (s1 : Bool) =>
  iteP s1 (
  some ([], 1)) (
  bindP (message_encode fuel a0) fun y2 =>
  some (y2, 0))) fun j1 =>
  iteP (!y1) (
  j1 (true)) (
  bindP (message_request fuel a0) fun y3 =>
  j1 (!y3))
def exchange_Valid (fuel : Nat) (a0 : Requester_) : Option (Bool) :=
  joinP (fun (s1 : Bool) =>
  iteP s1 (
  some false) (
  loopP (fun k1 (s2 : Int) =>
  iteP (decide (s2 < (a0.Pending.length : Int))) (
  bindP (idx a0.Pending s2) fun x1 =>
  joinP (fun (s3 : Bool) =>
  iteP s3 (
  some false) (
  bindP (message_Request fuel x1.Request) fun y1 =>
  iteP (y1.2 != 0) (
  some false) (
  bindP (sub a0.Pending 0 s2) fun x2 =>
  loopP (fun k2 (s4 : Int) =>
  iteP (decide (s4 < (x2.length : Int))) (
  bindP (idx x2 s4) fun x3 =>
  joinP (fun (s5 : Bool) =>
  iteP s5 (
  some false) (
  k2 ((IntKind.i64.wrap (s4 + 1))))) fun j3 =>
  iteP (x3.Request.To == x1.Request.To) (
  j3 (x3.Request.Sequence == x1.Request.Sequence)) (
  j3 (false))) (
  k1 ((IntKind.i64.wrap (s2 + 1))))) fuel (0)))) fun j2 =>
  iteP (decide (x1.Tries < 1)) (
  j2 (true)) (
  iteP (decide (x1.Tries > 3)) (
  j2 (true)) (
  iteP (decide (x1.Deadline < 0)) (
  j2 (true)) (
  j2 (x1.Request.From != a0.Own))))) (
  some true)) fuel (0))) fun j1 =>
  iteP (decide (a0.Own < 8)) (
  j1 (true)) (
  iteP (decide (a0.Own > 119)) (
  j1 (true)) (
  iteP (decide (a0.Next < 0)) (
  j1 (true)) (
  iteP (decide (a0.Next ≥ 64)) (
  j1 (true)) (
  j1 (decide ((a0.Pending.length : Int) > 8))))))
def exchange_copied (fuel : Nat) (a0 : Message_) : Option (Message_) :=
  bindP (app 1 ([]) a0.Data) fun x1 =>
  some ({ a0 with Data := x1 })
def exchange_clone (fuel : Nat) (a0 : Requester_) : Option (Requester_) :=
  bindP (mk 80 Pending_.z 0) fun x1 =>
  bindP (chk (decide (0 ≤ (IntKind.i64.wrap ((a0.Pending.length : Int) + 1))))) fun _ =>
  bindP (chk (decide (((IntKind.i64.wrap ((a0.Pending.length : Int) + 1))).toNat * 80 ≤ 140737488355328))) fun _ =>
  loopP (fun k1 (s1 : (Int × (List Pending_))) =>
  iteP (decide (s1.1 < (a0.Pending.length : Int))) (
  bindP (idx a0.Pending s1.1) fun x2 =>
  bindP (exchange_copied fuel x2.Request) fun y1 =>
  letP ({ x2 with Request := y1 }) fun d1 =>
  bindP (app 80 s1.2 ([d1])) fun x3 =>
  k1 ((IntKind.i64.wrap (s1.1 + 1)), x3)) (
  some ({ a0 with Pending := s1.2 }))) fuel (0, x1)
def exchange_Send (fuel : Nat) (a0 : Requester_) (a1 : Int) (a2 : Int) (a3 : Int) (a4 : List Int) (a5 : Int) : Option (Requester_ × (List Int) × Int) :=
  bindP (exchange_Valid fuel a0) fun y1 =>
  letP (!y1) fun x1 =>
  iteP x1 (
  some (Requester_.z, [], 1)) (
  joinP (fun (s1 : Bool) =>
  iteP s1 (
  some (Requester_.z, [], 2)) (
  letP ((a0.Pending.length : Int) == 8) fun x2 =>
  iteP x2 (
  some (Requester_.z, [], 9)) (
  letP (IntKind.i64.wrap (a0.Next - 1)) fun x3 =>
  loopP (fun k1 (s2 : Int) =>
  letP (Int.tmod (IntKind.i64.wrap (s2 + 1)) 64) fun x4 =>
  loopP (fun k2 (s3 : Int) =>
  iteP (decide (s3 < (a0.Pending.length : Int))) (
  bindP (idx a0.Pending s3) fun x5 =>
  joinP (fun (s4 : Bool) =>
  iteP s4 (
  k1 (x4)) (
  k2 ((IntKind.i64.wrap (s3 + 1))))) fun j2 =>
  iteP (x5.Request.To == a1) (
  j2 (x5.Request.Sequence == x4)) (
  j2 (false))) (
  bindP (exchange_copied fuel (⟨a1, a0.Own, a2, a3, 0, 0, x4, 0, a4⟩ : Message_)) fun y2 =>
  bindP (message_Request fuel y2) fun y3 =>
  iteP (y3.2 != 0) (
  some (Requester_.z, [], y3.2)) (
  bindP (exchange_clone fuel a0) fun y4 =>
  bindP (app 80 y4.Pending ([(⟨y2, (IntKind.i64.wrap (a5 + 10)), 1⟩ : Pending_)])) fun x6 =>
  letP ({ y4 with Next := (Int.tmod (IntKind.i64.wrap (x4 + 1)) 64) }) fun d1 =>
  some ({ d1 with Pending := x6 }, y3.1, 0)))) fuel (0)) fuel (x3)))) fun j1 =>
  iteP (decide (a5 < 0)) (
  j1 (true)) (
  letP (decide (a5 > 17179869184)) fun x7 =>
  j1 (x7)))
def exchange_Tick (fuel : Nat) (a0 : Requester_) (a1 : Int) : Option (Requester_ × (List (List Int)) × (List Message_)) :=
  bindP (exchange_clone fuel a0) fun y1 =>
  bindP (exchange_Valid fuel a0) fun y2 =>
  joinP (fun (s1 : Bool) =>
  iteP s1 (
  some ({ y1 with Pending := y1.Pending }, [], [])) (
  loopP (fun k1 (s2 : (Nat × Int × (List (List Int)) × (List Message_) × (List Pending_))) =>
  iteP (decide (s2.2.1 < (y1.Pending.length : Int))) (
  bindP (idx s2.2.2.2.2 s2.2.1) fun x1 =>
  iteP (decide (x1.Deadline > a1)) (
  bindP (chk (decide (s2.1 + ([x1]).length ≤ s2.2.2.2.2.length))) fun _ =>
  letP (lay s2.2.2.2.2 s2.1 ([x1])) fun d1 =>
  k1 ((s2.1 + ([x1]).length), (IntKind.i64.wrap (s2.2.1 + 1)), s2.2.2.1, s2.2.2.2.1, d1)) (
  iteP (x1.Tries == 3) (
  bindP (app 64 s2.2.2.2.1 ([x1.Request])) fun x2 =>
  k1 (s2.1, (IntKind.i64.wrap (s2.2.1 + 1)), s2.2.2.1, x2, s2.2.2.2.2)) (
  bindP (message_Request fuel x1.Request) fun y3 =>
  bindP (app 24 s2.2.2.1 ([y3.1])) fun x3 =>
  bindP (chk (decide (0 ≤ x1.Tries))) fun _ =>
  letP ({ x1 with Deadline := (IntKind.i64.wrap (a1 + (bShl .i64 10 x1.Tries))) }) fun d2 =>
  letP ({ d2 with Tries := (IntKind.i64.wrap (d2.Tries + 1)) }) fun d3 =>
  bindP (chk (decide (s2.1 + ([d3]).length ≤ s2.2.2.2.2.length))) fun _ =>
  letP (lay s2.2.2.2.2 s2.1 ([d3])) fun d4 =>
  k1 ((s2.1 + ([d3]).length), (IntKind.i64.wrap (s2.2.1 + 1)), x3, s2.2.2.2.1, d4)))) (
  bindP (chk (decide (s2.1 ≤ s2.2.2.2.2.length))) fun _ =>
  some ({ y1 with Pending := (s2.2.2.2.2.take s2.1) }, s2.2.2.1, s2.2.2.2.1))) fuel (0, 0, [], [], y1.Pending))) fun j1 =>
  iteP (!y2) (
  j1 (true)) (
  iteP (decide (a1 < 0)) (
  j1 (true)) (
  j1 (decide (a1 > 17179869184))))
def law24_awake (fuel : Nat)  : Option (Bool) :=
  bindP (exchange_New fuel 16) fun y1 =>
  bindP (exchange_Send fuel y1.1 32 6 1 ([]) 0) fun y2 =>
  loopP (fun k1 (s1 : (Int × Int × Requester_)) =>
  iteP (decide (s1.2.1 < 80)) (
  bindP (exchange_Tick fuel s1.2.2 s1.2.1) fun y3 =>
  letP (IntKind.i64.wrap (s1.1 + (y3.2.1.length : Int))) fun x1 =>
  joinP (fun (s2 : Bool) =>
  iteP s2 (
  some false) (
  letP (IntKind.i64.wrap (s1.2.1 + 1)) fun x2 =>
  k1 (x1, x2, y3.1))) fun j1 =>
  iteP (decide ((y3.2.1.length : Int) > 0)) (
  iteP (s1.2.1 != 10) (
  iteP (s1.2.1 != 30) (
  j1 (true)) (
  iteP (decide ((y3.2.2.length : Int) > 0)) (
  j1 (s1.2.1 != 70)) (
  j1 (false)))) (
  iteP (decide ((y3.2.2.length : Int) > 0)) (
  j1 (s1.2.1 != 70)) (
  j1 (false)))) (
  iteP (decide ((y3.2.2.length : Int) > 0)) (
  j1 (s1.2.1 != 70)) (
  j1 (false)))) (
  iteP (y1.2 == 0) (
  iteP (y2.2.2 == 0) (
  iteP ((y2.2.1.length : Int) == 7) (
  iteP (s1.1 == 2) (
  letP ((s1.2.2.Pending.length : Int) == 0) fun x3 =>
  some x3) (
  some false)) (
  some false)) (
  some false)) (
  some false))) fuel (0, 0, y2.1)
def law24_ExchangeTimes (fuel : Nat) (a0 : Int) (a1 : List Int) : Option (Bool) :=
  bindP (law24_awake fuel) fun y1 =>
  iteP (!y1) (
  some false) (
  iteP (decide ((a1.length : Int) > 50)) (
  some true) (
  bindP (exchange_New fuel 32) fun y2 =>
  bindP (exchange_Send fuel y2.1 64 6 1 a1 (IntKind.i64.wrap a0)) fun y3 =>
  joinP (fun (s1 : Bool) =>
  iteP s1 (
  some false) (
  loopP (fun k1 (s2 : (Int × Requester_ × (List Int))) =>
  iteP (decide (s2.1 < (IntKind.i64.wrap ((IntKind.i64.wrap a0) + 100)))) (
  bindP (exchange_Tick fuel s2.2.1 s2.1) fun y4 =>
  loopP (fun k2 (s3 : (Int × (List Int))) =>
  iteP (decide (s3.1 < (y4.2.1.length : Int))) (
  bindP (idx y4.2.1 s3.1) fun x1 =>
  iteP ((toStr x1) != (toStr y3.2.1)) (
  some false) (
  bindP (app 8 s3.2 ([(IntKind.i64.wrap (s2.1 - (IntKind.i64.wrap a0)))])) fun x2 =>
  k2 ((IntKind.i64.wrap (s3.1 + 1)), x2))) (
  iteP (decide ((y4.2.2.length : Int) > 0)) (
  iteP ((s3.2.length : Int) == 2) (
  bindP (idx s3.2 0) fun x3 =>
  iteP (x3 == 10) (
  bindP (idx s3.2 1) fun x4 =>
  iteP (x4 == 30) (
  letP ((IntKind.i64.wrap (s2.1 - (IntKind.i64.wrap a0))) == 70) fun x5 =>
  some x5) (
  some false)) (
  some false)) (
  some false)) (
  letP (IntKind.i64.wrap (s2.1 + 1)) fun x6 =>
  k1 (x6, y4.1, s3.2)))) fuel (0, s2.2.2)) (
  some false)) fuel ((IntKind.i64.wrap a0), y3.1, []))) fun j1 =>
  iteP (y2.2 != 0) (
  j1 (true)) (
  j1 (y3.2.2 != 0))))
def field_New (fuel : Nat) (a0 : List Int) (a1 : Int) : Option (field_Codes) :=
  bindP (sub a0 0 (min (a0.length : Int) a1)) fun x1 =>
  some (⟨x1, 0⟩ : field_Codes)
def ref24_New (fuel : Nat) (a0 : Int) : Option (Requester_ × Int) :=
  joinP (fun (s1 : Bool) =>
  iteP s1 (
  some (Requester_.z, 13)) (
  some ((⟨a0, 0, []⟩ : Requester_), 0))) fun j1 =>
  iteP (decide (a0 < 8)) (
  j1 (true)) (
  j1 (decide (a0 > 119)))
def field_Codes_Left (fuel : Nat) (a0 : field_Codes) : Option (Bool) :=
  letP (decide (a0.At < (a0.L.length : Int))) fun x1 =>
  some x1
def field_Codes_Next (fuel : Nat) (a0 : field_Codes) (a1 : Int) : Option (Int × field_Codes) :=
  bindP (field_Codes_Left fuel a0) fun y1 =>
  joinP (fun (s1 : Bool) =>
  iteP s1 (
  some (0, a0)) (
  bindP (idx a0.L a0.At) fun x1 =>
  letP ({ a0 with At := (IntKind.i64.wrap (a0.At + 1)) }) fun d1 =>
  joinP (fun (s2 : Bool) =>
  iteP s2 (
  bindP (idx d1.L d1.At) fun x2 =>
  letP (bOr .i64 (IntKind.i64.wrap x1) (bShl .i64 (IntKind.i64.wrap x2) 8)) fun x3 =>
  letP ({ d1 with At := (IntKind.i64.wrap (d1.At + 1)) }) fun d2 =>
  bindP (chk (decide (a1 ≠ 0))) fun _ =>
  some ((Int.tmod x3 a1), d2)) (
  bindP (chk (decide (a1 ≠ 0))) fun _ =>
  letP (Int.tmod (IntKind.i64.wrap x1) a1) fun x4 =>
  some (x4, d1))) fun j2 =>
  iteP (decide (a1 > 256)) (
  bindP (field_Codes_Left fuel d1) fun y2 =>
  j2 (y2)) (
  j2 (false)))) fun j1 =>
  iteP (!y1) (
  j1 (true)) (
  j1 (decide (a1 < 1)))
def field_Codes_Bytes (fuel : Nat) (a0 : field_Codes) (a1 : Int) : Option ((List Int) × field_Codes) :=
  bindP (field_Codes_Next fuel a0 (IntKind.i64.wrap (a1 + 1))) fun y1 =>
  loopP (fun k1 (s1 : (Int × field_Codes × (List Int))) =>
  iteP (decide (s1.1 > 0)) (
  bindP (field_Codes_Next fuel s1.2.1 256) fun y2 =>
  bindP (app 1 s1.2.2 ([(IntKind.u8.wrap y2.1)])) fun x1 =>
  letP (IntKind.i64.wrap (s1.1 - 1)) fun x2 =>
  k1 (x2, y2.2, x1)) (
  some (s1.2.2, s1.2.1))) fuel (y1.1, y1.2, [])
def ref20_Address (fuel : Nat) (a0 : Int) : Option (Bool) :=
  iteP (decide (a0 ≥ 8)) (
  letP (decide (a0 ≤ 119)) fun x1 =>
  some x1) (
  some false)
def ref23_Valid (fuel : Nat) (a0 : Message_) : Option (Bool) :=
  bindP (ref20_Address fuel a0.To) fun y1 =>
  iteP y1 (
  bindP (ref20_Address fuel a0.From) fun y2 =>
  iteP y2 (
  iteP (decide (a0.Function ≤ 63)) (
  iteP (decide (a0.ToUnit ≥ 0)) (
  iteP (decide (a0.ToUnit ≤ 3)) (
  iteP (decide (a0.FromUnit ≥ 0)) (
  iteP (decide (a0.FromUnit ≤ 3)) (
  iteP (decide (a0.Sequence ≥ 0)) (
  iteP (decide (a0.Sequence ≤ 63)) (
  iteP (decide ((a0.Data.length : Int) ≤ 240)) (
  iteP ((Int.tmod a0.Function 2) == 1) (
  some true) (
  letP (a0.Code == 0) fun x1 =>
  some x1)) (
  some false)) (
  some false)) (
  some false)) (
  some false)) (
  some false)) (
  some false)) (
  some false)) (
  some false)) (
  some false)) (
  some false)
def ref01_Copy (fuel : Nat) (a0 : List Int) : Option ((List Int)) :=
  loopP (fun k1 (s1 : (Int × (List Int))) =>
  iteP (decide (s1.1 < (a0.length : Int))) (
  bindP (idx a0 s1.1) fun x1 =>
  bindP (app 1 s1.2 ([x1])) fun x2 =>
  letP (IntKind.i64.wrap (s1.1 + 1)) fun x3 =>
  k1 (x3, x2)) (
  some s1.2)) fuel (0, [])
def ref01_Sum8 (fuel : Nat) (a0 : List Int) : Option (Int) :=
  loopP (fun k1 (s1 : (Int × Int)) =>
  iteP (decide (s1.2 < (a0.length : Int))) (
  bindP (idx a0 s1.2) fun x1 =>
  letP (Int.tmod (IntKind.i64.wrap (s1.1 + (IntKind.i64.wrap x1))) 256) fun x2 =>
  letP (IntKind.i64.wrap (s1.2 + 1)) fun x3 =>
  k1 (x2, x3)) (
  letP (IntKind.u8.wrap (Int.tmod (IntKind.i64.wrap (256 - s1.1)) 256)) fun x4 =>
  some x4)) fuel (0, 0)
def ref01_Seal8 (fuel : Nat) (a0 : List Int) : Option ((List Int)) :=
  bindP (ref01_Copy fuel a0) fun y1 =>
  bindP (ref01_Sum8 fuel a0) fun y2 =>
  bindP (app 1 y1 ([y2])) fun x1 =>
  some x1
def ref23_encode (fuel : Nat) (a0 : Message_) : Option ((List Int)) :=
  bindP (ref01_Seal8 fuel ([(IntKind.u8.wrap (2 * a0.To)), (IntKind.u8.wrap ((IntKind.u8.wrap (4 * a0.Function)) + (IntKind.u8.wrap a0.ToUnit)))])) fun y1 =>
  joinP (fun (s1 : ((List Int))) =>
  bindP (app 1 s1 a0.Data) fun x1 =>
  bindP (ref01_Seal8 fuel x1) fun y2 =>
  bindP (app 1 y1 y2) fun x2 =>
  some x2) fun j1 =>
  iteP ((Int.tmod a0.Function 2) == 1) (
  bindP (app 1 ([(IntKind.u8.wrap (2 * a0.From)), (IntKind.u8.wrap (IntKind.i64.wrap ((IntKind.i64.wrap (4 * a0.Sequence)) + a0.FromUnit))), a0.Command]) ([a0.Code])) fun x3 =>
  j1 (x3)) (
  j1 ([(IntKind.u8.wrap (2 * a0.From)), (IntKind.u8.wrap (IntKind.i64.wrap ((IntKind.i64.wrap (4 * a0.Sequence)) + a0.FromUnit))), a0.Command]))
def ref23_Request (fuel : Nat) (a0 : Message_) : Option ((List Int) × Int) :=
  bindP (ref23_Valid fuel a0) fun y1 =>
  joinP (fun (s1 : Bool) =>
  iteP s1 (
  some ([], 1)) (
  bindP (ref23_encode fuel a0) fun y2 =>
  some (y2, 0))) fun j1 =>
  iteP (!y1) (
  j1 (true)) (
  j1 ((Int.tmod a0.Function 2) != 0))
def ref24_Valid (fuel : Nat) (a0 : Requester_) : Option (Bool) :=
  joinP (fun (s1 : Bool) =>
  iteP s1 (
  some false) (
  loopP (fun k1 (s2 : Int) =>
  iteP (decide (s2 < (a0.Pending.length : Int))) (
  bindP (idx a0.Pending s2) fun x1 =>
  bindP (ref23_Request fuel x1.Request) fun y1 =>
  joinP (fun (s3 : Bool) =>
  iteP s3 (
  some false) (
  loopP (fun k2 (s4 : Int) =>
  iteP (decide (s4 < s2)) (
  joinP (fun (s5 : Bool) =>
  iteP s5 (
  some false) (
  letP (IntKind.i64.wrap (s4 + 1)) fun x2 =>
  k2 (x2))) fun j3 =>
  bindP (idx a0.Pending s4) fun x3 =>
  letP (x3.Request.To == x1.Request.To) fun x4 =>
  iteP x4 (
  bindP (idx a0.Pending s4) fun x5 =>
  j3 (x5.Request.Sequence == x1.Request.Sequence)) (
  j3 (false))) (
  letP (IntKind.i64.wrap (s2 + 1)) fun x6 =>
  k1 (x6))) fuel (0))) fun j2 =>
  iteP (y1.2 != 0) (
  j2 (true)) (
  iteP (decide (x1.Tries < 1)) (
  j2 (true)) (
  iteP (decide (x1.Tries > 3)) (
  j2 (true)) (
  iteP (decide (x1.Deadline < 0)) (
  j2 (true)) (
  j2 (x1.Request.From != a0.Own)))))) (
  some true)) fuel (0))) fun j1 =>
  iteP (decide (a0.Own < 8)) (
  j1 (true)) (
  iteP (decide (a0.Own > 119)) (
  j1 (true)) (
  iteP (decide (a0.Next < 0)) (
  j1 (true)) (
  iteP (decide (a0.Next > 63)) (
  j1 (true)) (
  j1 (decide ((a0.Pending.length : Int) > 8))))))
def ref24_Time (fuel : Nat) (a0 : Int) : Option (Bool) :=
  iteP (decide (a0 ≥ 0)) (
  letP (decide (a0 ≤ 17179869184)) fun x1 =>
  some x1) (
  some false)
def ref24_used (fuel : Nat) (a0 : Requester_) (a1 : Int) (a2 : Int) : Option (Bool) :=
  loopP (fun k1 (s1 : Int) =>
  iteP (decide (s1 < (a0.Pending.length : Int))) (
  bindP (idx a0.Pending s1) fun x1 =>
  joinP (fun (s2 : Bool) =>
  iteP s2 (
  some true) (
  letP (IntKind.i64.wrap (s1 + 1)) fun x2 =>
  k1 (x2))) fun j1 =>
  iteP (x1.Request.To == a1) (
  bindP (idx a0.Pending s1) fun x3 =>
  j1 (x3.Request.Sequence == a2)) (
  j1 (false))) (
  some false)) fuel (0)
def ref24_Copy (fuel : Nat) (a0 : Requester_) : Option (Requester_) :=
  loopP (fun k1 (s1 : (Int × (List Pending_))) =>
  iteP (decide (s1.1 < (a0.Pending.length : Int))) (
  bindP (idx a0.Pending s1.1) fun x1 =>
  bindP (app 1 ([]) x1.Request.Data) fun x2 =>
  bindP (app 80 s1.2 ([{ x1 with Request := { x1.Request with Data := x2 } }])) fun x3 =>
  letP (IntKind.i64.wrap (s1.1 + 1)) fun x4 =>
  k1 (x4, x3)) (
  some ({ (⟨a0.Own, a0.Next, []⟩ : Requester_) with Pending := s1.2 }))) fuel (0, [])
def ref24_Send (fuel : Nat) (a0 : Requester_) (a1 : Int) (a2 : Int) (a3 : Int) (a4 : List Int) (a5 : Int) : Option (Requester_ × (List Int) × Int) :=
  bindP (ref24_Valid fuel a0) fun y1 =>
  letP (!y1) fun x1 =>
  iteP x1 (
  some (Requester_.z, [], 1)) (
  bindP (ref24_Time fuel a5) fun y2 =>
  letP (!y2) fun x2 =>
  iteP x2 (
  some (Requester_.z, [], 2)) (
  letP (decide ((a0.Pending.length : Int) ≥ 8)) fun x3 =>
  iteP x3 (
  some (Requester_.z, [], 9)) (
  loopP (fun k1 (s1 : Int) =>
  bindP (ref24_used fuel a0 a1 s1) fun y3 =>
  iteP y3 (
  letP (Int.tmod (IntKind.i64.wrap (s1 + 1)) 64) fun x4 =>
  k1 (x4)) (
  bindP (app 1 ([]) a4) fun x5 =>
  bindP (ref23_Request fuel (⟨a1, a0.Own, a2, a3, 0, 0, s1, 0, x5⟩ : Message_)) fun y4 =>
  iteP (y4.2 != 0) (
  some (Requester_.z, [], y4.2)) (
  bindP (ref24_Copy fuel a0) fun y5 =>
  bindP (app 80 y5.Pending ([(⟨(⟨a1, a0.Own, a2, a3, 0, 0, s1, 0, x5⟩ : Message_), (IntKind.i64.wrap (a5 + 10)), 1⟩ : Pending_)])) fun x6 =>
  letP ({ y5 with Next := (Int.tmod (IntKind.i64.wrap (s1 + 1)) 64) }) fun d1 =>
  some ({ d1 with Pending := x6 }, y4.1, 0)))) fuel (a0.Next))))
def ref24_Tick (fuel : Nat) (a0 : Requester_) (a1 : Int) : Option (Requester_ × (List (List Int)) × (List Message_)) :=
  bindP (ref24_Valid fuel a0) fun y1 =>
  joinP (fun (s1 : Bool) =>
  iteP s1 (
  bindP (ref24_Copy fuel a0) fun y2 =>
  some ({ y2 with Pending := y2.Pending }, [], [])) (
  bindP (ref24_Copy fuel a0) fun y3 =>
  loopP (fun k1 (s2 : ((List Pending_) × Int × (List (List Int)) × (List Message_) × (List Pending_))) =>
  iteP (decide (s2.2.1 < (y3.Pending.length : Int))) (
  bindP (idx s2.1 s2.2.1) fun x1 =>
  iteP (decide (x1.Deadline > a1)) (
  bindP (app 80 s2.2.2.2.2 ([x1])) fun x2 =>
  k1 (s2.1, (IntKind.i64.wrap (s2.2.1 + 1)), s2.2.2.1, s2.2.2.2.1, x2)) (
  iteP (x1.Tries == 3) (
  bindP (app 64 s2.2.2.2.1 ([x1.Request])) fun x3 =>
  k1 (s2.1, (IntKind.i64.wrap (s2.2.1 + 1)), s2.2.2.1, x3, s2.2.2.2.2)) (
  bindP (ref23_Request fuel x1.Request) fun y4 =>
  bindP (app 24 s2.2.2.1 ([y4.1])) fun x4 =>
  bindP (chk (decide (0 ≤ (IntKind.u64.wrap x1.Tries)))) fun _ =>
  letP ({ x1 with Deadline := (IntKind.i64.wrap (a1 + (bShl .i64 10 (IntKind.u64.wrap x1.Tries)))) }) fun d1 =>
  letP ({ d1 with Tries := (IntKind.i64.wrap (d1.Tries + 1)) }) fun d2 =>
  bindP (app 80 s2.2.2.2.2 ([d2])) fun x5 =>
  k1 (s2.1, (IntKind.i64.wrap (s2.2.1 + 1)), x4, s2.2.2.2.1, x5)))) (
  some ({ (⟨a0.Own, a0.Next, []⟩ : Requester_) with Pending := s2.2.2.2.2 }, s2.2.2.1, s2.2.2.2.1))) fuel (y3.Pending, 0, [], [], []))) fun j1 =>
  iteP (!y1) (
  j1 (true)) (
  bindP (ref24_Time fuel a1) fun y5 =>
  j1 (!y5))
def ref23_Reply (fuel : Nat) (a0 : Message_) (a1 : Int) (a2 : List Int) : Option (Message_ × Int) :=
  bindP (ref23_Valid fuel a0) fun y1 =>
  joinP (fun (s1 : Bool) =>
  iteP s1 (
  some (Message_.z, 1)) (
  bindP (ref01_Copy fuel a2) fun y2 =>
  some ((⟨a0.From, a0.To, (IntKind.u8.wrap (a0.Function + 1)), a0.Command, a0.FromUnit, a0.ToUnit, a0.Sequence, a1, y2⟩ : Message_), 0))) fun j1 =>
  iteP (!y1) (
  j1 (true)) (
  iteP ((Int.tmod a0.Function 2) != 0) (
  j1 (true)) (
  j1 (decide ((a2.length : Int) > 240))))
def ref23_Response (fuel : Nat) (a0 : Message_) : Option ((List Int) × Int) :=
  bindP (ref23_Valid fuel a0) fun y1 =>
  joinP (fun (s1 : Bool) =>
  iteP s1 (
  some ([], 1)) (
  bindP (ref23_encode fuel a0) fun y2 =>
  some (y2, 0))) fun j1 =>
  iteP (!y1) (
  j1 (true)) (
  j1 ((Int.tmod a0.Function 2) != 1))
def ref23_parse (fuel : Nat) (a0 : List Int) (a1 : Int) : Option (Message_ × Int) :=
  iteP (decide ((a0.length : Int) < (IntKind.i64.wrap (7 + a1)))) (
  some (Message_.z, 4)) (
  bindP (sub a0 0 3) fun x1 =>
  bindP (ref01_Sum8 fuel x1) fun y1 =>
  joinP (fun (s1 : Bool) =>
  iteP s1 (
  some (Message_.z, 5)) (
  bindP (idx a0 0) fun x2 =>
  bindP (idx a0 3) fun x3 =>
  bindP (idx a0 1) fun x4 =>
  bindP (idx a0 5) fun x5 =>
  bindP (idx a0 1) fun x6 =>
  bindP (idx a0 4) fun x7 =>
  bindP (idx a0 4) fun x8 =>
  bindP (idx a0 0) fun x9 =>
  joinP (fun (s2 : Bool) =>
  iteP s2 (
  some (Message_.z, 6)) (
  bindP (ref20_Address fuel ((⟨(IntKind.u8.wrap (Int.tdiv x2 2)), (IntKind.u8.wrap (Int.tdiv x3 2)), (IntKind.u8.wrap (Int.tdiv x4 4)), x5, (Int.tmod (IntKind.i64.wrap x6) 4), (Int.tmod (IntKind.i64.wrap x7) 4), (IntKind.i64.wrap (Int.tdiv (IntKind.i64.wrap x8) 4)), 0, []⟩ : Message_).To)) fun y2 =>
  joinP (fun (s3 : Bool) =>
  iteP s3 (
  some (Message_.z, 13)) (
  joinP (fun (s4 : Message_) =>
  bindP (sub a0 (IntKind.i64.wrap (6 + a1)) (IntKind.i64.wrap ((a0.length : Int) - 1))) fun x10 =>
  bindP (ref01_Copy fuel x10) fun y3 =>
  iteP (decide ((y3.length : Int) > 240)) (
  some (Message_.z, 3)) (
  some ({ s4 with Data := y3 }, 0))) fun j4 =>
  iteP (a1 == 1) (
  bindP (idx a0 6) fun x11 =>
  letP ({ (⟨(IntKind.u8.wrap (Int.tdiv x2 2)), (IntKind.u8.wrap (Int.tdiv x3 2)), (IntKind.u8.wrap (Int.tdiv x4 4)), x5, (Int.tmod (IntKind.i64.wrap x6) 4), (Int.tmod (IntKind.i64.wrap x7) 4), (IntKind.i64.wrap (Int.tdiv (IntKind.i64.wrap x8) 4)), 0, []⟩ : Message_) with Code := x11 }) fun d1 =>
  j4 (d1)) (
  j4 ((⟨(IntKind.u8.wrap (Int.tdiv x2 2)), (IntKind.u8.wrap (Int.tdiv x3 2)), (IntKind.u8.wrap (Int.tdiv x4 4)), x5, (Int.tmod (IntKind.i64.wrap x6) 4), (Int.tmod (IntKind.i64.wrap x7) 4), (IntKind.i64.wrap (Int.tdiv (IntKind.i64.wrap x8) 4)), 0, []⟩ : Message_))))) fun j3 =>
  iteP (!y2) (
  j3 (true)) (
  bindP (ref20_Address fuel ((⟨(IntKind.u8.wrap (Int.tdiv x2 2)), (IntKind.u8.wrap (Int.tdiv x3 2)), (IntKind.u8.wrap (Int.tdiv x4 4)), x5, (Int.tmod (IntKind.i64.wrap x6) 4), (Int.tmod (IntKind.i64.wrap x7) 4), (IntKind.i64.wrap (Int.tdiv (IntKind.i64.wrap x8) 4)), 0, []⟩ : Message_).From)) fun y4 =>
  j3 (!y4)))) fun j2 =>
  iteP ((Int.tmod x9 2) != 0) (
  j2 (true)) (
  bindP (idx a0 3) fun x12 =>
  iteP ((Int.tmod x12 2) != 0) (
  j2 (true)) (
  j2 ((Int.tmod (IntKind.i64.wrap ((⟨(IntKind.u8.wrap (Int.tdiv x2 2)), (IntKind.u8.wrap (Int.tdiv x3 2)), (IntKind.u8.wrap (Int.tdiv x4 4)), x5, (Int.tmod (IntKind.i64.wrap x6) 4), (Int.tmod (IntKind.i64.wrap x7) 4), (IntKind.i64.wrap (Int.tdiv (IntKind.i64.wrap x8) 4)), 0, []⟩ : Message_).Function)) 2) != a1))))) fun j1 =>
  iteP (y1 != 0) (
  j1 (true)) (
  bindP (sub a0 3 a0.length) fun x13 =>
  bindP (ref01_Sum8 fuel x13) fun y5 =>
  j1 (y5 != 0)))
def ref23_ParseResponse (fuel : Nat) (a0 : List Int) : Option (Message_ × Int) :=
  bindP (ref23_parse fuel a0 1) fun y1 =>
  some (y1.1, y1.2)
def ref01_Same (fuel : Nat) (a0 : List Int) (a1 : List Int) : Option (Bool) :=
  iteP ((a0.length : Int) != (a1.length : Int)) (
  some false) (
  loopP (fun k1 (s1 : Int) =>
  iteP (decide (s1 < (a0.length : Int))) (
  bindP (idx a0 s1) fun x1 =>
  bindP (idx a1 s1) fun x2 =>
  iteP (x1 != x2) (
  some false) (
  letP (IntKind.i64.wrap (s1 + 1)) fun x3 =>
  k1 (x3))) (
  some true)) fuel (0))
def ref23_Same (fuel : Nat) (a0 : Message_) (a1 : Message_) : Option (Bool) :=
  iteP (a0.To == a1.To) (
  iteP (a0.From == a1.From) (
  iteP (a0.Function == a1.Function) (
  iteP (a0.Command == a1.Command) (
  iteP (a0.ToUnit == a1.ToUnit) (
  iteP (a0.FromUnit == a1.FromUnit) (
  iteP (a0.Sequence == a1.Sequence) (
  iteP (a0.Code == a1.Code) (
  bindP (ref01_Same fuel a0.Data a1.Data) fun y1 =>
  some y1) (
  some false)) (
  some false)) (
  some false)) (
  some false)) (
  some false)) (
  some false)) (
  some false)) (
  some false)
def ref23_Matches (fuel : Nat) (a0 : Message_) (a1 : Message_) : Option (Bool) :=
  bindP (ref23_Valid fuel a1) fun y1 =>
  joinP (fun (s1 : Bool) =>
  iteP s1 (
  some false) (
  bindP (ref23_Reply fuel a0 a1.Code a1.Data) fun y2 =>
  iteP (y2.2 == 0) (
  bindP (ref23_Same fuel y2.1 a1) fun y3 =>
  some y3) (
  some false))) fun j1 =>
  iteP (!y1) (
  j1 (true)) (
  j1 ((Int.tmod a1.Function 2) != 1))
def ref24_Receive (fuel : Nat) (a0 : Requester_) (a1 : List Int) : Option (Requester_ × Message_ × Message_ × Bool) :=
  bindP (ref23_ParseResponse fuel a1) fun y1 =>
  joinP (fun (s1 : Bool) =>
  iteP s1 (
  bindP (ref24_Copy fuel a0) fun y2 =>
  some ({ y2 with Pending := y2.Pending }, Message_.z, Message_.z, false)) (
  bindP (ref24_Copy fuel a0) fun y3 =>
  loopP (fun k1 (s2 : Int) =>
  iteP (decide (s2 < (y3.Pending.length : Int))) (
  bindP (idx y3.Pending s2) fun x1 =>
  bindP (ref23_Matches fuel x1.Request y1.1) fun y4 =>
  iteP y4 (
  bindP (sub (({ y3 with Pending := y3.Pending }).Pending) 0 s2) fun x2 =>
  bindP (sub (({ y3 with Pending := y3.Pending }).Pending) (IntKind.i64.wrap (s2 + 1)) ((({ y3 with Pending := y3.Pending }).Pending).length)) fun x3 =>
  bindP (app 80 x2 x3) fun x4 =>
  letP ({ { y3 with Pending := y3.Pending } with Pending := x4 }) fun d1 =>
  some (d1, x1.Request, y1.1, true)) (
  letP (IntKind.i64.wrap (s2 + 1)) fun x5 =>
  k1 (x5))) (
  some ({ y3 with Pending := y3.Pending }, Message_.z, Message_.z, false))) fuel (0))) fun j1 =>
  iteP (y1.2 != 0) (
  j1 (true)) (
  bindP (ref24_Valid fuel a0) fun y5 =>
  j1 (!y5))
def law24_play (fuel : Nat) (a0 : field_Codes) (a1 : Int) : Option (Requester_ × Int × field_Codes) :=
  bindP (ref24_New fuel 32) fun y1 =>
  bindP (field_Codes_Next fuel a0 (IntKind.i64.wrap (a1 + 1))) fun y2 =>
  loopP (fun k1 (s1 : (Int × Int × field_Codes × Requester_)) =>
  iteP (decide (s1.2.1 > 0)) (
  bindP (field_Codes_Next fuel s1.2.2.1 4) fun y3 =>
  letP (y3.1 == 0) fun x1 =>
  joinP (fun (s2 : Bool) =>
  iteP s2 (
  bindP (field_Codes_Next fuel y3.2 2) fun y4 =>
  bindP (idx ([64, 65]) y4.1) fun x2 =>
  bindP (field_Codes_Next fuel y4.2 3) fun y5 =>
  bindP (field_Codes_Bytes fuel y5.2 2) fun y6 =>
  bindP (ref24_Send fuel s1.2.2.2 x2 6 (IntKind.u8.wrap y5.1) y6.1 s1.1) fun y7 =>
  iteP (y7.2.2 == 0) (
  letP (IntKind.i64.wrap (s1.2.1 - 1)) fun x3 =>
  k1 (s1.1, x3, y6.2, y7.1)) (
  letP (IntKind.i64.wrap (s1.2.1 - 1)) fun x4 =>
  k1 (s1.1, x4, y6.2, s1.2.2.2))) (
  letP (y3.1 == 2) fun x5 =>
  iteP x5 (
  bindP (field_Codes_Next fuel y3.2 30) fun y8 =>
  letP (IntKind.i64.wrap (s1.1 + y8.1)) fun x6 =>
  bindP (ref24_Tick fuel s1.2.2.2 x6) fun y9 =>
  letP (IntKind.i64.wrap (s1.2.1 - 1)) fun x7 =>
  k1 (x6, x7, y8.2, y9.1)) (
  letP (y3.1 == 3) fun x8 =>
  iteP x8 (
  iteP (decide ((s1.2.2.2.Pending.length : Int) > 0)) (
  bindP (field_Codes_Next fuel y3.2 (s1.2.2.2.Pending.length : Int)) fun y10 =>
  bindP (idx s1.2.2.2.Pending y10.1) fun x9 =>
  bindP (ref23_Reply fuel x9.Request 0 ([])) fun y11 =>
  bindP (ref23_Response fuel y11.1) fun y12 =>
  bindP (ref24_Receive fuel s1.2.2.2 y12.1) fun y13 =>
  letP (IntKind.i64.wrap (s1.2.1 - 1)) fun x10 =>
  k1 (s1.1, x10, y10.2, y13.1)) (
  letP (IntKind.i64.wrap (s1.2.1 - 1)) fun x11 =>
  k1 (s1.1, x11, y3.2, s1.2.2.2))) (
  letP (IntKind.i64.wrap (s1.2.1 - 1)) fun x12 =>
  k1 (s1.1, x12, y3.2, s1.2.2.2))))) fun j1 =>
  iteP x1 (
  j1 (x1)) (
  letP (y3.1 == 1) fun x13 =>
  j1 (x13))) (
  some (s1.2.2.2, s1.1, s1.2.2.1))) fuel (0, y2.1, y2.2, y1.1)
def ref24_SameMessage (fuel : Nat) (a0 : Message_) (a1 : Message_) : Option (Bool) :=
  iteP (a0.To == a1.To) (
  iteP (a0.From == a1.From) (
  iteP (a0.Function == a1.Function) (
  iteP (a0.Command == a1.Command) (
  iteP (a0.ToUnit == a1.ToUnit) (
  iteP (a0.FromUnit == a1.FromUnit) (
  iteP (a0.Sequence == a1.Sequence) (
  iteP (a0.Code == a1.Code) (
  letP ((toStr a0.Data) == (toStr a1.Data)) fun x1 =>
  some x1) (
  some false)) (
  some false)) (
  some false)) (
  some false)) (
  some false)) (
  some false)) (
  some false)) (
  some false)
def ref24_Same (fuel : Nat) (a0 : Requester_) (a1 : Requester_) : Option (Bool) :=
  joinP (fun (s1 : Bool) =>
  iteP s1 (
  some false) (
  loopP (fun k1 (s2 : Int) =>
  iteP (decide (s2 < (a0.Pending.length : Int))) (
  joinP (fun (s3 : Bool) =>
  iteP s3 (
  some false) (
  letP (IntKind.i64.wrap (s2 + 1)) fun x1 =>
  k1 (x1))) fun j2 =>
  bindP (idx a0.Pending s2) fun x2 =>
  bindP (idx a1.Pending s2) fun x3 =>
  letP (x2.Deadline != x3.Deadline) fun x4 =>
  iteP x4 (
  j2 (true)) (
  bindP (idx a0.Pending s2) fun x5 =>
  bindP (idx a1.Pending s2) fun x6 =>
  letP (x5.Tries != x6.Tries) fun x7 =>
  iteP x7 (
  j2 (true)) (
  bindP (idx a0.Pending s2) fun x8 =>
  bindP (idx a1.Pending s2) fun x9 =>
  bindP (ref24_SameMessage fuel x8.Request x9.Request) fun y1 =>
  j2 (!y1)))) (
  some true)) fuel (0))) fun j1 =>
  iteP (a0.Own != a1.Own) (
  j1 (true)) (
  iteP (a0.Next != a1.Next) (
  j1 (true)) (
  j1 ((a0.Pending.length : Int) != (a1.Pending.length : Int))))
def law24_odd (fuel : Nat) (a0 : field_Codes) (a1 : Requester_) : Option (Requester_ × field_Codes) :=
  bindP (ref24_Copy fuel a1) fun y1 =>
  bindP (field_Codes_Next fuel a0 6) fun y2 =>
  joinP (fun (s1 : Bool) =>
  joinP (fun (s2 : Int) =>
  letP (s2 == 0) fun x1 =>
  iteP x1 (
  bindP (field_Codes_Next fuel y2.2 3) fun y3 =>
  bindP (idx ([0, 3, 4]) y3.1) fun x2 =>
  bindP (idx y1.Pending 0) fun x3 =>
  letP (upd y1.Pending 0 ({ x3 with Tries := x2 })) fun d1 =>
  some ({ y1 with Pending := d1 }, y3.2)) (
  letP (s2 == 1) fun x4 =>
  iteP x4 (
  bindP (field_Codes_Next fuel y2.2 3) fun y4 =>
  bindP (idx ([(-1), 0, 9223372036854775807]) y4.1) fun x5 =>
  bindP (idx y1.Pending 0) fun x6 =>
  letP (upd y1.Pending 0 ({ x6 with Deadline := x5 })) fun d2 =>
  some ({ y1 with Pending := d2 }, y4.2)) (
  letP (s2 == 2) fun x7 =>
  iteP x7 (
  bindP (idx y1.Pending 0) fun x8 =>
  bindP (idx y1.Pending 0) fun x9 =>
  letP (upd y1.Pending 0 ({ x9 with Request := { x9.Request with From := (IntKind.u8.wrap (x8.Request.From + 1)) } })) fun d3 =>
  some ({ y1 with Pending := d3 }, y2.2)) (
  letP (s2 == 3) fun x10 =>
  iteP x10 (
  bindP (idx y1.Pending 0) fun x11 =>
  bindP (app 80 y1.Pending ([x11])) fun x12 =>
  some ({ y1 with Pending := x12 }, y2.2)) (
  letP (s2 == 4) fun x13 =>
  iteP x13 (
  bindP (field_Codes_Next fuel y2.2 3) fun y5 =>
  bindP (idx ([(-1), 63, 64]) y5.1) fun x14 =>
  letP ({ y1 with Next := x14 }) fun d4 =>
  some ({ d4 with Pending := y1.Pending }, y5.2)) (
  letP (s2 == 5) fun x15 =>
  iteP x15 (
  bindP (field_Codes_Next fuel y2.2 256) fun y6 =>
  letP ({ y1 with Own := (IntKind.u8.wrap y6.1) }) fun d5 =>
  some ({ d5 with Pending := y1.Pending }, y6.2)) (
  some ({ y1 with Pending := y1.Pending }, y2.2)))))))) fun j2 =>
  iteP s1 (
  j2 (4)) (
  j2 (y2.1))) fun j1 =>
  iteP (decide (y2.1 < 4)) (
  j1 ((y1.Pending.length : Int) == 0)) (
  j1 (false))
def field_Codes_Now (fuel : Nat) (a0 : field_Codes) : Option (Int × field_Codes) :=
  bindP (field_Codes_Next fuel a0 12) fun y1 =>
  iteP (y1.1 == 11) (
  bindP (field_Codes_Next fuel y1.2 5) fun y2 =>
  bindP (idx ([0, 17179869184, 17179869183, 17179869185, (-1)]) y2.1) fun x1 =>
  some (x1, y2.2)) (
  bindP (field_Codes_Next fuel y1.2 200) fun y3 =>
  some (y3.1, y3.2))
def ref24_Bytes (fuel : Nat) (a0 : List (List Int)) (a1 : List (List Int)) : Option (Bool) :=
  iteP ((a0.length : Int) != (a1.length : Int)) (
  some false) (
  loopP (fun k1 (s1 : Int) =>
  iteP (decide (s1 < (a0.length : Int))) (
  bindP (idx a0 s1) fun x1 =>
  bindP (idx a1 s1) fun x2 =>
  iteP ((toStr x1) != (toStr x2)) (
  some false) (
  letP (IntKind.i64.wrap (s1 + 1)) fun x3 =>
  k1 (x3))) (
  some true)) fuel (0))
def ref24_SameMessages (fuel : Nat) (a0 : List Message_) (a1 : List Message_) : Option (Bool) :=
  iteP ((a0.length : Int) != (a1.length : Int)) (
  some false) (
  loopP (fun k1 (s1 : Int) =>
  iteP (decide (s1 < (a0.length : Int))) (
  bindP (idx a0 s1) fun x1 =>
  bindP (idx a1 s1) fun x2 =>
  bindP (ref24_SameMessage fuel x1 x2) fun y1 =>
  iteP (!y1) (
  some false) (
  letP (IntKind.i64.wrap (s1 + 1)) fun x3 =>
  k1 (x3))) (
  some true)) fuel (0))
def message_parse (fuel : Nat) (a0 : List Int) (a1 : Int) : Option (Message_ × Int) :=
  bindP (sub a0 0 3) fun x1 =>
  bindP (checksum_Sum8 fuel x1) fun y1 =>
  joinP (fun (s1 : Bool) =>
  iteP s1 (
  some (Message_.z, 5)) (
  bindP (idx a0 0) fun x2 =>
  bindP (idx a0 3) fun x3 =>
  bindP (idx a0 1) fun x4 =>
  bindP (idx a0 5) fun x5 =>
  bindP (idx a0 1) fun x6 =>
  bindP (idx a0 4) fun x7 =>
  bindP (idx a0 4) fun x8 =>
  bindP (sub a0 a1 (IntKind.i64.wrap ((a0.length : Int) - 1))) fun x9 =>
  bindP (slices_Clone_byte_byte fuel x9) fun y2 =>
  joinP (fun (s2 : Message_) =>
  bindP (idx a0 0) fun x10 =>
  joinP (fun (s3 : Bool) =>
  iteP s3 (
  some (Message_.z, 6)) (
  bindP (message_address fuel s2.To) fun y3 =>
  joinP (fun (s4 : Bool) =>
  iteP s4 (
  some (Message_.z, 13)) (
  letP (decide ((s2.Data.length : Int) > 240)) fun x11 =>
  iteP x11 (
  some (Message_.z, 3)) (
  some (s2, 0)))) fun j4 =>
  iteP (!y3) (
  j4 (true)) (
  bindP (message_address fuel s2.From) fun y4 =>
  letP (!y4) fun x12 =>
  j4 (x12)))) fun j3 =>
  iteP ((Int.tmod x10 2) != 0) (
  j3 (true)) (
  bindP (idx a0 3) fun x13 =>
  iteP ((Int.tmod x13 2) != 0) (
  j3 (true)) (
  bindP (message_request fuel s2) fun y5 =>
  letP (y5 != (a1 == 6)) fun x14 =>
  j3 (x14)))) fun j2 =>
  iteP (a1 == 7) (
  bindP (idx a0 (IntKind.i64.wrap (a1 - 1))) fun x15 =>
  letP ({ (⟨(IntKind.u8.wrap (Int.tdiv x2 2)), (IntKind.u8.wrap (Int.tdiv x3 2)), (IntKind.u8.wrap (Int.tdiv x4 4)), x5, (IntKind.i64.wrap (Int.tmod x6 4)), (IntKind.i64.wrap (Int.tmod x7 4)), (IntKind.i64.wrap (IntKind.u8.wrap (Int.tdiv x8 4))), 0, y2⟩ : Message_) with Code := x15 }) fun d1 =>
  j2 (d1)) (
  j2 ((⟨(IntKind.u8.wrap (Int.tdiv x2 2)), (IntKind.u8.wrap (Int.tdiv x3 2)), (IntKind.u8.wrap (Int.tdiv x4 4)), x5, (IntKind.i64.wrap (Int.tmod x6 4)), (IntKind.i64.wrap (Int.tmod x7 4)), (IntKind.i64.wrap (IntKind.u8.wrap (Int.tdiv x8 4))), 0, y2⟩ : Message_))))) fun j1 =>
  iteP (y1 != 0) (
  j1 (true)) (
  bindP (sub a0 3 a0.length) fun x16 =>
  bindP (checksum_Sum8 fuel x16) fun y6 =>
  j1 (y6 != 0))
def message_ParseResponse (fuel : Nat) (a0 : List Int) : Option (Message_ × Int) :=
  iteP (decide ((a0.length : Int) < 8)) (
  some (Message_.z, 4)) (
  bindP (message_parse fuel a0 7) fun y1 =>
  some (y1.1, y1.2))
def message_Reply (fuel : Nat) (a0 : Message_) (a1 : Int) (a2 : List Int) : Option (Message_ × Int) :=
  bindP (message_Valid fuel a0) fun y1 =>
  joinP (fun (s1 : Bool) =>
  iteP s1 (
  some (Message_.z, 1)) (
  bindP (slices_Clone_byte_byte fuel a2) fun y2 =>
  some ((⟨a0.From, a0.To, (IntKind.u8.wrap (a0.Function + 1)), a0.Command, a0.FromUnit, a0.ToUnit, a0.Sequence, a1, y2⟩ : Message_), 0))) fun j1 =>
  iteP (!y1) (
  j1 (true)) (
  bindP (message_request fuel a0) fun y3 =>
  iteP (!y3) (
  j1 (true)) (
  j1 (decide ((a2.length : Int) > 240))))
def message_Matches (fuel : Nat) (a0 : Message_) (a1 : Message_) : Option (Bool) :=
  bindP (message_Reply fuel a0 a1.Code a1.Data) fun y1 =>
  joinP (fun (s1 : Bool) =>
  iteP s1 (
  some false) (
  joinP (fun (s2 : Bool) =>
  iteP s2 (
  iteP (y1.1.ToUnit == a1.ToUnit) (
  iteP (y1.1.FromUnit == a1.FromUnit) (
  letP (y1.1.Sequence == a1.Sequence) fun x1 =>
  some x1) (
  some false)) (
  some false)) (
  some false)) fun j2 =>
  iteP (y1.1.To == a1.To) (
  iteP (y1.1.From == a1.From) (
  iteP (y1.1.Function == a1.Function) (
  letP (y1.1.Command == a1.Command) fun x2 =>
  j2 (x2)) (
  j2 (false))) (
  j2 (false))) (
  j2 (false)))) fun j1 =>
  iteP (y1.2 != 0) (
  j1 (true)) (
  bindP (message_Valid fuel a1) fun y2 =>
  j1 (!y2))
def exchange_Receive (fuel : Nat) (a0 : Requester_) (a1 : List Int) : Option (Requester_ × Message_ × Message_ × Bool) :=
  bindP (exchange_clone fuel a0) fun y1 =>
  bindP (exchange_Valid fuel a0) fun y2 =>
  iteP (!y2) (
  some ({ y1 with Pending := y1.Pending }, Message_.z, Message_.z, false)) (
  bindP (message_ParseResponse fuel a1) fun y3 =>
  iteP (y3.2 != 0) (
  some ({ y1 with Pending := y1.Pending }, Message_.z, Message_.z, false)) (
  loopP (fun k1 (s1 : Int) =>
  iteP (decide (s1 < (y1.Pending.length : Int))) (
  bindP (idx y1.Pending s1) fun x1 =>
  bindP (message_Matches fuel x1.Request y3.1) fun y4 =>
  iteP y4 (
  bindP (sub (({ y1 with Pending := y1.Pending }).Pending) 0 s1) fun x2 =>
  bindP (sub (({ y1 with Pending := y1.Pending }).Pending) (IntKind.i64.wrap (s1 + 1)) ((({ y1 with Pending := y1.Pending }).Pending).length)) fun x3 =>
  bindP (app 80 x2 x3) fun x4 =>
  letP ({ { y1 with Pending := y1.Pending } with Pending := x4 }) fun d1 =>
  some (d1, x1.Request, y3.1, true)) (
  k1 ((IntKind.i64.wrap (s1 + 1))))) (
  some ({ y1 with Pending := y1.Pending }, Message_.z, Message_.z, false))) fuel (0)))
def law24_ExchangeAnswers (fuel : Nat) (a0 : List Int) (a1 : List Int) (a2 : List Int) (a3 : Int) : Option (Bool) :=
  bindP (law24_awake fuel) fun y1 =>
  iteP (!y1) (
  some false) (
  joinP (fun (s1 : Bool) =>
  iteP s1 (
  some true) (
  bindP (field_New fuel a0 160) fun y2 =>
  bindP (law24_play fuel y2 12) fun y3 =>
  bindP (field_Codes_Next fuel y3.2.2 256) fun y4 =>
  bindP (exchange_New fuel (IntKind.u8.wrap y4.1)) fun y5 =>
  bindP (ref24_New fuel (IntKind.u8.wrap y4.1)) fun y6 =>
  joinP (fun (s2 : Bool) =>
  iteP s2 (
  some false) (
  bindP (law24_odd fuel y4.2 y3.1) fun y7 =>
  loopP (fun k1 (s3 : (Int × field_Codes)) =>
  iteP (decide (s3.1 < (([y3.1, y7.1]).length : Int))) (
  bindP (idx ([y3.1, y7.1]) s3.1) fun x1 =>
  bindP (field_Codes_Next fuel s3.2 10) fun y8 =>
  bindP (field_Codes_Next fuel y8.2 8) fun y9 =>
  bindP (field_Codes_Next fuel y9.2 256) fun y10 =>
  bindP (field_Codes_Next fuel y10.2 60) fun y11 =>
  bindP (field_Codes_Now fuel y11.2) fun y12 =>
  bindP (field_Codes_Next fuel y12.2 4) fun y13 =>
  bindP (idx ([y3.2.1, (IntKind.i64.wrap (y3.2.1 + y11.1)), a3, y12.1]) y13.1) fun x2 =>
  bindP (exchange_Valid fuel x1) fun y14 =>
  bindP (ref24_Valid fuel x1) fun y15 =>
  iteP (y14 != y15) (
  some false) (
  bindP (exchange_Send fuel x1 (IntKind.u8.wrap (IntKind.i64.wrap (60 + y8.1))) (IntKind.u8.wrap y9.1) (IntKind.u8.wrap y10.1) a2 x2) fun y16 =>
  bindP (ref24_Send fuel x1 (IntKind.u8.wrap (IntKind.i64.wrap (60 + y8.1))) (IntKind.u8.wrap y9.1) (IntKind.u8.wrap y10.1) a2 x2) fun y17 =>
  joinP (fun (s4 : Bool) =>
  iteP s4 (
  some false) (
  bindP (exchange_Tick fuel x1 x2) fun y18 =>
  bindP (ref24_Tick fuel x1 x2) fun y19 =>
  bindP (ref24_Same fuel y18.1 y19.1) fun y20 =>
  joinP (fun (s5 : Bool) =>
  iteP s5 (
  some false) (
  joinP (fun (s6 : (Bool × field_Codes)) =>
  joinP (fun (s7 : ((List Int) × field_Codes)) =>
  bindP (exchange_Receive fuel x1 s7.1) fun y21 =>
  bindP (ref24_Receive fuel x1 s7.1) fun y22 =>
  joinP (fun (s8 : Bool) =>
  iteP s8 (
  some false) (
  k1 ((IntKind.i64.wrap (s3.1 + 1)), s7.2))) fun j7 =>
  iteP (y21.2.2.2 != y22.2.2.2) (
  j7 (true)) (
  bindP (ref24_Same fuel y21.1 y22.1) fun y23 =>
  iteP (!y23) (
  j7 (true)) (
  bindP (ref24_SameMessage fuel y21.2.1 y22.2.1) fun y24 =>
  iteP (!y24) (
  j7 (true)) (
  bindP (ref24_SameMessage fuel y21.2.2.1 y22.2.2.1) fun y25 =>
  j7 (!y25))))) fun j6 =>
  iteP s6.1 (
  bindP (field_Codes_Next fuel s6.2 (x1.Pending.length : Int)) fun y26 =>
  bindP (idx x1.Pending y26.1) fun x3 =>
  bindP (field_Codes_Next fuel y26.2 3) fun y27 =>
  bindP (field_Codes_Bytes fuel y27.2 2) fun y28 =>
  bindP (ref23_Reply fuel x3.Request (IntKind.u8.wrap y27.1) y28.1) fun y29 =>
  bindP (field_Codes_Next fuel y28.2 5) fun y30 =>
  letP ({ y29.1 with Sequence := (Int.tmod (IntKind.i64.wrap (y29.1.Sequence + (IntKind.i64.wrap (Int.tdiv y30.1 4)))) 64) }) fun d1 =>
  bindP (ref23_Response fuel d1) fun y31 =>
  j6 (y31.1, y30.2)) (
  j6 (a1, s6.2))) fun j5 =>
  iteP (decide ((x1.Pending.length : Int) > 0)) (
  bindP (field_Codes_Next fuel y13.2 4) fun y32 =>
  j5 (decide (y32.1 > 0), y32.2)) (
  j5 (false, y13.2)))) fun j4 =>
  iteP (!y20) (
  j4 (true)) (
  bindP (ref24_Bytes fuel y18.2.1 y19.2.1) fun y33 =>
  iteP (!y33) (
  j4 (true)) (
  bindP (ref24_SameMessages fuel y18.2.2 y19.2.2) fun y34 =>
  j4 (!y34))))) fun j3 =>
  iteP (y16.2.2 != y17.2.2) (
  j3 (true)) (
  iteP ((toStr y16.2.1) != (toStr y17.2.1)) (
  j3 (true)) (
  bindP (ref24_Same fuel y16.1 y17.1) fun y35 =>
  j3 (!y35))))) (
  some true)) fuel (0, y7.2))) fun j2 =>
  iteP (y5.2 != y6.2) (
  j2 (true)) (
  bindP (ref24_Same fuel y5.1 y6.1) fun y36 =>
  j2 (!y36)))) fun j1 =>
  iteP (decide ((a1.length : Int) > 300)) (
  j1 (true)) (
  j1 (decide ((a2.length : Int) > 300))))
def message_Response (fuel : Nat) (a0 : Message_) : Option ((List Int) × Int) :=
  bindP (message_Valid fuel a0) fun y1 =>
  joinP (fun (s1 : Bool) =>
  iteP s1 (
  some ([], 1)) (
  bindP (message_encode fuel a0) fun y2 =>
  some (y2, 0))) fun j1 =>
  iteP (!y1) (
  j1 (true)) (
  bindP (message_request fuel a0) fun y3 =>
  j1 (y3))
def law24_ExchangeOnce (fuel : Nat) (a0 : List Int) : Option (Bool) :=
  bindP (law24_awake fuel) fun y1 =>
  iteP (!y1) (
  some false) (
  bindP (field_New fuel a0 200) fun y2 =>
  bindP (exchange_New fuel 32) fun y3 =>
  iteP (y3.2 != 0) (
  some false) (
  loopP (fun k1 (s1 : (Int × Int × Int × Int × field_Codes × Requester_ × (List (List Int × Int)))) =>
  iteP (decide (s1.2.2.2.1 < 40)) (
  bindP (field_Codes_Next fuel s1.2.2.2.2.1 4) fun y4 =>
  letP (y4.1 == 0) fun x1 =>
  joinP (fun (s2 : Bool) =>
  joinP (fun (s3 : (Int × Int × Int × field_Codes × Requester_ × (List (List Int × Int)))) =>
  loopP (fun k2 (s4 : Int) =>
  iteP (decide (s4 < (s3.2.2.2.2.1.Pending.length : Int))) (
  loopP (fun k3 (s5 : Int) =>
  iteP (decide (s5 < s4)) (
  joinP (fun (s6 : Bool) =>
  iteP s6 (
  some false) (
  letP (IntKind.i64.wrap (s5 + 1)) fun x2 =>
  k3 (x2))) fun j3 =>
  bindP (idx s3.2.2.2.2.1.Pending s4) fun x3 =>
  bindP (idx s3.2.2.2.2.1.Pending s5) fun x4 =>
  letP (x3.Request.To == x4.Request.To) fun x5 =>
  iteP x5 (
  bindP (idx s3.2.2.2.2.1.Pending s4) fun x6 =>
  bindP (idx s3.2.2.2.2.1.Pending s5) fun x7 =>
  j3 (x6.Request.Sequence == x7.Request.Sequence)) (
  j3 (false))) (
  k2 ((IntKind.i64.wrap (s4 + 1))))) fuel (0)) (
  letP (IntKind.i64.wrap (s1.2.2.2.1 + 1)) fun x8 =>
  k1 (s3.1, s3.2.1, s3.2.2.1, x8, s3.2.2.2.1, s3.2.2.2.2.1, s3.2.2.2.2.2))) fuel (0)) fun j2 =>
  iteP s2 (
  bindP (field_Codes_Next fuel y4.2 2) fun y5 =>
  bindP (idx ([64, 65]) y5.1) fun x9 =>
  bindP (exchange_Send fuel s1.2.2.2.2.2.1 x9 6 1 ([(IntKind.u8.wrap s1.2.2.2.1), (IntKind.u8.wrap s1.2.2.2.1)]) s1.2.2.1) fun y6 =>
  iteP (y6.2.2 == 0) (
  letP (IntKind.i64.wrap (s1.2.1 + 1)) fun x10 =>
  letP (mput s1.2.2.2.2.2.2 (toStr y6.2.1) (IntKind.i64.wrap ((mget 0 s1.2.2.2.2.2.2 (toStr y6.2.1)) + 1))) fun d1 =>
  j2 (s1.1, x10, s1.2.2.1, y5.2, y6.1, d1)) (
  iteP (y6.2.2 != 9) (
  some false) (
  j2 (s1.1, s1.2.1, s1.2.2.1, y5.2, s1.2.2.2.2.2.1, s1.2.2.2.2.2.2)))) (
  letP (y4.1 == 2) fun x11 =>
  iteP x11 (
  bindP (field_Codes_Next fuel y4.2 30) fun y7 =>
  letP (IntKind.i64.wrap (s1.2.2.1 + y7.1)) fun x12 =>
  bindP (exchange_Tick fuel s1.2.2.2.2.2.1 x12) fun y8 =>
  letP (IntKind.i64.wrap (s1.1 + (y8.2.2.length : Int))) fun x13 =>
  loopP (fun k4 (s7 : (Int × (List (List Int × Int)))) =>
  iteP (decide (s7.1 < (y8.2.1.length : Int))) (
  bindP (idx y8.2.1 s7.1) fun x14 =>
  letP (mput s7.2 (toStr x14) (IntKind.i64.wrap ((mget 0 s7.2 (toStr x14)) + 1))) fun d2 =>
  iteP (decide ((mget 0 d2 (toStr x14)) > 3)) (
  some false) (
  k4 ((IntKind.i64.wrap (s7.1 + 1)), d2))) (
  j2 (x13, s1.2.1, x12, y7.2, y8.1, s7.2))) fuel (0, s1.2.2.2.2.2.2)) (
  letP (y4.1 == 3) fun x15 =>
  iteP x15 (
  iteP (decide ((s1.2.2.2.2.2.1.Pending.length : Int) > 0)) (
  bindP (field_Codes_Next fuel y4.2 (s1.2.2.2.2.2.1.Pending.length : Int)) fun y9 =>
  bindP (idx s1.2.2.2.2.2.1.Pending y9.1) fun x16 =>
  bindP (message_Reply fuel x16.Request 0 ([])) fun y10 =>
  bindP (message_Response fuel y10.1) fun y11 =>
  bindP (exchange_Receive fuel s1.2.2.2.2.2.1 y11.1) fun y12 =>
  iteP (!y12.2.2.2) (
  some false) (
  bindP (exchange_Receive fuel y12.1 y11.1) fun y13 =>
  iteP y13.2.2.2 (
  some false) (
  letP (IntKind.i64.wrap (s1.1 + 1)) fun x17 =>
  j2 (x17, s1.2.1, s1.2.2.1, y9.2, y12.1, s1.2.2.2.2.2.2)))) (
  j2 (s1.1, s1.2.1, s1.2.2.1, y4.2, s1.2.2.2.2.2.1, s1.2.2.2.2.2.2))) (
  j2 (s1.1, s1.2.1, s1.2.2.1, y4.2, s1.2.2.2.2.2.1, s1.2.2.2.2.2.2))))) fun j1 =>
  iteP x1 (
  j1 (x1)) (
  letP (y4.1 == 1) fun x18 =>
  j1 (x18))) (
  loopP (fun k5 (s8 : (Int × Int × Int × Requester_)) =>
  iteP (decide (s8.2.2.1 < 4)) (
  letP (IntKind.i64.wrap (s8.2.1 + 200)) fun x19 =>
  bindP (exchange_Tick fuel s8.2.2.2 x19) fun y14 =>
  letP (IntKind.i64.wrap (s8.1 + (y14.2.2.length : Int))) fun x20 =>
  letP (IntKind.i64.wrap (s8.2.2.1 + 1)) fun x21 =>
  k5 (x20, x19, x21, y14.1)) (
  iteP ((s8.2.2.2.Pending.length : Int) == 0) (
  letP (s8.1 == s1.2.1) fun x22 =>
  some x22) (
  some false))) fuel (s1.1, s1.2.2.1, 0, s1.2.2.2.2.2.1))) fuel (0, 0, 0, 0, y2, y3.1, [])))
def law24_ExchangeIgnores (fuel : Nat) (a0 : List Int) (a1 : Message_) (a2 : List Int) : Option (Bool) :=
  bindP (law24_awake fuel) fun y1 =>
  iteP (!y1) (
  some false) (
  joinP (fun (s1 : Bool) =>
  iteP s1 (
  some true) (
  bindP (field_New fuel a0 100) fun y2 =>
  bindP (law24_play fuel y2 10) fun y3 =>
  bindP (message_Response fuel a1) fun y4 =>
  joinP (fun (s2 : ((List Int))) =>
  bindP (message_ParseResponse fuel s2) fun y5 =>
  loopP (fun k1 (s3 : (Int × Int)) =>
  iteP (decide (s3.2 < (y3.1.Pending.length : Int))) (
  bindP (idx y3.1.Pending s3.2) fun x1 =>
  joinP (fun (s4 : Bool) =>
  iteP s4 (
  letP (IntKind.i64.wrap (s3.1 + 1)) fun x2 =>
  k1 (x2, (IntKind.i64.wrap (s3.2 + 1)))) (
  k1 (s3.1, (IntKind.i64.wrap (s3.2 + 1))))) fun j3 =>
  iteP (y5.2 == 0) (
  bindP (message_Matches fuel x1.Request y5.1) fun y6 =>
  j3 (y6)) (
  j3 (false))) (
  bindP (exchange_Receive fuel y3.1 s2) fun y7 =>
  iteP (y7.2.2.2 != (decide (s3.1 > 0))) (
  some false) (
  iteP y7.2.2.2 (
  iteP ((y7.1.Pending.length : Int) == (IntKind.i64.wrap ((y3.1.Pending.length : Int) - 1))) (
  some true) (
  iteP (!y7.2.2.2) (
  bindP (ref24_Same fuel y7.1 y3.1) fun y8 =>
  some y8) (
  some false))) (
  iteP (!y7.2.2.2) (
  bindP (ref24_Same fuel y7.1 y3.1) fun y9 =>
  some y9) (
  some false))))) fuel (0, 0)) fun j2 =>
  iteP (y4.2 != 0) (
  j2 (a2)) (
  j2 (y4.1)))) fun j1 =>
  iteP (decide ((a2.length : Int) > 300)) (
  j1 (true)) (
  j1 (decide ((a1.Data.length : Int) > 300))))
def message_ParseRequest (fuel : Nat) (a0 : List Int) : Option (Message_ × Int) :=
  iteP (decide ((a0.length : Int) < 7)) (
  some (Message_.z, 4)) (
  bindP (message_parse fuel a0 6) fun y1 =>
  some (y1.1, y1.2))
def law24_ExchangeNumbers (fuel : Nat) (a0 : Int) (a1 : List Bool) : Option (Bool) :=
  bindP (law24_awake fuel) fun y1 =>
  iteP (!y1) (
  some false) (
  bindP (exchange_New fuel 32) fun y2 =>
  iteP (y2.2 != 0) (
  some false) (
  letP ({ y2.1 with Next := (IntKind.i64.wrap (Int.tmod a0 64)) }) fun d1 =>
  loopP (fun k1 (s1 : (Int × Int × Requester_)) =>
  joinP (fun (s2 : Bool) =>
  iteP s2 (
  bindP (idx a1 s1.2.1) fun x1 =>
  joinP (fun (s3 : Int) =>
  bindP (exchange_Send fuel s1.2.2 s3 6 1 ([]) 5) fun y3 =>
  iteP (y3.2.2 != 0) (
  some false) (
  bindP (message_ParseRequest fuel y3.2.1) fun y4 =>
  joinP (fun (s4 : Bool) =>
  iteP s4 (
  some false) (
  letP (Int.tmod (IntKind.i64.wrap (s1.1 + 1)) 64) fun x2 =>
  bindP (message_Reply fuel y4.1 0 ([])) fun y5 =>
  bindP (message_Response fuel y5.1) fun y6 =>
  bindP (exchange_Receive fuel y3.1 y6.1) fun y7 =>
  joinP (fun (s5 : Bool) =>
  iteP s5 (
  some false) (
  letP (IntKind.i64.wrap (s1.2.1 + 1)) fun x3 =>
  k1 (x2, x3, y7.1))) fun j4 =>
  iteP (!y7.2.2.2) (
  j4 (true)) (
  j4 ((y7.1.Pending.length : Int) != 0)))) fun j3 =>
  iteP (y4.2 != 0) (
  j3 (true)) (
  iteP (y4.1.Sequence != s1.1) (
  j3 (true)) (
  iteP (y4.1.To != s3) (
  j3 (true)) (
  iteP (y4.1.From != 32) (
  j3 (true)) (
  j3 (y3.1.Next != (Int.tmod (IntKind.i64.wrap (s1.1 + 1)) 64)))))))) fun j2 =>
  iteP x1 (
  j2 (65)) (
  j2 (64))) (
  some true)) fun j1 =>
  iteP (decide (s1.2.1 < (a1.length : Int))) (
  j1 (decide (s1.2.1 < 200))) (
  j1 (false))) fuel (d1.Next, 0, d1)))
end Lift
