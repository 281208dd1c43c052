/- Plain Lean functions, as lift.py reads them off the Go functions of the seat. -/
import Derived.Test.YthjhbfpacbldgaaLiftR
set_option linter.unusedVariables false
set_option linter.unusedSimpArgs false
namespace Lift
open Go
structure Message_ where
  To : Int
  From : Int
  Function : Int
  Command : Int
  ToUnit : Int
  FromUnit : Int
  Sequence : Int
  Code : Int
  Data : List Int
def Message_.rep : Rep Message_ := Rep.iso (fun s => (s.To, s.From, s.Function, s.Command, s.ToUnit, s.FromUnit, s.Sequence, s.Code, s.Data, ())) (Rep.prod (Rep.int .u8) (Rep.prod (Rep.int .u8) (Rep.prod (Rep.int .u8) (Rep.prod (Rep.int .u8) (Rep.prod (Rep.int .i64) (Rep.prod (Rep.int .i64) (Rep.prod (Rep.int .i64) (Rep.prod (Rep.int .u8) (Rep.prod (Rep.slice (Rep.int .u8)) Rep.unit)))))))))
def Message_.z : Message_ := ⟨0, 0, 0, 0, 0, 0, 0, 0, []⟩
theorem Message_.zr : Zr Message_.rep [.int .u8 0, .int .u8 0, .int .u8 0, .int .u8 0, .int .i64 0, .int .i64 0, .int .i64 0, .int .u8 0, .slice none 0 0] Message_.z := Zr.iso (r := (Rep.prod (Rep.int .u8) (Rep.prod (Rep.int .u8) (Rep.prod (Rep.int .u8) (Rep.prod (Rep.int .u8) (Rep.prod (Rep.int .i64) (Rep.prod (Rep.int .i64) (Rep.prod (Rep.int .i64) (Rep.prod (Rep.int .u8) (Rep.prod (Rep.slice (Rep.int .u8)) Rep.unit)))))))))) _ (Zr.of (Zr.prod (Zr.int .u8 0) (Zr.prod (Zr.int .u8 0) (Zr.prod (Zr.int .u8 0) (Zr.prod (Zr.int .u8 0) (Zr.prod (Zr.int .i64 0) (Zr.prod (Zr.int .i64 0) (Zr.prod (Zr.int .i64 0) (Zr.prod (Zr.int .u8 0) (Zr.prod (Zr.slice (Rep.int .u8)) Zr.unit))))))))) rfl)
theorem Message_.f0 : Fld Message_.rep 0 (Rep.int .u8) Message_.To (fun s y => { s with To := y }) := Fld.iso (fun s : Message_ => (s.To, s.From, s.Function, s.Command, s.ToUnit, s.FromUnit, s.Sequence, s.Code, s.Data, ())) Fld.here (fun _ => rfl) (fun _ _ => rfl)
theorem Message_.f1 : Fld Message_.rep 1 (Rep.int .u8) Message_.From (fun s y => { s with From := y }) := Fld.iso (fun s : Message_ => (s.To, s.From, s.Function, s.Command, s.ToUnit, s.FromUnit, s.Sequence, s.Code, s.Data, ())) (Fld.there Fld.here) (fun _ => rfl) (fun _ _ => rfl)
theorem Message_.f2 : Fld Message_.rep 2 (Rep.int .u8) Message_.Function (fun s y => { s with Function := y }) := Fld.iso (fun s : Message_ => (s.To, s.From, s.Function, s.Command, s.ToUnit, s.FromUnit, s.Sequence, s.Code, s.Data, ())) (Fld.there (Fld.there Fld.here)) (fun _ => rfl) (fun _ _ => rfl)
theorem Message_.f3 : Fld Message_.rep 3 (Rep.int .u8) Message_.Command (fun s y => { s with Command := y }) := Fld.iso (fun s : Message_ => (s.To, s.From, s.Function, s.Command, s.ToUnit, s.FromUnit, s.Sequence, s.Code, s.Data, ())) (Fld.there (Fld.there (Fld.there Fld.here))) (fun _ => rfl) (fun _ _ => rfl)
theorem Message_.f4 : Fld Message_.rep 4 (Rep.int .i64) Message_.ToUnit (fun s y => { s with ToUnit := y }) := Fld.iso (fun s : Message_ => (s.To, s.From, s.Function, s.Command, s.ToUnit, s.FromUnit, s.Sequence, s.Code, s.Data, ())) (Fld.there (Fld.there (Fld.there (Fld.there Fld.here)))) (fun _ => rfl) (fun _ _ => rfl)
theorem Message_.f5 : Fld Message_.rep 5 (Rep.int .i64) Message_.FromUnit (fun s y => { s with FromUnit := y }) := Fld.iso (fun s : Message_ => (s.To, s.From, s.Function, s.Command, s.ToUnit, s.FromUnit, s.Sequence, s.Code, s.Data, ())) (Fld.there (Fld.there (Fld.there (Fld.there (Fld.there Fld.here))))) (fun _ => rfl) (fun _ _ => rfl)
theorem Message_.f6 : Fld Message_.rep 6 (Rep.int .i64) Message_.Sequence (fun s y => { s with Sequence := y }) := Fld.iso (fun s : Message_ => (s.To, s.From, s.Function, s.Command, s.ToUnit, s.FromUnit, s.Sequence, s.Code, s.Data, ())) (Fld.there (Fld.there (Fld.there (Fld.there (Fld.there (Fld.there Fld.here)))))) (fun _ => rfl) (fun _ _ => rfl)
theorem Message_.f7 : Fld Message_.rep 7 (Rep.int .u8) Message_.Code (fun s y => { s with Code := y }) := Fld.iso (fun s : Message_ => (s.To, s.From, s.Function, s.Command, s.ToUnit, s.FromUnit, s.Sequence, s.Code, s.Data, ())) (Fld.there (Fld.there (Fld.there (Fld.there (Fld.there (Fld.there (Fld.there Fld.here))))))) (fun _ => rfl) (fun _ _ => rfl)
theorem Message_.f8 : Fld Message_.rep 8 (Rep.slice (Rep.int .u8)) Message_.Data (fun s y => { s with Data := y }) := Fld.iso (fun s : Message_ => (s.To, s.From, s.Function, s.Command, s.ToUnit, s.FromUnit, s.Sequence, s.Code, s.Data, ())) (Fld.there (Fld.there (Fld.there (Fld.there (Fld.there (Fld.there (Fld.there (Fld.there Fld.here)))))))) (fun _ => rfl) (fun _ _ => rfl)
structure made_Dice where
  L : List Int
  At : Int
def made_Dice.rep : Rep made_Dice := Rep.iso (fun s => (s.L, s.At, ())) (Rep.prod (Rep.slice (Rep.int .i64)) (Rep.prod (Rep.int .i64) Rep.unit))
def made_Dice.z : made_Dice := ⟨[], 0⟩
theorem made_Dice.zr : Zr made_Dice.rep [.slice none 0 0, .int .i64 0] made_Dice.z := Zr.iso (r := (Rep.prod (Rep.slice (Rep.int .i64)) (Rep.prod (Rep.int .i64) Rep.unit))) _ (Zr.of (Zr.prod (Zr.slice (Rep.int .i64)) (Zr.prod (Zr.int .i64 0) Zr.unit)) rfl)
theorem made_Dice.f0 : Fld made_Dice.rep 0 (Rep.slice (Rep.int .i64)) made_Dice.L (fun s y => { s with L := y }) := Fld.iso (fun s : made_Dice => (s.L, s.At, ())) Fld.here (fun _ => rfl) (fun _ _ => rfl)
theorem made_Dice.f1 : Fld made_Dice.rep 1 (Rep.int .i64) made_Dice.At (fun s y => { s with At := y }) := Fld.iso (fun s : made_Dice => (s.L, s.At, ())) (Fld.there Fld.here) (fun _ => rfl) (fun _ _ => rfl)
structure Packet_ where
  To : Int
  From : Int
  Start : Bool
  End : Bool
  Sequence : Int
  Owner : Bool
  Tag : Int
  Data : List Int
def Packet_.rep : Rep Packet_ := Rep.iso (fun s => (s.To, s.From, s.Start, s.End, s.Sequence, s.Owner, s.Tag, s.Data, ())) (Rep.prod (Rep.int .u8) (Rep.prod (Rep.int .u8) (Rep.prod Rep.bool (Rep.prod Rep.bool (Rep.prod (Rep.int .i64) (Rep.prod Rep.bool (Rep.prod (Rep.int .i64) (Rep.prod (Rep.slice (Rep.int .u8)) Rep.unit))))))))
def Packet_.z : Packet_ := ⟨0, 0, false, false, 0, false, 0, []⟩
theorem Packet_.zr : Zr Packet_.rep [.int .u8 0, .int .u8 0, .bool false, .bool false, .int .i64 0, .bool false, .int .i64 0, .slice none 0 0] Packet_.z := Zr.iso (r := (Rep.prod (Rep.int .u8) (Rep.prod (Rep.int .u8) (Rep.prod Rep.bool (Rep.prod Rep.bool (Rep.prod (Rep.int .i64) (Rep.prod Rep.bool (Rep.prod (Rep.int .i64) (Rep.prod (Rep.slice (Rep.int .u8)) Rep.unit))))))))) _ (Zr.of (Zr.prod (Zr.int .u8 0) (Zr.prod (Zr.int .u8 0) (Zr.prod (Zr.bool false) (Zr.prod (Zr.bool false) (Zr.prod (Zr.int .i64 0) (Zr.prod (Zr.bool false) (Zr.prod (Zr.int .i64 0) (Zr.prod (Zr.slice (Rep.int .u8)) Zr.unit)))))))) rfl)
theorem Packet_.f0 : Fld Packet_.rep 0 (Rep.int .u8) Packet_.To (fun s y => { s with To := y }) := Fld.iso (fun s : Packet_ => (s.To, s.From, s.Start, s.End, s.Sequence, s.Owner, s.Tag, s.Data, ())) Fld.here (fun _ => rfl) (fun _ _ => rfl)
theorem Packet_.f1 : Fld Packet_.rep 1 (Rep.int .u8) Packet_.From (fun s y => { s with From := y }) := Fld.iso (fun s : Packet_ => (s.To, s.From, s.Start, s.End, s.Sequence, s.Owner, s.Tag, s.Data, ())) (Fld.there Fld.here) (fun _ => rfl) (fun _ _ => rfl)
theorem Packet_.f2 : Fld Packet_.rep 2 Rep.bool Packet_.Start (fun s y => { s with Start := y }) := Fld.iso (fun s : Packet_ => (s.To, s.From, s.Start, s.End, s.Sequence, s.Owner, s.Tag, s.Data, ())) (Fld.there (Fld.there Fld.here)) (fun _ => rfl) (fun _ _ => rfl)
theorem Packet_.f3 : Fld Packet_.rep 3 Rep.bool Packet_.End (fun s y => { s with End := y }) := Fld.iso (fun s : Packet_ => (s.To, s.From, s.Start, s.End, s.Sequence, s.Owner, s.Tag, s.Data, ())) (Fld.there (Fld.there (Fld.there Fld.here))) (fun _ => rfl) (fun _ _ => rfl)
theorem Packet_.f4 : Fld Packet_.rep 4 (Rep.int .i64) Packet_.Sequence (fun s y => { s with Sequence := y }) := Fld.iso (fun s : Packet_ => (s.To, s.From, s.Start, s.End, s.Sequence, s.Owner, s.Tag, s.Data, ())) (Fld.there (Fld.there (Fld.there (Fld.there Fld.here)))) (fun _ => rfl) (fun _ _ => rfl)
theorem Packet_.f5 : Fld Packet_.rep 5 Rep.bool Packet_.Owner (fun s y => { s with Owner := y }) := Fld.iso (fun s : Packet_ => (s.To, s.From, s.Start, s.End, s.Sequence, s.Owner, s.Tag, s.Data, ())) (Fld.there (Fld.there (Fld.there (Fld.there (Fld.there Fld.here))))) (fun _ => rfl) (fun _ _ => rfl)
theorem Packet_.f6 : Fld Packet_.rep 6 (Rep.int .i64) Packet_.Tag (fun s y => { s with Tag := y }) := Fld.iso (fun s : Packet_ => (s.To, s.From, s.Start, s.End, s.Sequence, s.Owner, s.Tag, s.Data, ())) (Fld.there (Fld.there (Fld.there (Fld.there (Fld.there (Fld.there Fld.here)))))) (fun _ => rfl) (fun _ _ => rfl)
theorem Packet_.f7 : Fld Packet_.rep 7 (Rep.slice (Rep.int .u8)) Packet_.Data (fun s y => { s with Data := y }) := Fld.iso (fun s : Packet_ => (s.To, s.From, s.Start, s.End, s.Sequence, s.Owner, s.Tag, s.Data, ())) (Fld.there (Fld.there (Fld.there (Fld.there (Fld.there (Fld.there (Fld.there Fld.here))))))) (fun _ => rfl) (fun _ _ => rfl)
structure Whole_ where
  From : Int
  Owner : Bool
  Tag : Int
  Data : List Int
def Whole_.rep : Rep Whole_ := Rep.iso (fun s => (s.From, s.Owner, s.Tag, s.Data, ())) (Rep.prod (Rep.int .u8) (Rep.prod Rep.bool (Rep.prod (Rep.int .i64) (Rep.prod (Rep.slice (Rep.int .u8)) Rep.unit))))
def Whole_.z : Whole_ := ⟨0, false, 0, []⟩
theorem Whole_.zr : Zr Whole_.rep [.int .u8 0, .bool false, .int .i64 0, .slice none 0 0] Whole_.z := Zr.iso (r := (Rep.prod (Rep.int .u8) (Rep.prod Rep.bool (Rep.prod (Rep.int .i64) (Rep.prod (Rep.slice (Rep.int .u8)) Rep.unit))))) _ (Zr.of (Zr.prod (Zr.int .u8 0) (Zr.prod (Zr.bool false) (Zr.prod (Zr.int .i64 0) (Zr.prod (Zr.slice (Rep.int .u8)) Zr.unit)))) rfl)
theorem Whole_.f0 : Fld Whole_.rep 0 (Rep.int .u8) Whole_.From (fun s y => { s with From := y }) := Fld.iso (fun s : Whole_ => (s.From, s.Owner, s.Tag, s.Data, ())) Fld.here (fun _ => rfl) (fun _ _ => rfl)
theorem Whole_.f1 : Fld Whole_.rep 1 Rep.bool Whole_.Owner (fun s y => { s with Owner := y }) := Fld.iso (fun s : Whole_ => (s.From, s.Owner, s.Tag, s.Data, ())) (Fld.there Fld.here) (fun _ => rfl) (fun _ _ => rfl)
theorem Whole_.f2 : Fld Whole_.rep 2 (Rep.int .i64) Whole_.Tag (fun s y => { s with Tag := y }) := Fld.iso (fun s : Whole_ => (s.From, s.Owner, s.Tag, s.Data, ())) (Fld.there (Fld.there Fld.here)) (fun _ => rfl) (fun _ _ => rfl)
theorem Whole_.f3 : Fld Whole_.rep 3 (Rep.slice (Rep.int .u8)) Whole_.Data (fun s y => { s with Data := y }) := Fld.iso (fun s : Whole_ => (s.From, s.Owner, s.Tag, s.Data, ())) (Fld.there (Fld.there (Fld.there Fld.here))) (fun _ => rfl) (fun _ _ => rfl)
structure fragment_open where
  whole : Whole_
  size : Int
  last : Int
def fragment_open.rep : Rep fragment_open := Rep.iso (fun s => (s.whole, s.size, s.last, ())) (Rep.prod Whole_.rep (Rep.prod (Rep.int .i64) (Rep.prod (Rep.int .i64) Rep.unit)))
def fragment_open.z : fragment_open := ⟨Whole_.z, 0, 0⟩
theorem fragment_open.zr : Zr fragment_open.rep [.int .u8 0, .bool false, .int .i64 0, .slice none 0 0, .int .i64 0, .int .i64 0] fragment_open.z := Zr.iso (r := (Rep.prod Whole_.rep (Rep.prod (Rep.int .i64) (Rep.prod (Rep.int .i64) Rep.unit)))) _ (Zr.of (Zr.prod Whole_.zr (Zr.prod (Zr.int .i64 0) (Zr.prod (Zr.int .i64 0) Zr.unit))) rfl)
theorem fragment_open.f0 : Fld fragment_open.rep 0 Whole_.rep fragment_open.whole (fun s y => { s with whole := y }) := Fld.iso (fun s : fragment_open => (s.whole, s.size, s.last, ())) Fld.here (fun _ => rfl) (fun _ _ => rfl)
theorem fragment_open.f1 : Fld fragment_open.rep 4 (Rep.int .i64) fragment_open.size (fun s y => { s with size := y }) := Fld.iso (fun s : fragment_open => (s.whole, s.size, s.last, ())) (Fld.there Fld.here) (fun _ => rfl) (fun _ _ => rfl)
theorem fragment_open.f2 : Fld fragment_open.rep 5 (Rep.int .i64) fragment_open.last (fun s y => { s with last := y }) := Fld.iso (fun s : fragment_open => (s.whole, s.size, s.last, ())) (Fld.there (Fld.there Fld.here)) (fun _ => rfl) (fun _ _ => rfl)
structure fragment_Assembler where
  own : Int
  open_ : List fragment_open
def fragment_Assembler.rep : Rep fragment_Assembler := Rep.iso (fun s => (s.own, s.open_, ())) (Rep.prod (Rep.int .u8) (Rep.prod (Rep.slice fragment_open.rep) Rep.unit))
def fragment_Assembler.z : fragment_Assembler := ⟨0, []⟩
theorem fragment_Assembler.zr : Zr fragment_Assembler.rep [.int .u8 0, .slice none 0 0] fragment_Assembler.z := Zr.iso (r := (Rep.prod (Rep.int .u8) (Rep.prod (Rep.slice fragment_open.rep) Rep.unit))) _ (Zr.of (Zr.prod (Zr.int .u8 0) (Zr.prod (Zr.slice fragment_open.rep) Zr.unit)) rfl)
theorem fragment_Assembler.f0 : Fld fragment_Assembler.rep 0 (Rep.int .u8) fragment_Assembler.own (fun s y => { s with own := y }) := Fld.iso (fun s : fragment_Assembler => (s.own, s.open_, ())) Fld.here (fun _ => rfl) (fun _ _ => rfl)
theorem fragment_Assembler.f1 : Fld fragment_Assembler.rep 1 (Rep.slice fragment_open.rep) fragment_Assembler.open_ (fun s y => { s with open_ := y }) := Fld.iso (fun s : fragment_Assembler => (s.own, s.open_, ())) (Fld.there Fld.here) (fun _ => rfl) (fun _ _ => rfl)
structure Anon_af38c4 where
  on : Bool
  bit : Int
def Anon_af38c4.rep : Rep Anon_af38c4 := Rep.iso (fun s => (s.on, s.bit, ())) (Rep.prod Rep.bool (Rep.prod (Rep.int .u8) Rep.unit))
def Anon_af38c4.z : Anon_af38c4 := ⟨false, 0⟩
theorem Anon_af38c4.zr : Zr Anon_af38c4.rep [.bool false, .int .u8 0] Anon_af38c4.z := Zr.iso (r := (Rep.prod Rep.bool (Rep.prod (Rep.int .u8) Rep.unit))) _ (Zr.of (Zr.prod (Zr.bool false) (Zr.prod (Zr.int .u8 0) Zr.unit)) rfl)
theorem Anon_af38c4.pure : Pure Anon_af38c4.rep := Pure.iso (Pure.prod Pure.bool (Pure.prod Pure.int Pure.unit))
theorem Anon_af38c4.f0 : Fld Anon_af38c4.rep 0 Rep.bool Anon_af38c4.on (fun s y => { s with on := y }) := Fld.iso (fun s : Anon_af38c4 => (s.on, s.bit, ())) Fld.here (fun _ => rfl) (fun _ _ => rfl)
theorem Anon_af38c4.f1 : Fld Anon_af38c4.rep 1 (Rep.int .u8) Anon_af38c4.bit (fun s y => { s with bit := y }) := Fld.iso (fun s : Anon_af38c4 => (s.on, s.bit, ())) (Fld.there Fld.here) (fun _ => rfl) (fun _ _ => rfl)
structure Frame_ where
  To : Int
  From : Int
  Data : List Int
def Frame_.rep : Rep Frame_ := Rep.iso (fun s => (s.To, s.From, s.Data, ())) (Rep.prod (Rep.int .u8) (Rep.prod (Rep.int .u8) (Rep.prod (Rep.slice (Rep.int .u8)) Rep.unit)))
def Frame_.z : Frame_ := ⟨0, 0, []⟩
theorem Frame_.zr : Zr Frame_.rep [.int .u8 0, .int .u8 0, .slice none 0 0] Frame_.z := Zr.iso (r := (Rep.prod (Rep.int .u8) (Rep.prod (Rep.int .u8) (Rep.prod (Rep.slice (Rep.int .u8)) Rep.unit)))) _ (Zr.of (Zr.prod (Zr.int .u8 0) (Zr.prod (Zr.int .u8 0) (Zr.prod (Zr.slice (Rep.int .u8)) Zr.unit))) rfl)
theorem Frame_.f0 : Fld Frame_.rep 0 (Rep.int .u8) Frame_.To (fun s y => { s with To := y }) := Fld.iso (fun s : Frame_ => (s.To, s.From, s.Data, ())) Fld.here (fun _ => rfl) (fun _ _ => rfl)
theorem Frame_.f1 : Fld Frame_.rep 1 (Rep.int .u8) Frame_.From (fun s y => { s with From := y }) := Fld.iso (fun s : Frame_ => (s.To, s.From, s.Data, ())) (Fld.there Fld.here) (fun _ => rfl) (fun _ _ => rfl)
theorem Frame_.f2 : Fld Frame_.rep 2 (Rep.slice (Rep.int .u8)) Frame_.Data (fun s y => { s with Data := y }) := Fld.iso (fun s : Frame_ => (s.To, s.From, s.Data, ())) (Fld.there (Fld.there Fld.here)) (fun _ => rfl) (fun _ _ => rfl)
def Message_.ok (s : Message_) : Prop := (okI .u8) s.To ∧ (okI .u8) s.From ∧ (okI .u8) s.Function ∧ (okI .u8) s.Command ∧ (okI .i64) s.ToUnit ∧ (okI .i64) s.FromUnit ∧ (okI .i64) s.Sequence ∧ (okI .u8) s.Code ∧ (okL (okI .u8)) s.Data ∧ True
def made_Dice.ok (s : made_Dice) : Prop := (okL (okI .i64)) s.L ∧ (okI .i64) s.At ∧ True
def Packet_.ok (s : Packet_) : Prop := (okI .u8) s.To ∧ (okI .u8) s.From ∧ (fun (_ : Bool) => True) s.Start ∧ (fun (_ : Bool) => True) s.End ∧ (okI .i64) s.Sequence ∧ (fun (_ : Bool) => True) s.Owner ∧ (okI .i64) s.Tag ∧ (okL (okI .u8)) s.Data ∧ True
def Whole_.ok (s : Whole_) : Prop := (okI .u8) s.From ∧ (fun (_ : Bool) => True) s.Owner ∧ (okI .i64) s.Tag ∧ (okL (okI .u8)) s.Data ∧ True
def fragment_open.ok (s : fragment_open) : Prop := Whole_.ok s.whole ∧ (okI .i64) s.size ∧ (okI .i64) s.last ∧ True
def fragment_Assembler.ok (s : fragment_Assembler) : Prop := (okI .u8) s.own ∧ (okL fragment_open.ok) s.open_ ∧ True
def Anon_af38c4.ok (s : Anon_af38c4) : Prop := (fun (_ : Bool) => True) s.on ∧ (okI .u8) s.bit ∧ True
def Frame_.ok (s : Frame_) : Prop := (okI .u8) s.To ∧ (okI .u8) s.From ∧ (okL (okI .u8)) s.Data ∧ True
def made_Light (fuel : Nat) (a0 : List Int) : Option (Bool) :=
  letP (decide ((a0.length : Int) ≤ 600)) fun x1 =>
  some x1
def message_address (fuel : Nat) (a0 : Int) : Option (Bool) :=
  iteP (decide (a0 ≥ 8)) (
  letP (decide (a0 ≤ 119)) fun x1 =>
  some x1) (
  some false)
def message_unit (fuel : Nat) (a0 : Int) : Option (Bool) :=
  iteP (decide (a0 ≥ 0)) (
  letP (decide (a0 < 4)) fun x1 =>
  some x1) (
  some false)
def message_request (fuel : Nat) (a0 : Message_) : Option (Bool) :=
  letP ((Int.tmod a0.Function 2) == 0) fun x1 =>
  some x1
def message_Valid (fuel : Nat) (a0 : Message_) : Option (Bool) :=
  bindP (message_address fuel a0.To) fun y1 =>
  joinP (fun (s1 : Bool) =>
  iteP s1 (
  some false) (
  iteP (decide (a0.Sequence ≥ 0)) (
  iteP (decide (a0.Sequence < 64)) (
  iteP (decide ((a0.Data.length : Int) ≤ 240)) (
  bindP (message_request fuel a0) fun y2 =>
  iteP (!y2) (
  some true) (
  letP (a0.Code == 0) fun x1 =>
  some x1)) (
  some false)) (
  some false)) (
  some false))) fun j1 =>
  iteP (!y1) (
  j1 (true)) (
  bindP (message_address fuel a0.From) fun y3 =>
  iteP (!y3) (
  j1 (true)) (
  iteP (decide (a0.Function ≥ 64)) (
  j1 (true)) (
  bindP (message_unit fuel a0.ToUnit) fun y4 =>
  iteP (!y4) (
  j1 (true)) (
  bindP (message_unit fuel a0.FromUnit) fun y5 =>
  j1 (!y5)))))
def slices_Clone_byte_byte (fuel : Nat) (a0 : List Int) : Option ((List Int)) :=
  bindP (app 1 ([]) a0) fun x1 =>
  some x1
def checksum_Sum8 (fuel : Nat) (a0 : List Int) : Option (Int) :=
  loopP (fun k1 (s1 : (Int × Int)) =>
  iteP (decide (s1.2 < (a0.length : Int))) (
  bindP (idx a0 s1.2) fun x1 =>
  letP (IntKind.u8.wrap (s1.1 + x1)) fun x2 =>
  k1 (x2, (IntKind.i64.wrap (s1.2 + 1)))) (
  letP (IntKind.u8.wrap (0 - s1.1)) fun x3 =>
  some x3)) fuel (0, 0)
def checksum_Seal8 (fuel : Nat) (a0 : List Int) : Option ((List Int)) :=
  bindP (slices_Clone_byte_byte fuel a0) fun y1 =>
  bindP (checksum_Sum8 fuel a0) fun y2 =>
  bindP (app 1 y1 ([y2])) fun x1 =>
  some x1
def message_encode (fuel : Nat) (a0 : Message_) : Option ((List Int)) :=
  bindP (checksum_Seal8 fuel ([(IntKind.u8.wrap (2 * a0.To)), (IntKind.u8.wrap ((IntKind.u8.wrap (4 * a0.Function)) + (IntKind.u8.wrap a0.ToUnit)))])) fun y1 =>
  bindP (message_request fuel a0) fun y2 =>
  joinP (fun (s1 : ((List Int))) =>
  bindP (app 1 s1 a0.Data) fun x1 =>
  bindP (checksum_Seal8 fuel x1) fun y3 =>
  bindP (app 1 y1 y3) fun x2 =>
  some x2) fun j1 =>
  iteP (!y2) (
  bindP (app 1 ([(IntKind.u8.wrap (2 * a0.From)), (IntKind.u8.wrap (IntKind.i64.wrap ((IntKind.i64.wrap (4 * a0.Sequence)) + a0.FromUnit))), a0.Command]) ([a0.Code])) fun x3 =>
  j1 (x3)) (
  j1 ([(IntKind.u8.wrap (2 * a0.From)), (IntKind.u8.wrap (IntKind.i64.wrap ((IntKind.i64.wrap (4 * a0.Sequence)) + a0.FromUnit))), a0.Command]))
def message_Request (fuel : Nat) (a0 : Message_) : Option ((List Int) × Int) :=
  bindP (message_Valid fuel a0) fun y1 =>
  joinP (fun (s1 : Bool) =>
  iteP s1 (
  some ([], 1)) (
  bindP (message_encode fuel a0) fun y2 =>
  some (y2, 0))) fun j1 =>
  iteP (!y1) (
  j1 (true)) (
  bindP (message_request fuel a0) fun y3 =>
  j1 (!y3))
def ref01_Same (fuel : Nat) (a0 : List Int) (a1 : List Int) : Option (Bool) :=
  iteP ((a0.length : Int) != (a1.length : Int)) (
  some false) (
  loopP (fun k1 (s1 : Int) =>
  iteP (decide (s1 < (a0.length : Int))) (
  bindP (idx a0 s1) fun x1 =>
  bindP (idx a1 s1) fun x2 =>
  iteP (x1 != x2) (
  some false) (
  letP (IntKind.i64.wrap (s1 + 1)) fun x3 =>
  k1 (x3))) (
  some true)) fuel (0))
def law23_awake (fuel : Nat)  : Option (Bool) :=
  bindP (message_Request fuel (⟨16, 64, 6, 1, 0, 0, 3, 0, []⟩ : Message_)) fun y1 =>
  iteP (y1.2 == 0) (
  bindP (ref01_Same fuel y1.1 ([32, 24, 200, 128, 12, 1, 115])) fun y2 =>
  some y2) (
  some false)
def made_Roll (fuel : Nat) (a0 : List Int) : Option (made_Dice) :=
  some (⟨a0, 0⟩ : made_Dice)
def made_Mod (fuel : Nat) (a0 : Int) (a1 : Int) : Option (Int) :=
  bindP (chk (decide (a1 ≠ 0))) fun _ =>
  iteP (decide ((Int.tmod a0 a1) < 0)) (
  letP (IntKind.i64.wrap ((Int.tmod a0 a1) + a1)) fun x1 =>
  some x1) (
  some (Int.tmod a0 a1))
def made_Dice_Next (fuel : Nat) (a0 : made_Dice) (a1 : Int) : Option (Int × made_Dice) :=
  iteP (decide (a0.At ≥ (a0.L.length : Int))) (
  some (0, a0)) (
  letP ({ a0 with At := (IntKind.i64.wrap (a0.At + 1)) }) fun d1 =>
  bindP (idx d1.L (IntKind.i64.wrap (d1.At - 1))) fun x1 =>
  bindP (made_Mod fuel x1 a1) fun y1 =>
  some (y1, d1))
def made_Dice_Bool (fuel : Nat) (a0 : made_Dice) (a1 : Int) : Option (Bool × made_Dice) :=
  bindP (made_Dice_Next fuel a0 a1) fun y1 =>
  letP (y1.1 == (IntKind.i64.wrap (a1 - 1))) fun x1 =>
  some (x1, y1.2)
def made_Dice_Byte (fuel : Nat) (a0 : made_Dice) : Option (Int × made_Dice) :=
  letP ([0, 1, 127, 128, 254, 255, 15, 240]) fun d1 =>
  bindP (made_Dice_Bool fuel a0 3) fun y1 =>
  iteP y1.1 (
  bindP (made_Dice_Next fuel y1.2 8) fun y2 =>
  bindP (idx d1 y2.1) fun x1 =>
  bindP (chk (Nat.beq d1.length 8)) fun _ =>
  some (x1, y2.2)) (
  bindP (made_Dice_Next fuel y1.2 256) fun y3 =>
  some ((IntKind.u8.wrap y3.1), y3.2))
def made_Dice_Bytes (fuel : Nat) (a0 : made_Dice) (a1 : Int) : Option ((List Int) × made_Dice) :=
  bindP (made_Dice_Next fuel a0 (IntKind.i64.wrap (a1 + 1))) fun y1 =>
  loopP (fun k1 (s1 : (Int × made_Dice × (List Int))) =>
  iteP (decide (s1.1 > 0)) (
  bindP (made_Dice_Byte fuel s1.2.1) fun y2 =>
  bindP (app 1 s1.2.2 ([y2.1])) fun x1 =>
  letP (IntKind.i64.wrap (s1.1 - 1)) fun x2 =>
  k1 (x2, y2.2, x1)) (
  some (s1.2.2, s1.2.1))) fuel (y1.1, y1.2, [])
def made_Dice_Message (fuel : Nat) (a0 : made_Dice) (a1 : Bool) : Option (Message_ × made_Dice) :=
  bindP (made_Dice_Next fuel a0 4) fun y1 =>
  bindP (made_Dice_Next fuel y1.2 4) fun y2 =>
  bindP (made_Dice_Next fuel y2.2 32) fun y3 =>
  bindP (made_Dice_Byte fuel y3.2) fun y4 =>
  bindP (made_Dice_Next fuel y4.2 4) fun y5 =>
  bindP (made_Dice_Next fuel y5.2 4) fun y6 =>
  bindP (made_Dice_Next fuel y6.2 64) fun y7 =>
  bindP (made_Dice_Bytes fuel y7.2 8) fun y8 =>
  joinP (fun (s1 : (made_Dice × Message_)) =>
  bindP (made_Dice_Bool fuel s1.1 40) fun y9 =>
  iteP y9.1 (
  bindP (mk 1 0 240) fun x1 =>
  some ({ s1.2 with Data := x1 }, y9.2)) (
  some (s1.2, y9.2))) fun j1 =>
  iteP a1 (
  letP ({ (⟨(IntKind.u8.wrap (IntKind.i64.wrap (16 + y1.1))), (IntKind.u8.wrap (IntKind.i64.wrap (64 + y2.1))), (IntKind.u8.wrap (IntKind.i64.wrap (2 * y3.1))), y4.1, y5.1, y6.1, y7.1, 0, y8.1⟩ : Message_) with Function := (IntKind.u8.wrap ((⟨(IntKind.u8.wrap (IntKind.i64.wrap (16 + y1.1))), (IntKind.u8.wrap (IntKind.i64.wrap (64 + y2.1))), (IntKind.u8.wrap (IntKind.i64.wrap (2 * y3.1))), y4.1, y5.1, y6.1, y7.1, 0, y8.1⟩ : Message_).Function + 1)) }) fun d1 =>
  bindP (made_Dice_Byte fuel y8.2) fun y10 =>
  letP ({ d1 with Code := y10.1 }) fun d2 =>
  j1 (y10.2, d2)) (
  j1 (y8.2, (⟨(IntKind.u8.wrap (IntKind.i64.wrap (16 + y1.1))), (IntKind.u8.wrap (IntKind.i64.wrap (64 + y2.1))), (IntKind.u8.wrap (IntKind.i64.wrap (2 * y3.1))), y4.1, y5.1, y6.1, y7.1, 0, y8.1⟩ : Message_)))
def ref20_Address (fuel : Nat) (a0 : Int) : Option (Bool) :=
  iteP (decide (a0 ≥ 8)) (
  letP (decide (a0 ≤ 119)) fun x1 =>
  some x1) (
  some false)
def ref23_Valid (fuel : Nat) (a0 : Message_) : Option (Bool) :=
  bindP (ref20_Address fuel a0.To) fun y1 =>
  iteP y1 (
  bindP (ref20_Address fuel a0.From) fun y2 =>
  iteP y2 (
  iteP (decide (a0.Function ≤ 63)) (
  iteP (decide (a0.ToUnit ≥ 0)) (
  iteP (decide (a0.ToUnit ≤ 3)) (
  iteP (decide (a0.FromUnit ≥ 0)) (
  iteP (decide (a0.FromUnit ≤ 3)) (
  iteP (decide (a0.Sequence ≥ 0)) (
  iteP (decide (a0.Sequence ≤ 63)) (
  iteP (decide ((a0.Data.length : Int) ≤ 240)) (
  iteP ((Int.tmod a0.Function 2) == 1) (
  some true) (
  letP (a0.Code == 0) fun x1 =>
  some x1)) (
  some false)) (
  some false)) (
  some false)) (
  some false)) (
  some false)) (
  some false)) (
  some false)) (
  some false)) (
  some false)) (
  some false)
def ref01_Copy (fuel : Nat) (a0 : List Int) : Option ((List Int)) :=
  loopP (fun k1 (s1 : (Int × (List Int))) =>
  iteP (decide (s1.1 < (a0.length : Int))) (
  bindP (idx a0 s1.1) fun x1 =>
  bindP (app 1 s1.2 ([x1])) fun x2 =>
  letP (IntKind.i64.wrap (s1.1 + 1)) fun x3 =>
  k1 (x3, x2)) (
  some s1.2)) fuel (0, [])
def ref01_Sum8 (fuel : Nat) (a0 : List Int) : Option (Int) :=
  loopP (fun k1 (s1 : (Int × Int)) =>
  iteP (decide (s1.2 < (a0.length : Int))) (
  bindP (idx a0 s1.2) fun x1 =>
  letP (Int.tmod (IntKind.i64.wrap (s1.1 + (IntKind.i64.wrap x1))) 256) fun x2 =>
  letP (IntKind.i64.wrap (s1.2 + 1)) fun x3 =>
  k1 (x2, x3)) (
  letP (IntKind.u8.wrap (Int.tmod (IntKind.i64.wrap (256 - s1.1)) 256)) fun x4 =>
  some x4)) fuel (0, 0)
def ref01_Seal8 (fuel : Nat) (a0 : List Int) : Option ((List Int)) :=
  bindP (ref01_Copy fuel a0) fun y1 =>
  bindP (ref01_Sum8 fuel a0) fun y2 =>
  bindP (app 1 y1 ([y2])) fun x1 =>
  some x1
def ref23_encode (fuel : Nat) (a0 : Message_) : Option ((List Int)) :=
  bindP (ref01_Seal8 fuel ([(IntKind.u8.wrap (2 * a0.To)), (IntKind.u8.wrap ((IntKind.u8.wrap (4 * a0.Function)) + (IntKind.u8.wrap a0.ToUnit)))])) fun y1 =>
  joinP (fun (s1 : ((List Int))) =>
  bindP (app 1 s1 a0.Data) fun x1 =>
  bindP (ref01_Seal8 fuel x1) fun y2 =>
  bindP (app 1 y1 y2) fun x2 =>
  some x2) fun j1 =>
  iteP ((Int.tmod a0.Function 2) == 1) (
  bindP (app 1 ([(IntKind.u8.wrap (2 * a0.From)), (IntKind.u8.wrap (IntKind.i64.wrap ((IntKind.i64.wrap (4 * a0.Sequence)) + a0.FromUnit))), a0.Command]) ([a0.Code])) fun x3 =>
  j1 (x3)) (
  j1 ([(IntKind.u8.wrap (2 * a0.From)), (IntKind.u8.wrap (IntKind.i64.wrap ((IntKind.i64.wrap (4 * a0.Sequence)) + a0.FromUnit))), a0.Command]))
def ref23_Request (fuel : Nat) (a0 : Message_) : Option ((List Int) × Int) :=
  bindP (ref23_Valid fuel a0) fun y1 =>
  joinP (fun (s1 : Bool) =>
  iteP s1 (
  some ([], 1)) (
  bindP (ref23_encode fuel a0) fun y2 =>
  some (y2, 0))) fun j1 =>
  iteP (!y1) (
  j1 (true)) (
  j1 ((Int.tmod a0.Function 2) != 0))
def message_Response (fuel : Nat) (a0 : Message_) : Option ((List Int) × Int) :=
  bindP (message_Valid fuel a0) fun y1 =>
  joinP (fun (s1 : Bool) =>
  iteP s1 (
  some ([], 1)) (
  bindP (message_encode fuel a0) fun y2 =>
  some (y2, 0))) fun j1 =>
  iteP (!y1) (
  j1 (true)) (
  bindP (message_request fuel a0) fun y3 =>
  j1 (y3))
def ref23_Response (fuel : Nat) (a0 : Message_) : Option ((List Int) × Int) :=
  bindP (ref23_Valid fuel a0) fun y1 =>
  joinP (fun (s1 : Bool) =>
  iteP s1 (
  some ([], 1)) (
  bindP (ref23_encode fuel a0) fun y2 =>
  some (y2, 0))) fun j1 =>
  iteP (!y1) (
  j1 (true)) (
  j1 ((Int.tmod a0.Function 2) != 1))
def law23_MessageBytes (fuel : Nat) (a0 : Message_) (a1 : List Int) : Option (Bool) :=
  joinP (fun (s1 : Bool) =>
  iteP s1 (
  bindP (law23_awake fuel) fun y1 =>
  some y1) (
  bindP (made_Roll fuel a1) fun y2 =>
  bindP (made_Dice_Bool fuel y2 2) fun y3 =>
  bindP (made_Dice_Message fuel y3.2 y3.1) fun y4 =>
  bindP (made_Dice_Next fuel y4.2 7) fun y5 =>
  letP (y5.1 == 0) fun x1 =>
  joinP (fun (s2 : (made_Dice × Message_)) =>
  bindP (made_Dice_Message fuel s2.1 false) fun y6 =>
  bindP (made_Dice_Message fuel y6.2 true) fun y7 =>
  loopP (fun k1 (s3 : Int) =>
  iteP (decide (s3 < (([a0, y6.1, y7.1, s2.2]).length : Int))) (
  bindP (idx ([a0, y6.1, y7.1, s2.2]) s3) fun x2 =>
  bindP (message_Request fuel x2) fun y8 =>
  bindP (ref23_Request fuel x2) fun y9 =>
  bindP (message_Response fuel x2) fun y10 =>
  bindP (ref23_Response fuel x2) fun y11 =>
  joinP (fun (s4 : Bool) =>
  iteP s4 (
  some false) (
  k1 ((IntKind.i64.wrap (s3 + 1))))) fun j3 =>
  bindP (message_Valid fuel x2) fun y12 =>
  bindP (ref23_Valid fuel x2) fun y13 =>
  letP (y12 != y13) fun x3 =>
  iteP x3 (
  j3 (true)) (
  letP (y8.2 != y9.2) fun x4 =>
  iteP x4 (
  j3 (true)) (
  letP (y10.2 != y11.2) fun x5 =>
  iteP x5 (
  j3 (true)) (
  bindP (ref01_Same fuel y8.1 y9.1) fun y14 =>
  letP (!y14) fun x6 =>
  iteP x6 (
  j3 (true)) (
  bindP (ref01_Same fuel y10.1 y11.1) fun y15 =>
  j3 (!y15)))))) (
  bindP (law23_awake fuel) fun y16 =>
  some y16)) fuel (0)) fun j2 =>
  iteP x1 (
  bindP (made_Dice_Byte fuel y5.2) fun y17 =>
  letP ({ y4.1 with To := y17.1 }) fun d1 =>
  j2 (y17.2, d1)) (
  letP (y5.1 == 1) fun x7 =>
  iteP x7 (
  bindP (made_Dice_Byte fuel y5.2) fun y18 =>
  letP ({ y4.1 with Function := y18.1 }) fun d2 =>
  j2 (y18.2, d2)) (
  letP (y5.1 == 2) fun x8 =>
  iteP x8 (
  bindP (made_Dice_Next fuel y5.2 70) fun y19 =>
  letP ({ y4.1 with Sequence := (IntKind.i64.wrap (y19.1 - 3)) }) fun d3 =>
  j2 (y19.2, d3)) (
  letP (y5.1 == 3) fun x9 =>
  iteP x9 (
  bindP (made_Dice_Next fuel y5.2 7) fun y20 =>
  letP ({ y4.1 with ToUnit := (IntKind.i64.wrap (y20.1 - 2)) }) fun d4 =>
  j2 (y20.2, d4)) (
  letP (y5.1 == 4) fun x10 =>
  iteP x10 (
  letP ({ y4.1 with Code := 1 }) fun d5 =>
  j2 (y5.2, d5)) (
  letP (y5.1 == 5) fun x11 =>
  iteP x11 (
  bindP (made_Dice_Next fuel y5.2 2) fun y21 =>
  bindP (mk 1 0 (IntKind.i64.wrap (240 + y21.1))) fun x12 =>
  j2 (y21.2, { y4.1 with Data := x12 })) (
  j2 (y5.2, y4.1))))))))) fun j1 =>
  iteP (decide ((a0.Data.length : Int) > 400)) (
  j1 (true)) (
  bindP (made_Light fuel a1) fun y22 =>
  j1 (!y22))
def ref23_Reply (fuel : Nat) (a0 : Message_) (a1 : Int) (a2 : List Int) : Option (Message_ × Int) :=
  bindP (ref23_Valid fuel a0) fun y1 =>
  joinP (fun (s1 : Bool) =>
  iteP s1 (
  some (Message_.z, 1)) (
  bindP (ref01_Copy fuel a2) fun y2 =>
  some ((⟨a0.From, a0.To, (IntKind.u8.wrap (a0.Function + 1)), a0.Command, a0.FromUnit, a0.ToUnit, a0.Sequence, a1, y2⟩ : Message_), 0))) fun j1 =>
  iteP (!y1) (
  j1 (true)) (
  iteP ((Int.tmod a0.Function 2) != 0) (
  j1 (true)) (
  j1 (decide ((a2.length : Int) > 240))))
def message_Reply (fuel : Nat) (a0 : Message_) (a1 : Int) (a2 : List Int) : Option (Message_ × Int) :=
  bindP (message_Valid fuel a0) fun y1 =>
  joinP (fun (s1 : Bool) =>
  iteP s1 (
  some (Message_.z, 1)) (
  bindP (slices_Clone_byte_byte fuel a2) fun y2 =>
  some ((⟨a0.From, a0.To, (IntKind.u8.wrap (a0.Function + 1)), a0.Command, a0.FromUnit, a0.ToUnit, a0.Sequence, a1, y2⟩ : Message_), 0))) fun j1 =>
  iteP (!y1) (
  j1 (true)) (
  bindP (message_request fuel a0) fun y3 =>
  iteP (!y3) (
  j1 (true)) (
  j1 (decide ((a2.length : Int) > 240))))
def ref23_Same (fuel : Nat) (a0 : Message_) (a1 : Message_) : Option (Bool) :=
  iteP (a0.To == a1.To) (
  iteP (a0.From == a1.From) (
  iteP (a0.Function == a1.Function) (
  iteP (a0.Command == a1.Command) (
  iteP (a0.ToUnit == a1.ToUnit) (
  iteP (a0.FromUnit == a1.FromUnit) (
  iteP (a0.Sequence == a1.Sequence) (
  iteP (a0.Code == a1.Code) (
  bindP (ref01_Same fuel a0.Data a1.Data) fun y1 =>
  some y1) (
  some false)) (
  some false)) (
  some false)) (
  some false)) (
  some false)) (
  some false)) (
  some false)) (
  some false)
def message_Matches (fuel : Nat) (a0 : Message_) (a1 : Message_) : Option (Bool) :=
  bindP (message_Reply fuel a0 a1.Code a1.Data) fun y1 =>
  joinP (fun (s1 : Bool) =>
  iteP s1 (
  some false) (
  joinP (fun (s2 : Bool) =>
  iteP s2 (
  iteP (y1.1.ToUnit == a1.ToUnit) (
  iteP (y1.1.FromUnit == a1.FromUnit) (
  letP (y1.1.Sequence == a1.Sequence) fun x1 =>
  some x1) (
  some false)) (
  some false)) (
  some false)) fun j2 =>
  iteP (y1.1.To == a1.To) (
  iteP (y1.1.From == a1.From) (
  iteP (y1.1.Function == a1.Function) (
  letP (y1.1.Command == a1.Command) fun x2 =>
  j2 (x2)) (
  j2 (false))) (
  j2 (false))) (
  j2 (false)))) fun j1 =>
  iteP (y1.2 != 0) (
  j1 (true)) (
  bindP (message_Valid fuel a1) fun y2 =>
  j1 (!y2))
def ref23_Matches (fuel : Nat) (a0 : Message_) (a1 : Message_) : Option (Bool) :=
  bindP (ref23_Valid fuel a1) fun y1 =>
  joinP (fun (s1 : Bool) =>
  iteP s1 (
  some false) (
  bindP (ref23_Reply fuel a0 a1.Code a1.Data) fun y2 =>
  iteP (y2.2 == 0) (
  bindP (ref23_Same fuel y2.1 a1) fun y3 =>
  some y3) (
  some false))) fun j1 =>
  iteP (!y1) (
  j1 (true)) (
  j1 ((Int.tmod a1.Function 2) != 1))
def law23_MessageReplies (fuel : Nat) (a0 : Message_) (a1 : Message_) (a2 : List Int) (a3 : Int) (a4 : List Int) : Option (Bool) :=
  joinP (fun (s1 : Bool) =>
  iteP s1 (
  bindP (law23_awake fuel) fun y1 =>
  some y1) (
  bindP (made_Roll fuel a2) fun y2 =>
  bindP (made_Dice_Bool fuel y2 8) fun y3 =>
  bindP (made_Dice_Message fuel y3.2 y3.1) fun y4 =>
  bindP (made_Dice_Bytes fuel y4.2 5) fun y5 =>
  bindP (ref23_Reply fuel y4.1 a3 y5.1) fun y6 =>
  bindP (made_Dice_Next fuel y5.2 8) fun y7 =>
  letP (y7.1 == 0) fun x1 =>
  joinP (fun (s2 : Message_) =>
  loopP (fun k1 (s3 : Int) =>
  iteP (decide (s3 < (([[a0, a1], [y4.1, y6.1], [y4.1, s2], [a0, y6.1]]).length : Int))) (
  bindP (idx ([[a0, a1], [y4.1, y6.1], [y4.1, s2], [a0, y6.1]]) s3) fun x2 =>
  bindP (idx x2 0) fun x3 =>
  bindP (chk (Nat.beq x2.length 2)) fun _ =>
  bindP (message_Reply fuel x3 a3 a4) fun y8 =>
  bindP (idx x2 0) fun x4 =>
  bindP (chk (Nat.beq x2.length 2)) fun _ =>
  bindP (ref23_Reply fuel x4 a3 a4) fun y9 =>
  joinP (fun (s4 : Bool) =>
  iteP s4 (
  some false) (
  k1 ((IntKind.i64.wrap (s3 + 1))))) fun j3 =>
  letP (y8.2 != y9.2) fun x5 =>
  iteP x5 (
  j3 (true)) (
  bindP (ref23_Same fuel y8.1 y9.1) fun y10 =>
  letP (!y10) fun x6 =>
  iteP x6 (
  j3 (true)) (
  bindP (idx x2 0) fun x7 =>
  bindP (chk (Nat.beq x2.length 2)) fun _ =>
  bindP (idx x2 1) fun x8 =>
  bindP (chk (Nat.beq x2.length 2)) fun _ =>
  bindP (message_Matches fuel x7 x8) fun y11 =>
  bindP (idx x2 0) fun x9 =>
  bindP (chk (Nat.beq x2.length 2)) fun _ =>
  bindP (idx x2 1) fun x10 =>
  bindP (chk (Nat.beq x2.length 2)) fun _ =>
  bindP (ref23_Matches fuel x9 x10) fun y12 =>
  j3 (y11 != y12)))) (
  bindP (law23_awake fuel) fun y13 =>
  some y13)) fuel (0)) fun j2 =>
  iteP x1 (
  bindP (made_Dice_Next fuel y7.2 64) fun y14 =>
  letP ({ y6.1 with Sequence := y14.1 }) fun d1 =>
  j2 (d1)) (
  letP (y7.1 == 1) fun x11 =>
  iteP x11 (
  bindP (made_Dice_Byte fuel y7.2) fun y15 =>
  letP ({ y6.1 with Command := y15.1 }) fun d2 =>
  j2 (d2)) (
  letP (y7.1 == 2) fun x12 =>
  iteP x12 (
  bindP (made_Dice_Next fuel y7.2 4) fun y16 =>
  letP ({ y6.1 with Function := (bXor .u8 y6.1.Function (IntKind.u8.wrap y16.1)) }) fun d3 =>
  j2 (d3)) (
  letP (y7.1 == 3) fun x13 =>
  iteP x13 (
  bindP (made_Dice_Byte fuel y7.2) fun y17 =>
  letP ({ y6.1 with From := y17.1 }) fun d4 =>
  j2 (d4)) (
  letP (y7.1 == 4) fun x14 =>
  iteP x14 (
  bindP (made_Dice_Next fuel y7.2 4) fun y18 =>
  letP ({ y6.1 with ToUnit := y18.1 }) fun d5 =>
  j2 (d5)) (
  j2 (y6.1)))))))) fun j1 =>
  iteP (decide ((a0.Data.length : Int) > 300)) (
  j1 (true)) (
  iteP (decide ((a1.Data.length : Int) > 300)) (
  j1 (true)) (
  iteP (decide ((a4.length : Int) > 300)) (
  j1 (true)) (
  bindP (made_Light fuel a2) fun y19 =>
  j1 (!y19))))
def message_parse (fuel : Nat) (a0 : List Int) (a1 : Int) : Option (Message_ × Int) :=
  bindP (sub a0 0 3) fun x1 =>
  bindP (checksum_Sum8 fuel x1) fun y1 =>
  joinP (fun (s1 : Bool) =>
  iteP s1 (
  some (Message_.z, 5)) (
  bindP (idx a0 0) fun x2 =>
  bindP (idx a0 3) fun x3 =>
  bindP (idx a0 1) fun x4 =>
  bindP (idx a0 5) fun x5 =>
  bindP (idx a0 1) fun x6 =>
  bindP (idx a0 4) fun x7 =>
  bindP (idx a0 4) fun x8 =>
  bindP (sub a0 a1 (IntKind.i64.wrap ((a0.length : Int) - 1))) fun x9 =>
  bindP (slices_Clone_byte_byte fuel x9) fun y2 =>
  joinP (fun (s2 : Message_) =>
  bindP (idx a0 0) fun x10 =>
  joinP (fun (s3 : Bool) =>
  iteP s3 (
  some (Message_.z, 6)) (
  bindP (message_address fuel s2.To) fun y3 =>
  joinP (fun (s4 : Bool) =>
  iteP s4 (
  some (Message_.z, 13)) (
  letP (decide ((s2.Data.length : Int) > 240)) fun x11 =>
  iteP x11 (
  some (Message_.z, 3)) (
  some (s2, 0)))) fun j4 =>
  iteP (!y3) (
  j4 (true)) (
  bindP (message_address fuel s2.From) fun y4 =>
  letP (!y4) fun x12 =>
  j4 (x12)))) fun j3 =>
  iteP ((Int.tmod x10 2) != 0) (
  j3 (true)) (
  bindP (idx a0 3) fun x13 =>
  iteP ((Int.tmod x13 2) != 0) (
  j3 (true)) (
  bindP (message_request fuel s2) fun y5 =>
  letP (y5 != (a1 == 6)) fun x14 =>
  j3 (x14)))) fun j2 =>
  iteP (a1 == 7) (
  bindP (idx a0 (IntKind.i64.wrap (a1 - 1))) fun x15 =>
  letP ({ (⟨(IntKind.u8.wrap (Int.tdiv x2 2)), (IntKind.u8.wrap (Int.tdiv x3 2)), (IntKind.u8.wrap (Int.tdiv x4 4)), x5, (IntKind.i64.wrap (Int.tmod x6 4)), (IntKind.i64.wrap (Int.tmod x7 4)), (IntKind.i64.wrap (IntKind.u8.wrap (Int.tdiv x8 4))), 0, y2⟩ : Message_) with Code := x15 }) fun d1 =>
  j2 (d1)) (
  j2 ((⟨(IntKind.u8.wrap (Int.tdiv x2 2)), (IntKind.u8.wrap (Int.tdiv x3 2)), (IntKind.u8.wrap (Int.tdiv x4 4)), x5, (IntKind.i64.wrap (Int.tmod x6 4)), (IntKind.i64.wrap (Int.tmod x7 4)), (IntKind.i64.wrap (IntKind.u8.wrap (Int.tdiv x8 4))), 0, y2⟩ : Message_))))) fun j1 =>
  iteP (y1 != 0) (
  j1 (true)) (
  bindP (sub a0 3 a0.length) fun x16 =>
  bindP (checksum_Sum8 fuel x16) fun y6 =>
  j1 (y6 != 0))
def message_ParseRequest (fuel : Nat) (a0 : List Int) : Option (Message_ × Int) :=
  iteP (decide ((a0.length : Int) < 7)) (
  some (Message_.z, 4)) (
  bindP (message_parse fuel a0 6) fun y1 =>
  some (y1.1, y1.2))
def ref23_parse (fuel : Nat) (a0 : List Int) (a1 : Int) : Option (Message_ × Int) :=
  iteP (decide ((a0.length : Int) < (IntKind.i64.wrap (7 + a1)))) (
  some (Message_.z, 4)) (
  bindP (sub a0 0 3) fun x1 =>
  bindP (ref01_Sum8 fuel x1) fun y1 =>
  joinP (fun (s1 : Bool) =>
  iteP s1 (
  some (Message_.z, 5)) (
  bindP (idx a0 0) fun x2 =>
  bindP (idx a0 3) fun x3 =>
  bindP (idx a0 1) fun x4 =>
  bindP (idx a0 5) fun x5 =>
  bindP (idx a0 1) fun x6 =>
  bindP (idx a0 4) fun x7 =>
  bindP (idx a0 4) fun x8 =>
  bindP (idx a0 0) fun x9 =>
  joinP (fun (s2 : Bool) =>
  iteP s2 (
  some (Message_.z, 6)) (
  bindP (ref20_Address fuel ((⟨(IntKind.u8.wrap (Int.tdiv x2 2)), (IntKind.u8.wrap (Int.tdiv x3 2)), (IntKind.u8.wrap (Int.tdiv x4 4)), x5, (Int.tmod (IntKind.i64.wrap x6) 4), (Int.tmod (IntKind.i64.wrap x7) 4), (IntKind.i64.wrap (Int.tdiv (IntKind.i64.wrap x8) 4)), 0, []⟩ : Message_).To)) fun y2 =>
  joinP (fun (s3 : Bool) =>
  iteP s3 (
  some (Message_.z, 13)) (
  joinP (fun (s4 : Message_) =>
  bindP (sub a0 (IntKind.i64.wrap (6 + a1)) (IntKind.i64.wrap ((a0.length : Int) - 1))) fun x10 =>
  bindP (ref01_Copy fuel x10) fun y3 =>
  iteP (decide ((y3.length : Int) > 240)) (
  some (Message_.z, 3)) (
  some ({ s4 with Data := y3 }, 0))) fun j4 =>
  iteP (a1 == 1) (
  bindP (idx a0 6) fun x11 =>
  letP ({ (⟨(IntKind.u8.wrap (Int.tdiv x2 2)), (IntKind.u8.wrap (Int.tdiv x3 2)), (IntKind.u8.wrap (Int.tdiv x4 4)), x5, (Int.tmod (IntKind.i64.wrap x6) 4), (Int.tmod (IntKind.i64.wrap x7) 4), (IntKind.i64.wrap (Int.tdiv (IntKind.i64.wrap x8) 4)), 0, []⟩ : Message_) with Code := x11 }) fun d1 =>
  j4 (d1)) (
  j4 ((⟨(IntKind.u8.wrap (Int.tdiv x2 2)), (IntKind.u8.wrap (Int.tdiv x3 2)), (IntKind.u8.wrap (Int.tdiv x4 4)), x5, (Int.tmod (IntKind.i64.wrap x6) 4), (Int.tmod (IntKind.i64.wrap x7) 4), (IntKind.i64.wrap (Int.tdiv (IntKind.i64.wrap x8) 4)), 0, []⟩ : Message_))))) fun j3 =>
  iteP (!y2) (
  j3 (true)) (
  bindP (ref20_Address fuel ((⟨(IntKind.u8.wrap (Int.tdiv x2 2)), (IntKind.u8.wrap (Int.tdiv x3 2)), (IntKind.u8.wrap (Int.tdiv x4 4)), x5, (Int.tmod (IntKind.i64.wrap x6) 4), (Int.tmod (IntKind.i64.wrap x7) 4), (IntKind.i64.wrap (Int.tdiv (IntKind.i64.wrap x8) 4)), 0, []⟩ : Message_).From)) fun y4 =>
  j3 (!y4)))) fun j2 =>
  iteP ((Int.tmod x9 2) != 0) (
  j2 (true)) (
  bindP (idx a0 3) fun x12 =>
  iteP ((Int.tmod x12 2) != 0) (
  j2 (true)) (
  j2 ((Int.tmod (IntKind.i64.wrap ((⟨(IntKind.u8.wrap (Int.tdiv x2 2)), (IntKind.u8.wrap (Int.tdiv x3 2)), (IntKind.u8.wrap (Int.tdiv x4 4)), x5, (Int.tmod (IntKind.i64.wrap x6) 4), (Int.tmod (IntKind.i64.wrap x7) 4), (IntKind.i64.wrap (Int.tdiv (IntKind.i64.wrap x8) 4)), 0, []⟩ : Message_).Function)) 2) != a1))))) fun j1 =>
  iteP (y1 != 0) (
  j1 (true)) (
  bindP (sub a0 3 a0.length) fun x13 =>
  bindP (ref01_Sum8 fuel x13) fun y5 =>
  j1 (y5 != 0)))
def ref23_ParseRequest (fuel : Nat) (a0 : List Int) : Option (Message_ × Int) :=
  bindP (ref23_parse fuel a0 0) fun y1 =>
  some (y1.1, y1.2)
def message_ParseResponse (fuel : Nat) (a0 : List Int) : Option (Message_ × Int) :=
  iteP (decide ((a0.length : Int) < 8)) (
  some (Message_.z, 4)) (
  bindP (message_parse fuel a0 7) fun y1 =>
  some (y1.1, y1.2))
def ref23_ParseResponse (fuel : Nat) (a0 : List Int) : Option (Message_ × Int) :=
  bindP (ref23_parse fuel a0 1) fun y1 =>
  some (y1.1, y1.2)
def law23_MessageParses (fuel : Nat) (a0 : List Int) (a1 : List Int) : Option (Bool) :=
  joinP (fun (s1 : Bool) =>
  iteP s1 (
  bindP (law23_awake fuel) fun y1 =>
  some y1) (
  bindP (made_Roll fuel a1) fun y2 =>
  bindP (made_Dice_Message fuel y2 false) fun y3 =>
  bindP (ref23_Request fuel y3.1) fun y4 =>
  bindP (made_Dice_Message fuel y3.2 true) fun y5 =>
  bindP (ref23_Response fuel y5.1) fun y6 =>
  joinP (fun (s2 : ((List Int) × made_Dice)) =>
  bindP (ref01_Seal8 fuel ([32, 24])) fun y7 =>
  bindP (made_Dice_Next fuel s2.2 3) fun y8 =>
  bindP (mk 1 0 (IntKind.i64.wrap (240 + y8.1))) fun x1 =>
  bindP (app 1 ([128, 4, 1]) x1) fun x2 =>
  bindP (ref01_Seal8 fuel x2) fun y9 =>
  bindP (app 1 y7 y9) fun x3 =>
  bindP (made_Dice_Next fuel y8.2 (y4.1.length : Int)) fun y10 =>
  bindP (sub y4.1 0 y10.1) fun x4 =>
  loopP (fun k1 (s3 : Int) =>
  iteP (decide (s3 < (([a0, y4.1, y6.1, s2.1, x3, x4]).length : Int))) (
  bindP (idx ([a0, y4.1, y6.1, s2.1, x3, x4]) s3) fun x5 =>
  bindP (message_ParseRequest fuel x5) fun y11 =>
  bindP (ref23_ParseRequest fuel x5) fun y12 =>
  bindP (message_ParseResponse fuel x5) fun y13 =>
  bindP (ref23_ParseResponse fuel x5) fun y14 =>
  joinP (fun (s4 : Bool) =>
  iteP s4 (
  some false) (
  k1 ((IntKind.i64.wrap (s3 + 1))))) fun j3 =>
  iteP (y11.2 != y12.2) (
  j3 (true)) (
  iteP (y13.2 != y14.2) (
  j3 (true)) (
  bindP (ref23_Same fuel y11.1 y12.1) fun y15 =>
  iteP (!y15) (
  j3 (true)) (
  bindP (ref23_Same fuel y13.1 y14.1) fun y16 =>
  j3 (!y16))))) (
  bindP (law23_awake fuel) fun y17 =>
  some y17)) fuel (0)) fun j2 =>
  iteP (decide ((y4.1.length : Int) > 6)) (
  bindP (made_Dice_Next fuel y5.2 (y4.1.length : Int)) fun y18 =>
  bindP (app 1 ([]) y4.1) fun x6 =>
  bindP (made_Dice_Byte fuel y18.2) fun y19 =>
  bindP (idx x6 y18.1) fun x7 =>
  letP (upd x6 y18.1 y19.1) fun d1 =>
  bindP (sub d1 0 2) fun x8 =>
  bindP (ref01_Seal8 fuel x8) fun y20 =>
  bindP (sub d1 3 (IntKind.i64.wrap ((d1.length : Int) - 1))) fun x9 =>
  bindP (ref01_Seal8 fuel x9) fun y21 =>
  bindP (app 1 y20 y21) fun x10 =>
  j2 (x10, y19.2)) (
  j2 ([], y5.2)))) fun j1 =>
  iteP (decide ((a0.length : Int) > 300)) (
  j1 (true)) (
  bindP (made_Light fuel a1) fun y22 =>
  j1 (!y22))
def law23_MessageReturns (fuel : Nat) (a0 : List Int) (a1 : Bool) (a2 : Int) (a3 : Int) : Option (Bool) :=
  bindP (made_Light fuel a0) fun y1 =>
  iteP (!y1) (
  bindP (law23_awake fuel) fun y2 =>
  some y2) (
  bindP (made_Roll fuel a0) fun y3 =>
  bindP (made_Dice_Message fuel y3 a1) fun y4 =>
  bindP (message_Request fuel y4.1) fun y5 =>
  joinP (fun (s1 : (Int × (List Int))) =>
  bindP (message_ParseRequest fuel s1.2) fun y6 =>
  bindP (message_ParseResponse fuel s1.2) fun y7 =>
  joinP (fun (s2 : Bool) =>
  iteP s2 (
  some false) (
  iteP (a3 == 0) (
  bindP (law23_awake fuel) fun y8 =>
  some y8) (
  bindP (made_Mod fuel a2 (s1.2.length : Int)) fun y9 =>
  bindP (idx s1.2 y9) fun x1 =>
  bindP (idx s1.2 y9) fun x2 =>
  letP (upd s1.2 y9 (bXor .u8 x1 a3)) fun d1 =>
  bindP (message_ParseRequest fuel d1) fun y10 =>
  bindP (message_ParseResponse fuel d1) fun y11 =>
  iteP (y10.2 != 0) (
  iteP (y11.2 != 0) (
  bindP (law23_awake fuel) fun y12 =>
  some y12) (
  some false)) (
  some false)))) fun j2 =>
  iteP (s1.1 != 0) (
  j2 (true)) (
  bindP (message_Valid fuel y4.1) fun y13 =>
  iteP (!y13) (
  j2 (true)) (
  iteP ((y6.2 == 0) == a1) (
  j2 (true)) (
  iteP a1 (
  iteP (y7.2 != 0) (
  j2 (true)) (
  bindP (ref23_Same fuel y4.1 y7.1) fun y14 =>
  iteP (!y14) (
  j2 (true)) (
  iteP (!a1) (
  iteP (y7.2 == 0) (
  j2 (true)) (
  bindP (ref23_Same fuel y4.1 y6.1) fun y15 =>
  j2 (!y15))) (
  j2 (false))))) (
  iteP (!a1) (
  iteP (y7.2 == 0) (
  j2 (true)) (
  bindP (ref23_Same fuel y4.1 y6.1) fun y16 =>
  j2 (!y16))) (
  j2 (false))))))) fun j1 =>
  iteP a1 (
  bindP (message_Response fuel y4.1) fun y17 =>
  j1 (y17.2, y17.1)) (
  j1 (y5.2, y5.1)))
def law23_MessageMatches (fuel : Nat) (a0 : List Int) (a1 : Int) (a2 : List Int) (a3 : Int) : Option (Bool) :=
  bindP (made_Light fuel a0) fun y1 =>
  joinP (fun (s1 : Bool) =>
  iteP s1 (
  bindP (law23_awake fuel) fun y2 =>
  some y2) (
  bindP (made_Roll fuel a0) fun y3 =>
  bindP (made_Dice_Message fuel y3 false) fun y4 =>
  bindP (message_Reply fuel y4.1 a1 a2) fun y5 =>
  bindP (message_Response fuel y5.1) fun y6 =>
  bindP (message_ParseResponse fuel y6.1) fun y7 =>
  bindP (made_Mod fuel a3 7) fun y8 =>
  letP (y8 == 0) fun x1 =>
  joinP (fun (s2 : Message_) =>
  letP ({ y4.1 with Data := a2 }) fun d1 =>
  iteP (y5.2 == 0) (
  iteP (y6.2 == 0) (
  iteP (y7.2 == 0) (
  bindP (message_Valid fuel s2) fun y9 =>
  iteP y9 (
  iteP (y7.1.Code == a1) (
  bindP (ref01_Same fuel y7.1.Data a2) fun y10 =>
  iteP y10 (
  bindP (message_Matches fuel y4.1 y7.1) fun y11 =>
  iteP y11 (
  bindP (message_Matches fuel d1 y7.1) fun y12 =>
  iteP y12 (
  bindP (message_Matches fuel s2 y7.1) fun y13 =>
  iteP (!y13) (
  bindP (message_Matches fuel y7.1 y4.1) fun y14 =>
  iteP (!y14) (
  bindP (law23_awake fuel) fun y15 =>
  some y15) (
  some false)) (
  some false)) (
  some false)) (
  some false)) (
  some false)) (
  some false)) (
  some false)) (
  some false)) (
  some false)) (
  some false)) fun j2 =>
  iteP x1 (
  letP ({ y4.1 with To := (IntKind.u8.wrap (y4.1.To + 1)) }) fun d2 =>
  j2 (d2)) (
  letP (y8 == 1) fun x2 =>
  iteP x2 (
  letP ({ y4.1 with From := (IntKind.u8.wrap (y4.1.From + 1)) }) fun d3 =>
  j2 (d3)) (
  letP (y8 == 2) fun x3 =>
  iteP x3 (
  letP ({ y4.1 with Function := (bXor .u8 y4.1.Function 2) }) fun d4 =>
  j2 (d4)) (
  letP (y8 == 3) fun x4 =>
  iteP x4 (
  letP ({ y4.1 with Command := (IntKind.u8.wrap (y4.1.Command + 1)) }) fun d5 =>
  j2 (d5)) (
  letP (y8 == 4) fun x5 =>
  iteP x5 (
  letP ({ y4.1 with Sequence := (Int.tmod (IntKind.i64.wrap (y4.1.Sequence + 1)) 64) }) fun d6 =>
  j2 (d6)) (
  letP (y8 == 5) fun x6 =>
  iteP x6 (
  letP ({ y4.1 with ToUnit := (Int.tmod (IntKind.i64.wrap (y4.1.ToUnit + 1)) 4) }) fun d7 =>
  j2 (d7)) (
  letP ({ y4.1 with FromUnit := (Int.tmod (IntKind.i64.wrap (y4.1.FromUnit + 1)) 4) }) fun d8 =>
  j2 (d8))))))))) fun j1 =>
  iteP (!y1) (
  j1 (true)) (
  j1 (decide ((a2.length : Int) > 240)))
def fragment_endpoint (fuel : Nat) (a0 : Int) : Option (Bool) :=
  iteP (decide (a0 ≥ 8)) (
  letP (decide (a0 ≤ 254)) fun x1 =>
  some x1) (
  some false)
def slices_Chunk_byte_byte (fuel : Nat) (a0 : List Int) (a1 : Int) : Option (((List Int) × Int)) :=
  iteP (decide (a1 < 1)) (
  none) (
  some (a0, a1))
def slices_Chunk_byte_byte_1_2 {σ : Type} (fuel : Nat) (bd_ : σ → (List Int) → Option σ) (s_ : σ) (a1 : List Int) (a2 : Int) : Option (σ) :=
  loopP (fun k1 (s1 : (Int × σ)) =>
  iteP (decide (s1.1 < (a1.length : Int))) (
  bindP (sub a1 s1.1 a1.length) fun x1 =>
  letP (min a2 (x1.length : Int)) fun x2 =>
  bindP (sub a1 s1.1 (IntKind.i64.wrap (s1.1 + x2))) fun x3 =>
  bindP (bd_ s1.2 x3) fun y1 =>
  letP (IntKind.i64.wrap (s1.1 + a2)) fun x4 =>
  k1 (x4, y1)) (
  some s1.2)) fuel (0, s_)
def fragment_Split (fuel : Nat) (a0 : Int) (a1 : Int) (a2 : Bool) (a3 : Int) (a4 : Int) (a5 : List Int) : Option ((List Packet_) × Int) :=
  bindP (fragment_endpoint fuel a0) fun y1 =>
  joinP (fun (s1 : Bool) =>
  iteP s1 (
  some ([], 13)) (
  joinP (fun (s2 : Bool) =>
  iteP s2 (
  some ([], 2)) (
  letP ((a5.length : Int) == 0) fun x1 =>
  iteP x1 (
  some ([], 1)) (
  letP (decide ((a5.length : Int) > 512)) fun x2 =>
  iteP x2 (
  some ([], 3)) (
  bindP (slices_Chunk_byte_byte fuel a5 a4) fun y2 =>
  bindP (slices_Chunk_byte_byte_1_2 fuel (fun (s3 : ((List Packet_))) (x3 : List Int) =>
  bindP (slices_Clone_byte_byte fuel x3) fun y4 =>
  bindP (app 56 s3 ([(⟨a0, a1, false, false, (Int.tmod (s3.length : Int) 4), a2, a3, y4⟩ : Packet_)])) fun x4 =>
  some (x4)) ([]) y2.1 y2.2) fun y3 =>
  bindP (idx y3 0) fun x5 =>
  letP (upd y3 0 ({ x5 with Start := true })) fun d1 =>
  bindP (idx d1 (IntKind.i64.wrap ((y3.length : Int) - 1))) fun x6 =>
  letP (upd d1 (IntKind.i64.wrap ((y3.length : Int) - 1)) ({ x6 with End := true })) fun d2 =>
  some (d2, 0))))) fun j2 =>
  iteP (decide (a3 < 0)) (
  j2 (true)) (
  iteP (decide (a3 ≥ 8)) (
  j2 (true)) (
  iteP (decide (a4 < 1)) (
  j2 (true)) (
  letP (decide (a4 > 64)) fun x7 =>
  j2 (x7)))))) fun j1 =>
  iteP (!y1) (
  j1 (true)) (
  bindP (fragment_endpoint fuel a1) fun y5 =>
  letP (!y5) fun x8 =>
  j1 (x8))
def fragment_New (fuel : Nat) (a0 : Int) : Option ((Option fragment_Assembler) × Int) :=
  bindP (fragment_endpoint fuel a0) fun y1 =>
  iteP (!y1) (
  some (none, 13)) (
  some ((some ({ (⟨a0, []⟩ : fragment_Assembler) with open_ := [] })), 0))
def fragment_Valid (fuel : Nat) (a0 : Packet_) : Option (Bool) :=
  bindP (fragment_endpoint fuel a0.To) fun y1 =>
  iteP y1 (
  bindP (fragment_endpoint fuel a0.From) fun y2 =>
  iteP y2 (
  iteP (decide (a0.Sequence ≥ 0)) (
  iteP (decide (a0.Sequence < 4)) (
  iteP (decide (a0.Tag ≥ 0)) (
  iteP (decide (a0.Tag < 8)) (
  iteP (decide ((a0.Data.length : Int) ≥ 1)) (
  letP (decide ((a0.Data.length : Int) ≤ 64)) fun x1 =>
  some x1) (
  some false)) (
  some false)) (
  some false)) (
  some false)) (
  some false)) (
  some false)) (
  some false)
def fragment_Encode (fuel : Nat) (a0 : Packet_) : Option ((List Int) × Int) :=
  bindP (fragment_Valid fuel a0) fun y1 =>
  iteP (!y1) (
  some ([], 1)) (
  letP (IntKind.u8.wrap (IntKind.i64.wrap ((IntKind.i64.wrap (16 * a0.Sequence)) + a0.Tag))) fun x1 =>
  loopP (fun k1 (s1 : (Int × Int)) =>
  iteP (decide (s1.2 < (([(⟨a0.Start, 128⟩ : Anon_af38c4), (⟨a0.End, 64⟩ : Anon_af38c4), (⟨a0.Owner, 8⟩ : Anon_af38c4)]).length : Int))) (
  bindP (idx ([(⟨a0.Start, 128⟩ : Anon_af38c4), (⟨a0.End, 64⟩ : Anon_af38c4), (⟨a0.Owner, 8⟩ : Anon_af38c4)]) s1.2) fun x2 =>
  iteP x2.on (
  k1 ((bOr .u8 s1.1 x2.bit), (IntKind.i64.wrap (s1.2 + 1)))) (
  k1 (s1.1, (IntKind.i64.wrap (s1.2 + 1))))) (
  bindP (app 1 ([1, a0.To, a0.From, s1.1]) a0.Data) fun x3 =>
  some (x3, 0))) fuel (x1, 0))
def frame_address (fuel : Nat) (a0 : Int) : Option (Bool) :=
  iteP (decide (a0 ≥ 8)) (
  letP (decide (a0 ≤ 119)) fun x1 =>
  some x1) (
  some false)
def frame_Valid (fuel : Nat) (a0 : Frame_) : Option (Bool) :=
  bindP (frame_address fuel a0.To) fun y1 =>
  iteP y1 (
  bindP (frame_address fuel a0.From) fun y2 =>
  iteP y2 (
  letP (decide ((a0.Data.length : Int) ≤ 72)) fun x1 =>
  some x1) (
  some false)) (
  some false)
def checksum_CRC8 (fuel : Nat) (a0 : List Int) : Option (Int) :=
  loopP (fun k1 (s1 : (Int × Int)) =>
  iteP (decide (s1.2 < (a0.length : Int))) (
  bindP (idx a0 s1.2) fun x1 =>
  loopP (fun k2 (s2 : (Int × Int)) =>
  iteP (decide (s2.2 < 8)) (
  letP (bXor .u8 (bShl .u8 s2.1 1) (IntKind.u8.wrap ((bShr .u8 s2.1 7) * 7))) fun x2 =>
  k2 (x2, (IntKind.i64.wrap (s2.2 + 1)))) (
  k1 (s2.1, (IntKind.i64.wrap (s1.2 + 1))))) fuel ((bXor .u8 s1.1 x1), 0)) (
  some s1.1)) fuel (0, 0)
def checksum_SealCRC8 (fuel : Nat) (a0 : List Int) : Option ((List Int)) :=
  bindP (slices_Clone_byte_byte fuel a0) fun y1 =>
  bindP (checksum_CRC8 fuel a0) fun y2 =>
  bindP (app 1 y1 ([y2])) fun x1 =>
  some x1
def frame_Encode (fuel : Nat) (a0 : Frame_) : Option ((List Int) × Int) :=
  bindP (frame_Valid fuel a0) fun y1 =>
  iteP (!y1) (
  some ([], 1)) (
  bindP (app 1 ([(IntKind.u8.wrap (2 * a0.To)), 15, (IntKind.u8.wrap (IntKind.i64.wrap ((a0.Data.length : Int) + 1))), (IntKind.u8.wrap ((IntKind.u8.wrap (2 * a0.From)) + 1))]) a0.Data) fun x1 =>
  bindP (checksum_SealCRC8 fuel x1) fun y2 =>
  some (y2, 0))
def checksum_OpenCRC8 (fuel : Nat) (a0 : List Int) : Option ((List Int) × Int) :=
  letP (IntKind.i64.wrap ((a0.length : Int) - 1)) fun x1 =>
  letP (decide (x1 < 0)) fun x2 =>
  iteP x2 (
  some ([], 4)) (
  bindP (sub a0 0 x1) fun x3 =>
  bindP (checksum_CRC8 fuel x3) fun y1 =>
  bindP (idx a0 x1) fun x4 =>
  iteP (y1 != x4) (
  some ([], 5)) (
  bindP (sub a0 0 x1) fun x5 =>
  bindP (slices_Clone_byte_byte fuel x5) fun y2 =>
  some (y2, 0)))
def frame_Decode (fuel : Nat) (a0 : List Int) : Option (Frame_ × Int) :=
  iteP (decide ((a0.length : Int) < 5)) (
  some (Frame_.z, 4)) (
  bindP (checksum_OpenCRC8 fuel a0) fun y1 =>
  iteP (y1.2 != 0) (
  some (Frame_.z, y1.2)) (
  bindP (idx y1.1 0) fun x1 =>
  bindP (idx y1.1 3) fun x2 =>
  bindP (sub y1.1 4 y1.1.length) fun x3 =>
  bindP (slices_Clone_byte_byte fuel x3) fun y2 =>
  bindP (idx y1.1 0) fun x4 =>
  joinP (fun (s1 : Bool) =>
  iteP s1 (
  some (Frame_.z, 6)) (
  bindP (frame_address fuel ((⟨(IntKind.u8.wrap (Int.tdiv x1 2)), (IntKind.u8.wrap (Int.tdiv x2 2)), y2⟩ : Frame_).To)) fun y3 =>
  joinP (fun (s2 : Bool) =>
  iteP s2 (
  some (Frame_.z, 13)) (
  letP (decide ((((⟨(IntKind.u8.wrap (Int.tdiv x1 2)), (IntKind.u8.wrap (Int.tdiv x2 2)), y2⟩ : Frame_).Data).length : Int) > 72)) fun x5 =>
  iteP x5 (
  some (Frame_.z, 3)) (
  some ((⟨(IntKind.u8.wrap (Int.tdiv x1 2)), (IntKind.u8.wrap (Int.tdiv x2 2)), y2⟩ : Frame_), 0)))) fun j2 =>
  iteP (!y3) (
  j2 (true)) (
  bindP (frame_address fuel ((⟨(IntKind.u8.wrap (Int.tdiv x1 2)), (IntKind.u8.wrap (Int.tdiv x2 2)), y2⟩ : Frame_).From)) fun y4 =>
  letP (!y4) fun x6 =>
  j2 (x6)))) fun j1 =>
  iteP ((Int.tmod x4 2) != 0) (
  j1 (true)) (
  bindP (idx y1.1 1) fun x7 =>
  iteP (x7 != 15) (
  j1 (true)) (
  bindP (idx y1.1 2) fun x8 =>
  iteP ((IntKind.i64.wrap x8) != (IntKind.i64.wrap ((a0.length : Int) - 4))) (
  j1 (true)) (
  bindP (idx y1.1 3) fun x9 =>
  letP ((Int.tmod x9 2) == 0) fun x10 =>
  j1 (x10))))))
def fragment_Decode (fuel : Nat) (a0 : List Int) : Option (Packet_ × Int) :=
  letP (decide ((a0.length : Int) ≤ 4)) fun x1 =>
  iteP x1 (
  some (Packet_.z, 4)) (
  bindP (idx a0 0) fun x2 =>
  letP (x2 != 1) fun x3 =>
  iteP x3 (
  some (Packet_.z, 6)) (
  bindP (idx a0 1) fun x4 =>
  bindP (fragment_endpoint fuel x4) fun y1 =>
  joinP (fun (s1 : Bool) =>
  iteP s1 (
  some (Packet_.z, 13)) (
  letP (decide ((IntKind.i64.wrap ((a0.length : Int) - 4)) > 64)) fun x5 =>
  iteP x5 (
  some (Packet_.z, 3)) (
  bindP (idx a0 3) fun x6 =>
  bindP (idx a0 1) fun x7 =>
  bindP (idx a0 2) fun x8 =>
  bindP (sub a0 4 a0.length) fun x9 =>
  bindP (slices_Clone_byte_byte fuel x9) fun y2 =>
  some ((⟨x7, x8, (bAnd .u8 x6 128) != 0, (bAnd .u8 x6 64) != 0, (IntKind.i64.wrap (Int.tmod (IntKind.u8.wrap (Int.tdiv x6 16)) 4)), (bAnd .u8 x6 8) != 0, (IntKind.i64.wrap (Int.tmod x6 8)), y2⟩ : Packet_), 0)))) fun j1 =>
  iteP (!y1) (
  j1 (true)) (
  bindP (idx a0 2) fun x10 =>
  bindP (fragment_endpoint fuel x10) fun y3 =>
  letP (!y3) fun x11 =>
  j1 (x11))))
def fragment_Assembler_find_1_2 (fuel : Nat) (a0 : fragment_open) (a1 : Packet_) : Option (Bool) :=
  iteP (a0.whole.From == a1.From) (
  iteP (a0.whole.Owner == a1.Owner) (
  letP (a0.whole.Tag == a1.Tag) fun x1 =>
  some x1) (
  some false)) (
  some false)
def slices_IndexFunc_fragment_open_fragment_open_fragment_Assembler_find_1 (fuel : Nat) (a0 : List fragment_open) (a1_0 : Packet_) : Option (Int) :=
  loopP (fun k1 (s1 : Int) =>
  iteP (decide (s1 < (a0.length : Int))) (
  bindP (idx a0 s1) fun x1 =>
  bindP (fragment_Assembler_find_1_2 fuel x1 a1_0) fun y1 =>
  iteP y1 (
  some s1) (
  k1 ((IntKind.i64.wrap (s1 + 1))))) (
  some (-1))) fuel (0)
def fragment_Assembler_find (fuel : Nat) (a0 : fragment_Assembler) (a1 : Packet_) : Option (Int) :=
  bindP (slices_IndexFunc_fragment_open_fragment_open_fragment_Assembler_find_1 fuel a0.open_ a1) fun y1 =>
  some y1
def slices_Delete_fragment_open_fragment_open (fuel : Nat) (a0 : List fragment_open) (a1 : Int) (a2 : Int) : Option ((List fragment_open)) :=
  bindP (chk (decide (0 ≤ a1 ∧ a1 ≤ a2 ∧ a2 ≤ (a0.length : Int) ∧ (a0.length : Int) ≤ (a0.length : Int)))) fun _ =>
  iteP (a1 == a2) (
  none) (
  bindP (chk (decide (0 ≤ a1 ∧ a1 ≤ (a0.length : Int)))) fun _ =>
  bindP (chk (decide (0 ≤ a2 ∧ a2 ≤ (a0.length : Int) ∧ (a0.length : Int) ≤ (a0.length : Int)))) fun _ =>
  bindP (chk (decide ((a1).toNat ≤ a2.toNat ∧ a2.toNat ≤ a0.length))) fun _ =>
  bindP (chk (decide (((a1).toNat) < a2.toNat))) fun _ =>
  bindP (chk (decide (0 ≤ ((a0.take ((a1).toNat) ++ a0.drop a2.toNat).length : Int) ∧ ((a0.take ((a1).toNat) ++ a0.drop a2.toNat).length : Int) ≤ (a0.length : Int) ∧ (a0.length : Int) ≤ (a0.length : Int)))) fun _ =>
  bindP (chk (decide ((a0.take ((a1).toNat) ++ a0.drop a2.toNat).length ≤ (a0.length : Int).toNat ∧ (a0.length : Int).toNat ≤ a0.length))) fun _ =>
  some (a0.take ((a1).toNat) ++ a0.drop a2.toNat))
def fragment_Assembler_drop (fuel : Nat) (a0 : fragment_Assembler) (a1 : Int) : Option (fragment_Assembler) :=
  bindP (slices_Delete_fragment_open_fragment_open fuel a0.open_ a1 (IntKind.i64.wrap (a1 + 1))) fun y1 =>
  some ({ a0 with open_ := y1 })
def fragment_Assembler_begin (fuel : Nat) (a0 : fragment_Assembler) (a1 : Packet_) : Option (Whole_ × Bool × fragment_Assembler) :=
  bindP (fragment_Assembler_find fuel a0 a1) fun y1 =>
  joinP (fun (s1 : fragment_Assembler) =>
  bindP (slices_Clone_byte_byte fuel a1.Data) fun y2 =>
  letP ({ (⟨a1.From, a1.Owner, a1.Tag, []⟩ : Whole_) with Data := y2 }) fun d1 =>
  iteP a1.End (
  some ({ d1 with Data := ({ (⟨a1.From, a1.Owner, a1.Tag, []⟩ : Whole_) with Data := y2 }).Data }, true, s1)) (
  joinP (fun (s2 : fragment_Assembler) =>
  bindP (app 56 s2.open_ ([{ (⟨d1, (a1.Data.length : Int), a1.Sequence⟩ : fragment_open) with whole := { (⟨d1, (a1.Data.length : Int), a1.Sequence⟩ : fragment_open).whole with Data := ({ (⟨a1.From, a1.Owner, a1.Tag, []⟩ : Whole_) with Data := y2 }).Data } }])) fun x1 =>
  some (Whole_.z, false, { s2 with open_ := x1 })) fun j2 =>
  iteP ((s1.open_.length : Int) == 8) (
  bindP (fragment_Assembler_drop fuel s1 0) fun y3 =>
  j2 (y3)) (
  j2 (s1)))) fun j1 =>
  iteP (decide (y1 ≥ 0)) (
  bindP (fragment_Assembler_drop fuel a0 y1) fun y4 =>
  j1 (y4)) (
  j1 (a0))
def fragment_Assembler_Accept (fuel : Nat) (a0 : fragment_Assembler) (a1 : Packet_) : Option (Whole_ × Bool × Int × fragment_Assembler) :=
  bindP (fragment_Valid fuel a1) fun y1 =>
  letP (!y1) fun x1 =>
  iteP x1 (
  some (Whole_.z, false, 1, a0)) (
  iteP (a1.To != a0.own) (
  some (Whole_.z, false, 13, a0)) (
  iteP a1.Start (
  bindP (fragment_Assembler_begin fuel a0 a1) fun y2 =>
  some (y2.1, y2.2.1, 0, y2.2.2)) (
  bindP (fragment_Assembler_find fuel a0 a1) fun y3 =>
  iteP (decide (y3 < 0)) (
  some (Whole_.z, false, 8, a0)) (
  bindP (idx a0.open_ y3) fun x2 =>
  joinP (fun (s1 : Bool) =>
  iteP s1 (
  bindP (fragment_Assembler_drop fuel a0 y3) fun y4 =>
  some (Whole_.z, false, 15, y4)) (
  letP (decide ((IntKind.i64.wrap ((x2.whole.Data.length : Int) + (a1.Data.length : Int))) > 512)) fun x3 =>
  iteP x3 (
  bindP (fragment_Assembler_drop fuel a0 y3) fun y5 =>
  some (Whole_.z, false, 3, y5)) (
  bindP (app 1 x2.whole.Data a1.Data) fun x4 =>
  letP (upd a0.open_ y3 ({ x2 with whole := { x2.whole with Data := x4 } })) fun d1 =>
  bindP (idx d1 y3) fun x5 =>
  letP (upd d1 y3 ({ x5 with last := a1.Sequence })) fun d2 =>
  iteP (!a1.End) (
  some (Whole_.z, false, 0, { a0 with open_ := d2 })) (
  bindP (idx d2 y3) fun x6 =>
  bindP (fragment_Assembler_drop fuel ({ a0 with open_ := d2 }) y3) fun y6 =>
  some ({ x6.whole with Data := x6.whole.Data }, true, 0, y6))))) fun j1 =>
  letP (a1.Sequence != (Int.tmod (IntKind.i64.wrap (x2.last + 1)) 4)) fun x7 =>
  iteP x7 (
  j1 (true)) (
  letP (decide ((a1.Data.length : Int) > x2.size)) fun x8 =>
  iteP x8 (
  j1 (true)) (
  letP (decide ((a1.Data.length : Int) < x2.size)) fun x9 =>
  iteP x9 (
  j1 (!a1.End)) (
  j1 (false))))))))
def law23_MessageWire (fuel : Nat) (a0 : List Int) (a1 : Int) (a2 : Int) (a3 : Int) : Option (Bool) :=
  bindP (made_Light fuel a0) fun y1 =>
  iteP (!y1) (
  bindP (law23_awake fuel) fun y2 =>
  some y2) (
  bindP (made_Roll fuel a0) fun y3 =>
  bindP (made_Dice_Message fuel y3 false) fun y4 =>
  bindP (message_Request fuel y4.1) fun y5 =>
  bindP (made_Mod fuel a1 64) fun y6 =>
  bindP (fragment_Split fuel 9 10 true 2 (IntKind.i64.wrap (1 + y6)) y5.1) fun y7 =>
  bindP (fragment_New fuel 9) fun y8 =>
  joinP (fun (s1 : Bool) =>
  iteP s1 (
  some false) (
  loopP (fun k1 (s2 : ((List Int) × Int × (Option fragment_Assembler))) =>
  iteP (decide (s2.2.1 < (y7.1.length : Int))) (
  bindP (idx y7.1 s2.2.1) fun x1 =>
  bindP (fragment_Encode fuel x1) fun y9 =>
  bindP (frame_Encode fuel (⟨16, 64, y9.1⟩ : Frame_)) fun y10 =>
  bindP (frame_Decode fuel y10.1) fun y11 =>
  bindP (fragment_Decode fuel y11.1.Data) fun y12 =>
  bindP s2.2.2 fun x2 =>
  bindP (fragment_Assembler_Accept fuel x2 y12.1) fun y13 =>
  joinP (fun (s3 : Bool) =>
  iteP s3 (
  some false) (
  joinP (fun (s4 : ((List Int))) =>
  iteP (a3 != 0) (
  bindP (made_Mod fuel a2 (y10.1.length : Int)) fun y14 =>
  bindP (idx y10.1 y14) fun x3 =>
  bindP (idx y10.1 y14) fun x4 =>
  letP (upd y10.1 y14 (bXor .u8 x3 a3)) fun d1 =>
  bindP (frame_Decode fuel d1) fun y15 =>
  iteP (y15.2 != 5) (
  some false) (
  letP (IntKind.i64.wrap (s2.2.1 + 1)) fun x5 =>
  k1 (s4, x5, (some y13.2.2.2)))) (
  letP (IntKind.i64.wrap (s2.2.1 + 1)) fun x6 =>
  k1 (s4, x6, (some y13.2.2.2)))) fun j3 =>
  iteP y13.2.1 (
  j3 (y13.1.Data)) (
  j3 (s2.1)))) fun j2 =>
  iteP (y9.2 != 0) (
  j2 (true)) (
  iteP (y10.2 != 0) (
  j2 (true)) (
  iteP (y11.2 != 0) (
  j2 (true)) (
  iteP (y12.2 != 0) (
  j2 (true)) (
  iteP (y13.2.2.1 != 0) (
  j2 (true)) (
  j2 (y13.2.1 != (s2.2.1 == (IntKind.i64.wrap ((y7.1.length : Int) - 1)))))))))) (
  bindP (message_ParseRequest fuel s2.1) fun y16 =>
  iteP (y16.2 == 0) (
  bindP (ref23_Same fuel y16.1 y4.1) fun y17 =>
  iteP y17 (
  bindP (law23_awake fuel) fun y18 =>
  some y18) (
  some false)) (
  some false))) fuel ([], 0, y8.1))) fun j1 =>
  iteP (y5.2 != 0) (
  j1 (true)) (
  iteP (y7.2 != 0) (
  j1 (true)) (
  iteP (y8.2 != 0) (
  j1 (true)) (
  iteP y8.1.isNone (
  j1 (true)) (
  j1 ((y7.1.length : Int) == 0))))))
end Lift
