/- Plain Lean functions, as lift.py reads them off the Go functions of the seat. -/
import Derived.Test.YtmhmkgijjgkbcaaLiftR
set_option linter.unusedVariables false
set_option linter.unusedSimpArgs false
namespace Lift
open Go
structure repository_record where
  id : Int
  bytes : List Int
def repository_record.rep : Rep repository_record := Rep.iso (fun s => (s.id, s.bytes, ())) (Rep.prod (Rep.int .u16) (Rep.prod (Rep.slice (Rep.int .u8)) Rep.unit))
def repository_record.z : repository_record := ⟨0, []⟩
theorem repository_record.zr : Zr repository_record.rep [.int .u16 0, .slice none 0 0] repository_record.z := Zr.iso (r := (Rep.prod (Rep.int .u16) (Rep.prod (Rep.slice (Rep.int .u8)) Rep.unit))) _ (Zr.of (Zr.prod (Zr.int .u16 0) (Zr.prod (Zr.slice (Rep.int .u8)) Zr.unit)) rfl)
theorem repository_record.f0 : Fld repository_record.rep 0 (Rep.int .u16) repository_record.id (fun s y => { s with id := y }) := Fld.iso (fun s : repository_record => (s.id, s.bytes, ())) Fld.here (fun _ => rfl) (fun _ _ => rfl)
theorem repository_record.f1 : Fld repository_record.rep 1 (Rep.slice (Rep.int .u8)) repository_record.bytes (fun s y => { s with bytes := y }) := Fld.iso (fun s : repository_record => (s.id, s.bytes, ())) (Fld.there Fld.here) (fun _ => rfl) (fun _ _ => rfl)
structure repository_Repository where
  capacity : Int
  records : List repository_record
  last : Int
  number : Int
  held : Bool
def repository_Repository.rep : Rep repository_Repository := Rep.iso (fun s => (s.capacity, s.records, s.last, s.number, s.held, ())) (Rep.prod (Rep.int .i64) (Rep.prod (Rep.slice repository_record.rep) (Rep.prod (Rep.int .u16) (Rep.prod (Rep.int .u16) (Rep.prod Rep.bool Rep.unit)))))
def repository_Repository.z : repository_Repository := ⟨0, [], 0, 0, false⟩
theorem repository_Repository.zr : Zr repository_Repository.rep [.int .i64 0, .slice none 0 0, .int .u16 0, .int .u16 0, .bool false] repository_Repository.z := Zr.iso (r := (Rep.prod (Rep.int .i64) (Rep.prod (Rep.slice repository_record.rep) (Rep.prod (Rep.int .u16) (Rep.prod (Rep.int .u16) (Rep.prod Rep.bool Rep.unit)))))) _ (Zr.of (Zr.prod (Zr.int .i64 0) (Zr.prod (Zr.slice repository_record.rep) (Zr.prod (Zr.int .u16 0) (Zr.prod (Zr.int .u16 0) (Zr.prod (Zr.bool false) Zr.unit))))) rfl)
theorem repository_Repository.f0 : Fld repository_Repository.rep 0 (Rep.int .i64) repository_Repository.capacity (fun s y => { s with capacity := y }) := Fld.iso (fun s : repository_Repository => (s.capacity, s.records, s.last, s.number, s.held, ())) Fld.here (fun _ => rfl) (fun _ _ => rfl)
theorem repository_Repository.f1 : Fld repository_Repository.rep 1 (Rep.slice repository_record.rep) repository_Repository.records (fun s y => { s with records := y }) := Fld.iso (fun s : repository_Repository => (s.capacity, s.records, s.last, s.number, s.held, ())) (Fld.there Fld.here) (fun _ => rfl) (fun _ _ => rfl)
theorem repository_Repository.f2 : Fld repository_Repository.rep 2 (Rep.int .u16) repository_Repository.last (fun s y => { s with last := y }) := Fld.iso (fun s : repository_Repository => (s.capacity, s.records, s.last, s.number, s.held, ())) (Fld.there (Fld.there Fld.here)) (fun _ => rfl) (fun _ _ => rfl)
theorem repository_Repository.f3 : Fld repository_Repository.rep 3 (Rep.int .u16) repository_Repository.number (fun s y => { s with number := y }) := Fld.iso (fun s : repository_Repository => (s.capacity, s.records, s.last, s.number, s.held, ())) (Fld.there (Fld.there (Fld.there Fld.here))) (fun _ => rfl) (fun _ _ => rfl)
theorem repository_Repository.f4 : Fld repository_Repository.rep 4 Rep.bool repository_Repository.held (fun s y => { s with held := y }) := Fld.iso (fun s : repository_Repository => (s.capacity, s.records, s.last, s.number, s.held, ())) (Fld.there (Fld.there (Fld.there (Fld.there Fld.here)))) (fun _ => rfl) (fun _ _ => rfl)
structure made_Dice where
  L : List Int
  At : Int
def made_Dice.rep : Rep made_Dice := Rep.iso (fun s => (s.L, s.At, ())) (Rep.prod (Rep.slice (Rep.int .i64)) (Rep.prod (Rep.int .i64) Rep.unit))
def made_Dice.z : made_Dice := ⟨[], 0⟩
theorem made_Dice.zr : Zr made_Dice.rep [.slice none 0 0, .int .i64 0] made_Dice.z := Zr.iso (r := (Rep.prod (Rep.slice (Rep.int .i64)) (Rep.prod (Rep.int .i64) Rep.unit))) _ (Zr.of (Zr.prod (Zr.slice (Rep.int .i64)) (Zr.prod (Zr.int .i64 0) Zr.unit)) rfl)
theorem made_Dice.f0 : Fld made_Dice.rep 0 (Rep.slice (Rep.int .i64)) made_Dice.L (fun s y => { s with L := y }) := Fld.iso (fun s : made_Dice => (s.L, s.At, ())) Fld.here (fun _ => rfl) (fun _ _ => rfl)
theorem made_Dice.f1 : Fld made_Dice.rep 1 (Rep.int .i64) made_Dice.At (fun s y => { s with At := y }) := Fld.iso (fun s : made_Dice => (s.L, s.At, ())) (Fld.there Fld.here) (fun _ => rfl) (fun _ _ => rfl)
structure law11_Do where
  Kind : Int
  A : Int
  B : Int
  ID : Int
  Other : Int
  Wrong : Bool
  Data : List Int
def law11_Do.rep : Rep law11_Do := Rep.iso (fun s => (s.Kind, s.A, s.B, s.ID, s.Other, s.Wrong, s.Data, ())) (Rep.prod (Rep.int .i64) (Rep.prod (Rep.int .i64) (Rep.prod (Rep.int .i64) (Rep.prod (Rep.int .u16) (Rep.prod (Rep.int .u16) (Rep.prod Rep.bool (Rep.prod (Rep.slice (Rep.int .u8)) Rep.unit)))))))
def law11_Do.z : law11_Do := ⟨0, 0, 0, 0, 0, false, []⟩
theorem law11_Do.zr : Zr law11_Do.rep [.int .i64 0, .int .i64 0, .int .i64 0, .int .u16 0, .int .u16 0, .bool false, .slice none 0 0] law11_Do.z := Zr.iso (r := (Rep.prod (Rep.int .i64) (Rep.prod (Rep.int .i64) (Rep.prod (Rep.int .i64) (Rep.prod (Rep.int .u16) (Rep.prod (Rep.int .u16) (Rep.prod Rep.bool (Rep.prod (Rep.slice (Rep.int .u8)) Rep.unit)))))))) _ (Zr.of (Zr.prod (Zr.int .i64 0) (Zr.prod (Zr.int .i64 0) (Zr.prod (Zr.int .i64 0) (Zr.prod (Zr.int .u16 0) (Zr.prod (Zr.int .u16 0) (Zr.prod (Zr.bool false) (Zr.prod (Zr.slice (Rep.int .u8)) Zr.unit))))))) rfl)
theorem law11_Do.f0 : Fld law11_Do.rep 0 (Rep.int .i64) law11_Do.Kind (fun s y => { s with Kind := y }) := Fld.iso (fun s : law11_Do => (s.Kind, s.A, s.B, s.ID, s.Other, s.Wrong, s.Data, ())) Fld.here (fun _ => rfl) (fun _ _ => rfl)
theorem law11_Do.f1 : Fld law11_Do.rep 1 (Rep.int .i64) law11_Do.A (fun s y => { s with A := y }) := Fld.iso (fun s : law11_Do => (s.Kind, s.A, s.B, s.ID, s.Other, s.Wrong, s.Data, ())) (Fld.there Fld.here) (fun _ => rfl) (fun _ _ => rfl)
theorem law11_Do.f2 : Fld law11_Do.rep 2 (Rep.int .i64) law11_Do.B (fun s y => { s with B := y }) := Fld.iso (fun s : law11_Do => (s.Kind, s.A, s.B, s.ID, s.Other, s.Wrong, s.Data, ())) (Fld.there (Fld.there Fld.here)) (fun _ => rfl) (fun _ _ => rfl)
theorem law11_Do.f3 : Fld law11_Do.rep 3 (Rep.int .u16) law11_Do.ID (fun s y => { s with ID := y }) := Fld.iso (fun s : law11_Do => (s.Kind, s.A, s.B, s.ID, s.Other, s.Wrong, s.Data, ())) (Fld.there (Fld.there (Fld.there Fld.here))) (fun _ => rfl) (fun _ _ => rfl)
theorem law11_Do.f4 : Fld law11_Do.rep 4 (Rep.int .u16) law11_Do.Other (fun s y => { s with Other := y }) := Fld.iso (fun s : law11_Do => (s.Kind, s.A, s.B, s.ID, s.Other, s.Wrong, s.Data, ())) (Fld.there (Fld.there (Fld.there (Fld.there Fld.here)))) (fun _ => rfl) (fun _ _ => rfl)
theorem law11_Do.f5 : Fld law11_Do.rep 5 Rep.bool law11_Do.Wrong (fun s y => { s with Wrong := y }) := Fld.iso (fun s : law11_Do => (s.Kind, s.A, s.B, s.ID, s.Other, s.Wrong, s.Data, ())) (Fld.there (Fld.there (Fld.there (Fld.there (Fld.there Fld.here))))) (fun _ => rfl) (fun _ _ => rfl)
theorem law11_Do.f6 : Fld law11_Do.rep 6 (Rep.slice (Rep.int .u8)) law11_Do.Data (fun s y => { s with Data := y }) := Fld.iso (fun s : law11_Do => (s.Kind, s.A, s.B, s.ID, s.Other, s.Wrong, s.Data, ())) (Fld.there (Fld.there (Fld.there (Fld.there (Fld.there (Fld.there Fld.here)))))) (fun _ => rfl) (fun _ _ => rfl)
structure ref11_Item where
  ID : Int
  Data : List Int
def ref11_Item.rep : Rep ref11_Item := Rep.iso (fun s => (s.ID, s.Data, ())) (Rep.prod (Rep.int .i64) (Rep.prod (Rep.slice (Rep.int .u8)) Rep.unit))
def ref11_Item.z : ref11_Item := ⟨0, []⟩
theorem ref11_Item.zr : Zr ref11_Item.rep [.int .i64 0, .slice none 0 0] ref11_Item.z := Zr.iso (r := (Rep.prod (Rep.int .i64) (Rep.prod (Rep.slice (Rep.int .u8)) Rep.unit))) _ (Zr.of (Zr.prod (Zr.int .i64 0) (Zr.prod (Zr.slice (Rep.int .u8)) Zr.unit)) rfl)
theorem ref11_Item.f0 : Fld ref11_Item.rep 0 (Rep.int .i64) ref11_Item.ID (fun s y => { s with ID := y }) := Fld.iso (fun s : ref11_Item => (s.ID, s.Data, ())) Fld.here (fun _ => rfl) (fun _ _ => rfl)
theorem ref11_Item.f1 : Fld ref11_Item.rep 1 (Rep.slice (Rep.int .u8)) ref11_Item.Data (fun s y => { s with Data := y }) := Fld.iso (fun s : ref11_Item => (s.ID, s.Data, ())) (Fld.there Fld.here) (fun _ => rfl) (fun _ _ => rfl)
structure ref11_Repository where
  Capacity : Int
  Items : List ref11_Item
  Last : Int
  Held : Bool
  Given : Int
def ref11_Repository.rep : Rep ref11_Repository := Rep.iso (fun s => (s.Capacity, s.Items, s.Last, s.Held, s.Given, ())) (Rep.prod (Rep.int .i64) (Rep.prod (Rep.slice ref11_Item.rep) (Rep.prod (Rep.int .i64) (Rep.prod Rep.bool (Rep.prod (Rep.int .i64) Rep.unit)))))
def ref11_Repository.z : ref11_Repository := ⟨0, [], 0, false, 0⟩
theorem ref11_Repository.zr : Zr ref11_Repository.rep [.int .i64 0, .slice none 0 0, .int .i64 0, .bool false, .int .i64 0] ref11_Repository.z := Zr.iso (r := (Rep.prod (Rep.int .i64) (Rep.prod (Rep.slice ref11_Item.rep) (Rep.prod (Rep.int .i64) (Rep.prod Rep.bool (Rep.prod (Rep.int .i64) Rep.unit)))))) _ (Zr.of (Zr.prod (Zr.int .i64 0) (Zr.prod (Zr.slice ref11_Item.rep) (Zr.prod (Zr.int .i64 0) (Zr.prod (Zr.bool false) (Zr.prod (Zr.int .i64 0) Zr.unit))))) rfl)
theorem ref11_Repository.f0 : Fld ref11_Repository.rep 0 (Rep.int .i64) ref11_Repository.Capacity (fun s y => { s with Capacity := y }) := Fld.iso (fun s : ref11_Repository => (s.Capacity, s.Items, s.Last, s.Held, s.Given, ())) Fld.here (fun _ => rfl) (fun _ _ => rfl)
theorem ref11_Repository.f1 : Fld ref11_Repository.rep 1 (Rep.slice ref11_Item.rep) ref11_Repository.Items (fun s y => { s with Items := y }) := Fld.iso (fun s : ref11_Repository => (s.Capacity, s.Items, s.Last, s.Held, s.Given, ())) (Fld.there Fld.here) (fun _ => rfl) (fun _ _ => rfl)
theorem ref11_Repository.f2 : Fld ref11_Repository.rep 2 (Rep.int .i64) ref11_Repository.Last (fun s y => { s with Last := y }) := Fld.iso (fun s : ref11_Repository => (s.Capacity, s.Items, s.Last, s.Held, s.Given, ())) (Fld.there (Fld.there Fld.here)) (fun _ => rfl) (fun _ _ => rfl)
theorem ref11_Repository.f3 : Fld ref11_Repository.rep 3 Rep.bool ref11_Repository.Held (fun s y => { s with Held := y }) := Fld.iso (fun s : ref11_Repository => (s.Capacity, s.Items, s.Last, s.Held, s.Given, ())) (Fld.there (Fld.there (Fld.there Fld.here))) (fun _ => rfl) (fun _ _ => rfl)
theorem ref11_Repository.f4 : Fld ref11_Repository.rep 4 (Rep.int .i64) ref11_Repository.Given (fun s y => { s with Given := y }) := Fld.iso (fun s : ref11_Repository => (s.Capacity, s.Items, s.Last, s.Held, s.Given, ())) (Fld.there (Fld.there (Fld.there (Fld.there Fld.here)))) (fun _ => rfl) (fun _ _ => rfl)
def repository_record.ok (s : repository_record) : Prop := (okI .u16) s.id ∧ (okL (okI .u8)) s.bytes ∧ True
def repository_Repository.ok (s : repository_Repository) : Prop := (okI .i64) s.capacity ∧ (okL repository_record.ok) s.records ∧ (okI .u16) s.last ∧ (okI .u16) s.number ∧ (fun (_ : Bool) => True) s.held ∧ True
def made_Dice.ok (s : made_Dice) : Prop := (okL (okI .i64)) s.L ∧ (okI .i64) s.At ∧ True
def law11_Do.ok (s : law11_Do) : Prop := (okI .i64) s.Kind ∧ (okI .i64) s.A ∧ (okI .i64) s.B ∧ (okI .u16) s.ID ∧ (okI .u16) s.Other ∧ (fun (_ : Bool) => True) s.Wrong ∧ (okL (okI .u8)) s.Data ∧ True
def ref11_Item.ok (s : ref11_Item) : Prop := (okI .i64) s.ID ∧ (okL (okI .u8)) s.Data ∧ True
def ref11_Repository.ok (s : ref11_Repository) : Prop := (okI .i64) s.Capacity ∧ (okL ref11_Item.ok) s.Items ∧ (okI .i64) s.Last ∧ (fun (_ : Bool) => True) s.Held ∧ (okI .i64) s.Given ∧ True
def made_Light (fuel : Nat) (a0 : List Int) : Option (Bool) :=
  letP (decide ((a0.length : Int) ≤ 600)) fun x1 =>
  some x1
def repository_New (fuel : Nat) (a0 : Int) : Option ((Option repository_Repository) × Int) :=
  joinP (fun (s1 : Bool) =>
  iteP s1 (
  some (none, 2)) (
  some ((some ({ (⟨a0, [], 0, 0, false⟩ : repository_Repository) with records := [] })), 0))) fun j1 =>
  iteP (decide (a0 < 1)) (
  j1 (true)) (
  j1 (decide (a0 > 10240)))
def repository_Repository_Free (fuel : Nat) (a0 : repository_Repository) : Option (Int) :=
  loopP (fun k1 (s1 : (Int × Int)) =>
  iteP (decide (s1.2 < (a0.records.length : Int))) (
  bindP (idx a0.records s1.2) fun x1 =>
  letP (IntKind.i64.wrap (s1.1 - (x1.bytes.length : Int))) fun x2 =>
  k1 (x2, (IntKind.i64.wrap (s1.2 + 1)))) (
  some s1.1)) fuel (a0.capacity, 0)
def repository_Repository_find_1_2 (fuel : Nat) (a0 : repository_record) (a1 : Int) : Option (Bool) :=
  letP (a0.id == a1) fun x1 =>
  some x1
def slices_IndexFunc_repository_record_repository_record_repository_Repository_find_1 (fuel : Nat) (a0 : List repository_record) (a1_0 : Int) : Option (Int) :=
  loopP (fun k1 (s1 : Int) =>
  iteP (decide (s1 < (a0.length : Int))) (
  bindP (idx a0 s1) fun x1 =>
  bindP (repository_Repository_find_1_2 fuel x1 a1_0) fun y1 =>
  iteP y1 (
  some s1) (
  k1 ((IntKind.i64.wrap (s1 + 1))))) (
  some (-1))) fuel (0)
def repository_Repository_find (fuel : Nat) (a0 : repository_Repository) (a1 : Int) : Option (Int) :=
  bindP (slices_IndexFunc_repository_record_repository_record_repository_Repository_find_1 fuel a0.records a1) fun y1 =>
  some y1
def slices_Clone_byte_byte (fuel : Nat) (a0 : List Int) : Option ((List Int)) :=
  bindP (app 1 ([]) a0) fun x1 =>
  some x1
def repository_Repository_Add (fuel : Nat) (a0 : repository_Repository) (a1 : List Int) : Option (Int × Int × repository_Repository) :=
  joinP (fun (s1 : Bool) =>
  iteP s1 (
  some (0, 1, a0)) (
  letP ((a0.records.length : Int) == 64) fun x1 =>
  iteP x1 (
  some (0, 3, a0)) (
  bindP (repository_Repository_Free fuel a0) fun y1 =>
  letP (decide ((a1.length : Int) > y1)) fun x2 =>
  iteP x2 (
  some (0, 9, a0)) (
  loopP (fun k1 (s2 : repository_Repository) =>
  letP ({ s2 with last := (IntKind.u16.wrap ((Int.tmod s2.last 65534) + 1)) }) fun d1 =>
  bindP (repository_Repository_find fuel ({ d1 with records := s2.records }) d1.last) fun y2 =>
  iteP (decide (y2 < 0)) (
  bindP (slices_Clone_byte_byte fuel a1) fun y3 =>
  bindP (app 32 s2.records ([(⟨({ d1 with records := s2.records }).last, y3⟩ : repository_record)])) fun x3 =>
  letP ({ { d1 with records := s2.records } with held := false }) fun d2 =>
  some (d2.last, 0, { d2 with records := x3 })) (
  k1 ({ d1 with records := s2.records }))) fuel (a0))))) fun j1 =>
  iteP ((a1.length : Int) == 0) (
  j1 (true)) (
  letP (decide ((a1.length : Int) > 160)) fun x4 =>
  j1 (x4))
def repository_Repository_Reserve (fuel : Nat) (a0 : repository_Repository) : Option (Int × repository_Repository) :=
  joinP (fun (s1 : repository_Repository) =>
  letP ({ s1 with number := (IntKind.u16.wrap (s1.number + 1)) }) fun d1 =>
  letP ({ d1 with held := true }) fun d2 =>
  some (d2.number, { d2 with records := s1.records })) fun j1 =>
  iteP (a0.number == 65535) (
  letP ({ a0 with number := 0 }) fun d3 =>
  j1 ({ d3 with records := a0.records })) (
  j1 (a0))
def repository_Repository_holds (fuel : Nat) (a0 : repository_Repository) (a1 : Int) : Option (Bool) :=
  iteP a0.held (
  letP (a1 == a0.number) fun x1 =>
  some x1) (
  some false)
def repository_Repository_look (fuel : Nat) (a0 : repository_Repository) (a1 : Int) : Option ((List Int) × Int × Int) :=
  bindP (repository_Repository_find fuel a0 a1) fun y1 =>
  joinP (fun (s1 : Int) =>
  joinP (fun (s2 : Bool) =>
  iteP s2 (
  some ([], 0, 8)) (
  joinP (fun (s3 : Int) =>
  bindP (idx a0.records s1) fun x1 =>
  some (x1.bytes, s3, 0)) fun j3 =>
  iteP (decide ((IntKind.i64.wrap (s1 + 1)) < (a0.records.length : Int))) (
  bindP (idx a0.records (IntKind.i64.wrap (s1 + 1))) fun x2 =>
  j3 (x2.id)) (
  j3 (0)))) fun j2 =>
  iteP (decide (s1 < 0)) (
  j2 (true)) (
  j2 (decide (s1 ≥ (a0.records.length : Int))))) fun j1 =>
  iteP (a1 == 0) (
  j1 (0)) (
  j1 (y1))
def repository_Repository_Read (fuel : Nat) (a0 : repository_Repository) (a1 : Int) (a2 : Int) (a3 : Int) (a4 : Int) : Option ((List Int) × Int × Int) :=
  joinP (fun (s1 : Bool) =>
  iteP s1 (
  some ([], 0, 11)) (
  bindP (repository_Repository_look fuel a0 a2) fun y1 =>
  letP (y1.2.2 != 0) fun x1 =>
  iteP x1 (
  some ([], 0, y1.2.2)) (
  joinP (fun (s2 : Bool) =>
  iteP s2 (
  some ([], 0, 2)) (
  bindP (sub y1.1 a3 (IntKind.i64.wrap (a3 + a4))) fun x2 =>
  bindP (slices_Clone_byte_byte fuel x2) fun y2 =>
  some (y2, y1.2.1, 0))) fun j2 =>
  iteP (decide (a3 < 0)) (
  j2 (true)) (
  iteP (decide (a4 < 0)) (
  j2 (true)) (
  iteP (decide (a3 > (y1.1.length : Int))) (
  j2 (true)) (
  letP (decide (a4 > (IntKind.i64.wrap ((y1.1.length : Int) - a3)))) fun x3 =>
  j2 (x3))))))) fun j1 =>
  iteP (a3 != 0) (
  bindP (repository_Repository_holds fuel a0 a1) fun y3 =>
  j1 (!y3)) (
  j1 (false))
def law11_awake (fuel : Nat)  : Option (Bool) :=
  bindP (repository_New fuel 100) fun y1 =>
  joinP (fun (s1 : Bool) =>
  iteP s1 (
  some false) (
  bindP y1.1 fun x1 =>
  bindP (repository_Repository_Add fuel x1 ([1, 2])) fun y2 =>
  bindP (repository_Repository_Reserve fuel y2.2.2) fun y3 =>
  bindP (repository_Repository_Add fuel y3.2 ([3])) fun y4 =>
  bindP (repository_Repository_Read fuel y4.2.2 y3.1 y2.1 1 1) fun y5 =>
  bindP (repository_Repository_Read fuel y4.2.2 y3.1 y2.1 0 1) fun y6 =>
  iteP (y2.2.1 == 0) (
  iteP (y4.2.1 == 0) (
  iteP (y2.1 == 1) (
  iteP (y3.1 == 1) (
  iteP (y4.1 == 2) (
  iteP (y5.2.2 == 11) (
  iteP (y6.2.2 == 0) (
  iteP ((y6.1.length : Int) == 1) (
  iteP (y6.2.1 == 2) (
  bindP (repository_Repository_Free fuel y4.2.2) fun y7 =>
  letP (y7 == 97) fun x2 =>
  some x2) (
  some false)) (
  some false)) (
  some false)) (
  some false)) (
  some false)) (
  some false)) (
  some false)) (
  some false)) (
  some false))) fun j1 =>
  iteP y1.1.isNone (
  j1 (true)) (
  j1 (y1.2 != 0))
def made_Roll (fuel : Nat) (a0 : List Int) : Option (made_Dice) :=
  some (⟨a0, 0⟩ : made_Dice)
def made_Mod (fuel : Nat) (a0 : Int) (a1 : Int) : Option (Int) :=
  bindP (chk (decide (a1 ≠ 0))) fun _ =>
  iteP (decide ((Int.tmod a0 a1) < 0)) (
  letP (IntKind.i64.wrap ((Int.tmod a0 a1) + a1)) fun x1 =>
  some x1) (
  some (Int.tmod a0 a1))
def made_Dice_Next (fuel : Nat) (a0 : made_Dice) (a1 : Int) : Option (Int × made_Dice) :=
  iteP (decide (a0.At ≥ (a0.L.length : Int))) (
  some (0, a0)) (
  letP ({ a0 with At := (IntKind.i64.wrap (a0.At + 1)) }) fun d1 =>
  bindP (idx d1.L (IntKind.i64.wrap (d1.At - 1))) fun x1 =>
  bindP (made_Mod fuel x1 a1) fun y1 =>
  some (y1, d1))
def made_Dice_Bool (fuel : Nat) (a0 : made_Dice) (a1 : Int) : Option (Bool × made_Dice) :=
  bindP (made_Dice_Next fuel a0 a1) fun y1 =>
  letP (y1.1 == (IntKind.i64.wrap (a1 - 1))) fun x1 =>
  some (x1, y1.2)
def made_Dice_Byte (fuel : Nat) (a0 : made_Dice) : Option (Int × made_Dice) :=
  letP ([0, 1, 127, 128, 254, 255, 15, 240]) fun d1 =>
  bindP (made_Dice_Bool fuel a0 3) fun y1 =>
  iteP y1.1 (
  bindP (made_Dice_Next fuel y1.2 8) fun y2 =>
  bindP (idx d1 y2.1) fun x1 =>
  bindP (chk (Nat.beq d1.length 8)) fun _ =>
  some (x1, y2.2)) (
  bindP (made_Dice_Next fuel y1.2 256) fun y3 =>
  some ((IntKind.u8.wrap y3.1), y3.2))
def made_Dice_Bytes (fuel : Nat) (a0 : made_Dice) (a1 : Int) : Option ((List Int) × made_Dice) :=
  bindP (made_Dice_Next fuel a0 (IntKind.i64.wrap (a1 + 1))) fun y1 =>
  loopP (fun k1 (s1 : (Int × made_Dice × (List Int))) =>
  iteP (decide (s1.1 > 0)) (
  bindP (made_Dice_Byte fuel s1.2.1) fun y2 =>
  bindP (app 1 s1.2.2 ([y2.1])) fun x1 =>
  letP (IntKind.i64.wrap (s1.1 - 1)) fun x2 =>
  k1 (x2, y2.2, x1)) (
  some (s1.2.2, s1.2.1))) fuel (y1.1, y1.2, [])
def law11_made (fuel : Nat) (a0 : List Int) : Option ((Option repository_Repository) × (List (List Int)) × Bool) :=
  bindP (repository_New fuel 2000) fun y1 =>
  joinP (fun (s1 : Bool) =>
  iteP s1 (
  some (none, [], false)) (
  bindP (made_Roll fuel a0) fun y2 =>
  bindP (made_Dice_Next fuel y2 8) fun y3 =>
  letP (IntKind.i64.wrap (1 + y3.1)) fun x1 =>
  loopP (fun k1 (s2 : (Int × made_Dice × (List (List Int)) × (Option repository_Repository))) =>
  iteP (decide (s2.1 > 0)) (
  bindP (made_Dice_Bytes fuel s2.2.1 30) fun y4 =>
  bindP (app 1 y4.1 ([(IntKind.u8.wrap s2.1)])) fun x2 =>
  bindP s2.2.2.2 fun x3 =>
  bindP (repository_Repository_Add fuel x3 x2) fun y5 =>
  iteP (y5.2.1 != 0) (
  some (none, [], false)) (
  bindP (app 24 s2.2.2.1 ([x2])) fun x4 =>
  letP (IntKind.i64.wrap (s2.1 - 1)) fun x5 =>
  k1 (x5, y4.2, x4, (some y5.2.2)))) (
  some (s2.2.2.2, s2.2.2.1, true))) fuel (x1, y3.2, [], y1.1))) fun j1 =>
  iteP y1.1.isNone (
  j1 (true)) (
  j1 (y1.2 != 0))
def repository_Repository_IDs (fuel : Nat) (a0 : repository_Repository) : Option ((List Int)) :=
  loopP (fun k1 (s1 : (Int × (List Int))) =>
  iteP (decide (s1.1 < (a0.records.length : Int))) (
  bindP (idx a0.records s1.1) fun x1 =>
  bindP (app 2 s1.2 ([x1.id])) fun x2 =>
  k1 ((IntKind.i64.wrap (s1.1 + 1)), x2)) (
  some s1.2)) fuel (0, [])
def repository_Repository_Get (fuel : Nat) (a0 : repository_Repository) (a1 : Int) : Option ((List Int) × Int × Int) :=
  bindP (repository_Repository_look fuel a0 a1) fun y1 =>
  bindP (slices_Clone_byte_byte fuel y1.1) fun y2 =>
  some (y2, y1.2.1, y1.2.2)
def ref01_Same (fuel : Nat) (a0 : List Int) (a1 : List Int) : Option (Bool) :=
  iteP ((a0.length : Int) != (a1.length : Int)) (
  some false) (
  loopP (fun k1 (s1 : Int) =>
  iteP (decide (s1 < (a0.length : Int))) (
  bindP (idx a0 s1) fun x1 =>
  bindP (idx a1 s1) fun x2 =>
  iteP (x1 != x2) (
  some false) (
  letP (IntKind.i64.wrap (s1 + 1)) fun x3 =>
  k1 (x3))) (
  some true)) fuel (0))
def law11_RepositoryParts (fuel : Nat) (a0 : List Int) (a1 : Int) (a2 : Int) : Option (Bool) :=
  bindP (made_Light fuel a0) fun y1 =>
  iteP (!y1) (
  bindP (law11_awake fuel) fun y2 =>
  some y2) (
  bindP (law11_made fuel a0) fun y3 =>
  bindP y3.1 fun x1 =>
  bindP (repository_Repository_IDs fuel x1) fun y4 =>
  joinP (fun (s1 : Bool) =>
  iteP s1 (
  some false) (
  bindP (made_Mod fuel a1 (y3.2.1.length : Int)) fun y5 =>
  bindP (made_Mod fuel a2 12) fun y6 =>
  letP (IntKind.i64.wrap (1 + y6)) fun x2 =>
  bindP (repository_Repository_Reserve fuel x1) fun y7 =>
  loopP (fun k1 (s2 : (Int × (List Int))) =>
  bindP (idx y3.2.1 y5) fun x3 =>
  iteP (decide (s2.1 < (x3.length : Int))) (
  bindP (idx y4 y5) fun x4 =>
  bindP (idx y3.2.1 y5) fun x5 =>
  bindP (repository_Repository_Read fuel y7.2 y7.1 x4 s2.1 (min x2 (IntKind.i64.wrap ((x5.length : Int) - s2.1)))) fun y8 =>
  joinP (fun (s3 : Bool) =>
  iteP s3 (
  some false) (
  bindP (app 1 s2.2 y8.1) fun x6 =>
  bindP (idx y8.1 0) fun x7 =>
  bindP (idx y8.1 0) fun x8 =>
  letP (upd y8.1 0 (bXor .u8 x7 255)) fun d1 =>
  letP (IntKind.i64.wrap (s2.1 + x2)) fun x9 =>
  k1 (x9, x6))) fun j2 =>
  iteP (y8.2.2 != 0) (
  j2 (true)) (
  j2 ((y8.1.length : Int) == 0))) (
  bindP (idx y4 y5) fun x10 =>
  bindP (repository_Repository_Get fuel y7.2 x10) fun y9 =>
  iteP (y9.2.2 == 0) (
  bindP (idx y3.2.1 y5) fun x11 =>
  bindP (ref01_Same fuel s2.2 x11) fun y10 =>
  iteP y10 (
  bindP (idx y3.2.1 y5) fun x12 =>
  bindP (ref01_Same fuel y9.1 x12) fun y11 =>
  iteP y11 (
  bindP (law11_awake fuel) fun y12 =>
  some y12) (
  some false)) (
  some false)) (
  some false))) fuel (0, []))) fun j1 =>
  iteP (!y3.2.2) (
  j1 (true)) (
  j1 ((y4.length : Int) != (y3.2.1.length : Int))))
def repository_Repository_Clear (fuel : Nat) (a0 : repository_Repository) (a1 : Int) : Option (Int × repository_Repository) :=
  bindP (repository_Repository_holds fuel a0 a1) fun y1 =>
  iteP (!y1) (
  some (11, a0)) (
  letP ({ a0 with held := false }) fun d1 =>
  some (0, { d1 with records := [] }))
def law11_RepositoryRoom (fuel : Nat) (a0 : Int) (a1 : List Int) : Option (Bool) :=
  iteP (decide ((a1.length : Int) > 80)) (
  bindP (law11_awake fuel) fun y1 =>
  some y1) (
  bindP (made_Mod fuel a0 900) fun y2 =>
  letP (IntKind.i64.wrap (1 + y2)) fun x1 =>
  bindP (repository_New fuel x1) fun y3 =>
  joinP (fun (s1 : Bool) =>
  iteP s1 (
  some false) (
  loopP (fun k1 (s2 : (Int × Int × Int × (Option repository_Repository))) =>
  iteP (decide (s2.2.2.1 < (a1.length : Int))) (
  bindP (idx a1 s2.2.2.1) fun x2 =>
  bindP (made_Mod fuel x2 162) fun y4 =>
  bindP (idx a1 s2.2.2.1) fun x3 =>
  bindP (made_Mod fuel x3 7) fun y5 =>
  joinP (fun (s3 : Int) =>
  bindP (mk 1 0 s3) fun x4 =>
  bindP s2.2.2.2 fun x5 =>
  bindP (repository_Repository_Add fuel x5 x4) fun y6 =>
  joinP (fun (s4 : Bool) =>
  joinP (fun (s5 : Int) =>
  iteP (y6.2.1 != s5) (
  some false) (
  joinP (fun (s6 : (Int × Int)) =>
  bindP (repository_Repository_Free fuel y6.2.2) fun y7 =>
  joinP (fun (s7 : Bool) =>
  iteP s7 (
  some false) (
  letP (IntKind.i64.wrap (s2.2.2.1 + 1)) fun x6 =>
  k1 (s6.1, s6.2, x6, (some y6.2.2)))) fun j6 =>
  iteP (y7 != s6.1) (
  j6 (true)) (
  bindP (repository_Repository_IDs fuel y6.2.2) fun y8 =>
  j6 ((y8.length : Int) != s6.2))) fun j5 =>
  iteP (y6.2.1 == 0) (
  letP (IntKind.i64.wrap (s2.1 - s3)) fun x7 =>
  letP (IntKind.i64.wrap (s2.2.1 + 1)) fun x8 =>
  j5 (x7, x8)) (
  j5 (s2.1, s2.2.1)))) fun j4 =>
  iteP s4 (
  j4 (1)) (
  letP (s2.2.1 == 64) fun x9 =>
  iteP x9 (
  j4 (3)) (
  letP (decide (s3 > s2.1)) fun x10 =>
  iteP x10 (
  j4 (9)) (
  j4 (0))))) fun j3 =>
  iteP (s3 == 0) (
  j3 (true)) (
  letP (decide (s3 > 160)) fun x11 =>
  j3 (x11))) fun j2 =>
  iteP (y5 != 0) (
  j2 ((Int.tmod y4 14))) (
  j2 (y4))) (
  bindP s2.2.2.2 fun x12 =>
  bindP (repository_Repository_Reserve fuel x12) fun y9 =>
  bindP (repository_Repository_Clear fuel y9.2 y9.1) fun y10 =>
  iteP (y10.1 == 0) (
  bindP (repository_Repository_Free fuel y10.2) fun y11 =>
  iteP (y11 == x1) (
  bindP (repository_Repository_IDs fuel y10.2) fun y12 =>
  iteP ((y12.length : Int) == 0) (
  bindP (law11_awake fuel) fun y13 =>
  some y13) (
  some false)) (
  some false)) (
  some false))) fuel (x1, 0, 0, y3.1))) fun j1 =>
  iteP y3.1.isNone (
  j1 (true)) (
  j1 (y3.2 != 0)))
def slices_Delete_repository_record_repository_record (fuel : Nat) (a0 : List repository_record) (a1 : Int) (a2 : Int) : Option ((List repository_record)) :=
  bindP (chk (decide (0 ≤ a1 ∧ a1 ≤ a2 ∧ a2 ≤ (a0.length : Int) ∧ (a0.length : Int) ≤ (a0.length : Int)))) fun _ =>
  iteP (a1 == a2) (
  some a0) (
  bindP (chk (decide (0 ≤ a1 ∧ a1 ≤ (a0.length : Int)))) fun _ =>
  bindP (chk (decide (0 ≤ a2 ∧ a2 ≤ (a0.length : Int) ∧ (a0.length : Int) ≤ (a0.length : Int)))) fun _ =>
  bindP (chk (decide ((a1).toNat ≤ a2.toNat ∧ a2.toNat ≤ a0.length))) fun _ =>
  bindP (chk (decide (0 ≤ ((a0.take ((a1).toNat) ++ a0.drop a2.toNat).length : Int) ∧ ((a0.take ((a1).toNat) ++ a0.drop a2.toNat).length : Int) ≤ (a0.length : Int) ∧ (a0.length : Int) ≤ (a0.length : Int)))) fun _ =>
  bindP (chk (decide ((a0.take ((a1).toNat) ++ a0.drop a2.toNat).length ≤ (a0.length : Int).toNat ∧ (a0.length : Int).toNat ≤ a0.length))) fun _ =>
  some (a0.take ((a1).toNat) ++ a0.drop a2.toNat))
def repository_Repository_Delete (fuel : Nat) (a0 : repository_Repository) (a1 : Int) (a2 : Int) : Option (Int × repository_Repository) :=
  bindP (repository_Repository_find fuel a0 a2) fun y1 =>
  bindP (repository_Repository_holds fuel a0 a1) fun y2 =>
  letP (!y2) fun x1 =>
  iteP x1 (
  some (11, a0)) (
  letP (decide (y1 < 0)) fun x2 =>
  iteP x2 (
  some (8, a0)) (
  bindP (slices_Delete_repository_record_repository_record fuel a0.records y1 (IntKind.i64.wrap (y1 + 1))) fun y3 =>
  letP ({ a0 with held := false }) fun d1 =>
  some (0, { d1 with records := y3 })))
def law11_RepositoryWalks (fuel : Nat) (a0 : List Int) (a1 : List Int) : Option (Bool) :=
  bindP (made_Light fuel a0) fun y1 =>
  joinP (fun (s1 : Bool) =>
  iteP s1 (
  bindP (law11_awake fuel) fun y2 =>
  some y2) (
  bindP (law11_made fuel a0) fun y3 =>
  iteP (!y3.2.2) (
  some false) (
  loopP (fun k1 (s2 : ((List (List Int)) × Int × (Option repository_Repository))) =>
  joinP (fun (s3 : Bool) =>
  iteP s3 (
  bindP (idx a1 s2.2.1) fun x1 =>
  bindP (made_Mod fuel x1 (s2.1.length : Int)) fun y4 =>
  bindP s2.2.2 fun x2 =>
  bindP (repository_Repository_IDs fuel x2) fun y5 =>
  joinP (fun (s4 : (Bool × (Option repository_Repository))) =>
  iteP s4.1 (
  some false) (
  bindP (sub s2.1 0 y4) fun x3 =>
  bindP (app 24 ([]) x3) fun x4 =>
  bindP (sub s2.1 (IntKind.i64.wrap (y4 + 1)) s2.1.length) fun x5 =>
  bindP (app 24 x4 x5) fun x6 =>
  letP (IntKind.i64.wrap (s2.2.1 + 1)) fun x7 =>
  k1 (x6, x7, s4.2))) fun j3 =>
  letP ((y5.length : Int) != (s2.1.length : Int)) fun x8 =>
  iteP x8 (
  j3 (true, (some x2))) (
  bindP (repository_Repository_Reserve fuel x2) fun y6 =>
  bindP (idx y5 y4) fun x9 =>
  bindP (repository_Repository_Delete fuel y6.2 y6.1 x9) fun y7 =>
  j3 (y7.1 != 0, (some y7.2)))) (
  bindP s2.2.2 fun x10 =>
  bindP (repository_Repository_IDs fuel x10) fun y8 =>
  iteP ((y8.length : Int) != (s2.1.length : Int)) (
  some false) (
  loopP (fun k2 (s5 : (Int × Int)) =>
  iteP (decide (s5.2 < (s2.1.length : Int))) (
  loopP (fun k3 (s6 : Int) =>
  iteP (decide (s6 < s5.2)) (
  bindP (idx y8 s6) fun x11 =>
  bindP (idx y8 s5.2) fun x12 =>
  iteP (x11 == x12) (
  some false) (
  letP (IntKind.i64.wrap (s6 + 1)) fun x13 =>
  k3 (x13))) (
  bindP (repository_Repository_Get fuel x10 s5.1) fun y9 =>
  joinP (fun (s7 : Bool) =>
  iteP s7 (
  some false) (
  letP (IntKind.i64.wrap (s5.2 + 1)) fun x14 =>
  k2 (y9.2.1, x14))) fun j4 =>
  iteP (y9.2.2 != 0) (
  j4 (true)) (
  bindP (idx s2.1 s5.2) fun x15 =>
  bindP (ref01_Same fuel y9.1 x15) fun y10 =>
  iteP (!y10) (
  j4 (true)) (
  j4 ((y9.2.1 == 0) != ((IntKind.i64.wrap (s5.2 + 1)) == (s2.1.length : Int))))))) fuel (0)) (
  bindP (repository_Repository_Get fuel x10 0) fun y11 =>
  iteP ((y11.2.2 == 0) == (decide ((s2.1.length : Int) > 0))) (
  bindP (law11_awake fuel) fun y12 =>
  some y12) (
  some false))) fuel (0, 0)))) fun j2 =>
  iteP (decide (s2.2.1 < (a1.length : Int))) (
  j2 (decide ((s2.1.length : Int) > 0))) (
  j2 (false))) fuel (y3.2.1, 0, y3.1)))) fun j1 =>
  iteP (!y1) (
  j1 (true)) (
  j1 (decide ((a1.length : Int) > 10)))
def law11_RepositoryTears (fuel : Nat) (a0 : List Int) (a1 : Int) (a2 : Int) : Option (Bool) :=
  bindP (made_Light fuel a0) fun y1 =>
  iteP (!y1) (
  bindP (law11_awake fuel) fun y2 =>
  some y2) (
  bindP (law11_made fuel a0) fun y3 =>
  bindP y3.1 fun x1 =>
  bindP (repository_Repository_IDs fuel x1) fun y4 =>
  joinP (fun (s1 : Bool) =>
  iteP s1 (
  some false) (
  bindP (repository_Repository_Reserve fuel x1) fun y5 =>
  bindP (repository_Repository_Read fuel y5.2 y5.1 0 0 1) fun y6 =>
  bindP (made_Mod fuel a1 4) fun y7 =>
  letP (y7 == 0) fun x2 =>
  joinP (fun (s2 : (Int × repository_Repository)) =>
  bindP (idx y4 0) fun x3 =>
  bindP (made_Mod fuel a2 5) fun y8 =>
  bindP (repository_Repository_Read fuel s2.2 y5.1 x3 (IntKind.i64.wrap (1 + y8)) 0) fun y9 =>
  iteP (y6.2.2 == 0) (
  iteP (s2.1 == 0) (
  iteP (y9.2.2 == 11) (
  iteP ((y9.1.length : Int) == 0) (
  iteP (y9.2.1 == 0) (
  bindP (idx y4 0) fun x4 =>
  bindP (repository_Repository_Delete fuel s2.2 y5.1 x4) fun y10 =>
  iteP (y10.1 == 11) (
  bindP (law11_awake fuel) fun y11 =>
  some y11) (
  some false)) (
  some false)) (
  some false)) (
  some false)) (
  some false)) (
  some false)) fun j2 =>
  iteP x2 (
  bindP (repository_Repository_Add fuel y5.2 ([9])) fun y12 =>
  j2 (y12.2.1, y12.2.2)) (
  letP (y7 == 1) fun x5 =>
  iteP x5 (
  bindP (idx y4 (IntKind.i64.wrap ((y4.length : Int) - 1))) fun x6 =>
  bindP (repository_Repository_Delete fuel y5.2 y5.1 x6) fun y13 =>
  j2 (y13.1, y13.2)) (
  letP (y7 == 2) fun x7 =>
  iteP x7 (
  bindP (repository_Repository_Clear fuel y5.2 y5.1) fun y14 =>
  j2 (y14.1, y14.2)) (
  bindP (repository_Repository_Reserve fuel y5.2) fun y15 =>
  iteP (y15.1 == y5.1) (
  some false) (
  j2 (0, y15.2))))))) fun j1 =>
  iteP (!y3.2.2) (
  j1 (true)) (
  j1 ((y4.length : Int) != (y3.2.1.length : Int))))
def law11_light (fuel : Nat) (a0 : List law11_Do) : Option (Bool) :=
  iteP (decide ((a0.length : Int) > 100)) (
  some false) (
  loopP (fun k1 (s1 : Int) =>
  iteP (decide (s1 < (a0.length : Int))) (
  bindP (idx a0 s1) fun x1 =>
  iteP (decide ((x1.Data.length : Int) > 300)) (
  some false) (
  letP (IntKind.i64.wrap (s1 + 1)) fun x2 =>
  k1 (x2))) (
  some true)) fuel (0))
def ref11_New (fuel : Nat) (a0 : Int) : Option ((Option ref11_Repository) × Int) :=
  joinP (fun (s1 : Bool) =>
  iteP s1 (
  some (none, 2)) (
  some ((some ({ (⟨a0, [], 0, false, 0⟩ : ref11_Repository) with Items := [] })), 0))) fun j1 =>
  iteP (decide (a0 < 1)) (
  j1 (true)) (
  j1 (decide (a0 > 10240)))
def ref11_Repository_Free (fuel : Nat) (a0 : ref11_Repository) : Option (Int) :=
  loopP (fun k1 (s1 : (Int × Int)) =>
  iteP (decide (s1.2 < (a0.Items.length : Int))) (
  bindP (idx a0.Items s1.2) fun x1 =>
  letP (IntKind.i64.wrap (s1.1 - (x1.Data.length : Int))) fun x2 =>
  letP (IntKind.i64.wrap (s1.2 + 1)) fun x3 =>
  k1 (x2, x3)) (
  some s1.1)) fuel (a0.Capacity, 0)
def ref11_Repository_Find (fuel : Nat) (a0 : ref11_Repository) (a1 : Int) : Option (Int) :=
  loopP (fun k1 (s1 : Int) =>
  iteP (decide (s1 < (a0.Items.length : Int))) (
  bindP (idx a0.Items s1) fun x1 =>
  iteP (x1.ID == a1) (
  some s1) (
  letP (IntKind.i64.wrap (s1 + 1)) fun x2 =>
  k1 (x2))) (
  some (-1))) fuel (0)
def ref01_Copy (fuel : Nat) (a0 : List Int) : Option ((List Int)) :=
  loopP (fun k1 (s1 : (Int × (List Int))) =>
  iteP (decide (s1.1 < (a0.length : Int))) (
  bindP (idx a0 s1.1) fun x1 =>
  bindP (app 1 s1.2 ([x1])) fun x2 =>
  letP (IntKind.i64.wrap (s1.1 + 1)) fun x3 =>
  k1 (x3, x2)) (
  some s1.2)) fuel (0, [])
def ref11_Repository_Add (fuel : Nat) (a0 : ref11_Repository) (a1 : List Int) : Option (Int × Int × ref11_Repository) :=
  joinP (fun (s1 : Bool) =>
  iteP s1 (
  some (0, 1, a0)) (
  iteP (decide ((a0.Items.length : Int) ≥ 64)) (
  some (0, 3, a0)) (
  bindP (ref11_Repository_Free fuel a0) fun y1 =>
  iteP (decide ((a1.length : Int) > y1)) (
  some (0, 9, a0)) (
  letP (IntKind.i64.wrap ((Int.tmod a0.Given 65534) + 1)) fun x1 =>
  loopP (fun k1 (s2 : Int) =>
  bindP (ref11_Repository_Find fuel a0 s2) fun y2 =>
  iteP (decide (y2 ≥ 0)) (
  letP (IntKind.i64.wrap ((Int.tmod s2 65534) + 1)) fun x2 =>
  k1 (x2)) (
  letP ({ a0 with Given := s2 }) fun d1 =>
  bindP (ref01_Copy fuel a1) fun y3 =>
  bindP (app 32 a0.Items ([(⟨s2, y3⟩ : ref11_Item)])) fun x3 =>
  letP ({ d1 with Held := false }) fun d2 =>
  some ((IntKind.u16.wrap s2), 0, { d2 with Items := x3 }))) fuel (x1))))) fun j1 =>
  iteP ((a1.length : Int) == 0) (
  j1 (true)) (
  j1 (decide ((a1.length : Int) > 160)))
def ref11_Repository_Reserve (fuel : Nat) (a0 : ref11_Repository) : Option (Int × ref11_Repository) :=
  letP ({ a0 with Last := (IntKind.i64.wrap ((Int.tmod a0.Last 65535) + 1)) }) fun d1 =>
  letP ({ d1 with Held := true }) fun d2 =>
  letP (IntKind.u16.wrap d2.Last) fun x1 =>
  some (x1, { d2 with Items := a0.Items })
def ref11_Repository_index (fuel : Nat) (a0 : ref11_Repository) (a1 : Int) : Option (Int) :=
  joinP (fun (s1 : Bool) =>
  iteP s1 (
  some 0) (
  bindP (ref11_Repository_Find fuel a0 (IntKind.i64.wrap a1)) fun y1 =>
  some y1)) fun j1 =>
  iteP (a1 == 0) (
  j1 (decide ((a0.Items.length : Int) > 0))) (
  j1 (false))
def ref11_Repository_next (fuel : Nat) (a0 : ref11_Repository) (a1 : Int) : Option (Int) :=
  iteP (decide ((IntKind.i64.wrap (a1 + 1)) < (a0.Items.length : Int))) (
  bindP (idx a0.Items (IntKind.i64.wrap (a1 + 1))) fun x1 =>
  some (IntKind.u16.wrap x1.ID)) (
  some 0)
def ref11_Repository_Get (fuel : Nat) (a0 : ref11_Repository) (a1 : Int) : Option ((List Int) × Int × Int) :=
  bindP (ref11_Repository_index fuel a0 a1) fun y1 =>
  iteP (decide (y1 < 0)) (
  some ([], 0, 8)) (
  bindP (idx a0.Items y1) fun x1 =>
  bindP (ref01_Copy fuel x1.Data) fun y2 =>
  bindP (ref11_Repository_next fuel a0 y1) fun y3 =>
  some (y2, y3, 0))
def ref11_Repository_held (fuel : Nat) (a0 : ref11_Repository) (a1 : Int) : Option (Bool) :=
  iteP a0.Held (
  letP ((IntKind.i64.wrap a1) == a0.Last) fun x1 =>
  some x1) (
  some false)
def ref11_Repository_Read (fuel : Nat) (a0 : ref11_Repository) (a1 : Int) (a2 : Int) (a3 : Int) (a4 : Int) : Option ((List Int) × Int × Int) :=
  joinP (fun (s1 : Bool) =>
  iteP s1 (
  some ([], 0, 11)) (
  bindP (ref11_Repository_index fuel a0 a2) fun y1 =>
  iteP (decide (y1 < 0)) (
  some ([], 0, 8)) (
  bindP (idx a0.Items y1) fun x1 =>
  joinP (fun (s2 : Bool) =>
  iteP s2 (
  some ([], 0, 2)) (
  bindP (sub x1.Data a3 (IntKind.i64.wrap (a3 + a4))) fun x2 =>
  bindP (ref01_Copy fuel x2) fun y2 =>
  bindP (ref11_Repository_next fuel a0 y1) fun y3 =>
  some (y2, y3, 0))) fun j2 =>
  iteP (decide (a3 < 0)) (
  j2 (true)) (
  iteP (decide (a4 < 0)) (
  j2 (true)) (
  iteP (decide (a3 > (x1.Data.length : Int))) (
  j2 (true)) (
  j2 (decide (a4 > (IntKind.i64.wrap ((x1.Data.length : Int) - a3)))))))))) fun j1 =>
  iteP (a3 != 0) (
  bindP (ref11_Repository_held fuel a0 a1) fun y4 =>
  j1 (!y4)) (
  j1 (false))
def ref11_Repository_Delete (fuel : Nat) (a0 : ref11_Repository) (a1 : Int) (a2 : Int) : Option (Int × ref11_Repository) :=
  bindP (ref11_Repository_held fuel a0 a1) fun y1 =>
  iteP (!y1) (
  some (11, a0)) (
  bindP (ref11_Repository_Find fuel a0 (IntKind.i64.wrap a2)) fun y2 =>
  iteP (decide (y2 < 0)) (
  some (8, a0)) (
  loopP (fun k1 (s1 : (Int × (List ref11_Item))) =>
  iteP (decide (s1.1 < (a0.Items.length : Int))) (
  iteP (s1.1 != y2) (
  bindP (idx a0.Items s1.1) fun x1 =>
  bindP (app 32 s1.2 ([x1])) fun x2 =>
  letP (IntKind.i64.wrap (s1.1 + 1)) fun x3 =>
  k1 (x3, x2)) (
  letP (IntKind.i64.wrap (s1.1 + 1)) fun x4 =>
  k1 (x4, s1.2))) (
  letP ({ a0 with Held := false }) fun d1 =>
  some (0, { d1 with Items := s1.2 }))) fuel (0, [])))
def ref11_Repository_Clear (fuel : Nat) (a0 : ref11_Repository) (a1 : Int) : Option (Int × ref11_Repository) :=
  bindP (ref11_Repository_held fuel a0 a1) fun y1 =>
  iteP (!y1) (
  some (11, a0)) (
  letP ({ a0 with Held := false }) fun d1 =>
  some (0, { d1 with Items := [] }))
def ref11_Repository_IDs (fuel : Nat) (a0 : ref11_Repository) : Option ((List Int)) :=
  loopP (fun k1 (s1 : (Int × (List Int))) =>
  iteP (decide (s1.1 < (a0.Items.length : Int))) (
  bindP (idx a0.Items s1.1) fun x1 =>
  bindP (app 2 s1.2 ([(IntKind.u16.wrap x1.ID)])) fun x2 =>
  letP (IntKind.i64.wrap (s1.1 + 1)) fun x3 =>
  k1 (x3, x2)) (
  some s1.2)) fuel (0, [])
def law11_sameIDs (fuel : Nat) (a0 : List Int) (a1 : List Int) : Option (Bool) :=
  iteP ((a0.length : Int) != (a1.length : Int)) (
  some false) (
  loopP (fun k1 (s1 : Int) =>
  iteP (decide (s1 < (a0.length : Int))) (
  bindP (idx a0 s1) fun x1 =>
  bindP (idx a1 s1) fun x2 =>
  iteP (x1 != x2) (
  some false) (
  letP (IntKind.i64.wrap (s1 + 1)) fun x3 =>
  k1 (x3))) (
  some true)) fuel (0))
def law11_RepositoryPlays (fuel : Nat) (a0 : Int) (a1 : List law11_Do) : Option (Bool) :=
  bindP (law11_light fuel a1) fun y1 =>
  iteP (!y1) (
  bindP (law11_awake fuel) fun y2 =>
  some y2) (
  bindP (repository_New fuel a0) fun y3 =>
  bindP (ref11_New fuel a0) fun y4 =>
  joinP (fun (s1 : Bool) =>
  iteP s1 (
  some false) (
  bindP (made_Mod fuel a0 600) fun y5 =>
  letP (IntKind.i64.wrap (1 + y5)) fun x1 =>
  bindP (repository_New fuel x1) fun y6 =>
  bindP (ref11_New fuel x1) fun y7 =>
  joinP (fun (s2 : Bool) =>
  iteP s2 (
  some false) (
  loopP (fun k1 (s3 : (Int × Int × (Option repository_Repository) × (Option ref11_Repository))) =>
  iteP (decide (s3.2.1 < (a1.length : Int))) (
  bindP (idx a1 s3.2.1) fun x2 =>
  joinP (fun (s4 : Int) =>
  joinP (fun (s5 : Bool) =>
  joinP (fun (s6 : Int) =>
  bindP (made_Mod fuel x2.Kind 6) fun y8 =>
  letP (y8 == 0) fun x3 =>
  joinP (fun (s7 : (Int × repository_Repository × ref11_Repository)) =>
  bindP (repository_Repository_Free fuel s7.2.1) fun y9 =>
  bindP (ref11_Repository_Free fuel s7.2.2) fun y10 =>
  joinP (fun (s8 : Bool) =>
  iteP s8 (
  some false) (
  letP (IntKind.i64.wrap (s3.2.1 + 1)) fun x4 =>
  k1 (s7.1, x4, (some s7.2.1), (some s7.2.2)))) fun j7 =>
  iteP (y9 != y10) (
  j7 (true)) (
  bindP (repository_Repository_IDs fuel s7.2.1) fun y11 =>
  bindP (ref11_Repository_IDs fuel s7.2.2) fun y12 =>
  bindP (law11_sameIDs fuel y11 y12) fun y13 =>
  j7 (!y13))) fun j6 =>
  iteP x3 (
  bindP s3.2.2.1 fun x5 =>
  bindP (repository_Repository_Add fuel x5 x2.Data) fun y14 =>
  bindP s3.2.2.2 fun x6 =>
  bindP (ref11_Repository_Add fuel x6 x2.Data) fun y15 =>
  joinP (fun (s9 : Bool) =>
  iteP s9 (
  some false) (
  j6 (s3.1, y14.2.2, y15.2.2))) fun j8 =>
  iteP (y14.1 != y15.1) (
  j8 (true)) (
  j8 (y14.2.1 != y15.2.1))) (
  letP (y8 == 1) fun x7 =>
  iteP x7 (
  bindP s3.2.2.2 fun x8 =>
  bindP (ref11_Repository_Reserve fuel x8) fun y16 =>
  bindP s3.2.2.1 fun x9 =>
  bindP (repository_Repository_Reserve fuel x9) fun y17 =>
  iteP (y17.1 != y16.1) (
  some false) (
  j6 (y16.1, y17.2, y16.2))) (
  letP (y8 == 2) fun x10 =>
  iteP x10 (
  bindP s3.2.2.1 fun x11 =>
  bindP (repository_Repository_Get fuel x11 s6) fun y18 =>
  bindP s3.2.2.2 fun x12 =>
  bindP (ref11_Repository_Get fuel x12 s6) fun y19 =>
  joinP (fun (s10 : Bool) =>
  iteP s10 (
  some false) (
  j6 (s3.1, x11, x12))) fun j9 =>
  iteP (y18.2.2 != y19.2.2) (
  j9 (true)) (
  iteP (y18.2.1 != y19.2.1) (
  j9 (true)) (
  bindP (ref01_Same fuel y18.1 y19.1) fun y20 =>
  j9 (!y20)))) (
  letP (y8 == 3) fun x13 =>
  iteP x13 (
  joinP (fun (s11 : (Int × Int)) =>
  bindP s3.2.2.1 fun x14 =>
  bindP (repository_Repository_Read fuel x14 s4 s6 s11.1 s11.2) fun y21 =>
  bindP s3.2.2.2 fun x15 =>
  bindP (ref11_Repository_Read fuel x15 s4 s6 s11.1 s11.2) fun y22 =>
  joinP (fun (s12 : Bool) =>
  iteP s12 (
  some false) (
  j6 (s3.1, x14, x15))) fun j11 =>
  iteP (y21.2.2 != y22.2.2) (
  j11 (true)) (
  iteP (y21.2.1 != y22.2.1) (
  j11 (true)) (
  bindP (ref01_Same fuel y21.1 y22.1) fun y23 =>
  j11 (!y23)))) fun j10 =>
  iteP (!x2.Wrong) (
  bindP (made_Mod fuel x2.A 9) fun y24 =>
  bindP (made_Mod fuel x2.B 9) fun y25 =>
  j10 (y24, y25)) (
  j10 (x2.A, x2.B))) (
  letP (y8 == 4) fun x16 =>
  iteP x16 (
  bindP s3.2.2.1 fun x17 =>
  bindP (repository_Repository_Delete fuel x17 s4 s6) fun y26 =>
  bindP s3.2.2.2 fun x18 =>
  bindP (ref11_Repository_Delete fuel x18 s4 s6) fun y27 =>
  iteP (y26.1 != y27.1) (
  some false) (
  j6 (s3.1, y26.2, y27.2))) (
  bindP s3.2.2.1 fun x19 =>
  bindP (repository_Repository_Clear fuel x19 s4) fun y28 =>
  bindP s3.2.2.2 fun x20 =>
  bindP (ref11_Repository_Clear fuel x20 s4) fun y29 =>
  iteP (y28.1 != y29.1) (
  some false) (
  j6 (s3.1, y28.2, y29.2)))))))) fun j5 =>
  iteP s5 (
  j5 (x2.ID)) (
  j5 ((Int.tmod x2.ID 12)))) fun j4 =>
  iteP x2.Wrong (
  j4 ((Int.tmod s3.2.1 2) == 0)) (
  j4 (false))) fun j3 =>
  iteP x2.Wrong (
  j3 (x2.Other)) (
  j3 (s3.1))) (
  bindP (law11_awake fuel) fun y30 =>
  some y30)) fuel (0, 0, y6.1, y7.1))) fun j2 =>
  iteP y6.1.isNone (
  j2 (true)) (
  j2 (y6.2 != 0)))) fun j1 =>
  iteP (y3.2 != y4.2) (
  j1 (true)) (
  j1 ((!y3.1.isNone) != (y4.2 == 0))))
end Lift
