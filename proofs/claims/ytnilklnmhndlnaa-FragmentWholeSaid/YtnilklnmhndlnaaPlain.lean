/- Plain Lean functions, as lift.py reads them off the Go functions of the seat. -/
import Derived.Test.YtnilklnmhndlnaaLiftR
set_option linter.unusedVariables false
set_option linter.unusedSimpArgs false
namespace Lift
open Go
structure Packet_ where
  To : Int
  From : Int
  Start : Bool
  End : Bool
  Sequence : Int
  Owner : Bool
  Tag : Int
  Data : List Int
def Packet_.rep : Rep Packet_ := Rep.iso (fun s => (s.To, s.From, s.Start, s.End, s.Sequence, s.Owner, s.Tag, s.Data, ())) (Rep.prod (Rep.int .u8) (Rep.prod (Rep.int .u8) (Rep.prod Rep.bool (Rep.prod Rep.bool (Rep.prod (Rep.int .i64) (Rep.prod Rep.bool (Rep.prod (Rep.int .i64) (Rep.prod (Rep.slice (Rep.int .u8)) Rep.unit))))))))
def Packet_.z : Packet_ := ⟨0, 0, false, false, 0, false, 0, []⟩
theorem Packet_.zr : Zr Packet_.rep [.int .u8 0, .int .u8 0, .bool false, .bool false, .int .i64 0, .bool false, .int .i64 0, .slice none 0 0] Packet_.z := Zr.iso (r := (Rep.prod (Rep.int .u8) (Rep.prod (Rep.int .u8) (Rep.prod Rep.bool (Rep.prod Rep.bool (Rep.prod (Rep.int .i64) (Rep.prod Rep.bool (Rep.prod (Rep.int .i64) (Rep.prod (Rep.slice (Rep.int .u8)) Rep.unit))))))))) _ (Zr.of (Zr.prod (Zr.int .u8 0) (Zr.prod (Zr.int .u8 0) (Zr.prod (Zr.bool false) (Zr.prod (Zr.bool false) (Zr.prod (Zr.int .i64 0) (Zr.prod (Zr.bool false) (Zr.prod (Zr.int .i64 0) (Zr.prod (Zr.slice (Rep.int .u8)) Zr.unit)))))))) rfl)
theorem Packet_.f0 : Fld Packet_.rep 0 (Rep.int .u8) Packet_.To (fun s y => { s with To := y }) := Fld.iso (fun s : Packet_ => (s.To, s.From, s.Start, s.End, s.Sequence, s.Owner, s.Tag, s.Data, ())) Fld.here (fun _ => rfl) (fun _ _ => rfl)
theorem Packet_.f1 : Fld Packet_.rep 1 (Rep.int .u8) Packet_.From (fun s y => { s with From := y }) := Fld.iso (fun s : Packet_ => (s.To, s.From, s.Start, s.End, s.Sequence, s.Owner, s.Tag, s.Data, ())) (Fld.there Fld.here) (fun _ => rfl) (fun _ _ => rfl)
theorem Packet_.f2 : Fld Packet_.rep 2 Rep.bool Packet_.Start (fun s y => { s with Start := y }) := Fld.iso (fun s : Packet_ => (s.To, s.From, s.Start, s.End, s.Sequence, s.Owner, s.Tag, s.Data, ())) (Fld.there (Fld.there Fld.here)) (fun _ => rfl) (fun _ _ => rfl)
theorem Packet_.f3 : Fld Packet_.rep 3 Rep.bool Packet_.End (fun s y => { s with End := y }) := Fld.iso (fun s : Packet_ => (s.To, s.From, s.Start, s.End, s.Sequence, s.Owner, s.Tag, s.Data, ())) (Fld.there (Fld.there (Fld.there Fld.here))) (fun _ => rfl) (fun _ _ => rfl)
theorem Packet_.f4 : Fld Packet_.rep 4 (Rep.int .i64) Packet_.Sequence (fun s y => { s with Sequence := y }) := Fld.iso (fun s : Packet_ => (s.To, s.From, s.Start, s.End, s.Sequence, s.Owner, s.Tag, s.Data, ())) (Fld.there (Fld.there (Fld.there (Fld.there Fld.here)))) (fun _ => rfl) (fun _ _ => rfl)
theorem Packet_.f5 : Fld Packet_.rep 5 Rep.bool Packet_.Owner (fun s y => { s with Owner := y }) := Fld.iso (fun s : Packet_ => (s.To, s.From, s.Start, s.End, s.Sequence, s.Owner, s.Tag, s.Data, ())) (Fld.there (Fld.there (Fld.there (Fld.there (Fld.there Fld.here))))) (fun _ => rfl) (fun _ _ => rfl)
theorem Packet_.f6 : Fld Packet_.rep 6 (Rep.int .i64) Packet_.Tag (fun s y => { s with Tag := y }) := Fld.iso (fun s : Packet_ => (s.To, s.From, s.Start, s.End, s.Sequence, s.Owner, s.Tag, s.Data, ())) (Fld.there (Fld.there (Fld.there (Fld.there (Fld.there (Fld.there Fld.here)))))) (fun _ => rfl) (fun _ _ => rfl)
theorem Packet_.f7 : Fld Packet_.rep 7 (Rep.slice (Rep.int .u8)) Packet_.Data (fun s y => { s with Data := y }) := Fld.iso (fun s : Packet_ => (s.To, s.From, s.Start, s.End, s.Sequence, s.Owner, s.Tag, s.Data, ())) (Fld.there (Fld.there (Fld.there (Fld.there (Fld.there (Fld.there (Fld.there Fld.here))))))) (fun _ => rfl) (fun _ _ => rfl)
structure Whole_ where
  From : Int
  Owner : Bool
  Tag : Int
  Data : List Int
def Whole_.rep : Rep Whole_ := Rep.iso (fun s => (s.From, s.Owner, s.Tag, s.Data, ())) (Rep.prod (Rep.int .u8) (Rep.prod Rep.bool (Rep.prod (Rep.int .i64) (Rep.prod (Rep.slice (Rep.int .u8)) Rep.unit))))
def Whole_.z : Whole_ := ⟨0, false, 0, []⟩
theorem Whole_.zr : Zr Whole_.rep [.int .u8 0, .bool false, .int .i64 0, .slice none 0 0] Whole_.z := Zr.iso (r := (Rep.prod (Rep.int .u8) (Rep.prod Rep.bool (Rep.prod (Rep.int .i64) (Rep.prod (Rep.slice (Rep.int .u8)) Rep.unit))))) _ (Zr.of (Zr.prod (Zr.int .u8 0) (Zr.prod (Zr.bool false) (Zr.prod (Zr.int .i64 0) (Zr.prod (Zr.slice (Rep.int .u8)) Zr.unit)))) rfl)
theorem Whole_.f0 : Fld Whole_.rep 0 (Rep.int .u8) Whole_.From (fun s y => { s with From := y }) := Fld.iso (fun s : Whole_ => (s.From, s.Owner, s.Tag, s.Data, ())) Fld.here (fun _ => rfl) (fun _ _ => rfl)
theorem Whole_.f1 : Fld Whole_.rep 1 Rep.bool Whole_.Owner (fun s y => { s with Owner := y }) := Fld.iso (fun s : Whole_ => (s.From, s.Owner, s.Tag, s.Data, ())) (Fld.there Fld.here) (fun _ => rfl) (fun _ _ => rfl)
theorem Whole_.f2 : Fld Whole_.rep 2 (Rep.int .i64) Whole_.Tag (fun s y => { s with Tag := y }) := Fld.iso (fun s : Whole_ => (s.From, s.Owner, s.Tag, s.Data, ())) (Fld.there (Fld.there Fld.here)) (fun _ => rfl) (fun _ _ => rfl)
theorem Whole_.f3 : Fld Whole_.rep 3 (Rep.slice (Rep.int .u8)) Whole_.Data (fun s y => { s with Data := y }) := Fld.iso (fun s : Whole_ => (s.From, s.Owner, s.Tag, s.Data, ())) (Fld.there (Fld.there (Fld.there Fld.here))) (fun _ => rfl) (fun _ _ => rfl)
structure fragment_open where
  whole : Whole_
  size : Int
  last : Int
def fragment_open.rep : Rep fragment_open := Rep.iso (fun s => (s.whole, s.size, s.last, ())) (Rep.prod Whole_.rep (Rep.prod (Rep.int .i64) (Rep.prod (Rep.int .i64) Rep.unit)))
def fragment_open.z : fragment_open := ⟨Whole_.z, 0, 0⟩
theorem fragment_open.zr : Zr fragment_open.rep [.int .u8 0, .bool false, .int .i64 0, .slice none 0 0, .int .i64 0, .int .i64 0] fragment_open.z := Zr.iso (r := (Rep.prod Whole_.rep (Rep.prod (Rep.int .i64) (Rep.prod (Rep.int .i64) Rep.unit)))) _ (Zr.of (Zr.prod Whole_.zr (Zr.prod (Zr.int .i64 0) (Zr.prod (Zr.int .i64 0) Zr.unit))) rfl)
theorem fragment_open.f0 : Fld fragment_open.rep 0 Whole_.rep fragment_open.whole (fun s y => { s with whole := y }) := Fld.iso (fun s : fragment_open => (s.whole, s.size, s.last, ())) Fld.here (fun _ => rfl) (fun _ _ => rfl)
theorem fragment_open.f1 : Fld fragment_open.rep 4 (Rep.int .i64) fragment_open.size (fun s y => { s with size := y }) := Fld.iso (fun s : fragment_open => (s.whole, s.size, s.last, ())) (Fld.there Fld.here) (fun _ => rfl) (fun _ _ => rfl)
theorem fragment_open.f2 : Fld fragment_open.rep 5 (Rep.int .i64) fragment_open.last (fun s y => { s with last := y }) := Fld.iso (fun s : fragment_open => (s.whole, s.size, s.last, ())) (Fld.there (Fld.there Fld.here)) (fun _ => rfl) (fun _ _ => rfl)
structure fragment_Assembler where
  own : Int
  open_ : List fragment_open
def fragment_Assembler.rep : Rep fragment_Assembler := Rep.iso (fun s => (s.own, s.open_, ())) (Rep.prod (Rep.int .u8) (Rep.prod (Rep.slice fragment_open.rep) Rep.unit))
def fragment_Assembler.z : fragment_Assembler := ⟨0, []⟩
theorem fragment_Assembler.zr : Zr fragment_Assembler.rep [.int .u8 0, .slice none 0 0] fragment_Assembler.z := Zr.iso (r := (Rep.prod (Rep.int .u8) (Rep.prod (Rep.slice fragment_open.rep) Rep.unit))) _ (Zr.of (Zr.prod (Zr.int .u8 0) (Zr.prod (Zr.slice fragment_open.rep) Zr.unit)) rfl)
theorem fragment_Assembler.f0 : Fld fragment_Assembler.rep 0 (Rep.int .u8) fragment_Assembler.own (fun s y => { s with own := y }) := Fld.iso (fun s : fragment_Assembler => (s.own, s.open_, ())) Fld.here (fun _ => rfl) (fun _ _ => rfl)
theorem fragment_Assembler.f1 : Fld fragment_Assembler.rep 1 (Rep.slice fragment_open.rep) fragment_Assembler.open_ (fun s y => { s with open_ := y }) := Fld.iso (fun s : fragment_Assembler => (s.own, s.open_, ())) (Fld.there Fld.here) (fun _ => rfl) (fun _ _ => rfl)
structure ref22_Item where
  Whole : Whole_
  Size : Int
  Next : Int
def ref22_Item.rep : Rep ref22_Item := Rep.iso (fun s => (s.Whole, s.Size, s.Next, ())) (Rep.prod Whole_.rep (Rep.prod (Rep.int .i64) (Rep.prod (Rep.int .i64) Rep.unit)))
def ref22_Item.z : ref22_Item := ⟨Whole_.z, 0, 0⟩
theorem ref22_Item.zr : Zr ref22_Item.rep [.int .u8 0, .bool false, .int .i64 0, .slice none 0 0, .int .i64 0, .int .i64 0] ref22_Item.z := Zr.iso (r := (Rep.prod Whole_.rep (Rep.prod (Rep.int .i64) (Rep.prod (Rep.int .i64) Rep.unit)))) _ (Zr.of (Zr.prod Whole_.zr (Zr.prod (Zr.int .i64 0) (Zr.prod (Zr.int .i64 0) Zr.unit))) rfl)
theorem ref22_Item.f0 : Fld ref22_Item.rep 0 Whole_.rep ref22_Item.Whole (fun s y => { s with Whole := y }) := Fld.iso (fun s : ref22_Item => (s.Whole, s.Size, s.Next, ())) Fld.here (fun _ => rfl) (fun _ _ => rfl)
theorem ref22_Item.f1 : Fld ref22_Item.rep 4 (Rep.int .i64) ref22_Item.Size (fun s y => { s with Size := y }) := Fld.iso (fun s : ref22_Item => (s.Whole, s.Size, s.Next, ())) (Fld.there Fld.here) (fun _ => rfl) (fun _ _ => rfl)
theorem ref22_Item.f2 : Fld ref22_Item.rep 5 (Rep.int .i64) ref22_Item.Next (fun s y => { s with Next := y }) := Fld.iso (fun s : ref22_Item => (s.Whole, s.Size, s.Next, ())) (Fld.there (Fld.there Fld.here)) (fun _ => rfl) (fun _ _ => rfl)
structure ref22_Assembler where
  Own : Int
  Items : List ref22_Item
def ref22_Assembler.rep : Rep ref22_Assembler := Rep.iso (fun s => (s.Own, s.Items, ())) (Rep.prod (Rep.int .u8) (Rep.prod (Rep.slice ref22_Item.rep) Rep.unit))
def ref22_Assembler.z : ref22_Assembler := ⟨0, []⟩
theorem ref22_Assembler.zr : Zr ref22_Assembler.rep [.int .u8 0, .slice none 0 0] ref22_Assembler.z := Zr.iso (r := (Rep.prod (Rep.int .u8) (Rep.prod (Rep.slice ref22_Item.rep) Rep.unit))) _ (Zr.of (Zr.prod (Zr.int .u8 0) (Zr.prod (Zr.slice ref22_Item.rep) Zr.unit)) rfl)
theorem ref22_Assembler.f0 : Fld ref22_Assembler.rep 0 (Rep.int .u8) ref22_Assembler.Own (fun s y => { s with Own := y }) := Fld.iso (fun s : ref22_Assembler => (s.Own, s.Items, ())) Fld.here (fun _ => rfl) (fun _ _ => rfl)
theorem ref22_Assembler.f1 : Fld ref22_Assembler.rep 1 (Rep.slice ref22_Item.rep) ref22_Assembler.Items (fun s y => { s with Items := y }) := Fld.iso (fun s : ref22_Assembler => (s.Own, s.Items, ())) (Fld.there Fld.here) (fun _ => rfl) (fun _ _ => rfl)
structure made_Dice where
  L : List Int
  At : Int
def made_Dice.rep : Rep made_Dice := Rep.iso (fun s => (s.L, s.At, ())) (Rep.prod (Rep.slice (Rep.int .i64)) (Rep.prod (Rep.int .i64) Rep.unit))
def made_Dice.z : made_Dice := ⟨[], 0⟩
theorem made_Dice.zr : Zr made_Dice.rep [.slice none 0 0, .int .i64 0] made_Dice.z := Zr.iso (r := (Rep.prod (Rep.slice (Rep.int .i64)) (Rep.prod (Rep.int .i64) Rep.unit))) _ (Zr.of (Zr.prod (Zr.slice (Rep.int .i64)) (Zr.prod (Zr.int .i64 0) Zr.unit)) rfl)
theorem made_Dice.f0 : Fld made_Dice.rep 0 (Rep.slice (Rep.int .i64)) made_Dice.L (fun s y => { s with L := y }) := Fld.iso (fun s : made_Dice => (s.L, s.At, ())) Fld.here (fun _ => rfl) (fun _ _ => rfl)
theorem made_Dice.f1 : Fld made_Dice.rep 1 (Rep.int .i64) made_Dice.At (fun s y => { s with At := y }) := Fld.iso (fun s : made_Dice => (s.L, s.At, ())) (Fld.there Fld.here) (fun _ => rfl) (fun _ _ => rfl)
structure Anon_af38c4 where
  on : Bool
  bit : Int
def Anon_af38c4.rep : Rep Anon_af38c4 := Rep.iso (fun s => (s.on, s.bit, ())) (Rep.prod Rep.bool (Rep.prod (Rep.int .u8) Rep.unit))
def Anon_af38c4.z : Anon_af38c4 := ⟨false, 0⟩
theorem Anon_af38c4.zr : Zr Anon_af38c4.rep [.bool false, .int .u8 0] Anon_af38c4.z := Zr.iso (r := (Rep.prod Rep.bool (Rep.prod (Rep.int .u8) Rep.unit))) _ (Zr.of (Zr.prod (Zr.bool false) (Zr.prod (Zr.int .u8 0) Zr.unit)) rfl)
theorem Anon_af38c4.pure : Pure Anon_af38c4.rep := Pure.iso (Pure.prod Pure.bool (Pure.prod Pure.int Pure.unit))
theorem Anon_af38c4.f0 : Fld Anon_af38c4.rep 0 Rep.bool Anon_af38c4.on (fun s y => { s with on := y }) := Fld.iso (fun s : Anon_af38c4 => (s.on, s.bit, ())) Fld.here (fun _ => rfl) (fun _ _ => rfl)
theorem Anon_af38c4.f1 : Fld Anon_af38c4.rep 1 (Rep.int .u8) Anon_af38c4.bit (fun s y => { s with bit := y }) := Fld.iso (fun s : Anon_af38c4 => (s.on, s.bit, ())) (Fld.there Fld.here) (fun _ => rfl) (fun _ _ => rfl)
def Packet_.ok (s : Packet_) : Prop := (okI .u8) s.To ∧ (okI .u8) s.From ∧ (fun (_ : Bool) => True) s.Start ∧ (fun (_ : Bool) => True) s.End ∧ (okI .i64) s.Sequence ∧ (fun (_ : Bool) => True) s.Owner ∧ (okI .i64) s.Tag ∧ (okL (okI .u8)) s.Data ∧ True
def Whole_.ok (s : Whole_) : Prop := (okI .u8) s.From ∧ (fun (_ : Bool) => True) s.Owner ∧ (okI .i64) s.Tag ∧ (okL (okI .u8)) s.Data ∧ True
def fragment_open.ok (s : fragment_open) : Prop := Whole_.ok s.whole ∧ (okI .i64) s.size ∧ (okI .i64) s.last ∧ True
def fragment_Assembler.ok (s : fragment_Assembler) : Prop := (okI .u8) s.own ∧ (okL fragment_open.ok) s.open_ ∧ True
def ref22_Item.ok (s : ref22_Item) : Prop := Whole_.ok s.Whole ∧ (okI .i64) s.Size ∧ (okI .i64) s.Next ∧ True
def ref22_Assembler.ok (s : ref22_Assembler) : Prop := (okI .u8) s.Own ∧ (okL ref22_Item.ok) s.Items ∧ True
def made_Dice.ok (s : made_Dice) : Prop := (okL (okI .i64)) s.L ∧ (okI .i64) s.At ∧ True
def Anon_af38c4.ok (s : Anon_af38c4) : Prop := (fun (_ : Bool) => True) s.on ∧ (okI .u8) s.bit ∧ True
def fragment_endpoint (fuel : Nat) (a0 : Int) : Option (Bool) :=
  iteP (decide (a0 ≥ 8)) (
  letP (decide (a0 ≤ 254)) fun x1 =>
  some x1) (
  some false)
def slices_Chunk_byte_byte (fuel : Nat) (a0 : List Int) (a1 : Int) : Option (((List Int) × Int)) :=
  iteP (decide (a1 < 1)) (
  none) (
  some (a0, a1))
def slices_Clone_byte_byte (fuel : Nat) (a0 : List Int) : Option ((List Int)) :=
  bindP (app 1 ([]) a0) fun x1 =>
  some x1
def slices_Chunk_byte_byte_1_2 {σ : Type} (fuel : Nat) (bd_ : σ → (List Int) → Option σ) (s_ : σ) (a1 : List Int) (a2 : Int) : Option (σ) :=
  loopP (fun k1 (s1 : (Int × σ)) =>
  iteP (decide (s1.1 < (a1.length : Int))) (
  bindP (sub a1 s1.1 a1.length) fun x1 =>
  letP (min a2 (x1.length : Int)) fun x2 =>
  bindP (sub a1 s1.1 (IntKind.i64.wrap (s1.1 + x2))) fun x3 =>
  bindP (bd_ s1.2 x3) fun y1 =>
  letP (IntKind.i64.wrap (s1.1 + a2)) fun x4 =>
  k1 (x4, y1)) (
  some s1.2)) fuel (0, s_)
def fragment_Split (fuel : Nat) (a0 : Int) (a1 : Int) (a2 : Bool) (a3 : Int) (a4 : Int) (a5 : List Int) : Option ((List Packet_) × Int) :=
  bindP (fragment_endpoint fuel a0) fun y1 =>
  joinP (fun (s1 : Bool) =>
  iteP s1 (
  some ([], 13)) (
  joinP (fun (s2 : Bool) =>
  iteP s2 (
  some ([], 2)) (
  letP ((a5.length : Int) == 0) fun x1 =>
  iteP x1 (
  some ([], 1)) (
  letP (decide ((a5.length : Int) > 512)) fun x2 =>
  iteP x2 (
  some ([], 3)) (
  bindP (slices_Chunk_byte_byte fuel a5 a4) fun y2 =>
  bindP (slices_Chunk_byte_byte_1_2 fuel (fun (s3 : ((List Packet_))) (x3 : List Int) =>
  bindP (slices_Clone_byte_byte fuel x3) fun y4 =>
  bindP (app 56 s3 ([(⟨a0, a1, false, false, (Int.tmod (s3.length : Int) 4), a2, a3, y4⟩ : Packet_)])) fun x4 =>
  some (x4)) ([]) y2.1 y2.2) fun y3 =>
  bindP (idx y3 0) fun x5 =>
  letP (upd y3 0 ({ x5 with Start := true })) fun d1 =>
  bindP (idx d1 (IntKind.i64.wrap ((y3.length : Int) - 1))) fun x6 =>
  letP (upd d1 (IntKind.i64.wrap ((y3.length : Int) - 1)) ({ x6 with End := true })) fun d2 =>
  some (d2, 0))))) fun j2 =>
  iteP (decide (a3 < 0)) (
  j2 (true)) (
  iteP (decide (a3 ≥ 8)) (
  j2 (true)) (
  iteP (decide (a4 < 1)) (
  j2 (true)) (
  letP (decide (a4 > 64)) fun x7 =>
  j2 (x7)))))) fun j1 =>
  iteP (!y1) (
  j1 (true)) (
  bindP (fragment_endpoint fuel a1) fun y5 =>
  letP (!y5) fun x8 =>
  j1 (x8))
def fragment_New (fuel : Nat) (a0 : Int) : Option ((Option fragment_Assembler) × Int) :=
  bindP (fragment_endpoint fuel a0) fun y1 =>
  iteP (!y1) (
  some (none, 13)) (
  some ((some ({ (⟨a0, []⟩ : fragment_Assembler) with open_ := [] })), 0))
def fragment_Valid (fuel : Nat) (a0 : Packet_) : Option (Bool) :=
  bindP (fragment_endpoint fuel a0.To) fun y1 =>
  iteP y1 (
  bindP (fragment_endpoint fuel a0.From) fun y2 =>
  iteP y2 (
  iteP (decide (a0.Sequence ≥ 0)) (
  iteP (decide (a0.Sequence < 4)) (
  iteP (decide (a0.Tag ≥ 0)) (
  iteP (decide (a0.Tag < 8)) (
  iteP (decide ((a0.Data.length : Int) ≥ 1)) (
  letP (decide ((a0.Data.length : Int) ≤ 64)) fun x1 =>
  some x1) (
  some false)) (
  some false)) (
  some false)) (
  some false)) (
  some false)) (
  some false)) (
  some false)
def fragment_Assembler_find_1_2 (fuel : Nat) (a0 : fragment_open) (a1 : Packet_) : Option (Bool) :=
  iteP (a0.whole.From == a1.From) (
  iteP (a0.whole.Owner == a1.Owner) (
  letP (a0.whole.Tag == a1.Tag) fun x1 =>
  some x1) (
  some false)) (
  some false)
def slices_IndexFunc_fragment_open_fragment_open_fragment_Assembler_find_1 (fuel : Nat) (a0 : List fragment_open) (a1_0 : Packet_) : Option (Int) :=
  loopP (fun k1 (s1 : Int) =>
  iteP (decide (s1 < (a0.length : Int))) (
  bindP (idx a0 s1) fun x1 =>
  bindP (fragment_Assembler_find_1_2 fuel x1 a1_0) fun y1 =>
  iteP y1 (
  some s1) (
  k1 ((IntKind.i64.wrap (s1 + 1))))) (
  some (-1))) fuel (0)
def fragment_Assembler_find (fuel : Nat) (a0 : fragment_Assembler) (a1 : Packet_) : Option (Int) :=
  bindP (slices_IndexFunc_fragment_open_fragment_open_fragment_Assembler_find_1 fuel a0.open_ a1) fun y1 =>
  some y1
def slices_Delete_fragment_open_fragment_open (fuel : Nat) (a0 : List fragment_open) (a1 : Int) (a2 : Int) : Option ((List fragment_open)) :=
  bindP (chk (decide (0 ≤ a1 ∧ a1 ≤ a2 ∧ a2 ≤ (a0.length : Int) ∧ (a0.length : Int) ≤ (a0.length : Int)))) fun _ =>
  iteP (a1 == a2) (
  none) (
  bindP (chk (decide (0 ≤ a1 ∧ a1 ≤ (a0.length : Int)))) fun _ =>
  bindP (chk (decide (0 ≤ a2 ∧ a2 ≤ (a0.length : Int) ∧ (a0.length : Int) ≤ (a0.length : Int)))) fun _ =>
  bindP (chk (decide ((a1).toNat ≤ a2.toNat ∧ a2.toNat ≤ a0.length))) fun _ =>
  bindP (chk (decide (((a1).toNat) < a2.toNat))) fun _ =>
  bindP (chk (decide (0 ≤ ((a0.take ((a1).toNat) ++ a0.drop a2.toNat).length : Int) ∧ ((a0.take ((a1).toNat) ++ a0.drop a2.toNat).length : Int) ≤ (a0.length : Int) ∧ (a0.length : Int) ≤ (a0.length : Int)))) fun _ =>
  bindP (chk (decide ((a0.take ((a1).toNat) ++ a0.drop a2.toNat).length ≤ (a0.length : Int).toNat ∧ (a0.length : Int).toNat ≤ a0.length))) fun _ =>
  some (a0.take ((a1).toNat) ++ a0.drop a2.toNat))
def fragment_Assembler_drop (fuel : Nat) (a0 : fragment_Assembler) (a1 : Int) : Option (fragment_Assembler) :=
  bindP (slices_Delete_fragment_open_fragment_open fuel a0.open_ a1 (IntKind.i64.wrap (a1 + 1))) fun y1 =>
  some ({ a0 with open_ := y1 })
def fragment_Assembler_begin (fuel : Nat) (a0 : fragment_Assembler) (a1 : Packet_) : Option (Whole_ × Bool × fragment_Assembler) :=
  bindP (fragment_Assembler_find fuel a0 a1) fun y1 =>
  joinP (fun (s1 : fragment_Assembler) =>
  bindP (slices_Clone_byte_byte fuel a1.Data) fun y2 =>
  letP ({ (⟨a1.From, a1.Owner, a1.Tag, []⟩ : Whole_) with Data := y2 }) fun d1 =>
  iteP a1.End (
  some ({ d1 with Data := ({ (⟨a1.From, a1.Owner, a1.Tag, []⟩ : Whole_) with Data := y2 }).Data }, true, s1)) (
  joinP (fun (s2 : fragment_Assembler) =>
  bindP (app 56 s2.open_ ([{ (⟨d1, (a1.Data.length : Int), a1.Sequence⟩ : fragment_open) with whole := { (⟨d1, (a1.Data.length : Int), a1.Sequence⟩ : fragment_open).whole with Data := ({ (⟨a1.From, a1.Owner, a1.Tag, []⟩ : Whole_) with Data := y2 }).Data } }])) fun x1 =>
  some (Whole_.z, false, { s2 with open_ := x1 })) fun j2 =>
  iteP ((s1.open_.length : Int) == 8) (
  bindP (fragment_Assembler_drop fuel s1 0) fun y3 =>
  j2 (y3)) (
  j2 (s1)))) fun j1 =>
  iteP (decide (y1 ≥ 0)) (
  bindP (fragment_Assembler_drop fuel a0 y1) fun y4 =>
  j1 (y4)) (
  j1 (a0))
def fragment_Assembler_Accept (fuel : Nat) (a0 : fragment_Assembler) (a1 : Packet_) : Option (Whole_ × Bool × Int × fragment_Assembler) :=
  bindP (fragment_Valid fuel a1) fun y1 =>
  letP (!y1) fun x1 =>
  iteP x1 (
  some (Whole_.z, false, 1, a0)) (
  iteP (a1.To != a0.own) (
  some (Whole_.z, false, 13, a0)) (
  iteP a1.Start (
  bindP (fragment_Assembler_begin fuel a0 a1) fun y2 =>
  some (y2.1, y2.2.1, 0, y2.2.2)) (
  bindP (fragment_Assembler_find fuel a0 a1) fun y3 =>
  iteP (decide (y3 < 0)) (
  some (Whole_.z, false, 8, a0)) (
  bindP (idx a0.open_ y3) fun x2 =>
  joinP (fun (s1 : Bool) =>
  iteP s1 (
  bindP (fragment_Assembler_drop fuel a0 y3) fun y4 =>
  some (Whole_.z, false, 15, y4)) (
  letP (decide ((IntKind.i64.wrap ((x2.whole.Data.length : Int) + (a1.Data.length : Int))) > 512)) fun x3 =>
  iteP x3 (
  bindP (fragment_Assembler_drop fuel a0 y3) fun y5 =>
  some (Whole_.z, false, 3, y5)) (
  bindP (app 1 x2.whole.Data a1.Data) fun x4 =>
  letP (upd a0.open_ y3 ({ x2 with whole := { x2.whole with Data := x4 } })) fun d1 =>
  bindP (idx d1 y3) fun x5 =>
  letP (upd d1 y3 ({ x5 with last := a1.Sequence })) fun d2 =>
  iteP (!a1.End) (
  some (Whole_.z, false, 0, { a0 with open_ := d2 })) (
  bindP (idx d2 y3) fun x6 =>
  bindP (fragment_Assembler_drop fuel ({ a0 with open_ := d2 }) y3) fun y6 =>
  some ({ x6.whole with Data := x6.whole.Data }, true, 0, y6))))) fun j1 =>
  letP (a1.Sequence != (Int.tmod (IntKind.i64.wrap (x2.last + 1)) 4)) fun x7 =>
  iteP x7 (
  j1 (true)) (
  letP (decide ((a1.Data.length : Int) > x2.size)) fun x8 =>
  iteP x8 (
  j1 (true)) (
  letP (decide ((a1.Data.length : Int) < x2.size)) fun x9 =>
  iteP x9 (
  j1 (!a1.End)) (
  j1 (false))))))))
def fragment_Assembler_Open (fuel : Nat) (a0 : fragment_Assembler) : Option (Int) :=
  some (a0.open_.length : Int)
def law22_awake (fuel : Nat)  : Option (Bool) :=
  bindP (fragment_Split fuel 9 10 true 1 2 ([1, 2, 3, 4, 5])) fun y1 =>
  bindP (fragment_New fuel 9) fun y2 =>
  joinP (fun (s1 : Bool) =>
  iteP s1 (
  some false) (
  bindP (idx y1.1 0) fun x1 =>
  bindP y2.1 fun x2 =>
  bindP (fragment_Assembler_Accept fuel x2 x1) fun y3 =>
  bindP (idx y1.1 2) fun x3 =>
  bindP (fragment_Assembler_Accept fuel y3.2.2.2 x3) fun y4 =>
  iteP (y3.2.2.1 == 0) (
  iteP (!y3.2.1) (
  iteP (y4.2.2.1 == 15) (
  iteP (!y4.2.1) (
  bindP (fragment_Assembler_Open fuel y4.2.2.2) fun y5 =>
  letP (y5 == 0) fun x4 =>
  some x4) (
  some false)) (
  some false)) (
  some false)) (
  some false))) fun j1 =>
  iteP (y1.2 != 0) (
  j1 (true)) (
  iteP (y2.2 != 0) (
  j1 (true)) (
  iteP y2.1.isNone (
  j1 (true)) (
  iteP ((y1.1.length : Int) != 3) (
  j1 (true)) (
  bindP (idx y1.1 2) fun x5 =>
  iteP ((x5.Data.length : Int) != 1) (
  j1 (true)) (
  bindP (idx y1.1 2) fun x6 =>
  j1 (x6.Sequence != 2))))))
def made_Mod (fuel : Nat) (a0 : Int) (a1 : Int) : Option (Int) :=
  bindP (chk (decide (a1 ≠ 0))) fun _ =>
  iteP (decide ((Int.tmod a0 a1) < 0)) (
  letP (IntKind.i64.wrap ((Int.tmod a0 a1) + a1)) fun x1 =>
  some x1) (
  some (Int.tmod a0 a1))
def ref22_Endpoint (fuel : Nat) (a0 : Int) : Option (Bool) :=
  iteP (decide (a0 ≥ 8)) (
  letP (decide (a0 ≤ 254)) fun x1 =>
  some x1) (
  some false)
def ref01_Copy (fuel : Nat) (a0 : List Int) : Option ((List Int)) :=
  loopP (fun k1 (s1 : (Int × (List Int))) =>
  iteP (decide (s1.1 < (a0.length : Int))) (
  bindP (idx a0 s1.1) fun x1 =>
  bindP (app 1 s1.2 ([x1])) fun x2 =>
  letP (IntKind.i64.wrap (s1.1 + 1)) fun x3 =>
  k1 (x3, x2)) (
  some s1.2)) fuel (0, [])
def ref22_Split (fuel : Nat) (a0 : Int) (a1 : Int) (a2 : Bool) (a3 : Int) (a4 : Int) (a5 : List Int) : Option ((List Packet_) × Int) :=
  bindP (ref22_Endpoint fuel a0) fun y1 =>
  joinP (fun (s1 : Bool) =>
  iteP s1 (
  some ([], 13)) (
  joinP (fun (s2 : Bool) =>
  iteP s2 (
  some ([], 2)) (
  iteP ((a5.length : Int) == 0) (
  some ([], 1)) (
  iteP (decide ((a5.length : Int) > 512)) (
  some ([], 3)) (
  loopP (fun k1 (s3 : (Int × (List Packet_))) =>
  iteP (decide (s3.1 < (a5.length : Int))) (
  letP (min (IntKind.i64.wrap (s3.1 + a4)) (a5.length : Int)) fun x1 =>
  bindP (chk (decide (a4 ≠ 0))) fun _ =>
  bindP (sub a5 s3.1 x1) fun x2 =>
  bindP (ref01_Copy fuel x2) fun y2 =>
  bindP (app 56 s3.2 ([(⟨a0, a1, s3.1 == 0, x1 == (a5.length : Int), (Int.tmod (IntKind.i64.wrap (Int.tdiv s3.1 a4)) 4), a2, a3, y2⟩ : Packet_)])) fun x3 =>
  letP (IntKind.i64.wrap (s3.1 + a4)) fun x4 =>
  k1 (x4, x3)) (
  some (s3.2, 0))) fuel (0, []))))) fun j2 =>
  iteP (decide (a3 < 0)) (
  j2 (true)) (
  iteP (decide (a3 > 7)) (
  j2 (true)) (
  iteP (decide (a4 < 1)) (
  j2 (true)) (
  j2 (decide (a4 > 64))))))) fun j1 =>
  iteP (!y1) (
  j1 (true)) (
  bindP (ref22_Endpoint fuel a1) fun y3 =>
  j1 (!y3))
def ref01_Same (fuel : Nat) (a0 : List Int) (a1 : List Int) : Option (Bool) :=
  iteP ((a0.length : Int) != (a1.length : Int)) (
  some false) (
  loopP (fun k1 (s1 : Int) =>
  iteP (decide (s1 < (a0.length : Int))) (
  bindP (idx a0 s1) fun x1 =>
  bindP (idx a1 s1) fun x2 =>
  iteP (x1 != x2) (
  some false) (
  letP (IntKind.i64.wrap (s1 + 1)) fun x3 =>
  k1 (x3))) (
  some true)) fuel (0))
def ref22_Same (fuel : Nat) (a0 : Packet_) (a1 : Packet_) : Option (Bool) :=
  iteP (a0.To == a1.To) (
  iteP (a0.From == a1.From) (
  iteP (a0.Start == a1.Start) (
  iteP (a0.End == a1.End) (
  iteP (a0.Sequence == a1.Sequence) (
  iteP (a0.Owner == a1.Owner) (
  iteP (a0.Tag == a1.Tag) (
  bindP (ref01_Same fuel a0.Data a1.Data) fun y1 =>
  some y1) (
  some false)) (
  some false)) (
  some false)) (
  some false)) (
  some false)) (
  some false)) (
  some false)
def law22_samePackets (fuel : Nat) (a0 : List Packet_) (a1 : List Packet_) : Option (Bool) :=
  iteP ((a0.length : Int) != (a1.length : Int)) (
  some false) (
  loopP (fun k1 (s1 : Int) =>
  iteP (decide (s1 < (a0.length : Int))) (
  bindP (idx a0 s1) fun x1 =>
  bindP (idx a1 s1) fun x2 =>
  bindP (ref22_Same fuel x1 x2) fun y1 =>
  iteP (!y1) (
  some false) (
  letP (IntKind.i64.wrap (s1 + 1)) fun x3 =>
  k1 (x3))) (
  some true)) fuel (0))
def law22_FragmentSplits (fuel : Nat) (a0 : Int) (a1 : Int) (a2 : Bool) (a3 : Int) (a4 : Int) (a5 : List Int) : Option (Bool) :=
  iteP (decide ((a5.length : Int) > 700)) (
  bindP (law22_awake fuel) fun y1 =>
  some y1) (
  bindP (made_Mod fuel a3 9) fun y2 =>
  bindP (made_Mod fuel a4 67) fun y3 =>
  loopP (fun k1 (s1 : Int) =>
  iteP (decide (s1 < (([[a3, a4], [y2, y3]]).length : Int))) (
  bindP (idx ([[a3, a4], [y2, y3]]) s1) fun x1 =>
  bindP (idx x1 0) fun x2 =>
  bindP (chk (Nat.beq x1.length 2)) fun _ =>
  bindP (idx x1 1) fun x3 =>
  bindP (chk (Nat.beq x1.length 2)) fun _ =>
  bindP (fragment_Split fuel a0 a1 a2 x2 x3 a5) fun y4 =>
  bindP (idx x1 0) fun x4 =>
  bindP (chk (Nat.beq x1.length 2)) fun _ =>
  bindP (idx x1 1) fun x5 =>
  bindP (chk (Nat.beq x1.length 2)) fun _ =>
  bindP (ref22_Split fuel a0 a1 a2 x4 x5 a5) fun y5 =>
  bindP (idx x1 0) fun x6 =>
  bindP (chk (Nat.beq x1.length 2)) fun _ =>
  bindP (idx x1 1) fun x7 =>
  bindP (chk (Nat.beq x1.length 2)) fun _ =>
  bindP (fragment_Split fuel 9 10 a2 x6 x7 a5) fun y6 =>
  bindP (idx x1 0) fun x8 =>
  bindP (chk (Nat.beq x1.length 2)) fun _ =>
  bindP (idx x1 1) fun x9 =>
  bindP (chk (Nat.beq x1.length 2)) fun _ =>
  bindP (ref22_Split fuel 9 10 a2 x8 x9 a5) fun y7 =>
  joinP (fun (s2 : Bool) =>
  iteP s2 (
  some false) (
  k1 ((IntKind.i64.wrap (s1 + 1))))) fun j1 =>
  iteP (y4.2 != y5.2) (
  j1 (true)) (
  iteP (y6.2 != y7.2) (
  j1 (true)) (
  bindP (law22_samePackets fuel y4.1 y5.1) fun y8 =>
  iteP (!y8) (
  j1 (true)) (
  bindP (law22_samePackets fuel y6.1 y7.1) fun y9 =>
  j1 (!y9))))) (
  bindP (law22_awake fuel) fun y10 =>
  some y10)) fuel (0))
def made_Light (fuel : Nat) (a0 : List Int) : Option (Bool) :=
  letP (decide ((a0.length : Int) ≤ 600)) fun x1 =>
  some x1
def ref22_New (fuel : Nat) (a0 : Int) : Option ((Option ref22_Assembler) × Int) :=
  bindP (ref22_Endpoint fuel a0) fun y1 =>
  iteP (!y1) (
  some (none, 13)) (
  some ((some ({ (⟨a0, []⟩ : ref22_Assembler) with Items := [] })), 0))
def made_Roll (fuel : Nat) (a0 : List Int) : Option (made_Dice) :=
  some (⟨a0, 0⟩ : made_Dice)
def made_Dice_Left (fuel : Nat) (a0 : made_Dice) : Option (Bool) :=
  letP (decide (a0.At < (a0.L.length : Int))) fun x1 =>
  some x1
def made_Dice_Next (fuel : Nat) (a0 : made_Dice) (a1 : Int) : Option (Int × made_Dice) :=
  iteP (decide (a0.At ≥ (a0.L.length : Int))) (
  some (0, a0)) (
  letP ({ a0 with At := (IntKind.i64.wrap (a0.At + 1)) }) fun d1 =>
  bindP (idx d1.L (IntKind.i64.wrap (d1.At - 1))) fun x1 =>
  bindP (made_Mod fuel x1 a1) fun y1 =>
  some (y1, d1))
def made_Dice_Bool (fuel : Nat) (a0 : made_Dice) (a1 : Int) : Option (Bool × made_Dice) :=
  bindP (made_Dice_Next fuel a0 a1) fun y1 =>
  letP (y1.1 == (IntKind.i64.wrap (a1 - 1))) fun x1 =>
  some (x1, y1.2)
def made_Dice_Byte (fuel : Nat) (a0 : made_Dice) : Option (Int × made_Dice) :=
  letP ([0, 1, 127, 128, 254, 255, 15, 240]) fun d1 =>
  bindP (made_Dice_Bool fuel a0 3) fun y1 =>
  iteP y1.1 (
  bindP (made_Dice_Next fuel y1.2 8) fun y2 =>
  bindP (idx d1 y2.1) fun x1 =>
  bindP (chk (Nat.beq d1.length 8)) fun _ =>
  some (x1, y2.2)) (
  bindP (made_Dice_Next fuel y1.2 256) fun y3 =>
  some ((IntKind.u8.wrap y3.1), y3.2))
def made_Dice_Bytes (fuel : Nat) (a0 : made_Dice) (a1 : Int) : Option ((List Int) × made_Dice) :=
  bindP (made_Dice_Next fuel a0 (IntKind.i64.wrap (a1 + 1))) fun y1 =>
  loopP (fun k1 (s1 : (Int × made_Dice × (List Int))) =>
  iteP (decide (s1.1 > 0)) (
  bindP (made_Dice_Byte fuel s1.2.1) fun y2 =>
  bindP (app 1 s1.2.2 ([y2.1])) fun x1 =>
  letP (IntKind.i64.wrap (s1.1 - 1)) fun x2 =>
  k1 (x2, y2.2, x1)) (
  some (s1.2.2, s1.2.1))) fuel (y1.1, y1.2, [])
def made_Dice_Packet (fuel : Nat) (a0 : made_Dice) : Option (Packet_ × made_Dice) :=
  bindP (made_Dice_Next fuel a0 3) fun y1 =>
  bindP (made_Dice_Bool fuel y1.2 2) fun y2 =>
  bindP (made_Dice_Bool fuel y2.2 3) fun y3 =>
  bindP (made_Dice_Next fuel y3.2 4) fun y4 =>
  bindP (made_Dice_Bool fuel y4.2 2) fun y5 =>
  bindP (made_Dice_Next fuel y5.2 3) fun y6 =>
  bindP (made_Dice_Bytes fuel y6.2 3) fun y7 =>
  bindP (app 1 y7.1 ([7])) fun x1 =>
  bindP (made_Dice_Next fuel y7.2 30) fun y8 =>
  letP (y8.1 == 0) fun x2 =>
  iteP x2 (
  letP ({ (⟨9, (IntKind.u8.wrap (IntKind.i64.wrap (10 + y1.1))), y2.1, y3.1, y4.1, y5.1, y6.1, x1⟩ : Packet_) with Data := [] }) fun d1 =>
  some (d1, y8.2)) (
  letP (y8.1 == 1) fun x3 =>
  iteP x3 (
  bindP (made_Dice_Byte fuel y8.2) fun y9 =>
  letP ({ (⟨9, (IntKind.u8.wrap (IntKind.i64.wrap (10 + y1.1))), y2.1, y3.1, y4.1, y5.1, y6.1, x1⟩ : Packet_) with To := y9.1 }) fun d2 =>
  some (d2, y9.2)) (
  letP (y8.1 == 2) fun x4 =>
  iteP x4 (
  letP ({ (⟨9, (IntKind.u8.wrap (IntKind.i64.wrap (10 + y1.1))), y2.1, y3.1, y4.1, y5.1, y6.1, x1⟩ : Packet_) with Tag := 8 }) fun d3 =>
  some (d3, y8.2)) (
  letP (y8.1 == 3) fun x5 =>
  iteP x5 (
  bindP (made_Dice_Next fuel y8.2 2) fun y10 =>
  bindP (mk 1 0 (IntKind.i64.wrap (64 + y10.1))) fun x6 =>
  some ({ (⟨9, (IntKind.u8.wrap (IntKind.i64.wrap (10 + y1.1))), y2.1, y3.1, y4.1, y5.1, y6.1, x1⟩ : Packet_) with Data := x6 }, y10.2)) (
  some ((⟨9, (IntKind.u8.wrap (IntKind.i64.wrap (10 + y1.1))), y2.1, y3.1, y4.1, y5.1, y6.1, x1⟩ : Packet_), y8.2)))))
def ref22_Valid (fuel : Nat) (a0 : Packet_) : Option (Bool) :=
  bindP (ref22_Endpoint fuel a0.To) fun y1 =>
  iteP y1 (
  bindP (ref22_Endpoint fuel a0.From) fun y2 =>
  iteP y2 (
  iteP (decide (a0.Sequence ≥ 0)) (
  iteP (decide (a0.Sequence ≤ 3)) (
  iteP (decide (a0.Tag ≥ 0)) (
  iteP (decide (a0.Tag ≤ 7)) (
  iteP (decide ((a0.Data.length : Int) ≥ 1)) (
  letP (decide ((a0.Data.length : Int) ≤ 64)) fun x1 =>
  some x1) (
  some false)) (
  some false)) (
  some false)) (
  some false)) (
  some false)) (
  some false)) (
  some false)
def ref22_Assembler_find (fuel : Nat) (a0 : ref22_Assembler) (a1 : Packet_) : Option (Int) :=
  loopP (fun k1 (s1 : Int) =>
  iteP (decide (s1 < (a0.Items.length : Int))) (
  bindP (idx a0.Items s1) fun x1 =>
  joinP (fun (s2 : Bool) =>
  iteP s2 (
  some s1) (
  letP (IntKind.i64.wrap (s1 + 1)) fun x2 =>
  k1 (x2))) fun j1 =>
  iteP (x1.Whole.From == a1.From) (
  iteP (x1.Whole.Owner == a1.Owner) (
  j1 (x1.Whole.Tag == a1.Tag)) (
  j1 (false))) (
  j1 (false))) (
  some (-1))) fuel (0)
def ref22_Assembler_drop (fuel : Nat) (a0 : ref22_Assembler) (a1 : Int) : Option (ref22_Assembler) :=
  loopP (fun k1 (s1 : (Int × (List ref22_Item))) =>
  iteP (decide (s1.1 < (a0.Items.length : Int))) (
  iteP (s1.1 != a1) (
  bindP (idx a0.Items s1.1) fun x1 =>
  bindP (app 56 s1.2 ([x1])) fun x2 =>
  letP (IntKind.i64.wrap (s1.1 + 1)) fun x3 =>
  k1 (x3, x2)) (
  letP (IntKind.i64.wrap (s1.1 + 1)) fun x4 =>
  k1 (x4, s1.2))) (
  some ({ a0 with Items := s1.2 }))) fuel (0, [])
def ref22_Assembler_Accept (fuel : Nat) (a0 : ref22_Assembler) (a1 : Packet_) : Option (Whole_ × Bool × Int × ref22_Assembler) :=
  bindP (ref22_Valid fuel a1) fun y1 =>
  iteP (!y1) (
  some (Whole_.z, false, 1, a0)) (
  iteP (a1.To != a0.Own) (
  some (Whole_.z, false, 13, a0)) (
  bindP (ref22_Assembler_find fuel a0 a1) fun y2 =>
  iteP a1.Start (
  joinP (fun (s1 : ref22_Assembler) =>
  bindP (ref01_Copy fuel a1.Data) fun y3 =>
  iteP a1.End (
  some ((⟨a1.From, a1.Owner, a1.Tag, y3⟩ : Whole_), true, 0, s1)) (
  joinP (fun (s2 : ref22_Assembler) =>
  bindP (app 56 s2.Items ([(⟨(⟨a1.From, a1.Owner, a1.Tag, y3⟩ : Whole_), (a1.Data.length : Int), (Int.tmod (IntKind.i64.wrap (a1.Sequence + 1)) 4)⟩ : ref22_Item)])) fun x1 =>
  some (Whole_.z, false, 0, { s2 with Items := x1 })) fun j2 =>
  iteP (decide ((s1.Items.length : Int) ≥ 8)) (
  bindP (ref22_Assembler_drop fuel s1 0) fun y4 =>
  j2 (y4)) (
  j2 (s1)))) fun j1 =>
  iteP (decide (y2 ≥ 0)) (
  bindP (ref22_Assembler_drop fuel a0 y2) fun y5 =>
  j1 (y5)) (
  j1 (a0))) (
  iteP (decide (y2 < 0)) (
  some (Whole_.z, false, 8, a0)) (
  bindP (idx a0.Items y2) fun x2 =>
  joinP (fun (s3 : Bool) =>
  iteP s3 (
  bindP (ref22_Assembler_drop fuel a0 y2) fun y6 =>
  some (Whole_.z, false, 15, y6)) (
  iteP (decide ((IntKind.i64.wrap ((x2.Whole.Data.length : Int) + (a1.Data.length : Int))) > 512)) (
  bindP (ref22_Assembler_drop fuel a0 y2) fun y7 =>
  some (Whole_.z, false, 3, y7)) (
  bindP (ref01_Copy fuel x2.Whole.Data) fun y8 =>
  bindP (app 1 y8 a1.Data) fun x3 =>
  letP ({ x2 with Next := (Int.tmod (IntKind.i64.wrap (x2.Next + 1)) 4) }) fun d1 =>
  iteP a1.End (
  bindP (ref22_Assembler_drop fuel a0 y2) fun y9 =>
  some ({ d1.Whole with Data := x3 }, true, 0, y9)) (
  bindP (idx a0.Items y2) fun x4 =>
  letP (upd a0.Items y2 ({ d1 with Whole := { d1.Whole with Data := x3 } })) fun d2 =>
  some (Whole_.z, false, 0, { a0 with Items := d2 }))))) fun j3 =>
  iteP (a1.Sequence != x2.Next) (
  j3 (true)) (
  iteP (decide ((a1.Data.length : Int) > x2.Size)) (
  j3 (true)) (
  iteP (decide ((a1.Data.length : Int) < x2.Size)) (
  j3 (!a1.End)) (
  j3 (false))))))))
def ref22_SameWhole (fuel : Nat) (a0 : Whole_) (a1 : Whole_) : Option (Bool) :=
  iteP (a0.From == a1.From) (
  iteP (a0.Owner == a1.Owner) (
  iteP (a0.Tag == a1.Tag) (
  bindP (ref01_Same fuel a0.Data a1.Data) fun y1 =>
  some y1) (
  some false)) (
  some false)) (
  some false)
def law22_FragmentPlays (fuel : Nat) (a0 : Int) (a1 : List Packet_) (a2 : List Int) : Option (Bool) :=
  joinP (fun (s1 : Bool) =>
  iteP s1 (
  bindP (law22_awake fuel) fun y1 =>
  some y1) (
  bindP (fragment_New fuel a0) fun y2 =>
  bindP (ref22_New fuel a0) fun y3 =>
  joinP (fun (s2 : Bool) =>
  iteP s2 (
  some false) (
  bindP (fragment_New fuel 9) fun y4 =>
  bindP (ref22_New fuel 9) fun y5 =>
  joinP (fun (s3 : Bool) =>
  iteP s3 (
  some false) (
  bindP (made_Roll fuel a2) fun y6 =>
  loopP (fun k1 (s4 : (Int × (List Packet_))) =>
  iteP (decide (s4.1 < (a1.length : Int))) (
  bindP (idx a1 s4.1) fun x1 =>
  iteP (decide ((x1.Data.length : Int) > 100)) (
  bindP (law22_awake fuel) fun y7 =>
  some y7) (
  bindP (idx a1 s4.1) fun x2 =>
  bindP (app 56 s4.2 ([x2])) fun x3 =>
  letP (IntKind.i64.wrap (s4.1 + 1)) fun x4 =>
  k1 (x4, x3))) (
  loopP (fun k2 (s5 : (made_Dice × (Option fragment_Assembler) × (Option ref22_Assembler))) =>
  bindP (made_Dice_Left fuel s5.1) fun y8 =>
  joinP (fun (s6 : Bool) =>
  iteP s6 (
  bindP (made_Dice_Packet fuel s5.1) fun y9 =>
  bindP (made_Dice_Bool fuel y9.2 2) fun y10 =>
  joinP (fun (s7 : (Bool × (Option ref22_Assembler))) =>
  joinP (fun (s8 : (made_Dice × Packet_ × (Option ref22_Assembler))) =>
  bindP (made_Dice_Bool fuel s8.1 9) fun y11 =>
  joinP (fun (s9 : (made_Dice × Packet_)) =>
  bindP s5.2.1 fun x5 =>
  bindP (fragment_Assembler_Accept fuel x5 s9.2) fun y12 =>
  bindP s8.2.2 fun x6 =>
  bindP (ref22_Assembler_Accept fuel x6 s9.2) fun y13 =>
  letP (y12.2.2.1 != y13.2.2.1) fun x7 =>
  iteP x7 (
  some false) (
  letP (y12.2.1 != y13.2.1) fun x8 =>
  iteP x8 (
  some false) (
  bindP (ref22_SameWhole fuel y12.1 y13.1) fun y14 =>
  letP (!y14) fun x9 =>
  iteP x9 (
  some false) (
  bindP (fragment_Assembler_Open fuel y12.2.2.2) fun y15 =>
  iteP (y15 != (y13.2.2.2.Items.length : Int)) (
  some false) (
  k2 (s9.1, (some y12.2.2.2), (some y13.2.2.2))))))) fun j7 =>
  iteP y11.1 (
  bindP (made_Dice_Next fuel y11.2 5) fun y16 =>
  bindP (made_Dice_Next fuel y16.2 8) fun y17 =>
  letP ({ s8.2.1 with Start := true }) fun d1 =>
  letP ({ d1 with From := (IntKind.u8.wrap (IntKind.i64.wrap (10 + y16.1))) }) fun d2 =>
  letP ({ d2 with Tag := y17.1 }) fun d3 =>
  j7 (y17.2, d3)) (
  j7 (y11.2, s8.2.1))) fun j6 =>
  iteP s7.1 (
  bindP s7.2 fun x10 =>
  bindP (made_Dice_Next fuel y10.2 (x10.Items.length : Int)) fun y18 =>
  bindP (idx x10.Items y18.1) fun x11 =>
  bindP (made_Dice_Bool fuel y18.2 4) fun y19 =>
  bindP (mk 1 0 x11.Size) fun x12 =>
  bindP (made_Dice_Bool fuel y19.2 15) fun y20 =>
  joinP (fun (s10 : (made_Dice × Packet_)) =>
  bindP (made_Dice_Bool fuel s10.1 15) fun y21 =>
  iteP y21.1 (
  bindP (made_Dice_Next fuel y21.2 64) fun y22 =>
  bindP (mk 1 0 (IntKind.i64.wrap (1 + y22.1))) fun x13 =>
  j6 (y22.2, { s10.2 with Data := x13 }, (some x10))) (
  j6 (y21.2, s10.2, (some x10)))) fun j8 =>
  iteP y20.1 (
  bindP (made_Dice_Next fuel y20.2 4) fun y23 =>
  letP ({ (⟨9, x11.Whole.From, false, y19.1, x11.Next, x11.Whole.Owner, x11.Whole.Tag, x12⟩ : Packet_) with Sequence := y23.1 }) fun d4 =>
  j8 (y23.2, d4)) (
  j8 (y20.2, (⟨9, x11.Whole.From, false, y19.1, x11.Next, x11.Whole.Owner, x11.Whole.Tag, x12⟩ : Packet_)))) (
  j6 (y10.2, y9.1, s7.2))) fun j5 =>
  iteP y10.1 (
  bindP s5.2.2 fun x14 =>
  j5 (decide ((x14.Items.length : Int) > 0), (some x14))) (
  j5 (false, s5.2.2))) (
  loopP (fun k3 (s11 : (Int × (Option fragment_Assembler) × (Option ref22_Assembler))) =>
  iteP (decide (s11.1 < (s4.2.length : Int))) (
  bindP (idx s4.2 s11.1) fun x15 =>
  bindP s11.2.1 fun x16 =>
  bindP (fragment_Assembler_Accept fuel x16 x15) fun y24 =>
  bindP (idx s4.2 s11.1) fun x17 =>
  bindP s11.2.2 fun x18 =>
  bindP (ref22_Assembler_Accept fuel x18 x17) fun y25 =>
  joinP (fun (s12 : Bool) =>
  iteP s12 (
  some false) (
  letP (IntKind.i64.wrap (s11.1 + 1)) fun x19 =>
  k3 (x19, (some y24.2.2.2), (some y25.2.2.2)))) fun j9 =>
  letP (y24.2.2.1 != y25.2.2.1) fun x20 =>
  iteP x20 (
  j9 (true)) (
  letP (y24.2.1 != y25.2.1) fun x21 =>
  iteP x21 (
  j9 (true)) (
  bindP (ref22_SameWhole fuel y24.1 y25.1) fun y26 =>
  letP (!y26) fun x22 =>
  iteP x22 (
  j9 (true)) (
  bindP (fragment_Assembler_Open fuel y24.2.2.2) fun y27 =>
  j9 (y27 != (y25.2.2.2.Items.length : Int)))))) (
  bindP (law22_awake fuel) fun y28 =>
  some y28)) fuel (0, s5.2.1, s5.2.2))) fun j4 =>
  iteP y8 (
  j4 (decide ((s4.2.length : Int) < 200))) (
  j4 (false))) fuel (y6, y4.1, y5.1))) fuel (0, []))) fun j3 =>
  iteP y4.1.isNone (
  j3 (true)) (
  j3 (y4.2 != 0)))) fun j2 =>
  iteP (y2.2 != y3.2) (
  j2 (true)) (
  j2 ((!y2.1.isNone) != (y3.2 == 0))))) fun j1 =>
  iteP (decide ((a1.length : Int) > 60)) (
  j1 (true)) (
  bindP (made_Light fuel a2) fun y29 =>
  j1 (!y29))
def law22_message (fuel : Nat) (a0 : made_Dice) (a1 : Int) : Option ((List Int) × made_Dice) :=
  bindP (made_Dice_Byte fuel a0) fun y1 =>
  bindP (made_Dice_Next fuel y1.2 a1) fun y2 =>
  loopP (fun k1 (s1 : (Int × made_Dice × (List Int))) =>
  iteP (decide (s1.1 > 0)) (
  bindP (made_Dice_Byte fuel s1.2.1) fun y3 =>
  bindP (app 1 s1.2.2 ([(bXor .u8 (IntKind.u8.wrap (IntKind.i64.wrap (s1.1 * 7))) y3.1)])) fun x1 =>
  letP (IntKind.i64.wrap (s1.1 - 1)) fun x2 =>
  k1 (x2, y3.2, x1)) (
  some (s1.2.2, s1.2.1))) fuel (y2.1, y2.2, [y1.1])
def law22_FragmentLosses (fuel : Nat) (a0 : List Int) (a1 : List Int) : Option (Bool) :=
  bindP (made_Light fuel a0) fun y1 =>
  joinP (fun (s1 : Bool) =>
  iteP s1 (
  bindP (law22_awake fuel) fun y2 =>
  some y2) (
  bindP (made_Roll fuel a0) fun y3 =>
  bindP (law22_message fuel y3 60) fun y4 =>
  bindP (made_Dice_Next fuel y4.2 4) fun y5 =>
  bindP (fragment_Split fuel 9 10 true 3 (IntKind.i64.wrap (1 + y5.1)) y4.1) fun y6 =>
  bindP (fragment_New fuel 9) fun y7 =>
  joinP (fun (s2 : Bool) =>
  iteP s2 (
  some false) (
  loopP (fun k1 (s3 : (Int × Bool × Int × (Option fragment_Assembler))) =>
  iteP (decide (s3.2.2.1 < (y6.1.length : Int))) (
  joinP (fun (s4 : Int) =>
  joinP (fun (s5 : Bool) =>
  iteP s5 (
  letP (IntKind.i64.wrap (s3.1 + 1)) fun x1 =>
  letP (IntKind.i64.wrap (s3.2.2.1 + 1)) fun x2 =>
  k1 (x1, false, x2, s3.2.2.2)) (
  joinP (fun (s6 : (Bool × Int)) =>
  loopP (fun k2 (s7 : (Int × (Option fragment_Assembler))) =>
  iteP (decide (s7.1 > 0)) (
  bindP (idx y6.1 s3.2.2.1) fun x3 =>
  bindP s7.2 fun x4 =>
  bindP (fragment_Assembler_Accept fuel x4 x3) fun y8 =>
  joinP (fun (s8 : Bool) =>
  iteP s8 (
  some false) (
  letP (IntKind.i64.wrap (s7.1 - 1)) fun x5 =>
  k2 (x5, (some y8.2.2.2)))) fun j6 =>
  iteP y8.2.1 (
  bindP (ref01_Same fuel y8.1.Data y4.1) fun y9 =>
  iteP (!y9) (
  j6 (true)) (
  iteP (s3.2.2.1 != (IntKind.i64.wrap ((y6.1.length : Int) - 1))) (
  j6 (true)) (
  iteP s6.1 (
  j6 (y8.2.1 != (s3.2.2.1 == (IntKind.i64.wrap ((y6.1.length : Int) - 1))))) (
  j6 (false))))) (
  iteP s6.1 (
  j6 (y8.2.1 != (s3.2.2.1 == (IntKind.i64.wrap ((y6.1.length : Int) - 1))))) (
  j6 (false)))) (
  letP (IntKind.i64.wrap (s3.2.2.1 + 1)) fun x6 =>
  k1 (0, s6.1, x6, s7.2))) fuel (s6.2, s3.2.2.2)) fun j5 =>
  iteP (s4 == 2) (
  j5 (false, 2)) (
  j5 (s3.2.1, 1)))) fun j4 =>
  iteP (s4 == 1) (
  j4 (decide (s3.1 < 3))) (
  j4 (false))) fun j3 =>
  iteP (decide (s3.2.2.1 < (a1.length : Int))) (
  bindP (idx a1 s3.2.2.1) fun x7 =>
  bindP (made_Mod fuel x7 4) fun y10 =>
  j3 (y10)) (
  j3 (0))) (
  bindP (law22_awake fuel) fun y11 =>
  some y11)) fuel (0, true, 0, y7.1))) fun j2 =>
  iteP (y6.2 != 0) (
  j2 (true)) (
  iteP (y7.2 != 0) (
  j2 (true)) (
  j2 (y7.1.isNone))))) fun j1 =>
  iteP (!y1) (
  j1 (true)) (
  j1 (decide ((a1.length : Int) > 300)))
def law22_FragmentLimits (fuel : Nat) (a0 : Int) (a1 : Int) (a2 : Int) : Option (Bool) :=
  bindP (fragment_New fuel 9) fun y1 =>
  joinP (fun (s1 : Bool) =>
  iteP s1 (
  some false) (
  bindP (made_Mod fuel a0 4) fun y2 =>
  letP (IntKind.i64.wrap (7 + y2)) fun x1 =>
  loopP (fun k1 (s2 : (Int × (Option fragment_Assembler))) =>
  iteP (decide (s2.1 < x1)) (
  bindP s2.2 fun x2 =>
  bindP (fragment_Assembler_Accept fuel x2 (⟨9, (IntKind.u8.wrap (IntKind.i64.wrap (20 + s2.1))), true, false, 0, false, 0, [(IntKind.u8.wrap s2.1)]⟩ : Packet_)) fun y3 =>
  joinP (fun (s3 : Bool) =>
  iteP s3 (
  some false) (
  letP (IntKind.i64.wrap (s2.1 + 1)) fun x3 =>
  k1 (x3, (some y3.2.2.2)))) fun j2 =>
  iteP y3.2.1 (
  j2 (true)) (
  iteP (y3.2.2.1 != 0) (
  j2 (true)) (
  bindP (fragment_Assembler_Open fuel y3.2.2.2) fun y4 =>
  j2 (y4 != (min (IntKind.i64.wrap (s2.1 + 1)) 8))))) (
  bindP (made_Mod fuel a2 x1) fun y5 =>
  bindP s2.2 fun x4 =>
  bindP (fragment_Assembler_Accept fuel x4 (⟨9, (IntKind.u8.wrap (IntKind.i64.wrap (20 + y5))), false, true, 1, false, 0, [7]⟩ : Packet_)) fun y6 =>
  letP (decide (y5 ≥ (IntKind.i64.wrap (x1 - 8)))) fun x5 =>
  joinP (fun (s4 : Bool) =>
  iteP s4 (
  some false) (
  bindP (made_Mod fuel a1 64) fun y7 =>
  letP (IntKind.i64.wrap (1 + y7)) fun x6 =>
  bindP (mk 1 0 x6) fun x7 =>
  loopP (fun k2 (s5 : (Int × Int × fragment_Assembler × Packet_)) =>
  iteP (decide (s5.2.1 < 514)) (
  bindP (fragment_Assembler_Accept fuel s5.2.2.1 s5.2.2.2) fun y8 =>
  iteP y8.2.1 (
  some false) (
  iteP (y8.2.2.1 != 0) (
  joinP (fun (s6 : Bool) =>
  some s6) fun j4 =>
  iteP (y8.2.2.1 == 3) (
  iteP (decide ((IntKind.i64.wrap (s5.1 + x6)) > 512)) (
  bindP (law22_awake fuel) fun y9 =>
  j4 (y9)) (
  j4 (false))) (
  j4 (false))) (
  letP (IntKind.i64.wrap (s5.1 + x6)) fun x8 =>
  letP ({ s5.2.2.2 with Start := false }) fun d1 =>
  letP ({ d1 with Sequence := (Int.tmod (IntKind.i64.wrap (d1.Sequence + 1)) 4) }) fun d2 =>
  letP (IntKind.i64.wrap (s5.2.1 + 1)) fun x9 =>
  k2 (x8, x9, y8.2.2.2, d2)))) (
  some false)) fuel (0, 0, y6.2.2.2, (⟨9, 8, true, false, 0, false, 0, x7⟩ : Packet_)))) fun j3 =>
  iteP (y6.2.1 != x5) (
  j3 (true)) (
  iteP x5 (
  iteP (y6.2.2.1 != 0) (
  j3 (true)) (
  bindP (ref01_Same fuel y6.1.Data ([(IntKind.u8.wrap y5), 7])) fun y10 =>
  iteP (!y10) (
  j3 (true)) (
  iteP (!x5) (
  j3 (y6.2.2.1 != 8)) (
  j3 (false))))) (
  iteP (!x5) (
  j3 (y6.2.2.1 != 8)) (
  j3 (false)))))) fuel (0, y1.1))) fun j1 =>
  iteP y1.1.isNone (
  j1 (true)) (
  j1 (y1.2 != 0))
def law22_FragmentPieces (fuel : Nat) (a0 : List Int) (a1 : Int) (a2 : Int) (a3 : Bool) : Option (Bool) :=
  bindP (made_Light fuel a0) fun y1 =>
  iteP (!y1) (
  bindP (law22_awake fuel) fun y2 =>
  some y2) (
  bindP (made_Roll fuel a0) fun y3 =>
  bindP (law22_message fuel y3 500) fun y4 =>
  bindP (made_Mod fuel a1 64) fun y5 =>
  bindP (made_Mod fuel a2 8) fun y6 =>
  letP (IntKind.i64.wrap (1 + y5)) fun x1 =>
  bindP (fragment_Split fuel 200 8 a3 y6 x1 y4.1) fun y7 =>
  joinP (fun (s1 : Bool) =>
  iteP s1 (
  some false) (
  loopP (fun k1 (s2 : (Int × (List Int))) =>
  iteP (decide (s2.1 < (y7.1.length : Int))) (
  letP (s2.1 == (IntKind.i64.wrap ((y7.1.length : Int) - 1))) fun x2 =>
  bindP (idx y7.1 s2.1) fun x3 =>
  bindP (fragment_Valid fuel x3) fun y8 =>
  joinP (fun (s3 : Bool) =>
  iteP s3 (
  some false) (
  bindP (idx y7.1 s2.1) fun x4 =>
  bindP (app 1 s2.2 x4.Data) fun x5 =>
  letP (IntKind.i64.wrap (s2.1 + 1)) fun x6 =>
  k1 (x6, x5))) fun j2 =>
  iteP (!y8) (
  j2 (true)) (
  bindP (idx y7.1 s2.1) fun x7 =>
  iteP (x7.To != 200) (
  j2 (true)) (
  bindP (idx y7.1 s2.1) fun x8 =>
  iteP (x8.From != 8) (
  j2 (true)) (
  bindP (idx y7.1 s2.1) fun x9 =>
  iteP (x9.Owner != a3) (
  j2 (true)) (
  bindP (idx y7.1 s2.1) fun x10 =>
  iteP (x10.Tag != y6) (
  j2 (true)) (
  bindP (idx y7.1 s2.1) fun x11 =>
  iteP (x11.Sequence != (Int.tmod s2.1 4)) (
  j2 (true)) (
  bindP (idx y7.1 s2.1) fun x12 =>
  iteP (x12.Start != (s2.1 == 0)) (
  j2 (true)) (
  bindP (idx y7.1 s2.1) fun x13 =>
  iteP (x13.End != x2) (
  j2 (true)) (
  bindP (idx y7.1 s2.1) fun x14 =>
  iteP ((x14.Data.length : Int) != x1) (
  j2 (!x2)) (
  j2 (false))))))))))) (
  bindP (ref01_Same fuel s2.2 y4.1) fun y9 =>
  iteP y9 (
  bindP (law22_awake fuel) fun y10 =>
  some y10) (
  some false))) fuel (0, []))) fun j1 =>
  iteP (y7.2 != 0) (
  j1 (true)) (
  bindP (chk (decide (x1 ≠ 0))) fun _ =>
  j1 ((y7.1.length : Int) != (IntKind.i64.wrap (Int.tdiv (IntKind.i64.wrap ((IntKind.i64.wrap ((y4.1.length : Int) + x1)) - 1)) x1)))))
def fragment_Encode (fuel : Nat) (a0 : Packet_) : Option ((List Int) × Int) :=
  bindP (fragment_Valid fuel a0) fun y1 =>
  iteP (!y1) (
  some ([], 1)) (
  letP (IntKind.u8.wrap (IntKind.i64.wrap ((IntKind.i64.wrap (16 * a0.Sequence)) + a0.Tag))) fun x1 =>
  loopP (fun k1 (s1 : (Int × Int)) =>
  iteP (decide (s1.2 < (([(⟨a0.Start, 128⟩ : Anon_af38c4), (⟨a0.End, 64⟩ : Anon_af38c4), (⟨a0.Owner, 8⟩ : Anon_af38c4)]).length : Int))) (
  bindP (idx ([(⟨a0.Start, 128⟩ : Anon_af38c4), (⟨a0.End, 64⟩ : Anon_af38c4), (⟨a0.Owner, 8⟩ : Anon_af38c4)]) s1.2) fun x2 =>
  iteP x2.on (
  k1 ((bOr .u8 s1.1 x2.bit), (IntKind.i64.wrap (s1.2 + 1)))) (
  k1 (s1.1, (IntKind.i64.wrap (s1.2 + 1))))) (
  bindP (app 1 ([1, a0.To, a0.From, s1.1]) a0.Data) fun x3 =>
  some (x3, 0))) fuel (x1, 0))
def ref22_Encode (fuel : Nat) (a0 : Packet_) : Option ((List Int) × Int) :=
  bindP (ref22_Valid fuel a0) fun y1 =>
  iteP (!y1) (
  some ([], 1)) (
  letP (IntKind.i64.wrap ((IntKind.i64.wrap (16 * a0.Sequence)) + a0.Tag)) fun x1 =>
  joinP (fun (s1 : Int) =>
  joinP (fun (s2 : Int) =>
  joinP (fun (s3 : Int) =>
  bindP (app 1 ([1, a0.To, a0.From, (IntKind.u8.wrap s3)]) a0.Data) fun x2 =>
  some (x2, 0)) fun j3 =>
  iteP a0.Owner (
  letP (IntKind.i64.wrap (s2 + 8)) fun x3 =>
  j3 (x3)) (
  j3 (s2))) fun j2 =>
  iteP a0.End (
  letP (IntKind.i64.wrap (s1 + 64)) fun x4 =>
  j2 (x4)) (
  j2 (s1))) fun j1 =>
  iteP a0.Start (
  letP (IntKind.i64.wrap (x1 + 128)) fun x5 =>
  j1 (x5)) (
  j1 (x1)))
def fragment_Decode (fuel : Nat) (a0 : List Int) : Option (Packet_ × Int) :=
  letP (decide ((a0.length : Int) ≤ 4)) fun x1 =>
  iteP x1 (
  some (Packet_.z, 4)) (
  bindP (idx a0 0) fun x2 =>
  letP (x2 != 1) fun x3 =>
  iteP x3 (
  some (Packet_.z, 6)) (
  bindP (idx a0 1) fun x4 =>
  bindP (fragment_endpoint fuel x4) fun y1 =>
  joinP (fun (s1 : Bool) =>
  iteP s1 (
  some (Packet_.z, 13)) (
  letP (decide ((IntKind.i64.wrap ((a0.length : Int) - 4)) > 64)) fun x5 =>
  iteP x5 (
  some (Packet_.z, 3)) (
  bindP (idx a0 3) fun x6 =>
  bindP (idx a0 1) fun x7 =>
  bindP (idx a0 2) fun x8 =>
  bindP (sub a0 4 a0.length) fun x9 =>
  bindP (slices_Clone_byte_byte fuel x9) fun y2 =>
  some ((⟨x7, x8, (bAnd .u8 x6 128) != 0, (bAnd .u8 x6 64) != 0, (IntKind.i64.wrap (Int.tmod (IntKind.u8.wrap (Int.tdiv x6 16)) 4)), (bAnd .u8 x6 8) != 0, (IntKind.i64.wrap (Int.tmod x6 8)), y2⟩ : Packet_), 0)))) fun j1 =>
  iteP (!y1) (
  j1 (true)) (
  bindP (idx a0 2) fun x10 =>
  bindP (fragment_endpoint fuel x10) fun y3 =>
  letP (!y3) fun x11 =>
  j1 (x11))))
def ref22_Decode (fuel : Nat) (a0 : List Int) : Option (Packet_ × Int) :=
  iteP (decide ((a0.length : Int) < 5)) (
  some (Packet_.z, 4)) (
  bindP (idx a0 0) fun x1 =>
  iteP (x1 != 1) (
  some (Packet_.z, 6)) (
  bindP (idx a0 1) fun x2 =>
  bindP (ref22_Endpoint fuel x2) fun y1 =>
  joinP (fun (s1 : Bool) =>
  iteP s1 (
  some (Packet_.z, 13)) (
  iteP (decide ((IntKind.i64.wrap ((a0.length : Int) - 4)) > 64)) (
  some (Packet_.z, 3)) (
  bindP (idx a0 3) fun x3 =>
  bindP (idx a0 1) fun x4 =>
  bindP (idx a0 2) fun x5 =>
  bindP (sub a0 4 a0.length) fun x6 =>
  bindP (ref01_Copy fuel x6) fun y2 =>
  some ((⟨x4, x5, (IntKind.i64.wrap (Int.tdiv (IntKind.i64.wrap x3) 128)) == 1, (Int.tmod (IntKind.i64.wrap (Int.tdiv (IntKind.i64.wrap x3) 64)) 2) == 1, (Int.tmod (IntKind.i64.wrap (Int.tdiv (IntKind.i64.wrap x3) 16)) 4), (Int.tmod (IntKind.i64.wrap (Int.tdiv (IntKind.i64.wrap x3) 8)) 2) == 1, (Int.tmod (IntKind.i64.wrap x3) 8), y2⟩ : Packet_), 0)))) fun j1 =>
  iteP (!y1) (
  j1 (true)) (
  bindP (idx a0 2) fun x7 =>
  bindP (ref22_Endpoint fuel x7) fun y3 =>
  j1 (!y3))))
def law22_FragmentBytes (fuel : Nat) (a0 : Packet_) (a1 : List Int) (a2 : List Int) : Option (Bool) :=
  joinP (fun (s1 : Bool) =>
  iteP s1 (
  bindP (law22_awake fuel) fun y1 =>
  some y1) (
  bindP (made_Roll fuel a2) fun y2 =>
  bindP (made_Dice_Packet fuel y2) fun y3 =>
  loopP (fun k1 (s2 : Int) =>
  iteP (decide (s2 < (([a0, y3.1]).length : Int))) (
  bindP (idx ([a0, y3.1]) s2) fun x1 =>
  bindP (fragment_Encode fuel x1) fun y4 =>
  bindP (ref22_Encode fuel x1) fun y5 =>
  joinP (fun (s3 : Bool) =>
  iteP s3 (
  some false) (
  k1 ((IntKind.i64.wrap (s2 + 1))))) fun j2 =>
  bindP (fragment_Valid fuel x1) fun y6 =>
  bindP (ref22_Valid fuel x1) fun y7 =>
  letP (y6 != y7) fun x2 =>
  iteP x2 (
  j2 (true)) (
  letP (y4.2 != y5.2) fun x3 =>
  iteP x3 (
  j2 (true)) (
  bindP (ref01_Same fuel y4.1 y5.1) fun y8 =>
  j2 (!y8)))) (
  bindP (made_Dice_Byte fuel y3.2) fun y9 =>
  bindP (made_Dice_Next fuel y9.2 5) fun y10 =>
  bindP (made_Dice_Byte fuel y10.2) fun y11 =>
  bindP (idx ([1, 9, 10, y9.1, 5]) y10.1) fun x4 =>
  letP (upd ([1, 9, 10, y9.1, 5]) y10.1 y11.1) fun d1 =>
  bindP (made_Dice_Next fuel y11.2 2) fun y12 =>
  bindP (made_Dice_Next fuel y12.2 4) fun y13 =>
  bindP (mk 1 0 (IntKind.i64.wrap ((IntKind.i64.wrap (62 * y12.1)) + y13.1))) fun x5 =>
  bindP (app 1 d1 x5) fun x6 =>
  bindP (made_Dice_Next fuel y13.2 (x6.length : Int)) fun y14 =>
  bindP (sub x6 0 y14.1) fun x7 =>
  loopP (fun k2 (s4 : Int) =>
  iteP (decide (s4 < (([a1, x6, x7]).length : Int))) (
  bindP (idx ([a1, x6, x7]) s4) fun x8 =>
  bindP (fragment_Decode fuel x8) fun y15 =>
  bindP (ref22_Decode fuel x8) fun y16 =>
  joinP (fun (s5 : Bool) =>
  iteP s5 (
  some false) (
  k2 ((IntKind.i64.wrap (s4 + 1))))) fun j3 =>
  iteP (y15.2 != y16.2) (
  j3 (true)) (
  bindP (ref22_Same fuel y15.1 y16.1) fun y17 =>
  j3 (!y17))) (
  bindP (law22_awake fuel) fun y18 =>
  some y18)) fuel (0))) fuel (0))) fun j1 =>
  iteP (decide ((a0.Data.length : Int) > 200)) (
  j1 (true)) (
  iteP (decide ((a1.length : Int) > 200)) (
  j1 (true)) (
  bindP (made_Light fuel a2) fun y19 =>
  j1 (!y19)))
def law22_FragmentReturns (fuel : Nat) (a0 : List Int) (a1 : List Int) : Option (Bool) :=
  bindP (made_Light fuel a0) fun y1 =>
  joinP (fun (s1 : Bool) =>
  iteP s1 (
  bindP (law22_awake fuel) fun y2 =>
  some y2) (
  bindP (made_Roll fuel a0) fun y3 =>
  bindP (made_Dice_Packet fuel y3) fun y4 =>
  bindP (fragment_Encode fuel y4.1) fun y5 =>
  bindP (fragment_Valid fuel y4.1) fun y6 =>
  iteP (y6 != (y5.2 == 0)) (
  some false) (
  joinP (fun (s2 : Unit) =>
  bindP (app 1 ([1, 9, 10]) a1) fun x1 =>
  loopP (fun k1 (s3 : Int) =>
  iteP (decide (s3 < (([a1, x1]).length : Int))) (
  bindP (idx ([a1, x1]) s3) fun x2 =>
  bindP (fragment_Decode fuel x2) fun y7 =>
  iteP (y7.2 != 0) (
  k1 ((IntKind.i64.wrap (s3 + 1)))) (
  bindP (fragment_Encode fuel y7.1) fun y8 =>
  joinP (fun (s4 : Bool) =>
  iteP s4 (
  some false) (
  k1 ((IntKind.i64.wrap (s3 + 1))))) fun j3 =>
  iteP (y8.2 != 0) (
  j3 (true)) (
  bindP (ref01_Same fuel y8.1 x2) fun y9 =>
  j3 (!y9)))) (
  bindP (law22_awake fuel) fun y10 =>
  some y10)) fuel (0)) fun j2 =>
  iteP (y5.2 == 0) (
  bindP (fragment_Decode fuel y5.1) fun y11 =>
  joinP (fun (s5 : Bool) =>
  iteP s5 (
  some false) (
  j2 ())) fun j4 =>
  iteP (y11.2 != 0) (
  j4 (true)) (
  bindP (ref22_Same fuel y4.1 y11.1) fun y12 =>
  j4 (!y12))) (
  j2 ())))) fun j1 =>
  iteP (!y1) (
  j1 (true)) (
  j1 (decide ((a1.length : Int) > 100)))
def law22_FragmentWhole (fuel : Nat) (a0 : List Int) (a1 : List Int) : Option (Bool) :=
  bindP (made_Light fuel a0) fun y1 =>
  joinP (fun (s1 : Bool) =>
  iteP s1 (
  bindP (law22_awake fuel) fun y2 =>
  some y2) (
  bindP (made_Roll fuel a0) fun y3 =>
  bindP (fragment_New fuel 9) fun y4 =>
  joinP (fun (s2 : Bool) =>
  iteP s2 (
  some false) (
  bindP (made_Dice_Next fuel y3 8) fun y5 =>
  letP (IntKind.i64.wrap (1 + y5.1)) fun x1 =>
  loopP (fun k1 (s3 : (Int × Int × made_Dice × (List (List Int)) × (List (List Packet_)))) =>
  iteP (decide (s3.2.1 < x1)) (
  bindP (law22_message fuel s3.2.2.1 40) fun y6 =>
  bindP (made_Dice_Next fuel y6.2 8) fun y7 =>
  bindP (made_Dice_Next fuel y7.2 9) fun y8 =>
  bindP (fragment_Split fuel 9 (IntKind.u8.wrap (IntKind.i64.wrap (10 + (IntKind.i64.wrap (Int.tdiv s3.2.1 2))))) ((Int.tmod s3.2.1 2) == 0) y7.1 (IntKind.i64.wrap (1 + y8.1)) y6.1) fun y9 =>
  iteP (y9.2 != 0) (
  some false) (
  bindP (app 24 s3.2.2.2.1 ([y6.1])) fun x2 =>
  bindP (app 24 s3.2.2.2.2 ([y9.1])) fun x3 =>
  letP (IntKind.i64.wrap (s3.1 + (y9.1.length : Int))) fun x4 =>
  letP (IntKind.i64.wrap (s3.2.1 + 1)) fun x5 =>
  k1 (x4, x5, y8.2, x2, x3))) (
  bindP (mk 8 0 x1) fun x6 =>
  loopP (fun k2 (s4 : ((List (List Int)) × (List (List Packet_)) × Int × Int × (List Int) × (Option fragment_Assembler))) =>
  iteP (decide (s4.2.2.1 > 0)) (
  joinP (fun (s5 : Int) =>
  loopP (fun k3 (s6 : Int) =>
  bindP (idx s4.2.2.2.2.1 s6) fun x7 =>
  bindP (idx s4.2.1 s6) fun x8 =>
  iteP (decide (x7 ≥ (x8.length : Int))) (
  bindP (chk (decide (x1 ≠ 0))) fun _ =>
  letP (Int.tmod (IntKind.i64.wrap (s6 + 1)) x1) fun x9 =>
  k3 (x9)) (
  bindP (idx s4.2.1 s6) fun x10 =>
  bindP (idx s4.2.2.2.2.1 s6) fun x11 =>
  bindP (idx x10 x11) fun x12 =>
  bindP (fragment_Encode fuel x12) fun y10 =>
  bindP (fragment_Decode fuel y10.1) fun y11 =>
  bindP s4.2.2.2.2.2 fun x13 =>
  bindP (fragment_Assembler_Accept fuel x13 y11.1) fun y12 =>
  bindP (idx s4.2.2.2.2.1 s6) fun x14 =>
  bindP (idx s4.2.2.2.2.1 s6) fun x15 =>
  letP (upd s4.2.2.2.2.1 s6 (IntKind.i64.wrap (x14 + 1))) fun d1 =>
  letP (IntKind.i64.wrap (s4.2.2.1 - 1)) fun x16 =>
  joinP (fun (s7 : Bool) =>
  iteP s7 (
  some false) (
  joinP (fun (s8 : Bool) =>
  iteP s8 (
  some false) (
  letP (IntKind.i64.wrap (s4.2.2.2.1 + 1)) fun x17 =>
  k2 (s4.1, s4.2.1, x16, x17, d1, (some y12.2.2.2)))) fun j5 =>
  letP y12.2.1 fun x18 =>
  iteP x18 (
  bindP (idx s4.1 s6) fun x19 =>
  bindP (ref01_Same fuel y12.1.Data x19) fun y13 =>
  letP (!y13) fun x20 =>
  iteP x20 (
  j5 (true)) (
  letP (y12.1.From != (IntKind.u8.wrap (IntKind.i64.wrap (10 + (IntKind.i64.wrap (Int.tdiv s6 2)))))) fun x21 =>
  iteP x21 (
  j5 (true)) (
  j5 (y12.1.Owner != ((Int.tmod s6 2) == 0))))) (
  j5 (false)))) fun j4 =>
  letP (y10.2 != 0) fun x22 =>
  iteP x22 (
  j4 (true)) (
  letP (y11.2 != 0) fun x23 =>
  iteP x23 (
  j4 (true)) (
  letP (y12.2.2.1 != 0) fun x24 =>
  iteP x24 (
  j4 (true)) (
  bindP (idx d1 s6) fun x25 =>
  bindP (idx s4.2.1 s6) fun x26 =>
  j4 (y12.2.1 != (x25 == (x26.length : Int)))))))) fuel (s5)) fun j3 =>
  iteP (decide (s4.2.2.2.1 < (a1.length : Int))) (
  bindP (idx a1 s4.2.2.2.1) fun x27 =>
  bindP (made_Mod fuel x27 x1) fun y14 =>
  j3 (y14)) (
  j3 (0))) (
  bindP s4.2.2.2.2.2 fun x28 =>
  bindP (fragment_Assembler_Open fuel x28) fun y15 =>
  iteP (y15 == 0) (
  bindP (law22_awake fuel) fun y16 =>
  some y16) (
  some false))) fuel (s3.2.2.2.1, s3.2.2.2.2, s3.1, 0, x6, y4.1))) fuel (0, 0, y5.2, [], []))) fun j2 =>
  iteP y4.1.isNone (
  j2 (true)) (
  j2 (y4.2 != 0)))) fun j1 =>
  iteP (!y1) (
  j1 (true)) (
  j1 (decide ((a1.length : Int) > 300)))
end Lift
