/- Plain Lean functions, as lift.py reads them off the Go functions of the seat. -/
import Derived.Test.YtedddoifbhcinaaLiftR
set_option linter.unusedVariables false
set_option linter.unusedSimpArgs false
namespace Lift
open Go
structure Frame_ where
  To : Int
  From : Int
  Data : List Int
def Frame_.rep : Rep Frame_ := Rep.iso (fun s => (s.To, s.From, s.Data, ())) (Rep.prod (Rep.int .u8) (Rep.prod (Rep.int .u8) (Rep.prod (Rep.slice (Rep.int .u8)) Rep.unit)))
def Frame_.z : Frame_ := ⟨0, 0, []⟩
theorem Frame_.zr : Zr Frame_.rep [.int .u8 0, .int .u8 0, .slice none 0 0] Frame_.z := Zr.iso (r := (Rep.prod (Rep.int .u8) (Rep.prod (Rep.int .u8) (Rep.prod (Rep.slice (Rep.int .u8)) Rep.unit)))) _ (Zr.of (Zr.prod (Zr.int .u8 0) (Zr.prod (Zr.int .u8 0) (Zr.prod (Zr.slice (Rep.int .u8)) Zr.unit))) rfl)
theorem Frame_.f0 : Fld Frame_.rep 0 (Rep.int .u8) Frame_.To (fun s y => { s with To := y }) := Fld.iso (fun s : Frame_ => (s.To, s.From, s.Data, ())) Fld.here (fun _ => rfl) (fun _ _ => rfl)
theorem Frame_.f1 : Fld Frame_.rep 1 (Rep.int .u8) Frame_.From (fun s y => { s with From := y }) := Fld.iso (fun s : Frame_ => (s.To, s.From, s.Data, ())) (Fld.there Fld.here) (fun _ => rfl) (fun _ _ => rfl)
theorem Frame_.f2 : Fld Frame_.rep 2 (Rep.slice (Rep.int .u8)) Frame_.Data (fun s y => { s with Data := y }) := Fld.iso (fun s : Frame_ => (s.To, s.From, s.Data, ())) (Fld.there (Fld.there Fld.here)) (fun _ => rfl) (fun _ _ => rfl)
structure Fault_ where
  Kind : Int
  Index : Int
  Mask : Int
def Fault_.rep : Rep Fault_ := Rep.iso (fun s => (s.Kind, s.Index, s.Mask, ())) (Rep.prod (Rep.int .i64) (Rep.prod (Rep.int .i64) (Rep.prod (Rep.int .u8) Rep.unit)))
def Fault_.z : Fault_ := ⟨0, 0, 0⟩
theorem Fault_.zr : Zr Fault_.rep [.int .i64 0, .int .i64 0, .int .u8 0] Fault_.z := Zr.iso (r := (Rep.prod (Rep.int .i64) (Rep.prod (Rep.int .i64) (Rep.prod (Rep.int .u8) Rep.unit)))) _ (Zr.of (Zr.prod (Zr.int .i64 0) (Zr.prod (Zr.int .i64 0) (Zr.prod (Zr.int .u8 0) Zr.unit))) rfl)
theorem Fault_.pure : Pure Fault_.rep := Pure.iso (Pure.prod Pure.int (Pure.prod Pure.int (Pure.prod Pure.int Pure.unit)))
theorem Fault_.f0 : Fld Fault_.rep 0 (Rep.int .i64) Fault_.Kind (fun s y => { s with Kind := y }) := Fld.iso (fun s : Fault_ => (s.Kind, s.Index, s.Mask, ())) Fld.here (fun _ => rfl) (fun _ _ => rfl)
theorem Fault_.f1 : Fld Fault_.rep 1 (Rep.int .i64) Fault_.Index (fun s y => { s with Index := y }) := Fld.iso (fun s : Fault_ => (s.Kind, s.Index, s.Mask, ())) (Fld.there Fld.here) (fun _ => rfl) (fun _ _ => rfl)
theorem Fault_.f2 : Fld Fault_.rep 2 (Rep.int .u8) Fault_.Mask (fun s y => { s with Mask := y }) := Fld.iso (fun s : Fault_ => (s.Kind, s.Index, s.Mask, ())) (Fld.there (Fld.there Fld.here)) (fun _ => rfl) (fun _ _ => rfl)
structure law21_Do where
  Kind : Int
  Master : Int
  Seed : List Int
  Frame : Frame_
  Fault : Fault_
def law21_Do.rep : Rep law21_Do := Rep.iso (fun s => (s.Kind, s.Master, s.Seed, s.Frame, s.Fault, ())) (Rep.prod (Rep.int .i64) (Rep.prod (Rep.int .i64) (Rep.prod (Rep.slice (Rep.int .i64)) (Rep.prod Frame_.rep (Rep.prod Fault_.rep Rep.unit)))))
def law21_Do.z : law21_Do := ⟨0, 0, [], Frame_.z, Fault_.z⟩
theorem law21_Do.zr : Zr law21_Do.rep [.int .i64 0, .int .i64 0, .slice none 0 0, .int .u8 0, .int .u8 0, .slice none 0 0, .int .i64 0, .int .i64 0, .int .u8 0] law21_Do.z := Zr.iso (r := (Rep.prod (Rep.int .i64) (Rep.prod (Rep.int .i64) (Rep.prod (Rep.slice (Rep.int .i64)) (Rep.prod Frame_.rep (Rep.prod Fault_.rep Rep.unit)))))) _ (Zr.of (Zr.prod (Zr.int .i64 0) (Zr.prod (Zr.int .i64 0) (Zr.prod (Zr.slice (Rep.int .i64)) (Zr.prod Frame_.zr (Zr.prod Fault_.zr Zr.unit))))) rfl)
theorem law21_Do.f0 : Fld law21_Do.rep 0 (Rep.int .i64) law21_Do.Kind (fun s y => { s with Kind := y }) := Fld.iso (fun s : law21_Do => (s.Kind, s.Master, s.Seed, s.Frame, s.Fault, ())) Fld.here (fun _ => rfl) (fun _ _ => rfl)
theorem law21_Do.f1 : Fld law21_Do.rep 1 (Rep.int .i64) law21_Do.Master (fun s y => { s with Master := y }) := Fld.iso (fun s : law21_Do => (s.Kind, s.Master, s.Seed, s.Frame, s.Fault, ())) (Fld.there Fld.here) (fun _ => rfl) (fun _ _ => rfl)
theorem law21_Do.f2 : Fld law21_Do.rep 2 (Rep.slice (Rep.int .i64)) law21_Do.Seed (fun s y => { s with Seed := y }) := Fld.iso (fun s : law21_Do => (s.Kind, s.Master, s.Seed, s.Frame, s.Fault, ())) (Fld.there (Fld.there Fld.here)) (fun _ => rfl) (fun _ _ => rfl)
theorem law21_Do.f3 : Fld law21_Do.rep 3 Frame_.rep law21_Do.Frame (fun s y => { s with Frame := y }) := Fld.iso (fun s : law21_Do => (s.Kind, s.Master, s.Seed, s.Frame, s.Fault, ())) (Fld.there (Fld.there (Fld.there Fld.here))) (fun _ => rfl) (fun _ _ => rfl)
theorem law21_Do.f4 : Fld law21_Do.rep 6 Fault_.rep law21_Do.Fault (fun s y => { s with Fault := y }) := Fld.iso (fun s : law21_Do => (s.Kind, s.Master, s.Seed, s.Frame, s.Fault, ())) (Fld.there (Fld.there (Fld.there (Fld.there Fld.here)))) (fun _ => rfl) (fun _ _ => rfl)
structure bus_master where
  queue : List (List Int)
  tries : Int
  served : Bool
def bus_master.rep : Rep bus_master := Rep.iso (fun s => (s.queue, s.tries, s.served, ())) (Rep.prod (Rep.slice (Rep.slice (Rep.int .u8))) (Rep.prod (Rep.int .i64) (Rep.prod Rep.bool Rep.unit)))
def bus_master.z : bus_master := ⟨[], 0, false⟩
theorem bus_master.zr : Zr bus_master.rep [.slice none 0 0, .int .i64 0, .bool false] bus_master.z := Zr.iso (r := (Rep.prod (Rep.slice (Rep.slice (Rep.int .u8))) (Rep.prod (Rep.int .i64) (Rep.prod Rep.bool Rep.unit)))) _ (Zr.of (Zr.prod (Zr.slice (Rep.slice (Rep.int .u8))) (Zr.prod (Zr.int .i64 0) (Zr.prod (Zr.bool false) Zr.unit))) rfl)
theorem bus_master.f0 : Fld bus_master.rep 0 (Rep.slice (Rep.slice (Rep.int .u8))) bus_master.queue (fun s y => { s with queue := y }) := Fld.iso (fun s : bus_master => (s.queue, s.tries, s.served, ())) Fld.here (fun _ => rfl) (fun _ _ => rfl)
theorem bus_master.f1 : Fld bus_master.rep 1 (Rep.int .i64) bus_master.tries (fun s y => { s with tries := y }) := Fld.iso (fun s : bus_master => (s.queue, s.tries, s.served, ())) (Fld.there Fld.here) (fun _ => rfl) (fun _ _ => rfl)
theorem bus_master.f2 : Fld bus_master.rep 2 Rep.bool bus_master.served (fun s y => { s with served := y }) := Fld.iso (fun s : bus_master => (s.queue, s.tries, s.served, ())) (Fld.there (Fld.there Fld.here)) (fun _ => rfl) (fun _ _ => rfl)
structure bus_Bus where
  masters : List bus_master
def bus_Bus.rep : Rep bus_Bus := Rep.iso (fun s => (s.masters, ())) (Rep.prod (Rep.slice bus_master.rep) Rep.unit)
def bus_Bus.z : bus_Bus := ⟨[]⟩
theorem bus_Bus.zr : Zr bus_Bus.rep [.slice none 0 0] bus_Bus.z := Zr.iso (r := (Rep.prod (Rep.slice bus_master.rep) Rep.unit)) _ (Zr.of (Zr.prod (Zr.slice bus_master.rep) Zr.unit) rfl)
theorem bus_Bus.f0 : Fld bus_Bus.rep 0 (Rep.slice bus_master.rep) bus_Bus.masters (fun s y => { s with masters := y }) := Fld.iso (fun s : bus_Bus => (s.masters, ())) Fld.here (fun _ => rfl) (fun _ _ => rfl)
structure Delivery_ where
  Masters : List Int
  Bytes : List Int
  OK : Bool
  Failed : List Int
def Delivery_.rep : Rep Delivery_ := Rep.iso (fun s => (s.Masters, s.Bytes, s.OK, s.Failed, ())) (Rep.prod (Rep.slice (Rep.int .i64)) (Rep.prod (Rep.slice (Rep.int .u8)) (Rep.prod Rep.bool (Rep.prod (Rep.slice (Rep.int .i64)) Rep.unit))))
def Delivery_.z : Delivery_ := ⟨[], [], false, []⟩
theorem Delivery_.zr : Zr Delivery_.rep [.slice none 0 0, .slice none 0 0, .bool false, .slice none 0 0] Delivery_.z := Zr.iso (r := (Rep.prod (Rep.slice (Rep.int .i64)) (Rep.prod (Rep.slice (Rep.int .u8)) (Rep.prod Rep.bool (Rep.prod (Rep.slice (Rep.int .i64)) Rep.unit))))) _ (Zr.of (Zr.prod (Zr.slice (Rep.int .i64)) (Zr.prod (Zr.slice (Rep.int .u8)) (Zr.prod (Zr.bool false) (Zr.prod (Zr.slice (Rep.int .i64)) Zr.unit)))) rfl)
theorem Delivery_.f0 : Fld Delivery_.rep 0 (Rep.slice (Rep.int .i64)) Delivery_.Masters (fun s y => { s with Masters := y }) := Fld.iso (fun s : Delivery_ => (s.Masters, s.Bytes, s.OK, s.Failed, ())) Fld.here (fun _ => rfl) (fun _ _ => rfl)
theorem Delivery_.f1 : Fld Delivery_.rep 1 (Rep.slice (Rep.int .u8)) Delivery_.Bytes (fun s y => { s with Bytes := y }) := Fld.iso (fun s : Delivery_ => (s.Masters, s.Bytes, s.OK, s.Failed, ())) (Fld.there Fld.here) (fun _ => rfl) (fun _ _ => rfl)
theorem Delivery_.f2 : Fld Delivery_.rep 2 Rep.bool Delivery_.OK (fun s y => { s with OK := y }) := Fld.iso (fun s : Delivery_ => (s.Masters, s.Bytes, s.OK, s.Failed, ())) (Fld.there (Fld.there Fld.here)) (fun _ => rfl) (fun _ _ => rfl)
theorem Delivery_.f3 : Fld Delivery_.rep 3 (Rep.slice (Rep.int .i64)) Delivery_.Failed (fun s y => { s with Failed := y }) := Fld.iso (fun s : Delivery_ => (s.Masters, s.Bytes, s.OK, s.Failed, ())) (Fld.there (Fld.there (Fld.there Fld.here))) (fun _ => rfl) (fun _ _ => rfl)
structure ref21_Master where
  Queue : List (List Int)
  Tries : Int
  Served : Bool
def ref21_Master.rep : Rep ref21_Master := Rep.iso (fun s => (s.Queue, s.Tries, s.Served, ())) (Rep.prod (Rep.slice (Rep.slice (Rep.int .u8))) (Rep.prod (Rep.int .i64) (Rep.prod Rep.bool Rep.unit)))
def ref21_Master.z : ref21_Master := ⟨[], 0, false⟩
theorem ref21_Master.zr : Zr ref21_Master.rep [.slice none 0 0, .int .i64 0, .bool false] ref21_Master.z := Zr.iso (r := (Rep.prod (Rep.slice (Rep.slice (Rep.int .u8))) (Rep.prod (Rep.int .i64) (Rep.prod Rep.bool Rep.unit)))) _ (Zr.of (Zr.prod (Zr.slice (Rep.slice (Rep.int .u8))) (Zr.prod (Zr.int .i64 0) (Zr.prod (Zr.bool false) Zr.unit))) rfl)
theorem ref21_Master.f0 : Fld ref21_Master.rep 0 (Rep.slice (Rep.slice (Rep.int .u8))) ref21_Master.Queue (fun s y => { s with Queue := y }) := Fld.iso (fun s : ref21_Master => (s.Queue, s.Tries, s.Served, ())) Fld.here (fun _ => rfl) (fun _ _ => rfl)
theorem ref21_Master.f1 : Fld ref21_Master.rep 1 (Rep.int .i64) ref21_Master.Tries (fun s y => { s with Tries := y }) := Fld.iso (fun s : ref21_Master => (s.Queue, s.Tries, s.Served, ())) (Fld.there Fld.here) (fun _ => rfl) (fun _ _ => rfl)
theorem ref21_Master.f2 : Fld ref21_Master.rep 2 Rep.bool ref21_Master.Served (fun s y => { s with Served := y }) := Fld.iso (fun s : ref21_Master => (s.Queue, s.Tries, s.Served, ())) (Fld.there (Fld.there Fld.here)) (fun _ => rfl) (fun _ _ => rfl)
structure ref21_Bus where
  Masters : List ref21_Master
def ref21_Bus.rep : Rep ref21_Bus := Rep.iso (fun s => (s.Masters, ())) (Rep.prod (Rep.slice ref21_Master.rep) Rep.unit)
def ref21_Bus.z : ref21_Bus := ⟨[]⟩
theorem ref21_Bus.zr : Zr ref21_Bus.rep [.slice none 0 0] ref21_Bus.z := Zr.iso (r := (Rep.prod (Rep.slice ref21_Master.rep) Rep.unit)) _ (Zr.of (Zr.prod (Zr.slice ref21_Master.rep) Zr.unit) rfl)
theorem ref21_Bus.f0 : Fld ref21_Bus.rep 0 (Rep.slice ref21_Master.rep) ref21_Bus.Masters (fun s y => { s with Masters := y }) := Fld.iso (fun s : ref21_Bus => (s.Masters, ())) Fld.here (fun _ => rfl) (fun _ _ => rfl)
structure made_Dice where
  L : List Int
  At : Int
def made_Dice.rep : Rep made_Dice := Rep.iso (fun s => (s.L, s.At, ())) (Rep.prod (Rep.slice (Rep.int .i64)) (Rep.prod (Rep.int .i64) Rep.unit))
def made_Dice.z : made_Dice := ⟨[], 0⟩
theorem made_Dice.zr : Zr made_Dice.rep [.slice none 0 0, .int .i64 0] made_Dice.z := Zr.iso (r := (Rep.prod (Rep.slice (Rep.int .i64)) (Rep.prod (Rep.int .i64) Rep.unit))) _ (Zr.of (Zr.prod (Zr.slice (Rep.int .i64)) (Zr.prod (Zr.int .i64 0) Zr.unit)) rfl)
theorem made_Dice.f0 : Fld made_Dice.rep 0 (Rep.slice (Rep.int .i64)) made_Dice.L (fun s y => { s with L := y }) := Fld.iso (fun s : made_Dice => (s.L, s.At, ())) Fld.here (fun _ => rfl) (fun _ _ => rfl)
theorem made_Dice.f1 : Fld made_Dice.rep 1 (Rep.int .i64) made_Dice.At (fun s y => { s with At := y }) := Fld.iso (fun s : made_Dice => (s.L, s.At, ())) (Fld.there Fld.here) (fun _ => rfl) (fun _ _ => rfl)
def Frame_.ok (s : Frame_) : Prop := (okI .u8) s.To ∧ (okI .u8) s.From ∧ (okL (okI .u8)) s.Data ∧ True
def Fault_.ok (s : Fault_) : Prop := (okI .i64) s.Kind ∧ (okI .i64) s.Index ∧ (okI .u8) s.Mask ∧ True
def law21_Do.ok (s : law21_Do) : Prop := (okI .i64) s.Kind ∧ (okI .i64) s.Master ∧ (okL (okI .i64)) s.Seed ∧ Frame_.ok s.Frame ∧ Fault_.ok s.Fault ∧ True
def bus_master.ok (s : bus_master) : Prop := (okL (okL (okI .u8))) s.queue ∧ (okI .i64) s.tries ∧ (fun (_ : Bool) => True) s.served ∧ True
def bus_Bus.ok (s : bus_Bus) : Prop := (okL bus_master.ok) s.masters ∧ True
def Delivery_.ok (s : Delivery_) : Prop := (okL (okI .i64)) s.Masters ∧ (okL (okI .u8)) s.Bytes ∧ (fun (_ : Bool) => True) s.OK ∧ (okL (okI .i64)) s.Failed ∧ True
def ref21_Master.ok (s : ref21_Master) : Prop := (okL (okL (okI .u8))) s.Queue ∧ (okI .i64) s.Tries ∧ (fun (_ : Bool) => True) s.Served ∧ True
def ref21_Bus.ok (s : ref21_Bus) : Prop := (okL ref21_Master.ok) s.Masters ∧ True
def made_Dice.ok (s : made_Dice) : Prop := (okL (okI .i64)) s.L ∧ (okI .i64) s.At ∧ True
def law21_light (fuel : Nat) (a0 : List law21_Do) : Option (Bool) :=
  iteP (decide ((a0.length : Int) > 80)) (
  some false) (
  loopP (fun k1 (s1 : Int) =>
  iteP (decide (s1 < (a0.length : Int))) (
  bindP (idx a0 s1) fun x1 =>
  joinP (fun (s2 : Bool) =>
  iteP s2 (
  some false) (
  letP (IntKind.i64.wrap (s1 + 1)) fun x2 =>
  k1 (x2))) fun j1 =>
  iteP (decide ((x1.Seed.length : Int) > 40)) (
  j1 (true)) (
  bindP (idx a0 s1) fun x3 =>
  j1 (decide ((x3.Frame.Data.length : Int) > 100)))) (
  some true)) fuel (0))
def bus_New (fuel : Nat) (a0 : Int) : Option ((Option bus_Bus) × Int) :=
  joinP (fun (s1 : Bool) =>
  iteP s1 (
  some (none, 2)) (
  bindP (mk 40 bus_master.z a0) fun x1 =>
  some ((some ({ (⟨[]⟩ : bus_Bus) with masters := x1 })), 0))) fun j1 =>
  iteP (decide (a0 < 1)) (
  j1 (true)) (
  j1 (decide (a0 > 8)))
def bus_Bus_there (fuel : Nat) (a0 : bus_Bus) (a1 : Int) : Option (Bool) :=
  iteP (decide (a1 ≥ 0)) (
  letP (decide (a1 < (a0.masters.length : Int))) fun x1 =>
  some x1) (
  some false)
def frame_address (fuel : Nat) (a0 : Int) : Option (Bool) :=
  iteP (decide (a0 ≥ 8)) (
  letP (decide (a0 ≤ 119)) fun x1 =>
  some x1) (
  some false)
def frame_Valid (fuel : Nat) (a0 : Frame_) : Option (Bool) :=
  bindP (frame_address fuel a0.To) fun y1 =>
  iteP y1 (
  bindP (frame_address fuel a0.From) fun y2 =>
  iteP y2 (
  letP (decide ((a0.Data.length : Int) ≤ 72)) fun x1 =>
  some x1) (
  some false)) (
  some false)
def slices_Clone_byte_byte (fuel : Nat) (a0 : List Int) : Option ((List Int)) :=
  bindP (app 1 ([]) a0) fun x1 =>
  some x1
def checksum_CRC8 (fuel : Nat) (a0 : List Int) : Option (Int) :=
  loopP (fun k1 (s1 : (Int × Int)) =>
  iteP (decide (s1.2 < (a0.length : Int))) (
  bindP (idx a0 s1.2) fun x1 =>
  loopP (fun k2 (s2 : (Int × Int)) =>
  iteP (decide (s2.2 < 8)) (
  letP (bXor .u8 (bShl .u8 s2.1 1) (IntKind.u8.wrap ((bShr .u8 s2.1 7) * 7))) fun x2 =>
  k2 (x2, (IntKind.i64.wrap (s2.2 + 1)))) (
  k1 (s2.1, (IntKind.i64.wrap (s1.2 + 1))))) fuel ((bXor .u8 s1.1 x1), 0)) (
  some s1.1)) fuel (0, 0)
def checksum_SealCRC8 (fuel : Nat) (a0 : List Int) : Option ((List Int)) :=
  bindP (slices_Clone_byte_byte fuel a0) fun y1 =>
  bindP (checksum_CRC8 fuel a0) fun y2 =>
  bindP (app 1 y1 ([y2])) fun x1 =>
  some x1
def frame_Encode (fuel : Nat) (a0 : Frame_) : Option ((List Int) × Int) :=
  bindP (frame_Valid fuel a0) fun y1 =>
  iteP (!y1) (
  some ([], 1)) (
  bindP (app 1 ([(IntKind.u8.wrap (2 * a0.To)), 15, (IntKind.u8.wrap (IntKind.i64.wrap ((a0.Data.length : Int) + 1))), (IntKind.u8.wrap ((IntKind.u8.wrap (2 * a0.From)) + 1))]) a0.Data) fun x1 =>
  bindP (checksum_SealCRC8 fuel x1) fun y2 =>
  some (y2, 0))
def bus_Bus_Submit (fuel : Nat) (a0 : bus_Bus) (a1 : Int) (a2 : Frame_) : Option (Int × bus_Bus) :=
  bindP (bus_Bus_there fuel a0 a1) fun y1 =>
  iteP (!y1) (
  some (2, a0)) (
  bindP (frame_Encode fuel a2) fun y2 =>
  letP (y2.2 != 0) fun x1 =>
  iteP x1 (
  some (1, a0)) (
  bindP (idx a0.masters a1) fun x2 =>
  letP ((x2.queue.length : Int) == 16) fun x3 =>
  iteP x3 (
  some (9, a0)) (
  bindP (idx a0.masters a1) fun x4 =>
  bindP (app 24 x4.queue ([y2.1])) fun x5 =>
  bindP (idx a0.masters a1) fun x6 =>
  letP (upd a0.masters a1 ({ x6 with queue := x5 })) fun d1 =>
  some (0, { a0 with masters := d1 }))))
def bus_Bus_taking (fuel : Nat) (a0 : bus_Bus) : Option ((List Int) × bus_Bus) :=
  loopP (fun k1 (s1 : (Int × (List Int) × (List Int))) =>
  iteP (decide (s1.1 < (a0.masters.length : Int))) (
  bindP (idx a0.masters s1.1) fun x1 =>
  iteP ((x1.queue.length : Int) == 0) (
  k1 ((IntKind.i64.wrap (s1.1 + 1)), s1.2.1, s1.2.2)) (
  bindP (app 8 s1.2.1 ([s1.1])) fun x2 =>
  iteP (!x1.served) (
  bindP (app 8 s1.2.2 ([s1.1])) fun x3 =>
  k1 ((IntKind.i64.wrap (s1.1 + 1)), x2, x3)) (
  k1 ((IntKind.i64.wrap (s1.1 + 1)), x2, s1.2.2)))) (
  joinP (fun (s2 : Bool) =>
  iteP s2 (
  some (s1.2.2, a0)) (
  loopP (fun k2 (s3 : (Int × bus_Bus)) =>
  iteP (decide (s3.1 < (a0.masters.length : Int))) (
  bindP (idx s3.2.masters s3.1) fun x4 =>
  letP (upd s3.2.masters s3.1 ({ x4 with served := false })) fun d1 =>
  k2 ((IntKind.i64.wrap (s3.1 + 1)), { s3.2 with masters := d1 })) (
  some (s1.2.1, s3.2))) fuel (0, a0))) fun j1 =>
  iteP (decide ((s1.2.2.length : Int) > 0)) (
  j1 (true)) (
  j1 ((s1.2.1.length : Int) == 0)))) fuel (0, [], [])
def bytes_Compare (fuel : Nat) (a0 : List Int) (a1 : List Int) : Option (Int) :=
  some (cmpB a0 a1)
def frame_Compare (fuel : Nat) (a0 : List Int) (a1 : List Int) : Option (Int) :=
  bindP (bytes_Compare fuel a0 a1) fun y1 =>
  some y1
def bus_arrive (fuel : Nat) (a0 : List Int) (a1 : Fault_) : Option ((List Int)) :=
  iteP (a1.Kind == 1) (
  some ([])) (
  bindP (slices_Clone_byte_byte fuel a0) fun y1 =>
  joinP (fun (s1 : Bool) =>
  iteP s1 (
  bindP (idx y1 a1.Index) fun x1 =>
  bindP (idx y1 a1.Index) fun x2 =>
  letP (upd y1 a1.Index (bXor .u8 x1 a1.Mask)) fun d1 =>
  some d1) (
  some y1)) fun j1 =>
  iteP (a1.Kind == 2) (
  iteP (decide (a1.Index ≥ 0)) (
  j1 (decide (a1.Index < (y1.length : Int)))) (
  j1 (false))) (
  j1 (false)))
def checksum_OpenCRC8 (fuel : Nat) (a0 : List Int) : Option ((List Int) × Int) :=
  letP (IntKind.i64.wrap ((a0.length : Int) - 1)) fun x1 =>
  letP (decide (x1 < 0)) fun x2 =>
  iteP x2 (
  some ([], 4)) (
  bindP (sub a0 0 x1) fun x3 =>
  bindP (checksum_CRC8 fuel x3) fun y1 =>
  bindP (idx a0 x1) fun x4 =>
  iteP (y1 != x4) (
  some ([], 5)) (
  bindP (sub a0 0 x1) fun x5 =>
  bindP (slices_Clone_byte_byte fuel x5) fun y2 =>
  some (y2, 0)))
def frame_Decode (fuel : Nat) (a0 : List Int) : Option (Frame_ × Int) :=
  iteP (decide ((a0.length : Int) < 5)) (
  some (Frame_.z, 4)) (
  bindP (checksum_OpenCRC8 fuel a0) fun y1 =>
  iteP (y1.2 != 0) (
  some (Frame_.z, y1.2)) (
  bindP (idx y1.1 0) fun x1 =>
  bindP (idx y1.1 3) fun x2 =>
  bindP (sub y1.1 4 y1.1.length) fun x3 =>
  bindP (slices_Clone_byte_byte fuel x3) fun y2 =>
  bindP (idx y1.1 0) fun x4 =>
  joinP (fun (s1 : Bool) =>
  iteP s1 (
  some (Frame_.z, 6)) (
  bindP (frame_address fuel ((⟨(IntKind.u8.wrap (Int.tdiv x1 2)), (IntKind.u8.wrap (Int.tdiv x2 2)), y2⟩ : Frame_).To)) fun y3 =>
  joinP (fun (s2 : Bool) =>
  iteP s2 (
  some (Frame_.z, 13)) (
  letP (decide ((((⟨(IntKind.u8.wrap (Int.tdiv x1 2)), (IntKind.u8.wrap (Int.tdiv x2 2)), y2⟩ : Frame_).Data).length : Int) > 72)) fun x5 =>
  iteP x5 (
  some (Frame_.z, 3)) (
  some ((⟨(IntKind.u8.wrap (Int.tdiv x1 2)), (IntKind.u8.wrap (Int.tdiv x2 2)), y2⟩ : Frame_), 0)))) fun j2 =>
  iteP (!y3) (
  j2 (true)) (
  bindP (frame_address fuel ((⟨(IntKind.u8.wrap (Int.tdiv x1 2)), (IntKind.u8.wrap (Int.tdiv x2 2)), y2⟩ : Frame_).From)) fun y4 =>
  letP (!y4) fun x6 =>
  j2 (x6)))) fun j1 =>
  iteP ((Int.tmod x4 2) != 0) (
  j1 (true)) (
  bindP (idx y1.1 1) fun x7 =>
  iteP (x7 != 15) (
  j1 (true)) (
  bindP (idx y1.1 2) fun x8 =>
  iteP ((IntKind.i64.wrap x8) != (IntKind.i64.wrap ((a0.length : Int) - 4))) (
  j1 (true)) (
  bindP (idx y1.1 3) fun x9 =>
  letP ((Int.tmod x9 2) == 0) fun x10 =>
  j1 (x10))))))
def bus_Bus_Step_1_2 (fuel : Nat) (a0 : Int) (a1 : bus_Bus) : Option ((List Int)) :=
  bindP (idx a1.masters a0) fun x1 =>
  bindP (idx x1.queue 0) fun x2 =>
  some x2
def bus_Bus_Step_2_2 (fuel : Nat) (a0 : Int) (a1 : Int) (a2_0 : bus_Bus) : Option (Int) :=
  bindP (bus_Bus_Step_1_2 fuel a0 a2_0) fun y1 =>
  bindP (bus_Bus_Step_1_2 fuel a1 a2_0) fun y2 =>
  bindP (frame_Compare fuel y1 y2) fun y3 =>
  some y3
def slices_MinFunc_int_int_bus_Bus_Step_2 (fuel : Nat) (a0 : List Int) (a1_0_0 : bus_Bus) : Option (Int) :=
  iteP (decide ((a0.length : Int) < 1)) (
  none) (
  bindP (idx a0 0) fun x1 =>
  loopP (fun k1 (s1 : (Int × Int)) =>
  iteP (decide (s1.2 < (a0.length : Int))) (
  bindP (idx a0 s1.2) fun x2 =>
  bindP (bus_Bus_Step_2_2 fuel x2 s1.1 a1_0_0) fun y1 =>
  iteP (decide (y1 < 0)) (
  bindP (idx a0 s1.2) fun x3 =>
  letP (IntKind.i64.wrap (s1.2 + 1)) fun x4 =>
  k1 (x3, x4)) (
  letP (IntKind.i64.wrap (s1.2 + 1)) fun x5 =>
  k1 (s1.1, x5))) (
  some s1.1)) fuel (x1, 1))
def bus_Bus_Step (fuel : Nat) (a0 : bus_Bus) (a1 : Fault_) : Option (Delivery_ × Bool × bus_Bus) :=
  bindP (bus_Bus_taking fuel a0) fun y1 =>
  iteP ((y1.1.length : Int) == 0) (
  some (Delivery_.z, false, y1.2)) (
  bindP (slices_MinFunc_int_int_bus_Bus_Step_2 fuel y1.1 y1.2) fun y2 =>
  bindP (bus_Bus_Step_1_2 fuel y2 y1.2) fun y3 =>
  bindP (bus_arrive fuel y3 a1) fun y4 =>
  bindP (frame_Decode fuel ((⟨[], y4, false, []⟩ : Delivery_).Bytes)) fun y5 =>
  letP ({ (⟨[], y4, false, []⟩ : Delivery_) with OK := y5.2 == 0 }) fun d1 =>
  loopP (fun k1 (s1 : (Int × bus_Bus × (List Int) × (List Int))) =>
  iteP (decide (s1.1 < (y1.1.length : Int))) (
  bindP (idx y1.1 s1.1) fun x1 =>
  bindP (bus_Bus_Step_1_2 fuel x1 s1.2.1) fun y6 =>
  bindP (frame_Compare fuel y6 y3) fun y7 =>
  iteP (y7 != 0) (
  k1 ((IntKind.i64.wrap (s1.1 + 1)), s1.2.1, s1.2.2.1, s1.2.2.2)) (
  bindP (app 8 s1.2.2.1 ([x1])) fun x2 =>
  bindP (idx s1.2.1.masters x1) fun x3 =>
  letP (upd s1.2.1.masters x1 ({ x3 with served := true })) fun d2 =>
  bindP (idx d2 x1) fun x4 =>
  bindP (idx d2 x1) fun x5 =>
  letP (upd d2 x1 ({ x5 with tries := (IntKind.i64.wrap (x4.tries + 1)) })) fun d3 =>
  joinP (fun (s2 : Bool) =>
  iteP s2 (
  k1 ((IntKind.i64.wrap (s1.1 + 1)), { s1.2.1 with masters := d3 }, x2, s1.2.2.2)) (
  joinP (fun (s3 : ((List Int))) =>
  bindP (idx d3 x1) fun x6 =>
  bindP (chk (decide ((0 : Int) ≤ 1 ∧ 1 ≤ (x6.queue.length : Int)))) fun _ =>
  bindP (idx d3 x1) fun x7 =>
  letP (upd d3 x1 ({ x7 with queue := (x6.queue.drop (1 : Int).toNat) })) fun d4 =>
  bindP (idx d4 x1) fun x8 =>
  letP (upd d4 x1 ({ x8 with tries := 0 })) fun d5 =>
  k1 ((IntKind.i64.wrap (s1.1 + 1)), { { s1.2.1 with masters := d3 } with masters := d5 }, x2, s3)) fun j2 =>
  iteP (!d1.OK) (
  bindP (app 8 s1.2.2.2 ([x1])) fun x9 =>
  j2 (x9)) (
  j2 (s1.2.2.2)))) fun j1 =>
  iteP (!d1.OK) (
  bindP (idx d3 x1) fun x10 =>
  j1 (decide (x10.tries < 4))) (
  j1 (false)))) (
  some ({ { d1 with Masters := s1.2.2.1 } with Failed := s1.2.2.2 }, true, s1.2.1))) fuel (0, y1.2, [], []))
def bus_Bus_Pending (fuel : Nat) (a0 : bus_Bus) (a1 : Int) : Option (Int) :=
  bindP (bus_Bus_there fuel a0 a1) fun y1 =>
  iteP (!y1) (
  some 0) (
  bindP (idx a0.masters a1) fun x1 =>
  some (x1.queue.length : Int))
def law21_awake (fuel : Nat)  : Option (Bool) :=
  bindP (bus_New fuel 2) fun y1 =>
  joinP (fun (s1 : Bool) =>
  iteP s1 (
  some false) (
  bindP y1.1 fun x1 =>
  bindP (bus_Bus_Submit fuel x1 0 (⟨16, 32, []⟩ : Frame_)) fun y2 =>
  bindP (bus_Bus_Submit fuel y2.2 0 (⟨16, 32, []⟩ : Frame_)) fun y3 =>
  bindP (bus_Bus_Submit fuel y3.2 1 (⟨17, 33, []⟩ : Frame_)) fun y4 =>
  bindP (bus_Bus_Step fuel y4.2 Fault_.z) fun y5 =>
  bindP (bus_Bus_Step fuel y5.2.2 Fault_.z) fun y6 =>
  iteP (y2.1 == 0) (
  iteP (y3.1 == 0) (
  iteP (y4.1 == 0) (
  iteP y5.2.1 (
  iteP y6.2.1 (
  iteP ((y5.1.Masters.length : Int) == 1) (
  bindP (idx y5.1.Masters 0) fun x2 =>
  iteP (x2 == 0) (
  iteP ((y6.1.Masters.length : Int) == 1) (
  bindP (idx y6.1.Masters 0) fun x3 =>
  iteP (x3 == 1) (
  iteP y5.1.OK (
  iteP y6.1.OK (
  bindP (bus_Bus_Pending fuel y6.2.2 0) fun y7 =>
  letP (y7 == 1) fun x4 =>
  some x4) (
  some false)) (
  some false)) (
  some false)) (
  some false)) (
  some false)) (
  some false)) (
  some false)) (
  some false)) (
  some false)) (
  some false)) (
  some false))) fun j1 =>
  iteP y1.1.isNone (
  j1 (true)) (
  j1 (y1.2 != 0))
def ref21_New (fuel : Nat) (a0 : Int) : Option ((Option ref21_Bus) × Int) :=
  joinP (fun (s1 : Bool) =>
  iteP s1 (
  some (none, 2)) (
  bindP (mk 40 ref21_Master.z a0) fun x1 =>
  some ((some ({ (⟨[]⟩ : ref21_Bus) with Masters := x1 })), 0))) fun j1 =>
  iteP (decide (a0 < 1)) (
  j1 (true)) (
  j1 (decide (a0 > 8)))
def made_Mod (fuel : Nat) (a0 : Int) (a1 : Int) : Option (Int) :=
  bindP (chk (decide (a1 ≠ 0))) fun _ =>
  iteP (decide ((Int.tmod a0 a1) < 0)) (
  letP (IntKind.i64.wrap ((Int.tmod a0 a1) + a1)) fun x1 =>
  some x1) (
  some (Int.tmod a0 a1))
def made_Roll (fuel : Nat) (a0 : List Int) : Option (made_Dice) :=
  some (⟨a0, 0⟩ : made_Dice)
def made_Dice_Next (fuel : Nat) (a0 : made_Dice) (a1 : Int) : Option (Int × made_Dice) :=
  iteP (decide (a0.At ≥ (a0.L.length : Int))) (
  some (0, a0)) (
  letP ({ a0 with At := (IntKind.i64.wrap (a0.At + 1)) }) fun d1 =>
  bindP (idx d1.L (IntKind.i64.wrap (d1.At - 1))) fun x1 =>
  bindP (made_Mod fuel x1 a1) fun y1 =>
  some (y1, d1))
def made_Dice_Bool (fuel : Nat) (a0 : made_Dice) (a1 : Int) : Option (Bool × made_Dice) :=
  bindP (made_Dice_Next fuel a0 a1) fun y1 =>
  letP (y1.1 == (IntKind.i64.wrap (a1 - 1))) fun x1 =>
  some (x1, y1.2)
def made_Dice_Byte (fuel : Nat) (a0 : made_Dice) : Option (Int × made_Dice) :=
  letP ([0, 1, 127, 128, 254, 255, 15, 240]) fun d1 =>
  bindP (made_Dice_Bool fuel a0 3) fun y1 =>
  iteP y1.1 (
  bindP (made_Dice_Next fuel y1.2 8) fun y2 =>
  bindP (idx d1 y2.1) fun x1 =>
  bindP (chk (Nat.beq d1.length 8)) fun _ =>
  some (x1, y2.2)) (
  bindP (made_Dice_Next fuel y1.2 256) fun y3 =>
  some ((IntKind.u8.wrap y3.1), y3.2))
def made_Dice_Bytes (fuel : Nat) (a0 : made_Dice) (a1 : Int) : Option ((List Int) × made_Dice) :=
  bindP (made_Dice_Next fuel a0 (IntKind.i64.wrap (a1 + 1))) fun y1 =>
  loopP (fun k1 (s1 : (Int × made_Dice × (List Int))) =>
  iteP (decide (s1.1 > 0)) (
  bindP (made_Dice_Byte fuel s1.2.1) fun y2 =>
  bindP (app 1 s1.2.2 ([y2.1])) fun x1 =>
  letP (IntKind.i64.wrap (s1.1 - 1)) fun x2 =>
  k1 (x2, y2.2, x1)) (
  some (s1.2.2, s1.2.1))) fuel (y1.1, y1.2, [])
def made_Dice_Frame (fuel : Nat) (a0 : made_Dice) : Option (Frame_ × made_Dice) :=
  bindP (made_Dice_Next fuel a0 4) fun y1 =>
  bindP (made_Dice_Next fuel y1.2 3) fun y2 =>
  bindP (made_Dice_Bytes fuel y2.2 6) fun y3 =>
  bindP (made_Dice_Bool fuel y3.2 30) fun y4 =>
  iteP y4.1 (
  bindP (mk 1 0 72) fun x1 =>
  letP ({ (⟨(IntKind.u8.wrap (IntKind.i64.wrap (8 + y1.1))), (IntKind.u8.wrap (IntKind.i64.wrap (32 + y2.1))), y3.1⟩ : Frame_) with To := 119 }) fun d1 =>
  some ({ d1 with Data := x1 }, y4.2)) (
  some ((⟨(IntKind.u8.wrap (IntKind.i64.wrap (8 + y1.1))), (IntKind.u8.wrap (IntKind.i64.wrap (32 + y2.1))), y3.1⟩ : Frame_), y4.2))
def ref20_Address (fuel : Nat) (a0 : Int) : Option (Bool) :=
  iteP (decide (a0 ≥ 8)) (
  letP (decide (a0 ≤ 119)) fun x1 =>
  some x1) (
  some false)
def ref20_Valid (fuel : Nat) (a0 : Frame_) : Option (Bool) :=
  bindP (ref20_Address fuel a0.To) fun y1 =>
  iteP y1 (
  bindP (ref20_Address fuel a0.From) fun y2 =>
  iteP y2 (
  letP (decide ((a0.Data.length : Int) ≤ 72)) fun x1 =>
  some x1) (
  some false)) (
  some false)
def ref01_Copy (fuel : Nat) (a0 : List Int) : Option ((List Int)) :=
  loopP (fun k1 (s1 : (Int × (List Int))) =>
  iteP (decide (s1.1 < (a0.length : Int))) (
  bindP (idx a0 s1.1) fun x1 =>
  bindP (app 1 s1.2 ([x1])) fun x2 =>
  letP (IntKind.i64.wrap (s1.1 + 1)) fun x3 =>
  k1 (x3, x2)) (
  some s1.2)) fuel (0, [])
def ref01_CRC8 (fuel : Nat) (a0 : List Int) : Option (Int) :=
  loopP (fun k1 (s1 : (Int × Int)) =>
  iteP (decide (s1.2 < (a0.length : Int))) (
  bindP (idx a0 s1.2) fun x1 =>
  letP (bXor .i64 s1.1 (IntKind.i64.wrap x1)) fun x2 =>
  loopP (fun k2 (s2 : (Int × Int)) =>
  iteP (decide (s2.2 < 8)) (
  letP (IntKind.i64.wrap (2 * s2.1)) fun x3 =>
  iteP (decide (x3 ≥ 256)) (
  letP (bXor .i64 (IntKind.i64.wrap (x3 - 256)) 7) fun x4 =>
  letP (IntKind.i64.wrap (s2.2 + 1)) fun x5 =>
  k2 (x4, x5)) (
  letP (IntKind.i64.wrap (s2.2 + 1)) fun x6 =>
  k2 (x3, x6))) (
  letP (IntKind.i64.wrap (s1.2 + 1)) fun x7 =>
  k1 (s2.1, x7))) fuel (x2, 0)) (
  some (IntKind.u8.wrap s1.1))) fuel (0, 0)
def ref01_SealCRC8 (fuel : Nat) (a0 : List Int) : Option ((List Int)) :=
  bindP (ref01_Copy fuel a0) fun y1 =>
  bindP (ref01_CRC8 fuel a0) fun y2 =>
  bindP (app 1 y1 ([y2])) fun x1 =>
  some x1
def ref20_Encode (fuel : Nat) (a0 : Frame_) : Option ((List Int) × Int) :=
  bindP (ref20_Valid fuel a0) fun y1 =>
  iteP (!y1) (
  some ([], 1)) (
  bindP (app 1 ([(IntKind.u8.wrap (2 * a0.To)), 15, (IntKind.u8.wrap (IntKind.i64.wrap ((a0.Data.length : Int) + 1))), (IntKind.u8.wrap ((IntKind.u8.wrap (2 * a0.From)) + 1))]) a0.Data) fun x1 =>
  bindP (ref01_SealCRC8 fuel x1) fun y2 =>
  some (y2, 0))
def ref21_Bus_Submit (fuel : Nat) (a0 : ref21_Bus) (a1 : Int) (a2 : Frame_) : Option (Int × ref21_Bus) :=
  joinP (fun (s1 : Bool) =>
  iteP s1 (
  some (2, a0)) (
  bindP (ref20_Encode fuel a2) fun y1 =>
  iteP (y1.2 != 0) (
  some (y1.2, a0)) (
  bindP (idx a0.Masters a1) fun x1 =>
  iteP (decide ((x1.Queue.length : Int) ≥ 16)) (
  some (9, a0)) (
  bindP (idx a0.Masters a1) fun x2 =>
  bindP (app 24 x2.Queue ([y1.1])) fun x3 =>
  bindP (idx a0.Masters a1) fun x4 =>
  letP (upd a0.Masters a1 ({ x4 with Queue := x3 })) fun d1 =>
  some (0, { a0 with Masters := d1 }))))) fun j1 =>
  iteP (decide (a1 < 0)) (
  j1 (true)) (
  j1 (decide (a1 ≥ (a0.Masters.length : Int))))
def law21_fault (fuel : Nat) (a0 : Fault_) : Option (Fault_) :=
  iteP ((Int.tmod a0.Index 5) != 0) (
  bindP (made_Mod fuel a0.Kind 3) fun y1 =>
  letP ({ a0 with Kind := y1 }) fun d1 =>
  bindP (made_Mod fuel d1.Index 12) fun y2 =>
  letP ({ d1 with Index := y2 }) fun d2 =>
  some d2) (
  some a0)
def ref21_Bus_waits (fuel : Nat) (a0 : ref21_Bus) (a1 : Int) (a2 : Bool) : Option (Bool) :=
  bindP (idx a0.Masters a1) fun x1 =>
  iteP (decide ((x1.Queue.length : Int) > 0)) (
  iteP a2 (
  bindP (idx a0.Masters a1) fun x2 =>
  letP (!x2.Served) fun x3 =>
  some x3) (
  letP (!false) fun x4 =>
  some x4)) (
  some false)
def ref21_Bus_anyone (fuel : Nat) (a0 : ref21_Bus) (a1 : Bool) : Option (Bool) :=
  loopP (fun k1 (s1 : Int) =>
  iteP (decide (s1 < (a0.Masters.length : Int))) (
  bindP (ref21_Bus_waits fuel a0 s1 a1) fun y1 =>
  iteP y1 (
  some true) (
  letP (IntKind.i64.wrap (s1 + 1)) fun x1 =>
  k1 (x1))) (
  some false)) fuel (0)
def ref20_Compare (fuel : Nat) (a0 : List Int) (a1 : List Int) : Option (Int) :=
  loopP (fun k1 (s1 : Int) =>
  joinP (fun (s2 : Bool) =>
  iteP s2 (
  bindP (idx a0 s1) fun x1 =>
  bindP (idx a1 s1) fun x2 =>
  iteP (decide (x1 < x2)) (
  some (-1)) (
  bindP (idx a0 s1) fun x3 =>
  bindP (idx a1 s1) fun x4 =>
  iteP (decide (x3 > x4)) (
  some 1) (
  letP (IntKind.i64.wrap (s1 + 1)) fun x5 =>
  k1 (x5)))) (
  letP (decide ((a0.length : Int) < (a1.length : Int))) fun x6 =>
  iteP x6 (
  some (-1)) (
  letP (decide ((a0.length : Int) > (a1.length : Int))) fun x7 =>
  iteP x7 (
  some 1) (
  some 0)))) fun j1 =>
  iteP (decide (s1 < (a0.length : Int))) (
  j1 (decide (s1 < (a1.length : Int)))) (
  j1 (false))) fuel (0)
def ref01_OpenCRC8 (fuel : Nat) (a0 : List Int) : Option ((List Int) × Int) :=
  iteP ((a0.length : Int) == 0) (
  some ([], 4)) (
  letP (IntKind.i64.wrap ((a0.length : Int) - 1)) fun x1 =>
  bindP (sub a0 0 x1) fun x2 =>
  bindP (ref01_CRC8 fuel x2) fun y1 =>
  bindP (idx a0 x1) fun x3 =>
  iteP (y1 != x3) (
  some ([], 5)) (
  bindP (sub a0 0 x1) fun x4 =>
  bindP (ref01_Copy fuel x4) fun y2 =>
  some (y2, 0)))
def ref20_Decode (fuel : Nat) (a0 : List Int) : Option (Frame_ × Int) :=
  iteP (decide ((a0.length : Int) < 5)) (
  some (Frame_.z, 4)) (
  bindP (ref01_OpenCRC8 fuel a0) fun y1 =>
  iteP (y1.2 != 0) (
  some (Frame_.z, y1.2)) (
  bindP (idx y1.1 0) fun x1 =>
  joinP (fun (s1 : Bool) =>
  iteP s1 (
  some (Frame_.z, 6)) (
  bindP (idx y1.1 0) fun x2 =>
  bindP (idx y1.1 3) fun x3 =>
  bindP (sub y1.1 4 y1.1.length) fun x4 =>
  bindP (ref01_Copy fuel x4) fun y2 =>
  bindP (ref20_Address fuel ((⟨(IntKind.u8.wrap (Int.tdiv x2 2)), (IntKind.u8.wrap (Int.tdiv x3 2)), y2⟩ : Frame_).To)) fun y3 =>
  joinP (fun (s2 : Bool) =>
  iteP s2 (
  some (Frame_.z, 13)) (
  iteP (decide ((((⟨(IntKind.u8.wrap (Int.tdiv x2 2)), (IntKind.u8.wrap (Int.tdiv x3 2)), y2⟩ : Frame_).Data).length : Int) > 72)) (
  some (Frame_.z, 3)) (
  some ((⟨(IntKind.u8.wrap (Int.tdiv x2 2)), (IntKind.u8.wrap (Int.tdiv x3 2)), y2⟩ : Frame_), 0)))) fun j2 =>
  iteP (!y3) (
  j2 (true)) (
  bindP (ref20_Address fuel ((⟨(IntKind.u8.wrap (Int.tdiv x2 2)), (IntKind.u8.wrap (Int.tdiv x3 2)), y2⟩ : Frame_).From)) fun y4 =>
  j2 (!y4)))) fun j1 =>
  iteP ((Int.tmod x1 2) != 0) (
  j1 (true)) (
  bindP (idx y1.1 1) fun x5 =>
  iteP (x5 != 15) (
  j1 (true)) (
  bindP (idx y1.1 2) fun x6 =>
  iteP ((IntKind.i64.wrap x6) != (IntKind.i64.wrap ((a0.length : Int) - 4))) (
  j1 (true)) (
  bindP (idx y1.1 3) fun x7 =>
  j1 ((Int.tmod x7 2) != 1))))))
def ref21_Bus_Step (fuel : Nat) (a0 : ref21_Bus) (a1 : Fault_) : Option (Delivery_ × Bool × ref21_Bus) :=
  bindP (ref21_Bus_anyone fuel a0 false) fun y1 =>
  iteP (!y1) (
  some (Delivery_.z, false, a0)) (
  bindP (ref21_Bus_anyone fuel a0 true) fun y2 =>
  joinP (fun (s1 : ref21_Bus) =>
  loopP (fun k1 (s2 : ((List Int) × Int)) =>
  iteP (decide (s2.2 < (s1.Masters.length : Int))) (
  bindP (ref21_Bus_waits fuel s1 s2.2 true) fun y3 =>
  joinP (fun (s3 : Bool) =>
  iteP s3 (
  bindP (idx s1.Masters s2.2) fun x1 =>
  bindP (idx x1.Queue 0) fun x2 =>
  letP (IntKind.i64.wrap (s2.2 + 1)) fun x3 =>
  k1 (x2, x3)) (
  letP (IntKind.i64.wrap (s2.2 + 1)) fun x4 =>
  k1 (s2.1, x4))) fun j2 =>
  iteP y3 (
  iteP ((s2.1.length : Int) == 0) (
  j2 (true)) (
  bindP (idx s1.Masters s2.2) fun x5 =>
  bindP (idx x5.Queue 0) fun x6 =>
  bindP (ref20_Compare fuel x6 s2.1) fun y4 =>
  j2 (decide (y4 < 0)))) (
  j2 (false))) (
  loopP (fun k2 (s4 : (Int × (List Int))) =>
  iteP (decide (s4.1 < (s1.Masters.length : Int))) (
  bindP (ref21_Bus_waits fuel s1 s4.1 true) fun y5 =>
  joinP (fun (s5 : Bool) =>
  iteP s5 (
  bindP (app 8 s4.2 ([s4.1])) fun x7 =>
  letP (IntKind.i64.wrap (s4.1 + 1)) fun x8 =>
  k2 (x8, x7)) (
  letP (IntKind.i64.wrap (s4.1 + 1)) fun x9 =>
  k2 (x9, s4.2))) fun j3 =>
  iteP y5 (
  bindP (idx s1.Masters s4.1) fun x10 =>
  bindP (idx x10.Queue 0) fun x11 =>
  bindP (ref20_Compare fuel x11 s2.1) fun y6 =>
  j3 (y6 == 0)) (
  j3 (false))) (
  joinP (fun (s6 : (Delivery_ × (List Int))) =>
  loopP (fun k3 (s7 : (Int × ref21_Bus × (List Int))) =>
  iteP (decide (s7.1 < ((({ s6.1 with Bytes := s6.2 }).Masters).length : Int))) (
  bindP (idx (({ s6.1 with Bytes := s6.2 }).Masters) s7.1) fun x12 =>
  bindP (idx s7.2.1.Masters x12) fun x13 =>
  letP (upd s7.2.1.Masters x12 ({ x13 with Served := true })) fun d1 =>
  bindP (idx d1 x12) fun x14 =>
  bindP (idx d1 x12) fun x15 =>
  letP (upd d1 x12 ({ x15 with Tries := (IntKind.i64.wrap (x14.Tries + 1)) })) fun d2 =>
  joinP (fun (s8 : Bool) =>
  iteP s8 (
  letP (IntKind.i64.wrap (s7.1 + 1)) fun x16 =>
  k3 (x16, { s7.2.1 with Masters := d2 }, s7.2.2)) (
  joinP (fun (s9 : ((List Int))) =>
  bindP (idx d2 x12) fun x17 =>
  bindP (chk (decide ((0 : Int) ≤ 1 ∧ 1 ≤ (x17.Queue.length : Int)))) fun _ =>
  bindP (idx d2 x12) fun x18 =>
  letP (upd d2 x12 ({ x18 with Queue := (x17.Queue.drop (1 : Int).toNat) })) fun d3 =>
  bindP (idx d3 x12) fun x19 =>
  letP (upd d3 x12 ({ x19 with Tries := 0 })) fun d4 =>
  letP (IntKind.i64.wrap (s7.1 + 1)) fun x20 =>
  k3 (x20, { { s7.2.1 with Masters := d2 } with Masters := d4 }, s9)) fun j6 =>
  iteP (!(({ s6.1 with Bytes := s6.2 }).OK)) (
  bindP (idx (({ s6.1 with Bytes := s6.2 }).Masters) s7.1) fun x21 =>
  bindP (app 8 s7.2.2 ([x21])) fun x22 =>
  j6 (x22)) (
  j6 (s7.2.2)))) fun j5 =>
  iteP (!(({ s6.1 with Bytes := s6.2 }).OK)) (
  bindP (idx d2 x12) fun x23 =>
  j5 (decide (x23.Tries < 4))) (
  j5 (false))) (
  letP ({ s6.1 with Bytes := s6.2 }) fun d5 =>
  some ({ d5 with Failed := s7.2.2 }, true, s7.2.1))) fuel (0, s1, [])) fun j4 =>
  iteP (a1.Kind != 1) (
  bindP (ref01_Copy fuel s2.1) fun y7 =>
  joinP (fun (s10 : Bool) =>
  joinP (fun (s11 : ((List Int))) =>
  bindP (ref20_Decode fuel s11) fun y8 =>
  letP ({ { Delivery_.z with Masters := s4.2 } with OK := y8.2 == 0 }) fun d6 =>
  j4 (d6, s11)) fun j8 =>
  iteP s10 (
  bindP (idx y7 a1.Index) fun x24 =>
  bindP (idx y7 a1.Index) fun x25 =>
  letP (upd y7 a1.Index (bXor .u8 x24 a1.Mask)) fun d7 =>
  j8 (d7)) (
  j8 (y7))) fun j7 =>
  iteP (a1.Kind == 2) (
  iteP (decide (a1.Index ≥ 0)) (
  j7 (decide (a1.Index < (y7.length : Int)))) (
  j7 (false))) (
  j7 (false))) (
  j4 ({ Delivery_.z with Masters := s4.2 }, [])))) fuel (0, []))) fuel ([], 0)) fun j1 =>
  iteP (!y2) (
  loopP (fun k4 (s12 : (Int × ref21_Bus)) =>
  iteP (decide (s12.1 < (s12.2.Masters.length : Int))) (
  bindP (idx s12.2.Masters s12.1) fun x26 =>
  letP (upd s12.2.Masters s12.1 ({ x26 with Served := false })) fun d8 =>
  letP (IntKind.i64.wrap (s12.1 + 1)) fun x27 =>
  k4 (x27, { s12.2 with Masters := d8 })) (
  j1 (s12.2))) fuel (0, a0)) (
  j1 (a0)))
def ref21_SameInts (fuel : Nat) (a0 : List Int) (a1 : List Int) : Option (Bool) :=
  iteP ((a0.length : Int) != (a1.length : Int)) (
  some false) (
  loopP (fun k1 (s1 : Int) =>
  iteP (decide (s1 < (a0.length : Int))) (
  bindP (idx a0 s1) fun x1 =>
  bindP (idx a1 s1) fun x2 =>
  iteP (x1 != x2) (
  some false) (
  letP (IntKind.i64.wrap (s1 + 1)) fun x3 =>
  k1 (x3))) (
  some true)) fuel (0))
def ref01_Same (fuel : Nat) (a0 : List Int) (a1 : List Int) : Option (Bool) :=
  iteP ((a0.length : Int) != (a1.length : Int)) (
  some false) (
  loopP (fun k1 (s1 : Int) =>
  iteP (decide (s1 < (a0.length : Int))) (
  bindP (idx a0 s1) fun x1 =>
  bindP (idx a1 s1) fun x2 =>
  iteP (x1 != x2) (
  some false) (
  letP (IntKind.i64.wrap (s1 + 1)) fun x3 =>
  k1 (x3))) (
  some true)) fuel (0))
def ref21_Same (fuel : Nat) (a0 : Delivery_) (a1 : Delivery_) : Option (Bool) :=
  bindP (ref21_SameInts fuel a0.Masters a1.Masters) fun y1 =>
  iteP y1 (
  bindP (ref01_Same fuel a0.Bytes a1.Bytes) fun y2 =>
  iteP y2 (
  iteP (a0.OK == a1.OK) (
  bindP (ref21_SameInts fuel a0.Failed a1.Failed) fun y3 =>
  some y3) (
  some false)) (
  some false)) (
  some false)
def ref21_Bus_Pending (fuel : Nat) (a0 : ref21_Bus) (a1 : Int) : Option (Int) :=
  joinP (fun (s1 : Bool) =>
  iteP s1 (
  some 0) (
  bindP (idx a0.Masters a1) fun x1 =>
  some (x1.Queue.length : Int))) fun j1 =>
  iteP (decide (a1 < 0)) (
  j1 (true)) (
  j1 (decide (a1 ≥ (a0.Masters.length : Int))))
def law21_BusPlays (fuel : Nat) (a0 : Int) (a1 : List law21_Do) : Option (Bool) :=
  bindP (law21_light fuel a1) fun y1 =>
  iteP (!y1) (
  bindP (law21_awake fuel) fun y2 =>
  some y2) (
  bindP (bus_New fuel a0) fun y3 =>
  bindP (ref21_New fuel a0) fun y4 =>
  joinP (fun (s1 : Bool) =>
  iteP s1 (
  some false) (
  bindP (made_Mod fuel a0 8) fun y5 =>
  letP (IntKind.i64.wrap (1 + y5)) fun x1 =>
  bindP (bus_New fuel x1) fun y6 =>
  bindP (ref21_New fuel x1) fun y7 =>
  joinP (fun (s2 : Bool) =>
  iteP s2 (
  some false) (
  loopP (fun k1 (s3 : (Int × (Option bus_Bus) × (Option ref21_Bus))) =>
  iteP (decide (s3.1 < (a1.length : Int))) (
  bindP (idx a1 s3.1) fun x2 =>
  joinP (fun (s4 : Int) =>
  bindP (made_Mod fuel x2.Kind 4) fun y8 =>
  letP (y8 == 0) fun x3 =>
  joinP (fun (s5 : Bool) =>
  joinP (fun (s6 : ((Option bus_Bus) × (Option ref21_Bus))) =>
  loopP (fun k2 (s7 : (Int × (Option bus_Bus) × (Option ref21_Bus))) =>
  iteP (decide (s7.1 ≤ x1)) (
  bindP s7.2.1 fun x4 =>
  bindP (bus_Bus_Pending fuel x4 s7.1) fun y9 =>
  bindP s7.2.2 fun x5 =>
  bindP (ref21_Bus_Pending fuel x5 s7.1) fun y10 =>
  iteP (y9 != y10) (
  some false) (
  letP (IntKind.i64.wrap (s7.1 + 1)) fun x6 =>
  k2 (x6, (some x4), (some x5)))) (
  letP (IntKind.i64.wrap (s3.1 + 1)) fun x7 =>
  k1 (x7, s7.2.1, s7.2.2))) fuel ((-1), s6.1, s6.2)) fun j5 =>
  iteP s5 (
  bindP (made_Roll fuel x2.Seed) fun y11 =>
  bindP (made_Dice_Frame fuel y11) fun y12 =>
  bindP s3.2.1 fun x8 =>
  bindP (bus_Bus_Submit fuel x8 s4 y12.1) fun y13 =>
  bindP s3.2.2 fun x9 =>
  bindP (ref21_Bus_Submit fuel x9 s4 y12.1) fun y14 =>
  iteP (y13.1 != y14.1) (
  some false) (
  j5 ((some y13.2), (some y14.2)))) (
  letP (y8 == 1) fun x10 =>
  iteP x10 (
  bindP (law21_fault fuel x2.Fault) fun y15 =>
  bindP s3.2.1 fun x11 =>
  bindP (bus_Bus_Step fuel x11 y15) fun y16 =>
  bindP (law21_fault fuel x2.Fault) fun y17 =>
  bindP s3.2.2 fun x12 =>
  bindP (ref21_Bus_Step fuel x12 y17) fun y18 =>
  joinP (fun (s8 : Bool) =>
  iteP s8 (
  some false) (
  j5 ((some y16.2.2), (some y18.2.2)))) fun j6 =>
  iteP (y16.2.1 != y18.2.1) (
  j6 (true)) (
  bindP (ref21_Same fuel y16.1 y18.1) fun y19 =>
  j6 (!y19))) (
  bindP s3.2.1 fun x13 =>
  bindP (bus_Bus_Submit fuel x13 s4 x2.Frame) fun y20 =>
  bindP s3.2.2 fun x14 =>
  bindP (ref21_Bus_Submit fuel x14 s4 x2.Frame) fun y21 =>
  iteP (y20.1 != y21.1) (
  some false) (
  j5 ((some y20.2), (some y21.2)))))) fun j4 =>
  iteP x3 (
  j4 (x3)) (
  letP (y8 == 3) fun x15 =>
  j4 (x15))) fun j3 =>
  iteP ((Int.tmod x2.Master 7) != 6) (
  bindP (made_Mod fuel x2.Master x1) fun y22 =>
  j3 (y22)) (
  j3 (x2.Master))) (
  bindP (law21_awake fuel) fun y23 =>
  some y23)) fuel (0, y6.1, y7.1))) fun j2 =>
  iteP y6.1.isNone (
  j2 (true)) (
  j2 (y6.2 != 0)))) fun j1 =>
  iteP (y3.2 != y4.2) (
  j1 (true)) (
  j1 ((!y3.1.isNone) != (y4.2 == 0))))
def made_Light (fuel : Nat) (a0 : List Int) : Option (Bool) :=
  letP (decide ((a0.length : Int) ≤ 600)) fun x1 =>
  some x1
def law21_loaded (fuel : Nat) (a0 : Int) (a1 : List Int) : Option ((Option bus_Bus) × (List (List (List Int))) × Bool) :=
  bindP (bus_New fuel a0) fun y1 =>
  joinP (fun (s1 : Bool) =>
  iteP s1 (
  some (none, [], false)) (
  bindP (made_Roll fuel a1) fun y2 =>
  bindP (mk 24 ([]) a0) fun x1 =>
  loopP (fun k1 (s2 : (Int × made_Dice × (List (List (List Int))) × (Option bus_Bus))) =>
  iteP (decide (s2.1 < a0)) (
  bindP (made_Dice_Next fuel s2.2.1 5) fun y3 =>
  loopP (fun k2 (s3 : (Int × made_Dice × (List (List (List Int))) × (Option bus_Bus))) =>
  iteP (decide (s3.1 > 0)) (
  bindP (made_Dice_Frame fuel s3.2.1) fun y4 =>
  bindP (frame_Encode fuel y4.1) fun y5 =>
  joinP (fun (s4 : (Bool × (Option bus_Bus))) =>
  iteP s4.1 (
  some (none, [], false)) (
  bindP (idx s3.2.2.1 s2.1) fun x2 =>
  bindP (app 24 x2 ([y5.1])) fun x3 =>
  bindP (idx s3.2.2.1 s2.1) fun x4 =>
  letP (upd s3.2.2.1 s2.1 x3) fun d1 =>
  letP (IntKind.i64.wrap (s3.1 - 1)) fun x5 =>
  k2 (x5, y4.2, d1, s4.2))) fun j2 =>
  iteP (y5.2 != 0) (
  j2 (true, s3.2.2.2)) (
  bindP s3.2.2.2 fun x6 =>
  bindP (bus_Bus_Submit fuel x6 s2.1 y4.1) fun y6 =>
  j2 (y6.1 != 0, (some y6.2)))) (
  letP (IntKind.i64.wrap (s2.1 + 1)) fun x7 =>
  k1 (x7, s3.2.1, s3.2.2.1, s3.2.2.2))) fuel (y3.1, y3.2, s2.2.2.1, s2.2.2.2)) (
  some (s2.2.2.2, s2.2.2.1, true))) fuel (0, y2, x1, y1.1))) fun j1 =>
  iteP y1.1.isNone (
  j1 (true)) (
  j1 (y1.2 != 0))
def law21_among (fuel : Nat) (a0 : List Int) (a1 : Int) : Option (Bool) :=
  loopP (fun k1 (s1 : Int) =>
  iteP (decide (s1 < (a0.length : Int))) (
  bindP (idx a0 s1) fun x1 =>
  iteP (x1 == a1) (
  some true) (
  letP (IntKind.i64.wrap (s1 + 1)) fun x2 =>
  k1 (x2))) (
  some false)) fuel (0)
def law21_BusDelivers (fuel : Nat) (a0 : Int) (a1 : List Int) : Option (Bool) :=
  bindP (made_Light fuel a1) fun y1 =>
  iteP (!y1) (
  bindP (law21_awake fuel) fun y2 =>
  some y2) (
  bindP (made_Mod fuel a0 8) fun y3 =>
  letP (IntKind.i64.wrap (1 + y3)) fun x1 =>
  bindP (law21_loaded fuel x1 a1) fun y4 =>
  iteP (!y4.2.2) (
  some false) (
  bindP (mk 8 0 x1) fun x2 =>
  loopP (fun k1 (s1 : (Int × (List (List Int)) × (List Int) × (Option bus_Bus))) =>
  iteP (decide (s1.1 ≤ 41)) (
  bindP s1.2.2.2 fun x3 =>
  bindP (bus_Bus_Step fuel x3 Fault_.z) fun y5 =>
  loopP (fun k2 (s2 : (Bool × Int)) =>
  iteP (decide (s2.2 < x1)) (
  letP s2.1 fun x4 =>
  iteP x4 (
  letP (IntKind.i64.wrap (s2.2 + 1)) fun x5 =>
  k2 (true, x5)) (
  bindP (idx s1.2.2.1 s2.2) fun x6 =>
  bindP (idx y4.2.1 s2.2) fun x7 =>
  letP (decide (x6 < (x7.length : Int))) fun x8 =>
  letP (IntKind.i64.wrap (s2.2 + 1)) fun x9 =>
  k2 (x8, x9))) (
  iteP (y5.2.1 != s2.1) (
  some false) (
  iteP (!y5.2.1) (
  bindP (law21_awake fuel) fun y6 =>
  some y6) (
  joinP (fun (s3 : Bool) =>
  iteP s3 (
  some false) (
  loopP (fun k3 (s4 : (Int × (List (List Int)))) =>
  iteP (decide (s4.1 < (y5.1.Masters.length : Int))) (
  bindP (idx y5.1.Masters s4.1) fun x10 =>
  joinP (fun (s5 : Bool) =>
  iteP s5 (
  some false) (
  loopP (fun k4 (s6 : (Int × (List (List Int)))) =>
  iteP (decide (s6.1 < x1)) (
  bindP (idx s6.2 s6.1) fun x11 =>
  bindP (chk (Nat.beq s6.2.length 8)) fun _ =>
  bindP (idx x11 x10) fun x12 =>
  bindP (chk (Nat.beq x11.length 8)) fun _ =>
  bindP (idx s6.2 s6.1) fun x13 =>
  bindP (chk (Nat.beq s6.2.length 8)) fun _ =>
  bindP (idx x13 x10) fun x14 =>
  bindP (chk (Nat.beq x13.length 8)) fun _ =>
  letP (upd s6.2 s6.1 (upd x13 x10 (IntKind.i64.wrap (x12 + 1)))) fun d1 =>
  joinP (fun (s7 : Bool) =>
  iteP s7 (
  some false) (
  letP (IntKind.i64.wrap (s6.1 + 1)) fun x15 =>
  k4 (x15, d1))) fun j3 =>
  bindP (idx d1 s6.1) fun x16 =>
  bindP (chk (Nat.beq d1.length 8)) fun _ =>
  bindP (idx x16 x10) fun x17 =>
  bindP (chk (Nat.beq x16.length 8)) fun _ =>
  letP (decide (x17 > 2)) fun x18 =>
  iteP x18 (
  bindP (idx s1.2.2.1 s6.1) fun x19 =>
  bindP (idx y4.2.1 s6.1) fun x20 =>
  letP (decide (x19 < (x20.length : Int))) fun x21 =>
  iteP x21 (
  bindP (law21_among fuel y5.1.Masters s6.1) fun y7 =>
  j3 (!y7)) (
  j3 (false))) (
  j3 (false))) (
  letP (IntKind.i64.wrap (s4.1 + 1)) fun x22 =>
  k3 (x22, s6.2))) fuel (0, s4.2))) fun j2 =>
  letP (decide (x10 < 0)) fun x23 =>
  iteP x23 (
  j2 (true)) (
  letP (decide (x10 ≥ x1)) fun x24 =>
  iteP x24 (
  j2 (true)) (
  bindP (idx s1.2.2.1 x10) fun x25 =>
  bindP (idx y4.2.1 x10) fun x26 =>
  letP (decide (x25 ≥ (x26.length : Int))) fun x27 =>
  iteP x27 (
  j2 (true)) (
  bindP (idx y4.2.1 x10) fun x28 =>
  bindP (idx s1.2.2.1 x10) fun x29 =>
  bindP (idx x28 x29) fun x30 =>
  bindP (ref01_Same fuel x30 y5.1.Bytes) fun y8 =>
  j2 (!y8))))) (
  loopP (fun k5 (s8 : (Int × (List (List Int)) × (List Int))) =>
  iteP (decide (s8.1 < (y5.1.Masters.length : Int))) (
  bindP (idx y5.1.Masters s8.1) fun x31 =>
  bindP (idx s8.2.2 x31) fun x32 =>
  bindP (idx s8.2.2 x31) fun x33 =>
  letP (upd s8.2.2 x31 (IntKind.i64.wrap (x32 + 1))) fun d2 =>
  bindP (idx y5.1.Masters s8.1) fun x34 =>
  bindP (idx s8.2.1 x34) fun x35 =>
  bindP (chk (Nat.beq s8.2.1.length 8)) fun _ =>
  letP (upd s8.2.1 x34 (List.replicate 8 0)) fun d3 =>
  letP (IntKind.i64.wrap (s8.1 + 1)) fun x36 =>
  k5 (x36, d3, d2)) (
  letP (IntKind.i64.wrap (s1.1 + 1)) fun x37 =>
  k1 (x37, s8.2.1, s8.2.2, (some y5.2.2)))) fuel (0, s4.2, s1.2.2.1))) fuel (0, s1.2.1))) fun j1 =>
  iteP (!y5.1.OK) (
  j1 (true)) (
  iteP ((y5.1.Masters.length : Int) == 0) (
  j1 (true)) (
  j1 ((y5.1.Failed.length : Int) != 0))))))) fuel (false, 0)) (
  some false)) fuel (1, (List.replicate 8 (List.replicate 8 0)), x2, y4.1)))
def law21_BusHonest (fuel : Nat) (a0 : Int) (a1 : List Int) (a2 : List Fault_) : Option (Bool) :=
  bindP (made_Light fuel a1) fun y1 =>
  joinP (fun (s1 : Bool) =>
  iteP s1 (
  bindP (law21_awake fuel) fun y2 =>
  some y2) (
  bindP (made_Mod fuel a0 8) fun y3 =>
  letP (IntKind.i64.wrap (1 + y3)) fun x1 =>
  bindP (law21_loaded fuel x1 a1) fun y4 =>
  iteP (!y4.2.2) (
  some false) (
  bindP (mk 8 0 x1) fun x2 =>
  bindP (mk 8 0 x1) fun x3 =>
  joinP (fun (s2 : ((List Int) × (Option bus_Bus))) =>
  loopP (fun k1 (s3 : ((List Int) × Int × (Option bus_Bus))) =>
  iteP (decide (s3.2.1 < x1)) (
  joinP (fun (s4 : (Bool × (Option bus_Bus))) =>
  iteP s4.1 (
  some false) (
  letP (IntKind.i64.wrap (s3.2.1 + 1)) fun x4 =>
  k1 (s3.1, x4, s4.2))) fun j3 =>
  bindP (idx s3.1 s3.2.1) fun x5 =>
  bindP (idx y4.2.1 s3.2.1) fun x6 =>
  letP (x5 != (x6.length : Int)) fun x7 =>
  iteP x7 (
  j3 (true, s3.2.2)) (
  bindP s3.2.2 fun x8 =>
  bindP (bus_Bus_Pending fuel x8 s3.2.1) fun y5 =>
  j3 (y5 != 0, (some x8)))) (
  bindP (law21_awake fuel) fun y6 =>
  some y6)) fuel (s2.1, 0, s2.2)) fun j2 =>
  loopP (fun k2 (s5 : (Int × (List Int) × (List Int) × (Option bus_Bus))) =>
  iteP (decide (s5.1 < 160)) (
  joinP (fun (s6 : Fault_) =>
  bindP s5.2.2.2 fun x9 =>
  bindP (bus_Bus_Step fuel x9 s6) fun y7 =>
  iteP (!y7.2.1) (
  j2 (s5.2.1, (some y7.2.2))) (
  loopP (fun k3 (s7 : (Int × (List Int) × (List Int))) =>
  iteP (decide (s7.1 < (y7.1.Masters.length : Int))) (
  bindP (idx y7.1.Masters s7.1) fun x10 =>
  joinP (fun (s8 : Bool) =>
  iteP s8 (
  some false) (
  bindP (idx s7.2.2 x10) fun x11 =>
  bindP (idx s7.2.2 x10) fun x12 =>
  letP (upd s7.2.2 x10 (IntKind.i64.wrap (x11 + 1))) fun d1 =>
  bindP (idx y4.2.1 x10) fun x13 =>
  bindP (idx s7.2.1 x10) fun x14 =>
  bindP (idx x13 x14) fun x15 =>
  bindP (idx d1 x10) fun x16 =>
  letP (x16 == 4) fun x17 =>
  joinP (fun (s9 : Bool) =>
  iteP s9 (
  some false) (
  joinP (fun (s10 : Bool) =>
  iteP s10 (
  bindP (idx s7.2.1 x10) fun x18 =>
  bindP (idx s7.2.1 x10) fun x19 =>
  letP (upd s7.2.1 x10 (IntKind.i64.wrap (x18 + 1))) fun d2 =>
  bindP (idx d1 x10) fun x20 =>
  letP (upd d1 x10 0) fun d3 =>
  letP (IntKind.i64.wrap (s7.1 + 1)) fun x21 =>
  k3 (x21, d2, d3)) (
  letP (IntKind.i64.wrap (s7.1 + 1)) fun x22 =>
  k3 (x22, s7.2.1, d1))) fun j7 =>
  iteP y7.1.OK (
  j7 (true)) (
  j7 (x17)))) fun j6 =>
  iteP y7.1.OK (
  bindP (ref01_Same fuel x15 y7.1.Bytes) fun y8 =>
  iteP (!y8) (
  j6 (true)) (
  iteP (s6.Kind == 1) (
  j6 (true)) (
  iteP (!y7.1.OK) (
  bindP (law21_among fuel y7.1.Failed x10) fun y9 =>
  j6 (y9 != x17)) (
  j6 (false))))) (
  iteP (!y7.1.OK) (
  bindP (law21_among fuel y7.1.Failed x10) fun y10 =>
  j6 (y10 != x17)) (
  j6 (false))))) fun j5 =>
  letP (decide (x10 < 0)) fun x23 =>
  iteP x23 (
  j5 (true)) (
  letP (decide (x10 ≥ x1)) fun x24 =>
  iteP x24 (
  j5 (true)) (
  bindP (idx s7.2.1 x10) fun x25 =>
  bindP (idx y4.2.1 x10) fun x26 =>
  j5 (decide (x25 ≥ (x26.length : Int)))))) (
  loopP (fun k4 (s11 : Int) =>
  iteP (decide (s11 < (y7.1.Failed.length : Int))) (
  joinP (fun (s12 : Bool) =>
  iteP s12 (
  some false) (
  letP (IntKind.i64.wrap (s11 + 1)) fun x27 =>
  k4 (x27))) fun j8 =>
  letP y7.1.OK fun x28 =>
  iteP x28 (
  j8 (true)) (
  bindP (idx y7.1.Failed s11) fun x29 =>
  bindP (law21_among fuel y7.1.Masters x29) fun y11 =>
  j8 (!y11))) (
  letP (IntKind.i64.wrap (s5.1 + 1)) fun x30 =>
  k2 (x30, s7.2.1, s7.2.2, (some y7.2.2)))) fuel (0))) fuel (0, s5.2.1, s5.2.2.1))) fun j4 =>
  iteP (decide (s5.1 < (a2.length : Int))) (
  bindP (idx a2 s5.1) fun x31 =>
  bindP (law21_fault fuel x31) fun y12 =>
  j4 (y12)) (
  j4 (Fault_.z))) (
  j2 (s5.2.1, s5.2.2.2))) fuel (0, x2, x3, y4.1)))) fun j1 =>
  iteP (!y1) (
  j1 (true)) (
  j1 (decide ((a2.length : Int) > 300)))
def ref20_Same (fuel : Nat) (a0 : Frame_) (a1 : Frame_) : Option (Bool) :=
  iteP (a0.To == a1.To) (
  iteP (a0.From == a1.From) (
  bindP (ref01_Same fuel a0.Data a1.Data) fun y1 =>
  some y1) (
  some false)) (
  some false)
def law21_BusFaults (fuel : Nat) (a0 : List Int) (a1 : Fault_) : Option (Bool) :=
  bindP (made_Light fuel a0) fun y1 =>
  iteP (!y1) (
  bindP (law21_awake fuel) fun y2 =>
  some y2) (
  bindP (bus_New fuel 1) fun y3 =>
  bindP (made_Roll fuel a0) fun y4 =>
  bindP (made_Dice_Frame fuel y4) fun y5 =>
  bindP (frame_Encode fuel y5.1) fun y6 =>
  joinP (fun (s1 : (Bool × (Option bus_Bus))) =>
  iteP s1.1 (
  some false) (
  joinP (fun (s2 : Fault_) =>
  bindP s1.2 fun x1 =>
  bindP (bus_Bus_Step fuel x1 s2) fun y7 =>
  joinP (fun (s3 : Bool) =>
  iteP s3 (
  some false) (
  letP (s2.Kind == 1) fun x2 =>
  iteP x2 (
  joinP (fun (s4 : Bool) =>
  some s4) fun j4 =>
  iteP (!y7.1.OK) (
  iteP ((y7.1.Bytes.length : Int) == 0) (
  bindP (bus_Bus_Pending fuel y7.2.2 0) fun y8 =>
  iteP (y8 == 1) (
  bindP (law21_awake fuel) fun y9 =>
  j4 (y9)) (
  j4 (false))) (
  j4 (false))) (
  j4 (false))) (
  joinP (fun (s5 : Bool) =>
  iteP s5 (
  bindP (idx y6.1 s2.Index) fun x3 =>
  bindP (idx y6.1 s2.Index) fun x4 =>
  letP (upd y6.1 s2.Index (bXor .u8 x3 s2.Mask)) fun d1 =>
  joinP (fun (s6 : Bool) =>
  some s6) fun j6 =>
  iteP (!y7.1.OK) (
  bindP (ref01_Same fuel y7.1.Bytes d1) fun y10 =>
  iteP y10 (
  bindP (bus_Bus_Pending fuel y7.2.2 0) fun y11 =>
  iteP (y11 == 1) (
  bindP (law21_awake fuel) fun y12 =>
  j6 (y12)) (
  j6 (false))) (
  j6 (false))) (
  j6 (false))) (
  bindP (frame_Decode fuel y7.1.Bytes) fun y13 =>
  iteP y7.1.OK (
  bindP (ref01_Same fuel y7.1.Bytes y6.1) fun y14 =>
  iteP y14 (
  iteP (y13.2 == 0) (
  bindP (ref20_Same fuel y13.1 y5.1) fun y15 =>
  iteP y15 (
  bindP (bus_Bus_Pending fuel y7.2.2 0) fun y16 =>
  iteP (y16 == 0) (
  bindP (law21_awake fuel) fun y17 =>
  some y17) (
  some false)) (
  some false)) (
  some false)) (
  some false)) (
  some false))) fun j5 =>
  iteP (s2.Kind == 2) (
  iteP (decide (s2.Index ≥ 0)) (
  iteP (decide (s2.Index < (y6.1.length : Int))) (
  letP (s2.Mask != 0) fun x5 =>
  j5 (x5)) (
  j5 (false))) (
  j5 (false))) (
  j5 (false))))) fun j3 =>
  iteP (!y7.2.1) (
  j3 (true)) (
  j3 ((y7.1.Masters.length : Int) != 1))) fun j2 =>
  iteP ((Int.tmod a1.Index 2) == 0) (
  bindP (law21_fault fuel a1) fun y18 =>
  j2 (y18)) (
  j2 (a1)))) fun j1 =>
  iteP y3.1.isNone (
  j1 (true, y3.1)) (
  iteP (y3.2 != 0) (
  j1 (true, y3.1)) (
  iteP (y6.2 != 0) (
  j1 (true, y3.1)) (
  bindP y3.1 fun x6 =>
  bindP (bus_Bus_Submit fuel x6 0 y5.1) fun y19 =>
  j1 (y19.1 != 0, (some y19.2))))))
def law21_BusTogether (fuel : Nat) (a0 : List Int) (a1 : List Int) (a2 : Int) : Option (Bool) :=
  bindP (made_Light fuel a0) fun y1 =>
  joinP (fun (s1 : Bool) =>
  iteP s1 (
  bindP (law21_awake fuel) fun y2 =>
  some y2) (
  bindP (made_Mod fuel a2 7) fun y3 =>
  letP (IntKind.i64.wrap (2 + y3)) fun x1 =>
  bindP (bus_New fuel x1) fun y4 =>
  joinP (fun (s2 : Bool) =>
  iteP s2 (
  some false) (
  bindP (made_Roll fuel a0) fun y5 =>
  bindP (made_Dice_Frame fuel y5) fun y6 =>
  bindP (made_Roll fuel a1) fun y7 =>
  bindP (made_Dice_Frame fuel y7) fun y8 =>
  bindP (frame_Encode fuel y6.1) fun y9 =>
  bindP (frame_Encode fuel y8.1) fun y10 =>
  joinP (fun (s3 : Bool) =>
  iteP s3 (
  some false) (
  loopP (fun k1 (s4 : (Int × (Option bus_Bus))) =>
  iteP (decide (s4.1 < x1)) (
  joinP (fun (s5 : Frame_) =>
  bindP s4.2 fun x2 =>
  bindP (bus_Bus_Submit fuel x2 s4.1 s5) fun y11 =>
  iteP (y11.1 != 0) (
  some false) (
  letP (IntKind.i64.wrap (s4.1 + 1)) fun x3 =>
  k1 (x3, (some y11.2)))) fun j4 =>
  iteP ((Int.tmod s4.1 2) == 1) (
  j4 (y8.1)) (
  j4 (y6.1))) (
  bindP s4.2 fun x4 =>
  bindP (bus_Bus_Step fuel x4 Fault_.z) fun y12 =>
  bindP (bus_Bus_Step fuel y12.2.2 Fault_.z) fun y13 =>
  joinP (fun (s6 : Bool) =>
  iteP s6 (
  some false) (
  bindP (frame_Compare fuel y9.1 y10.1) fun y14 =>
  iteP (y14 == 0) (
  joinP (fun (s7 : Bool) =>
  some s7) fun j6 =>
  iteP ((y12.1.Masters.length : Int) == x1) (
  iteP (!y13.2.1) (
  bindP (law21_awake fuel) fun y15 =>
  j6 (y15)) (
  j6 (false))) (
  j6 (false))) (
  joinP (fun (s8 : Int) =>
  bindP (idx y12.1.Masters 0) fun x5 =>
  iteP (x5 == s8) (
  iteP ((IntKind.i64.wrap ((y12.1.Masters.length : Int) + (y13.1.Masters.length : Int))) == x1) (
  iteP y13.2.1 (
  iteP (decide ((y13.1.Masters.length : Int) > 0)) (
  bindP (idx y13.1.Masters 0) fun x6 =>
  iteP (x6 == (IntKind.i64.wrap (1 - s8))) (
  bindP (law21_awake fuel) fun y16 =>
  some y16) (
  some false)) (
  some false)) (
  some false)) (
  some false)) (
  some false)) fun j7 =>
  iteP (decide (y14 > 0)) (
  j7 (1)) (
  j7 (0))))) fun j5 =>
  iteP (!y12.2.1) (
  j5 (true)) (
  j5 ((y12.1.Masters.length : Int) == 0)))) fuel (0, y4.1))) fun j3 =>
  iteP (y9.2 != 0) (
  j3 (true)) (
  j3 (y10.2 != 0)))) fun j2 =>
  iteP y4.1.isNone (
  j2 (true)) (
  j2 (y4.2 != 0)))) fun j1 =>
  iteP (!y1) (
  j1 (true)) (
  bindP (made_Light fuel a1) fun y17 =>
  j1 (!y17))
def law21_BusRoom (fuel : Nat) (a0 : Int) (a1 : Int) (a2 : Int) (a3 : List Int) : Option (Bool) :=
  bindP (made_Light fuel a3) fun y1 =>
  iteP (!y1) (
  bindP (law21_awake fuel) fun y2 =>
  some y2) (
  bindP (made_Mod fuel a0 8) fun y3 =>
  letP (IntKind.i64.wrap (1 + y3)) fun x1 =>
  bindP (bus_New fuel x1) fun y4 =>
  joinP (fun (s1 : Bool) =>
  iteP s1 (
  some false) (
  bindP (made_Roll fuel a3) fun y5 =>
  bindP (made_Dice_Frame fuel y5) fun y6 =>
  bindP (made_Mod fuel a1 x1) fun y7 =>
  bindP (made_Mod fuel a2 4) fun y8 =>
  letP (IntKind.i64.wrap (15 + y8)) fun x2 =>
  loopP (fun k1 (s2 : (Int × (Option bus_Bus))) =>
  iteP (decide (s2.1 < x2)) (
  joinP (fun (s3 : Int) =>
  bindP s2.2 fun x3 =>
  bindP (bus_Bus_Submit fuel x3 y7 y6.1) fun y9 =>
  iteP (y9.1 != s3) (
  some false) (
  letP (IntKind.i64.wrap (s2.1 + 1)) fun x4 =>
  k1 (x4, (some y9.2)))) fun j2 =>
  iteP (decide (s2.1 ≥ 16)) (
  j2 (9)) (
  j2 (0))) (
  letP ({ y6.1 with To := 7 }) fun d1 =>
  bindP s2.2 fun x5 =>
  bindP (bus_Bus_Pending fuel x5 y7) fun y10 =>
  iteP (y10 == (min x2 16)) (
  bindP (bus_Bus_Submit fuel x5 x1 y6.1) fun y11 =>
  iteP (y11.1 == 2) (
  bindP (bus_Bus_Submit fuel y11.2 (-1) y6.1) fun y12 =>
  iteP (y12.1 == 2) (
  bindP (bus_Bus_Submit fuel y12.2 y7 d1) fun y13 =>
  iteP (y13.1 == 1) (
  bindP (bus_Bus_Pending fuel y13.2 x1) fun y14 =>
  iteP (y14 == 0) (
  bindP (law21_awake fuel) fun y15 =>
  some y15) (
  some false)) (
  some false)) (
  some false)) (
  some false)) (
  some false))) fuel (0, y4.1))) fun j1 =>
  iteP y4.1.isNone (
  j1 (true)) (
  j1 (y4.2 != 0)))
end Lift
