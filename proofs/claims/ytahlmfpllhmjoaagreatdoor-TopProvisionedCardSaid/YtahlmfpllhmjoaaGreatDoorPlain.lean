import Derived.Test.YtahlmfpllhmjoaaGreatDoorLiftR
import Derived.Test.YtahlmfpllhmjoaaGreatDoorLiftZ
import Derived.Test.YtahlmfpllhmjoaaGreatDoorLiftN
set_option linter.unusedVariables false
set_option linter.unusedSimpArgs false
namespace Lift
open Go
structure Entity_ where
  ID : Int
  Instance : Int
def Entity_.rep : Rep Entity_ := Rep.iso (fun s => (s.ID, s.Instance, ())) (Rep.prod (Rep.int .u8) (Rep.prod (Rep.int .u8) Rep.unit))
def Entity_.z : Entity_ := ⟨0, 0⟩
theorem Entity_.zr : Zr Entity_.rep [.int .u8 0, .int .u8 0] Entity_.z := Zr.iso (r := (Rep.prod (Rep.int .u8) (Rep.prod (Rep.int .u8) Rep.unit))) _ (Zr.of (Zr.prod (Zr.int .u8 0) (Zr.prod (Zr.int .u8 0) Zr.unit)) rfl)
theorem Entity_.pure : Pure Entity_.rep := Pure.iso (Pure.prod Pure.int (Pure.prod Pure.int Pure.unit))
def Entity_.eqb (a b : Entity_) : Bool := (eqI a.ID b.ID && (eqI a.Instance b.Instance && true))
theorem Entity_.f0 : Fld Entity_.rep 0 (Rep.int .u8) Entity_.ID (fun s y => { s with ID := y }) := Fld.iso (fun s : Entity_ => (s.ID, s.Instance, ())) Fld.here (fun _ => rfl) (fun _ _ => rfl)
theorem Entity_.f1 : Fld Entity_.rep 1 (Rep.int .u8) Entity_.Instance (fun s y => { s with Instance := y }) := Fld.iso (fun s : Entity_ => (s.ID, s.Instance, ())) (Fld.there Fld.here) (fun _ => rfl) (fun _ _ => rfl)
structure Point_ where
  Raw : Int
  Value : Int
def Point_.rep : Rep Point_ := Rep.iso (fun s => (s.Raw, s.Value, ())) (Rep.prod (Rep.int .u8) (Rep.prod (Rep.int .i64) Rep.unit))
def Point_.z : Point_ := ⟨0, 0⟩
theorem Point_.zr : Zr Point_.rep [.int .u8 0, .int .i64 0] Point_.z := Zr.iso (r := (Rep.prod (Rep.int .u8) (Rep.prod (Rep.int .i64) Rep.unit))) _ (Zr.of (Zr.prod (Zr.int .u8 0) (Zr.prod (Zr.int .i64 0) Zr.unit)) rfl)
theorem Point_.pure : Pure Point_.rep := Pure.iso (Pure.prod Pure.int (Pure.prod Pure.int Pure.unit))
theorem Point_.f0 : Fld Point_.rep 0 (Rep.int .u8) Point_.Raw (fun s y => { s with Raw := y }) := Fld.iso (fun s : Point_ => (s.Raw, s.Value, ())) Fld.here (fun _ => rfl) (fun _ _ => rfl)
theorem Point_.f1 : Fld Point_.rep 1 (Rep.int .i64) Point_.Value (fun s y => { s with Value := y }) := Fld.iso (fun s : Point_ => (s.Raw, s.Value, ())) (Fld.there Fld.here) (fun _ => rfl) (fun _ _ => rfl)
structure Conversion_ where
  Form : Int
  Signed : Bool
  M : Int
  B : Int
  K1 : Int
  K2 : Int
  Points : List Point_
def Conversion_.rep : Rep Conversion_ := Rep.iso (fun s => (s.Form, s.Signed, s.M, s.B, s.K1, s.K2, s.Points, ())) (Rep.prod (Rep.int .i64) (Rep.prod Rep.bool (Rep.prod (Rep.int .i64) (Rep.prod (Rep.int .i64) (Rep.prod (Rep.int .i64) (Rep.prod (Rep.int .i64) (Rep.prod (Rep.slice Point_.rep) Rep.unit)))))))
def Conversion_.z : Conversion_ := ⟨0, false, 0, 0, 0, 0, []⟩
theorem Conversion_.zr : Zr Conversion_.rep [.int .i64 0, .bool false, .int .i64 0, .int .i64 0, .int .i64 0, .int .i64 0, .slice none 0 0] Conversion_.z := Zr.iso (r := (Rep.prod (Rep.int .i64) (Rep.prod Rep.bool (Rep.prod (Rep.int .i64) (Rep.prod (Rep.int .i64) (Rep.prod (Rep.int .i64) (Rep.prod (Rep.int .i64) (Rep.prod (Rep.slice Point_.rep) Rep.unit)))))))) _ (Zr.of (Zr.prod (Zr.int .i64 0) (Zr.prod (Zr.bool false) (Zr.prod (Zr.int .i64 0) (Zr.prod (Zr.int .i64 0) (Zr.prod (Zr.int .i64 0) (Zr.prod (Zr.int .i64 0) (Zr.prod (Zr.slice Point_.rep) Zr.unit))))))) rfl)
theorem Conversion_.f0 : Fld Conversion_.rep 0 (Rep.int .i64) Conversion_.Form (fun s y => { s with Form := y }) := Fld.iso (fun s : Conversion_ => (s.Form, s.Signed, s.M, s.B, s.K1, s.K2, s.Points, ())) Fld.here (fun _ => rfl) (fun _ _ => rfl)
theorem Conversion_.f1 : Fld Conversion_.rep 1 Rep.bool Conversion_.Signed (fun s y => { s with Signed := y }) := Fld.iso (fun s : Conversion_ => (s.Form, s.Signed, s.M, s.B, s.K1, s.K2, s.Points, ())) (Fld.there Fld.here) (fun _ => rfl) (fun _ _ => rfl)
theorem Conversion_.f2 : Fld Conversion_.rep 2 (Rep.int .i64) Conversion_.M (fun s y => { s with M := y }) := Fld.iso (fun s : Conversion_ => (s.Form, s.Signed, s.M, s.B, s.K1, s.K2, s.Points, ())) (Fld.there (Fld.there Fld.here)) (fun _ => rfl) (fun _ _ => rfl)
theorem Conversion_.f3 : Fld Conversion_.rep 3 (Rep.int .i64) Conversion_.B (fun s y => { s with B := y }) := Fld.iso (fun s : Conversion_ => (s.Form, s.Signed, s.M, s.B, s.K1, s.K2, s.Points, ())) (Fld.there (Fld.there (Fld.there Fld.here))) (fun _ => rfl) (fun _ _ => rfl)
theorem Conversion_.f4 : Fld Conversion_.rep 4 (Rep.int .i64) Conversion_.K1 (fun s y => { s with K1 := y }) := Fld.iso (fun s : Conversion_ => (s.Form, s.Signed, s.M, s.B, s.K1, s.K2, s.Points, ())) (Fld.there (Fld.there (Fld.there (Fld.there Fld.here)))) (fun _ => rfl) (fun _ _ => rfl)
theorem Conversion_.f5 : Fld Conversion_.rep 5 (Rep.int .i64) Conversion_.K2 (fun s y => { s with K2 := y }) := Fld.iso (fun s : Conversion_ => (s.Form, s.Signed, s.M, s.B, s.K1, s.K2, s.Points, ())) (Fld.there (Fld.there (Fld.there (Fld.there (Fld.there Fld.here))))) (fun _ => rfl) (fun _ _ => rfl)
theorem Conversion_.f6 : Fld Conversion_.rep 6 (Rep.slice Point_.rep) Conversion_.Points (fun s y => { s with Points := y }) := Fld.iso (fun s : Conversion_ => (s.Form, s.Signed, s.M, s.B, s.K1, s.K2, s.Points, ())) (Fld.there (Fld.there (Fld.there (Fld.there (Fld.there (Fld.there Fld.here)))))) (fun _ => rfl) (fun _ _ => rfl)
structure Thresholds_ where
  Mask : Int
  Raw : List Int
def Thresholds_.rep : Rep Thresholds_ := Rep.iso (fun s => (s.Mask, s.Raw, ())) (Rep.prod (Rep.int .u8) (Rep.prod (Rep.arr 6 (Rep.int .u8)) Rep.unit))
def Thresholds_.z : Thresholds_ := ⟨0, (List.replicate 6 0)⟩
theorem Thresholds_.zr : Zr Thresholds_.rep [.int .u8 0, .int .u8 0, .int .u8 0, .int .u8 0, .int .u8 0, .int .u8 0, .int .u8 0] Thresholds_.z := Zr.iso (r := (Rep.prod (Rep.int .u8) (Rep.prod (Rep.arr 6 (Rep.int .u8)) Rep.unit))) _ (Zr.of (Zr.prod (Zr.int .u8 0) (Zr.prod (Zr.of (Zr.arr (Zr.int .u8 0) 6) rfl) Zr.unit)) rfl)
def Thresholds_.eqb (a b : Thresholds_) : Bool := (eqI a.Mask b.Mask && ((eqL eqI) a.Raw b.Raw && true))
theorem Thresholds_.f0 : Fld Thresholds_.rep 0 (Rep.int .u8) Thresholds_.Mask (fun s y => { s with Mask := y }) := Fld.iso (fun s : Thresholds_ => (s.Mask, s.Raw, ())) Fld.here (fun _ => rfl) (fun _ _ => rfl)
theorem Thresholds_.f1 : Fld Thresholds_.rep 1 (Rep.arr 6 (Rep.int .u8)) Thresholds_.Raw (fun s y => { s with Raw := y }) := Fld.iso (fun s : Thresholds_ => (s.Mask, s.Raw, ())) (Fld.there Fld.here) (fun _ => rfl) (fun _ _ => rfl)
structure Sensor_ where
  Number : Int
  Type_ : Int
  Unit : Int
  Name : List Int
  Entity : Entity_
  Discrete : Bool
  Conversion : Conversion_
  Limits : Thresholds_
  HystLower : Int
  HystUpper : Int
  States : Int
  Assert : Int
  Deassert : Int
  HostOn : Bool
  Samples : Int
def Sensor_.rep : Rep Sensor_ := Rep.iso (fun s => (s.Number, s.Type_, s.Unit, s.Name, s.Entity, s.Discrete, s.Conversion, s.Limits, s.HystLower, s.HystUpper, s.States, s.Assert, s.Deassert, s.HostOn, s.Samples, ())) (Rep.prod (Rep.int .u8) (Rep.prod (Rep.int .u8) (Rep.prod (Rep.int .u8) (Rep.prod Rep.str (Rep.prod Entity_.rep (Rep.prod Rep.bool (Rep.prod Conversion_.rep (Rep.prod Thresholds_.rep (Rep.prod (Rep.int .u8) (Rep.prod (Rep.int .u8) (Rep.prod (Rep.int .u16) (Rep.prod (Rep.int .u16) (Rep.prod (Rep.int .u16) (Rep.prod Rep.bool (Rep.prod (Rep.int .i64) Rep.unit)))))))))))))))
def Sensor_.z : Sensor_ := ⟨0, 0, 0, [], Entity_.z, false, Conversion_.z, Thresholds_.z, 0, 0, 0, 0, 0, false, 0⟩
theorem Sensor_.zr : Zr Sensor_.rep [.int .u8 0, .int .u8 0, .int .u8 0, .string ⟨#[]⟩, .int .u8 0, .int .u8 0, .bool false, .int .i64 0, .bool false, .int .i64 0, .int .i64 0, .int .i64 0, .int .i64 0, .slice none 0 0, .int .u8 0, .int .u8 0, .int .u8 0, .int .u8 0, .int .u8 0, .int .u8 0, .int .u8 0, .int .u8 0, .int .u8 0, .int .u16 0, .int .u16 0, .int .u16 0, .bool false, .int .i64 0] Sensor_.z := Zr.iso (r := (Rep.prod (Rep.int .u8) (Rep.prod (Rep.int .u8) (Rep.prod (Rep.int .u8) (Rep.prod Rep.str (Rep.prod Entity_.rep (Rep.prod Rep.bool (Rep.prod Conversion_.rep (Rep.prod Thresholds_.rep (Rep.prod (Rep.int .u8) (Rep.prod (Rep.int .u8) (Rep.prod (Rep.int .u16) (Rep.prod (Rep.int .u16) (Rep.prod (Rep.int .u16) (Rep.prod Rep.bool (Rep.prod (Rep.int .i64) Rep.unit)))))))))))))))) _ (Zr.of (Zr.prod (Zr.int .u8 0) (Zr.prod (Zr.int .u8 0) (Zr.prod (Zr.int .u8 0) (Zr.prod Zr.str (Zr.prod Entity_.zr (Zr.prod (Zr.bool false) (Zr.prod Conversion_.zr (Zr.prod Thresholds_.zr (Zr.prod (Zr.int .u8 0) (Zr.prod (Zr.int .u8 0) (Zr.prod (Zr.int .u16 0) (Zr.prod (Zr.int .u16 0) (Zr.prod (Zr.int .u16 0) (Zr.prod (Zr.bool false) (Zr.prod (Zr.int .i64 0) Zr.unit))))))))))))))) rfl)
theorem Sensor_.f0 : Fld Sensor_.rep 0 (Rep.int .u8) Sensor_.Number (fun s y => { s with Number := y }) := Fld.iso (fun s : Sensor_ => (s.Number, s.Type_, s.Unit, s.Name, s.Entity, s.Discrete, s.Conversion, s.Limits, s.HystLower, s.HystUpper, s.States, s.Assert, s.Deassert, s.HostOn, s.Samples, ())) Fld.here (fun _ => rfl) (fun _ _ => rfl)
theorem Sensor_.f1 : Fld Sensor_.rep 1 (Rep.int .u8) Sensor_.Type_ (fun s y => { s with Type_ := y }) := Fld.iso (fun s : Sensor_ => (s.Number, s.Type_, s.Unit, s.Name, s.Entity, s.Discrete, s.Conversion, s.Limits, s.HystLower, s.HystUpper, s.States, s.Assert, s.Deassert, s.HostOn, s.Samples, ())) (Fld.there Fld.here) (fun _ => rfl) (fun _ _ => rfl)
theorem Sensor_.f2 : Fld Sensor_.rep 2 (Rep.int .u8) Sensor_.Unit (fun s y => { s with Unit := y }) := Fld.iso (fun s : Sensor_ => (s.Number, s.Type_, s.Unit, s.Name, s.Entity, s.Discrete, s.Conversion, s.Limits, s.HystLower, s.HystUpper, s.States, s.Assert, s.Deassert, s.HostOn, s.Samples, ())) (Fld.there (Fld.there Fld.here)) (fun _ => rfl) (fun _ _ => rfl)
theorem Sensor_.f3 : Fld Sensor_.rep 3 Rep.str Sensor_.Name (fun s y => { s with Name := y }) := Fld.iso (fun s : Sensor_ => (s.Number, s.Type_, s.Unit, s.Name, s.Entity, s.Discrete, s.Conversion, s.Limits, s.HystLower, s.HystUpper, s.States, s.Assert, s.Deassert, s.HostOn, s.Samples, ())) (Fld.there (Fld.there (Fld.there Fld.here))) (fun _ => rfl) (fun _ _ => rfl)
theorem Sensor_.f4 : Fld Sensor_.rep 4 Entity_.rep Sensor_.Entity (fun s y => { s with Entity := y }) := Fld.iso (fun s : Sensor_ => (s.Number, s.Type_, s.Unit, s.Name, s.Entity, s.Discrete, s.Conversion, s.Limits, s.HystLower, s.HystUpper, s.States, s.Assert, s.Deassert, s.HostOn, s.Samples, ())) (Fld.there (Fld.there (Fld.there (Fld.there Fld.here)))) (fun _ => rfl) (fun _ _ => rfl)
theorem Sensor_.f5 : Fld Sensor_.rep 6 Rep.bool Sensor_.Discrete (fun s y => { s with Discrete := y }) := Fld.iso (fun s : Sensor_ => (s.Number, s.Type_, s.Unit, s.Name, s.Entity, s.Discrete, s.Conversion, s.Limits, s.HystLower, s.HystUpper, s.States, s.Assert, s.Deassert, s.HostOn, s.Samples, ())) (Fld.there (Fld.there (Fld.there (Fld.there (Fld.there Fld.here))))) (fun _ => rfl) (fun _ _ => rfl)
theorem Sensor_.f6 : Fld Sensor_.rep 7 Conversion_.rep Sensor_.Conversion (fun s y => { s with Conversion := y }) := Fld.iso (fun s : Sensor_ => (s.Number, s.Type_, s.Unit, s.Name, s.Entity, s.Discrete, s.Conversion, s.Limits, s.HystLower, s.HystUpper, s.States, s.Assert, s.Deassert, s.HostOn, s.Samples, ())) (Fld.there (Fld.there (Fld.there (Fld.there (Fld.there (Fld.there Fld.here)))))) (fun _ => rfl) (fun _ _ => rfl)
theorem Sensor_.f7 : Fld Sensor_.rep 14 Thresholds_.rep Sensor_.Limits (fun s y => { s with Limits := y }) := Fld.iso (fun s : Sensor_ => (s.Number, s.Type_, s.Unit, s.Name, s.Entity, s.Discrete, s.Conversion, s.Limits, s.HystLower, s.HystUpper, s.States, s.Assert, s.Deassert, s.HostOn, s.Samples, ())) (Fld.there (Fld.there (Fld.there (Fld.there (Fld.there (Fld.there (Fld.there Fld.here))))))) (fun _ => rfl) (fun _ _ => rfl)
theorem Sensor_.f8 : Fld Sensor_.rep 21 (Rep.int .u8) Sensor_.HystLower (fun s y => { s with HystLower := y }) := Fld.iso (fun s : Sensor_ => (s.Number, s.Type_, s.Unit, s.Name, s.Entity, s.Discrete, s.Conversion, s.Limits, s.HystLower, s.HystUpper, s.States, s.Assert, s.Deassert, s.HostOn, s.Samples, ())) (Fld.there (Fld.there (Fld.there (Fld.there (Fld.there (Fld.there (Fld.there (Fld.there Fld.here)))))))) (fun _ => rfl) (fun _ _ => rfl)
theorem Sensor_.f9 : Fld Sensor_.rep 22 (Rep.int .u8) Sensor_.HystUpper (fun s y => { s with HystUpper := y }) := Fld.iso (fun s : Sensor_ => (s.Number, s.Type_, s.Unit, s.Name, s.Entity, s.Discrete, s.Conversion, s.Limits, s.HystLower, s.HystUpper, s.States, s.Assert, s.Deassert, s.HostOn, s.Samples, ())) (Fld.there (Fld.there (Fld.there (Fld.there (Fld.there (Fld.there (Fld.there (Fld.there (Fld.there Fld.here))))))))) (fun _ => rfl) (fun _ _ => rfl)
theorem Sensor_.f10 : Fld Sensor_.rep 23 (Rep.int .u16) Sensor_.States (fun s y => { s with States := y }) := Fld.iso (fun s : Sensor_ => (s.Number, s.Type_, s.Unit, s.Name, s.Entity, s.Discrete, s.Conversion, s.Limits, s.HystLower, s.HystUpper, s.States, s.Assert, s.Deassert, s.HostOn, s.Samples, ())) (Fld.there (Fld.there (Fld.there (Fld.there (Fld.there (Fld.there (Fld.there (Fld.there (Fld.there (Fld.there Fld.here)))))))))) (fun _ => rfl) (fun _ _ => rfl)
theorem Sensor_.f11 : Fld Sensor_.rep 24 (Rep.int .u16) Sensor_.Assert (fun s y => { s with Assert := y }) := Fld.iso (fun s : Sensor_ => (s.Number, s.Type_, s.Unit, s.Name, s.Entity, s.Discrete, s.Conversion, s.Limits, s.HystLower, s.HystUpper, s.States, s.Assert, s.Deassert, s.HostOn, s.Samples, ())) (Fld.there (Fld.there (Fld.there (Fld.there (Fld.there (Fld.there (Fld.there (Fld.there (Fld.there (Fld.there (Fld.there Fld.here))))))))))) (fun _ => rfl) (fun _ _ => rfl)
theorem Sensor_.f12 : Fld Sensor_.rep 25 (Rep.int .u16) Sensor_.Deassert (fun s y => { s with Deassert := y }) := Fld.iso (fun s : Sensor_ => (s.Number, s.Type_, s.Unit, s.Name, s.Entity, s.Discrete, s.Conversion, s.Limits, s.HystLower, s.HystUpper, s.States, s.Assert, s.Deassert, s.HostOn, s.Samples, ())) (Fld.there (Fld.there (Fld.there (Fld.there (Fld.there (Fld.there (Fld.there (Fld.there (Fld.there (Fld.there (Fld.there (Fld.there Fld.here)))))))))))) (fun _ => rfl) (fun _ _ => rfl)
theorem Sensor_.f13 : Fld Sensor_.rep 26 Rep.bool Sensor_.HostOn (fun s y => { s with HostOn := y }) := Fld.iso (fun s : Sensor_ => (s.Number, s.Type_, s.Unit, s.Name, s.Entity, s.Discrete, s.Conversion, s.Limits, s.HystLower, s.HystUpper, s.States, s.Assert, s.Deassert, s.HostOn, s.Samples, ())) (Fld.there (Fld.there (Fld.there (Fld.there (Fld.there (Fld.there (Fld.there (Fld.there (Fld.there (Fld.there (Fld.there (Fld.there (Fld.there Fld.here))))))))))))) (fun _ => rfl) (fun _ _ => rfl)
theorem Sensor_.f14 : Fld Sensor_.rep 27 (Rep.int .i64) Sensor_.Samples (fun s y => { s with Samples := y }) := Fld.iso (fun s : Sensor_ => (s.Number, s.Type_, s.Unit, s.Name, s.Entity, s.Discrete, s.Conversion, s.Limits, s.HystLower, s.HystUpper, s.States, s.Assert, s.Deassert, s.HostOn, s.Samples, ())) (Fld.there (Fld.there (Fld.there (Fld.there (Fld.there (Fld.there (Fld.there (Fld.there (Fld.there (Fld.there (Fld.there (Fld.there (Fld.there (Fld.there Fld.here)))))))))))))) (fun _ => rfl) (fun _ _ => rfl)
structure Association_ where
  Container : Entity_
  Contained : Entity_
def Association_.rep : Rep Association_ := Rep.iso (fun s => (s.Container, s.Contained, ())) (Rep.prod Entity_.rep (Rep.prod Entity_.rep Rep.unit))
def Association_.z : Association_ := ⟨Entity_.z, Entity_.z⟩
theorem Association_.zr : Zr Association_.rep [.int .u8 0, .int .u8 0, .int .u8 0, .int .u8 0] Association_.z := Zr.iso (r := (Rep.prod Entity_.rep (Rep.prod Entity_.rep Rep.unit))) _ (Zr.of (Zr.prod Entity_.zr (Zr.prod Entity_.zr Zr.unit)) rfl)
theorem Association_.pure : Pure Association_.rep := Pure.iso (Pure.prod Entity_.pure (Pure.prod Entity_.pure Pure.unit))
theorem Association_.f0 : Fld Association_.rep 0 Entity_.rep Association_.Container (fun s y => { s with Container := y }) := Fld.iso (fun s : Association_ => (s.Container, s.Contained, ())) Fld.here (fun _ => rfl) (fun _ _ => rfl)
theorem Association_.f1 : Fld Association_.rep 2 Entity_.rep Association_.Contained (fun s y => { s with Contained := y }) := Fld.iso (fun s : Association_ => (s.Container, s.Contained, ())) (Fld.there Fld.here) (fun _ => rfl) (fun _ _ => rfl)
structure Filter_ where
  Window : List Int
  Missing : Int
def Filter_.rep : Rep Filter_ := Rep.iso (fun s => (s.Window, s.Missing, ())) (Rep.prod (Rep.slice (Rep.int .u8)) (Rep.prod (Rep.int .i64) Rep.unit))
def Filter_.z : Filter_ := ⟨[], 0⟩
theorem Filter_.zr : Zr Filter_.rep [.slice none 0 0, .int .i64 0] Filter_.z := Zr.iso (r := (Rep.prod (Rep.slice (Rep.int .u8)) (Rep.prod (Rep.int .i64) Rep.unit))) _ (Zr.of (Zr.prod (Zr.slice (Rep.int .u8)) (Zr.prod (Zr.int .i64 0) Zr.unit)) rfl)
theorem Filter_.f0 : Fld Filter_.rep 0 (Rep.slice (Rep.int .u8)) Filter_.Window (fun s y => { s with Window := y }) := Fld.iso (fun s : Filter_ => (s.Window, s.Missing, ())) Fld.here (fun _ => rfl) (fun _ _ => rfl)
theorem Filter_.f1 : Fld Filter_.rep 1 (Rep.int .i64) Filter_.Missing (fun s y => { s with Missing := y }) := Fld.iso (fun s : Filter_ => (s.Window, s.Missing, ())) (Fld.there Fld.here) (fun _ => rfl) (fun _ _ => rfl)
structure monitor_Monitor where
  sensors : List Sensor_
  l : List Association_
  filters : List Filter_
  states : List Int
def monitor_Monitor.rep : Rep monitor_Monitor := Rep.iso (fun s => (s.sensors, s.l, s.filters, s.states, ())) (Rep.prod (Rep.slice Sensor_.rep) (Rep.prod (Rep.slice Association_.rep) (Rep.prod (Rep.slice Filter_.rep) (Rep.prod (Rep.slice (Rep.int .u16)) Rep.unit))))
def monitor_Monitor.z : monitor_Monitor := ⟨[], [], [], []⟩
theorem monitor_Monitor.zr : Zr monitor_Monitor.rep [.slice none 0 0, .slice none 0 0, .slice none 0 0, .slice none 0 0] monitor_Monitor.z := Zr.iso (r := (Rep.prod (Rep.slice Sensor_.rep) (Rep.prod (Rep.slice Association_.rep) (Rep.prod (Rep.slice Filter_.rep) (Rep.prod (Rep.slice (Rep.int .u16)) Rep.unit))))) _ (Zr.of (Zr.prod (Zr.slice Sensor_.rep) (Zr.prod (Zr.slice Association_.rep) (Zr.prod (Zr.slice Filter_.rep) (Zr.prod (Zr.slice (Rep.int .u16)) Zr.unit)))) rfl)
structure flash_Device where
  size : Int
  bytes : List Int
  wear : List Int
  steps : Int
  left : Int
  torn : Int
  down : Bool
def flash_Device.rep : Rep flash_Device := Rep.iso (fun s => (s.size, s.bytes, s.wear, s.steps, s.left, s.torn, s.down, ())) (Rep.prod (Rep.int .i64) (Rep.prod (Rep.slice (Rep.int .u8)) (Rep.prod (Rep.slice (Rep.int .i64)) (Rep.prod (Rep.int .i64) (Rep.prod (Rep.int .i64) (Rep.prod (Rep.int .u8) (Rep.prod Rep.bool Rep.unit)))))))
def flash_Device.z : flash_Device := ⟨0, [], [], 0, 0, 0, false⟩
theorem flash_Device.zr : Zr flash_Device.rep [.int .i64 0, .slice none 0 0, .slice none 0 0, .int .i64 0, .int .i64 0, .int .u8 0, .bool false] flash_Device.z := Zr.iso (r := (Rep.prod (Rep.int .i64) (Rep.prod (Rep.slice (Rep.int .u8)) (Rep.prod (Rep.slice (Rep.int .i64)) (Rep.prod (Rep.int .i64) (Rep.prod (Rep.int .i64) (Rep.prod (Rep.int .u8) (Rep.prod Rep.bool Rep.unit)))))))) _ (Zr.of (Zr.prod (Zr.int .i64 0) (Zr.prod (Zr.slice (Rep.int .u8)) (Zr.prod (Zr.slice (Rep.int .i64)) (Zr.prod (Zr.int .i64 0) (Zr.prod (Zr.int .i64 0) (Zr.prod (Zr.int .u8 0) (Zr.prod (Zr.bool false) Zr.unit))))))) rfl)
structure Event_ where
  ID : Int
  Time : Int
  Generator : Int
  SensorType : Int
  Sensor : Int
  Type_ : Int
  Deassert : Bool
  Data : List Int
def Event_.rep : Rep Event_ := Rep.iso (fun s => (s.ID, s.Time, s.Generator, s.SensorType, s.Sensor, s.Type_, s.Deassert, s.Data, ())) (Rep.prod (Rep.int .u16) (Rep.prod (Rep.int .u32) (Rep.prod (Rep.int .u16) (Rep.prod (Rep.int .u8) (Rep.prod (Rep.int .u8) (Rep.prod (Rep.int .u8) (Rep.prod Rep.bool (Rep.prod (Rep.arr 3 (Rep.int .u8)) Rep.unit))))))))
def Event_.z : Event_ := ⟨0, 0, 0, 0, 0, 0, false, (List.replicate 3 0)⟩
theorem Event_.zr : Zr Event_.rep [.int .u16 0, .int .u32 0, .int .u16 0, .int .u8 0, .int .u8 0, .int .u8 0, .bool false, .int .u8 0, .int .u8 0, .int .u8 0] Event_.z := Zr.iso (r := (Rep.prod (Rep.int .u16) (Rep.prod (Rep.int .u32) (Rep.prod (Rep.int .u16) (Rep.prod (Rep.int .u8) (Rep.prod (Rep.int .u8) (Rep.prod (Rep.int .u8) (Rep.prod Rep.bool (Rep.prod (Rep.arr 3 (Rep.int .u8)) Rep.unit))))))))) _ (Zr.of (Zr.prod (Zr.int .u16 0) (Zr.prod (Zr.int .u32 0) (Zr.prod (Zr.int .u16 0) (Zr.prod (Zr.int .u8 0) (Zr.prod (Zr.int .u8 0) (Zr.prod (Zr.int .u8 0) (Zr.prod (Zr.bool false) (Zr.prod (Zr.of (Zr.arr (Zr.int .u8 0) 3) rfl) Zr.unit)))))))) rfl)
theorem Event_.pure : Pure Event_.rep := Pure.iso (Pure.prod Pure.int (Pure.prod Pure.int (Pure.prod Pure.int (Pure.prod Pure.int (Pure.prod Pure.int (Pure.prod Pure.int (Pure.prod Pure.bool (Pure.prod (Pure.arr Pure.int) Pure.unit))))))))
def Event_.eqb (a b : Event_) : Bool := (eqI a.ID b.ID && (eqI a.Time b.Time && (eqI a.Generator b.Generator && (eqI a.SensorType b.SensorType && (eqI a.Sensor b.Sensor && (eqI a.Type_ b.Type_ && (eqB a.Deassert b.Deassert && ((eqL eqI) a.Data b.Data && true))))))))
theorem Event_.f0 : Fld Event_.rep 0 (Rep.int .u16) Event_.ID (fun s y => { s with ID := y }) := Fld.iso (fun s : Event_ => (s.ID, s.Time, s.Generator, s.SensorType, s.Sensor, s.Type_, s.Deassert, s.Data, ())) Fld.here (fun _ => rfl) (fun _ _ => rfl)
theorem Event_.f1 : Fld Event_.rep 1 (Rep.int .u32) Event_.Time (fun s y => { s with Time := y }) := Fld.iso (fun s : Event_ => (s.ID, s.Time, s.Generator, s.SensorType, s.Sensor, s.Type_, s.Deassert, s.Data, ())) (Fld.there Fld.here) (fun _ => rfl) (fun _ _ => rfl)
theorem Event_.f2 : Fld Event_.rep 2 (Rep.int .u16) Event_.Generator (fun s y => { s with Generator := y }) := Fld.iso (fun s : Event_ => (s.ID, s.Time, s.Generator, s.SensorType, s.Sensor, s.Type_, s.Deassert, s.Data, ())) (Fld.there (Fld.there Fld.here)) (fun _ => rfl) (fun _ _ => rfl)
theorem Event_.f3 : Fld Event_.rep 3 (Rep.int .u8) Event_.SensorType (fun s y => { s with SensorType := y }) := Fld.iso (fun s : Event_ => (s.ID, s.Time, s.Generator, s.SensorType, s.Sensor, s.Type_, s.Deassert, s.Data, ())) (Fld.there (Fld.there (Fld.there Fld.here))) (fun _ => rfl) (fun _ _ => rfl)
theorem Event_.f4 : Fld Event_.rep 4 (Rep.int .u8) Event_.Sensor (fun s y => { s with Sensor := y }) := Fld.iso (fun s : Event_ => (s.ID, s.Time, s.Generator, s.SensorType, s.Sensor, s.Type_, s.Deassert, s.Data, ())) (Fld.there (Fld.there (Fld.there (Fld.there Fld.here)))) (fun _ => rfl) (fun _ _ => rfl)
theorem Event_.f5 : Fld Event_.rep 5 (Rep.int .u8) Event_.Type_ (fun s y => { s with Type_ := y }) := Fld.iso (fun s : Event_ => (s.ID, s.Time, s.Generator, s.SensorType, s.Sensor, s.Type_, s.Deassert, s.Data, ())) (Fld.there (Fld.there (Fld.there (Fld.there (Fld.there Fld.here))))) (fun _ => rfl) (fun _ _ => rfl)
theorem Event_.f6 : Fld Event_.rep 6 Rep.bool Event_.Deassert (fun s y => { s with Deassert := y }) := Fld.iso (fun s : Event_ => (s.ID, s.Time, s.Generator, s.SensorType, s.Sensor, s.Type_, s.Deassert, s.Data, ())) (Fld.there (Fld.there (Fld.there (Fld.there (Fld.there (Fld.there Fld.here)))))) (fun _ => rfl) (fun _ _ => rfl)
theorem Event_.f7 : Fld Event_.rep 7 (Rep.arr 3 (Rep.int .u8)) Event_.Data (fun s y => { s with Data := y }) := Fld.iso (fun s : Event_ => (s.ID, s.Time, s.Generator, s.SensorType, s.Sensor, s.Type_, s.Deassert, s.Data, ())) (Fld.there (Fld.there (Fld.there (Fld.there (Fld.there (Fld.there (Fld.there Fld.here))))))) (fun _ => rfl) (fun _ _ => rfl)
structure eventlog_record where
  sequence : Int
  event : Event_
def eventlog_record.rep : Rep eventlog_record := Rep.iso (fun s => (s.sequence, s.event, ())) (Rep.prod (Rep.int .i64) (Rep.prod Event_.rep Rep.unit))
def eventlog_record.z : eventlog_record := ⟨0, Event_.z⟩
theorem eventlog_record.zr : Zr eventlog_record.rep [.int .i64 0, .int .u16 0, .int .u32 0, .int .u16 0, .int .u8 0, .int .u8 0, .int .u8 0, .bool false, .int .u8 0, .int .u8 0, .int .u8 0] eventlog_record.z := Zr.iso (r := (Rep.prod (Rep.int .i64) (Rep.prod Event_.rep Rep.unit))) _ (Zr.of (Zr.prod (Zr.int .i64 0) (Zr.prod Event_.zr Zr.unit)) rfl)
theorem eventlog_record.pure : Pure eventlog_record.rep := Pure.iso (Pure.prod Pure.int (Pure.prod Event_.pure Pure.unit))
theorem eventlog_record.f0 : Fld eventlog_record.rep 0 (Rep.int .i64) eventlog_record.sequence (fun s y => { s with sequence := y }) := Fld.iso (fun s : eventlog_record => (s.sequence, s.event, ())) Fld.here (fun _ => rfl) (fun _ _ => rfl)
theorem eventlog_record.f1 : Fld eventlog_record.rep 1 Event_.rep eventlog_record.event (fun s y => { s with event := y }) := Fld.iso (fun s : eventlog_record => (s.sequence, s.event, ())) (Fld.there Fld.here) (fun _ => rfl) (fun _ _ => rfl)
structure eventlog_Log where
  d : Bool
  first : Int
  sectors : Int
  overwrite : Bool
  newest : Int
  tail : Int
  used : Int
  next : Int
  records : List eventlog_record
  full : Bool
  number : Int
  held : Bool
  ended : Bool
def eventlog_Log.z : eventlog_Log := ⟨false, 0, 0, false, 0, 0, 0, 0, [], false, 0, false, false⟩
structure eventlog_head where
  sequence : Int
  tail : Int
  id : Int
def eventlog_head.rep : Rep eventlog_head := Rep.iso (fun s => (s.sequence, s.tail, s.id, ())) (Rep.prod (Rep.int .i64) (Rep.prod (Rep.int .i64) (Rep.prod (Rep.int .u16) Rep.unit)))
def eventlog_head.z : eventlog_head := ⟨0, 0, 0⟩
theorem eventlog_head.zr : Zr eventlog_head.rep [.int .i64 0, .int .i64 0, .int .u16 0] eventlog_head.z := Zr.iso (r := (Rep.prod (Rep.int .i64) (Rep.prod (Rep.int .i64) (Rep.prod (Rep.int .u16) Rep.unit)))) _ (Zr.of (Zr.prod (Zr.int .i64 0) (Zr.prod (Zr.int .i64 0) (Zr.prod (Zr.int .u16 0) Zr.unit))) rfl)
theorem eventlog_head.f0 : Fld eventlog_head.rep 0 (Rep.int .i64) eventlog_head.sequence (fun s y => { s with sequence := y }) := Fld.iso (fun s : eventlog_head => (s.sequence, s.tail, s.id, ())) Fld.here (fun _ => rfl) (fun _ _ => rfl)
theorem eventlog_head.f1 : Fld eventlog_head.rep 1 (Rep.int .i64) eventlog_head.tail (fun s y => { s with tail := y }) := Fld.iso (fun s : eventlog_head => (s.sequence, s.tail, s.id, ())) (Fld.there Fld.here) (fun _ => rfl) (fun _ _ => rfl)
theorem eventlog_head.f2 : Fld eventlog_head.rep 2 (Rep.int .u16) eventlog_head.id (fun s y => { s with id := y }) := Fld.iso (fun s : eventlog_head => (s.sequence, s.tail, s.id, ())) (Fld.there (Fld.there Fld.here)) (fun _ => rfl) (fun _ _ => rfl)
structure Sample_ where
  Number : Int
  OK : Bool
  Raw : Int
  States : Int
def Sample_.rep : Rep Sample_ := Rep.iso (fun s => (s.Number, s.OK, s.Raw, s.States, ())) (Rep.prod (Rep.int .u8) (Rep.prod Rep.bool (Rep.prod (Rep.int .u8) (Rep.prod (Rep.int .u16) Rep.unit))))
def Sample_.z : Sample_ := ⟨0, false, 0, 0⟩
theorem Sample_.zr : Zr Sample_.rep [.int .u8 0, .bool false, .int .u8 0, .int .u16 0] Sample_.z := Zr.iso (r := (Rep.prod (Rep.int .u8) (Rep.prod Rep.bool (Rep.prod (Rep.int .u8) (Rep.prod (Rep.int .u16) Rep.unit))))) _ (Zr.of (Zr.prod (Zr.int .u8 0) (Zr.prod (Zr.bool false) (Zr.prod (Zr.int .u8 0) (Zr.prod (Zr.int .u16 0) Zr.unit)))) rfl)
theorem Sample_.pure : Pure Sample_.rep := Pure.iso (Pure.prod Pure.int (Pure.prod Pure.bool (Pure.prod Pure.int (Pure.prod Pure.int Pure.unit))))
theorem Sample_.f0 : Fld Sample_.rep 0 (Rep.int .u8) Sample_.Number (fun s y => { s with Number := y }) := Fld.iso (fun s : Sample_ => (s.Number, s.OK, s.Raw, s.States, ())) Fld.here (fun _ => rfl) (fun _ _ => rfl)
theorem Sample_.f1 : Fld Sample_.rep 1 Rep.bool Sample_.OK (fun s y => { s with OK := y }) := Fld.iso (fun s : Sample_ => (s.Number, s.OK, s.Raw, s.States, ())) (Fld.there Fld.here) (fun _ => rfl) (fun _ _ => rfl)
theorem Sample_.f2 : Fld Sample_.rep 2 (Rep.int .u8) Sample_.Raw (fun s y => { s with Raw := y }) := Fld.iso (fun s : Sample_ => (s.Number, s.OK, s.Raw, s.States, ())) (Fld.there (Fld.there Fld.here)) (fun _ => rfl) (fun _ _ => rfl)
theorem Sample_.f3 : Fld Sample_.rep 3 (Rep.int .u16) Sample_.States (fun s y => { s with States := y }) := Fld.iso (fun s : Sample_ => (s.Number, s.OK, s.Raw, s.States, ())) (Fld.there (Fld.there (Fld.there Fld.here))) (fun _ => rfl) (fun _ _ => rfl)
structure Change_ where
  Index : Int
  Asserted : Bool
def Change_.rep : Rep Change_ := Rep.iso (fun s => (s.Index, s.Asserted, ())) (Rep.prod (Rep.int .i64) (Rep.prod Rep.bool Rep.unit))
def Change_.z : Change_ := ⟨0, false⟩
theorem Change_.zr : Zr Change_.rep [.int .i64 0, .bool false] Change_.z := Zr.iso (r := (Rep.prod (Rep.int .i64) (Rep.prod Rep.bool Rep.unit))) _ (Zr.of (Zr.prod (Zr.int .i64 0) (Zr.prod (Zr.bool false) Zr.unit)) rfl)
theorem Change_.pure : Pure Change_.rep := Pure.iso (Pure.prod Pure.int (Pure.prod Pure.bool Pure.unit))
theorem Change_.f0 : Fld Change_.rep 0 (Rep.int .i64) Change_.Index (fun s y => { s with Index := y }) := Fld.iso (fun s : Change_ => (s.Index, s.Asserted, ())) Fld.here (fun _ => rfl) (fun _ _ => rfl)
theorem Change_.f1 : Fld Change_.rep 1 Rep.bool Change_.Asserted (fun s y => { s with Asserted := y }) := Fld.iso (fun s : Change_ => (s.Index, s.Asserted, ())) (Fld.there Fld.here) (fun _ => rfl) (fun _ _ => rfl)
structure made_Dice where
  L : List Int
  At : Int
def made_Dice.rep : Rep made_Dice := Rep.iso (fun s => (s.L, s.At, ())) (Rep.prod (Rep.slice (Rep.int .i64)) (Rep.prod (Rep.int .i64) Rep.unit))
def made_Dice.z : made_Dice := ⟨[], 0⟩
theorem made_Dice.zr : Zr made_Dice.rep [.slice none 0 0, .int .i64 0] made_Dice.z := Zr.iso (r := (Rep.prod (Rep.slice (Rep.int .i64)) (Rep.prod (Rep.int .i64) Rep.unit))) _ (Zr.of (Zr.prod (Zr.slice (Rep.int .i64)) (Zr.prod (Zr.int .i64 0) Zr.unit)) rfl)
theorem made_Dice.f0 : Fld made_Dice.rep 0 (Rep.slice (Rep.int .i64)) made_Dice.L (fun s y => { s with L := y }) := Fld.iso (fun s : made_Dice => (s.L, s.At, ())) Fld.here (fun _ => rfl) (fun _ _ => rfl)
theorem made_Dice.f1 : Fld made_Dice.rep 1 (Rep.int .i64) made_Dice.At (fun s y => { s with At := y }) := Fld.iso (fun s : made_Dice => (s.L, s.At, ())) (Fld.there Fld.here) (fun _ => rfl) (fun _ _ => rfl)
structure repository_record where
  id : Int
  bytes : List Int
def repository_record.rep : Rep repository_record := Rep.iso (fun s => (s.id, s.bytes, ())) (Rep.prod (Rep.int .u16) (Rep.prod (Rep.slice (Rep.int .u8)) Rep.unit))
def repository_record.z : repository_record := ⟨0, []⟩
theorem repository_record.zr : Zr repository_record.rep [.int .u16 0, .slice none 0 0] repository_record.z := Zr.iso (r := (Rep.prod (Rep.int .u16) (Rep.prod (Rep.slice (Rep.int .u8)) Rep.unit))) _ (Zr.of (Zr.prod (Zr.int .u16 0) (Zr.prod (Zr.slice (Rep.int .u8)) Zr.unit)) rfl)
theorem repository_record.f0 : Fld repository_record.rep 0 (Rep.int .u16) repository_record.id (fun s y => { s with id := y }) := Fld.iso (fun s : repository_record => (s.id, s.bytes, ())) Fld.here (fun _ => rfl) (fun _ _ => rfl)
theorem repository_record.f1 : Fld repository_record.rep 1 (Rep.slice (Rep.int .u8)) repository_record.bytes (fun s y => { s with bytes := y }) := Fld.iso (fun s : repository_record => (s.id, s.bytes, ())) (Fld.there Fld.here) (fun _ => rfl) (fun _ _ => rfl)
structure repository_Repository where
  capacity : Int
  records : List repository_record
  last : Int
  number : Int
  held : Bool
def repository_Repository.z : repository_Repository := ⟨0, [], 0, 0, false⟩
def sensor_named (fuel : Nat) (a0 : List Int) : Option (Bool) :=
  loopP (fun k1 (s1 : Int) =>
  iteP (decide (s1 < (a0.length : Int))) (
  bindP (idx a0 s1) fun x1 =>
  joinP (fun (s2 : Bool) =>
  iteP s2 (
  some false) (
  k1 ((IntKind.i64.wrap (s1 + 1))))) fun j1 =>
  iteP (decide (x1 < 32)) (
  j1 (true)) (
  j1 (decide (x1 > 126)))) (
  iteP (decide ((a0.length : Int) ≥ 1)) (
  letP (decide ((a0.length : Int) ≤ 16)) fun x2 =>
  some x2) (
  some false))) fuel (0)
def sensor_discrete (fuel : Nat) (a0 : Sensor_) : Option (Bool) :=
  joinP (fun (s1 : Bool) =>
  joinP (fun (s2 : Bool) =>
  iteP s2 (
  iteP (a0.Samples == 1) (
  iteP (decide (a0.States ≤ 32767)) (
  letP ((bAndNot .u16 (bOr .u16 a0.Assert a0.Deassert) a0.States) == 0) fun x1 =>
  some x1) (
  some false)) (
  some false)) (
  some false)) fun j2 =>
  iteP s1 (
  iteP (Thresholds_.eqb a0.Limits Thresholds_.z) (
  iteP (a0.HystLower == 0) (
  letP (a0.HystUpper == 0) fun x2 =>
  j2 (x2)) (
  j2 (false))) (
  j2 (false))) (
  j2 (false))) fun j1 =>
  iteP (a0.Conversion.Form == 0) (
  iteP (!a0.Conversion.Signed) (
  iteP (a0.Conversion.M == 0) (
  iteP (a0.Conversion.B == 0) (
  iteP (a0.Conversion.K1 == 0) (
  iteP (a0.Conversion.K2 == 0) (
  letP ((a0.Conversion.Points.length : Int) == 0) fun x3 =>
  j1 (x3)) (
  j1 (false))) (
  j1 (false))) (
  j1 (false))) (
  j1 (false))) (
  j1 (false))) (
  j1 (false))
def convert_factor (fuel : Nat) (a0 : Int) : Option (Bool) :=
  iteP (decide (a0 ≥ (-512))) (
  letP (decide (a0 ≤ 511)) fun x1 =>
  some x1) (
  some false)
def convert_power (fuel : Nat) (a0 : Int) : Option (Bool) :=
  iteP (decide (a0 ≥ (-3))) (
  letP (decide (a0 ≤ 3)) fun x1 =>
  some x1) (
  some false)
def micro_Clamp (fuel : Nat) (a0 : Int) : Option (Int) :=
  letP (max (-1000000000000) (min a0 1000000000000)) fun x1 =>
  some x1
def convert_Number (fuel : Nat) (a0 : Bool) (a1 : Int) : Option (Int) :=
  iteP a0 (
  letP (IntKind.i64.wrap (IntKind.i8.wrap a1)) fun x1 =>
  some x1) (
  some (IntKind.i64.wrap a1))
def convert_table (fuel : Nat) (a0 : Conversion_) : Option (Bool) :=
  joinP (fun (s1 : Bool) =>
  iteP s1 (
  some false) (
  loopP (fun k1 (s2 : Int) =>
  iteP (decide (s2 < (a0.Points.length : Int))) (
  bindP (idx a0.Points s2) fun x1 =>
  joinP (fun (s3 : Bool) =>
  iteP s3 (
  some false) (
  k1 ((IntKind.i64.wrap (s2 + 1))))) fun j2 =>
  bindP (micro_Clamp fuel x1.Value) fun y1 =>
  letP (y1 != x1.Value) fun x2 =>
  iteP x2 (
  j2 (true)) (
  letP (decide (s2 > 0)) fun x3 =>
  iteP x3 (
  bindP (idx a0.Points (IntKind.i64.wrap (s2 - 1))) fun x4 =>
  bindP (convert_Number fuel a0.Signed x4.Raw) fun y2 =>
  bindP (convert_Number fuel a0.Signed x1.Raw) fun y3 =>
  j2 (decide (y2 ≥ y3))) (
  j2 (false)))) (
  some true)) fuel (0))) fun j1 =>
  iteP (decide ((a0.Points.length : Int) < 2)) (
  j1 (true)) (
  j1 (decide ((a0.Points.length : Int) > 12)))
def convert_Valid (fuel : Nat) (a0 : Conversion_) : Option (Bool) :=
  letP (a0.Form == 1) fun x1 =>
  joinP (fun (s1 : Bool) =>
  iteP s1 (
  bindP (convert_factor fuel a0.M) fun y1 =>
  iteP y1 (
  bindP (convert_factor fuel a0.B) fun y2 =>
  iteP y2 (
  bindP (convert_power fuel a0.K1) fun y3 =>
  iteP y3 (
  bindP (convert_power fuel a0.K2) fun y4 =>
  iteP y4 (
  letP ((a0.Points.length : Int) == 0) fun x2 =>
  some x2) (
  some false)) (
  some false)) (
  some false)) (
  some false)) (
  letP (a0.Form == 5) fun x3 =>
  iteP x3 (
  iteP (a0.M == 0) (
  iteP (a0.B == 0) (
  iteP (a0.K1 == 0) (
  iteP (a0.K2 == 0) (
  bindP (convert_table fuel a0) fun y5 =>
  some y5) (
  some false)) (
  some false)) (
  some false)) (
  some false)) (
  some false))) fun j1 =>
  iteP x1 (
  j1 (x1)) (
  letP (a0.Form == 2) fun x4 =>
  iteP x4 (
  j1 (x4)) (
  letP (a0.Form == 3) fun x5 =>
  iteP x5 (
  j1 (x5)) (
  letP (a0.Form == 4) fun x6 =>
  j1 (x6))))
def cmp_isNaN_int (fuel : Nat) (a0 : Int) : Option (Bool) :=
  letP (a0 != a0) fun x1 =>
  some x1
def cmp_Less_int (fuel : Nat) (a0 : Int) (a1 : Int) : Option (Bool) :=
  bindP (cmp_isNaN_int fuel a0) fun y1 =>
  iteP y1 (
  bindP (cmp_isNaN_int fuel a1) fun y2 =>
  iteP (!y2) (
  some true) (
  letP (decide (a0 < a1)) fun x1 =>
  some x1)) (
  letP (decide (a0 < a1)) fun x2 =>
  some x2)
def slices_IsSorted_int_int (fuel : Nat) (a0 : List Int) : Option (Bool) :=
  letP (IntKind.i64.wrap ((a0.length : Int) - 1)) fun x1 =>
  loopP (fun k1 (s1 : Int) =>
  iteP (decide (s1 > 0)) (
  bindP (idx a0 s1) fun x2 =>
  bindP (idx a0 (IntKind.i64.wrap (s1 - 1))) fun x3 =>
  bindP (cmp_Less_int fuel x2 x3) fun y1 =>
  iteP y1 (
  some false) (
  letP (IntKind.i64.wrap (s1 - 1)) fun x4 =>
  k1 (x4))) (
  some true)) fuel (x1)
def sensor_ordered_1_2 (fuel : Nat) (a0 : List Int) (a1 : Sensor_) : Option ((List Int)) :=
  loopP (fun k1 (s1 : (Int × (List Int))) =>
  iteP (decide (s1.1 < (a0.length : Int))) (
  bindP (idx a0 s1.1) fun x1 =>
  bindP (chk (decide (0 ≤ x1))) fun _ =>
  iteP ((bAnd .u8 (bShr .u8 a1.Limits.Mask x1) 1) == 1) (
  bindP (idx a1.Limits.Raw x1) fun x2 =>
  bindP (convert_Number fuel a1.Conversion.Signed x2) fun y1 =>
  bindP (app 8 s1.2 ([y1])) fun x3 =>
  k1 ((IntKind.i64.wrap (s1.1 + 1)), x3)) (
  k1 ((IntKind.i64.wrap (s1.1 + 1)), s1.2))) (
  some s1.2)) fuel (0, [])
def sensor_ordered (fuel : Nat) (a0 : Sensor_) : Option (Bool) :=
  bindP (sensor_ordered_1_2 fuel ([2, 1, 0]) a0) fun y1 =>
  bindP (sensor_ordered_1_2 fuel ([3, 4, 5]) a0) fun y2 =>
  joinP (fun (s1 : Bool) =>
  bindP (slices_IsSorted_int_int fuel y1) fun y3 =>
  iteP y3 (
  bindP (slices_IsSorted_int_int fuel y2) fun y4 =>
  iteP y4 (
  some s1) (
  some false)) (
  some false)) fun j1 =>
  letP ((y1.length : Int) == 0) fun x1 =>
  iteP x1 (
  j1 (true)) (
  letP ((y2.length : Int) == 0) fun x2 =>
  iteP x2 (
  j1 (true)) (
  bindP (idx y1 (IntKind.i64.wrap ((y1.length : Int) - 1))) fun x3 =>
  bindP (idx y2 0) fun x4 =>
  letP (decide (x3 < x4)) fun x5 =>
  j1 (x5)))
def sensor_analog (fuel : Nat) (a0 : Sensor_) : Option (Bool) :=
  bindP (convert_Valid fuel a0.Conversion) fun y1 =>
  joinP (fun (s1 : Bool) =>
  iteP s1 (
  some false) (
  loopP (fun k1 (s2 : Int) =>
  iteP (decide (s2 < 6)) (
  bindP (idx a0.Limits.Raw s2) fun x1 =>
  bindP (chk (decide (0 ≤ s2))) fun _ =>
  joinP (fun (s3 : Bool) =>
  iteP s3 (
  some false) (
  k1 ((IntKind.i64.wrap (s2 + 1))))) fun j2 =>
  iteP ((bAnd .u8 (bShr .u8 a0.Limits.Mask s2) 1) == 0) (
  j2 (x1 != 0)) (
  j2 (false))) (
  bindP (sensor_ordered fuel a0) fun y2 =>
  some y2)) fuel (0))) fun j1 =>
  iteP (!y1) (
  j1 (true)) (
  iteP (decide (a0.Limits.Mask ≥ 64)) (
  j1 (true)) (
  iteP (a0.States != 0) (
  j1 (true)) (
  j1 ((bAndNot .u16 (bOr .u16 a0.Assert a0.Deassert) (IntKind.u16.wrap a0.Limits.Mask)) != 0))))
def sensor_Valid (fuel : Nat) (a0 : Sensor_) : Option (Bool) :=
  bindP (sensor_named fuel a0.Name) fun y1 =>
  joinP (fun (s1 : Bool) =>
  iteP s1 (
  some false) (
  iteP a0.Discrete (
  bindP (sensor_discrete fuel a0) fun y2 =>
  some y2) (
  bindP (sensor_analog fuel a0) fun y3 =>
  some y3))) fun j1 =>
  iteP (!y1) (
  j1 (true)) (
  iteP (a0.Samples != 1) (
  iteP (a0.Samples != 3) (
  j1 (a0.Samples != 5)) (
  j1 (false))) (
  j1 (false)))
def monitor_check (fuel : Nat) (a0 : List Sensor_) : Option (Int) :=
  iteP (decide ((a0.length : Int) > 32)) (
  some 3) (
  loopP (fun k1 (s1 : Int) =>
  iteP (decide (s1 < (a0.length : Int))) (
  bindP (idx a0 s1) fun x1 =>
  joinP (fun (s2 : Bool) =>
  iteP s2 (
  some 1) (
  k1 ((IntKind.i64.wrap (s1 + 1))))) fun j1 =>
  bindP (sensor_Valid fuel x1) fun y1 =>
  letP (!y1) fun x2 =>
  iteP x2 (
  j1 (true)) (
  letP (decide (s1 > 0)) fun x3 =>
  iteP x3 (
  bindP (idx a0 (IntKind.i64.wrap (s1 - 1))) fun x4 =>
  j1 (decide (x1.Number ≤ x4.Number))) (
  j1 (false)))) (
  some 0)) fuel (0))
def entity_Parent_1_2 (fuel : Nat) (a0 : Association_) (a1 : Entity_) : Option (Bool) :=
  letP (Entity_.eqb a0.Contained a1) fun x1 =>
  some x1
def slices_IndexFunc_api_Association_api_Association_entity_Parent_1 (fuel : Nat) (a0 : List Association_) (a1_0 : Entity_) : Option (Int) :=
  loopP (fun k1 (s1 : Int) =>
  iteP (decide (s1 < (a0.length : Int))) (
  bindP (idx a0 s1) fun x1 =>
  bindP (entity_Parent_1_2 fuel x1 a1_0) fun y1 =>
  iteP y1 (
  some s1) (
  k1 ((IntKind.i64.wrap (s1 + 1))))) (
  some (-1))) fuel (0)
def entity_Parent (fuel : Nat) (a0 : List Association_) (a1 : Entity_) : Option (Entity_ × Bool) :=
  bindP (slices_IndexFunc_api_Association_api_Association_entity_Parent_1 fuel a0 a1) fun y1 =>
  iteP (decide (y1 < 0)) (
  some (Entity_.z, false)) (
  bindP (idx a0 y1) fun x1 =>
  some (x1.Container, true))
def slices_Index_api_Entity_api_Entity (fuel : Nat) (a0 : List Entity_) (a1 : Entity_) : Option (Int) :=
  loopP (fun k1 (s1 : Int) =>
  iteP (decide (s1 < (a0.length : Int))) (
  bindP (idx a0 s1) fun x1 =>
  iteP (Entity_.eqb a1 x1) (
  some s1) (
  k1 ((IntKind.i64.wrap (s1 + 1))))) (
  some (-1))) fuel (0)
def slices_Contains_api_Entity_api_Entity (fuel : Nat) (a0 : List Entity_) (a1 : Entity_) : Option (Bool) :=
  bindP (slices_Index_api_Entity_api_Entity fuel a0 a1) fun y1 =>
  letP (decide (y1 ≥ 0)) fun x1 =>
  some x1
def entity_around (fuel : Nat) (a0 : List Association_) (a1 : Entity_) : Option ((List Entity_)) :=
  loopP (fun k1 (s1 : Unit) =>
  bindP (entity_Parent fuel a0 a1) fun y1 =>
  joinP (fun (s2 : Bool) =>
  iteP s2 (
  some ([])) (
  none)) fun j1 =>
  iteP (!y1.2) (
  j1 (true)) (
  bindP (slices_Contains_api_Entity_api_Entity fuel ([]) y1.1) fun y2 =>
  j1 (y2))) fuel ()
def entity_Check (fuel : Nat) (a0 : List Association_) : Option (Int) :=
  iteP (decide ((a0.length : Int) > 32)) (
  some 3) (
  loopP (fun k1 (s1 : Unit) =>
  iteP (decide (0 < (a0.length : Int))) (
  bindP (idx a0 0) fun x1 =>
  none) (
  loopP (fun k2 (s2 : Int) =>
  iteP (decide (s2 < (a0.length : Int))) (
  bindP (idx a0 s2) fun x2 =>
  bindP (entity_around fuel a0 x2.Contained) fun y1 =>
  bindP (slices_Contains_api_Entity_api_Entity fuel y1 x2.Contained) fun y2 =>
  iteP y2 (
  some 14) (
  k2 ((IntKind.i64.wrap (s2 + 1))))) (
  some 0)) fuel (0))) fuel ())
def slices_Clone_api_Sensor_api_Sensor (fuel : Nat) (a0 : List Sensor_) : Option ((List Sensor_)) :=
  bindP (app 136 ([]) a0) fun x1 =>
  some x1
def slices_Clone_api_Association_api_Association (fuel : Nat) (a0 : List Association_) : Option ((List Association_)) :=
  bindP (app 4 ([]) a0) fun x1 =>
  some x1
def slices_Clone_api_Point_api_Point (fuel : Nat) (a0 : List Point_) : Option ((List Point_)) :=
  bindP (app 16 ([]) a0) fun x1 =>
  some x1
def monitor_New (fuel : Nat) (a0 : List Sensor_) (a1 : List Association_) : Option ((Option monitor_Monitor) × Int) :=
  bindP (monitor_check fuel a0) fun y1 =>
  iteP (y1 != 0) (
  some (none, y1)) (
  bindP (entity_Check fuel a1) fun y2 =>
  iteP (y2 != 0) (
  some (none, y2)) (
  bindP (slices_Clone_api_Sensor_api_Sensor fuel a0) fun y3 =>
  bindP (slices_Clone_api_Association_api_Association fuel a1) fun y4 =>
  bindP (mk 32 Filter_.z (a0.length : Int)) fun x1 =>
  bindP (mk 2 0 (a0.length : Int)) fun x2 =>
  loopP (fun k1 (s1 : (Int × (List Sensor_))) =>
  iteP (decide (s1.1 < (y3.length : Int))) (
  bindP (idx a0 s1.1) fun x3 =>
  bindP (slices_Clone_api_Point_api_Point fuel x3.Conversion.Points) fun y5 =>
  bindP (idx s1.2 s1.1) fun x4 =>
  letP (upd s1.2 s1.1 ({ x4 with Conversion := { x4.Conversion with Points := y5 } })) fun d1 =>
  k1 ((IntKind.i64.wrap (s1.1 + 1)), d1)) (
  some ((some (⟨s1.2, y4, x1, x2⟩ : monitor_Monitor)), 0))) fuel (0, y3)))
def bits_Mul64 (fuel : Nat) (a0 : Int) (a1 : Int) : Option (Int × Int) :=
  letP (bAnd .u64 a0 4294967295) fun x1 =>
  letP (bAnd .u64 a1 4294967295) fun x2 =>
  letP (IntKind.u64.wrap (x1 * x2)) fun x3 =>
  letP (IntKind.u64.wrap ((IntKind.u64.wrap ((bShr .u64 a0 32) * x2)) + (bShr .u64 x3 32))) fun x4 =>
  letP (bAnd .u64 x4 4294967295) fun x5 =>
  letP (IntKind.u64.wrap (x5 + (IntKind.u64.wrap (x1 * (bShr .u64 a1 32))))) fun x6 =>
  letP (IntKind.u64.wrap ((IntKind.u64.wrap ((IntKind.u64.wrap ((bShr .u64 a0 32) * (bShr .u64 a1 32))) + (bShr .u64 x4 32))) + (bShr .u64 x6 32))) fun x7 =>
  letP (IntKind.u64.wrap (a0 * a1)) fun x8 =>
  some (x7, x8)
def bits_Mul (fuel : Nat) (a0 : Int) (a1 : Int) : Option (Int × Int) :=
  bindP (bits_Mul64 fuel a0 a1) fun y1 =>
  some (y1.1, y1.2)
def slices_Repeat_byte_byte (fuel : Nat) (a0 : List Int) (a1 : Int) : Option ((List Int)) :=
  iteP (decide (a1 < 0)) (
  none) (
  bindP (bits_Mul fuel (IntKind.u64.wrap (a0.length : Int)) (IntKind.u64.wrap a1)) fun y1 =>
  iteP (decide (y1.1 > 0)) (
  none) (
  iteP (decide (y1.2 > 9223372036854775807)) (
  none) (
  bindP (mk 1 0 (IntKind.i64.wrap y1.2)) fun x1 =>
  letP (lay x1 0 (a0.take x1.length)) fun d1 =>
  letP ((min a0.length x1.length : Nat) : Int) fun x2 =>
  loopP (fun k1 (s1 : (Int × (List Int))) =>
  iteP (decide (s1.1 < (s1.2.length : Int))) (
  bindP (chk (decide ((0 : Int) ≤ s1.1 ∧ s1.1 ≤ (s1.2.length : Int) ∧ (s1.2.length : Int) ≤ (s1.2.length : Int)))) fun _ =>
  bindP (chk (decide ((0 : Int) ≤ s1.1 ∧ s1.1 ≤ (s1.2.length : Int)))) fun _ =>
  bindP (chk (decide (s1.1.toNat < s1.2.length ∧ 0 < (s1.1 : Int).toNat ∧ (s1.1 : Int).toNat ≤ s1.2.length))) fun _ =>
  letP (lay s1.2 s1.1.toNat (s1.2.take (min ((s1.1 : Int).toNat) (s1.2.length - s1.1.toNat)))) fun d2 =>
  letP (IntKind.i64.wrap (s1.1 + ((min ((s1.1 : Int).toNat) (s1.2.length - s1.1.toNat) : Nat) : Int))) fun x3 =>
  k1 (x3, d2)) (
  some s1.2)) fuel (x2, d1))))
def flash_New (fuel : Nat) (a0 : Int) (a1 : Int) : Option ((Option flash_Device) × Int) :=
  iteP (decide (a0 < 1)) (
  none) (
  iteP (decide (a0 > 16)) (
  none) (
  iteP (decide (a1 < 64)) (
  none) (
  iteP (decide (a1 > 1024)) (
  none) (
  bindP (slices_Repeat_byte_byte fuel ([255]) (IntKind.i64.wrap (a0 * a1))) fun y1 =>
  bindP (mk 8 0 a0) fun x1 =>
  some ((some (⟨a1, y1, x1, 0, 0, 0, false⟩ : flash_Device)), 0)))))
def flash_Device_Sectors (fuel : Nat) (a0 : flash_Device) : Option (Int) :=
  some (a0.wear.length : Int)
def flash_Device_Size (fuel : Nat) (a0 : flash_Device) : Option (Int) :=
  some a0.size
def flash_Device_within (fuel : Nat) (a0 : flash_Device) (a1 : Int) (a2 : Int) : Option (Bool) :=
  iteP (decide (a1 ≥ 0)) (
  iteP (decide (a1 ≤ (a0.bytes.length : Int))) (
  iteP (decide (a2 ≥ 0)) (
  letP (decide (a2 ≤ (IntKind.i64.wrap ((a0.bytes.length : Int) - a1)))) fun x1 =>
  some x1) (
  none)) (
  none)) (
  none)
def slices_Clone_byte_byte (fuel : Nat) (a0 : List Int) : Option ((List Int)) :=
  bindP (app 1 ([]) a0) fun x1 =>
  some x1
def flash_Device_Read (fuel : Nat) (a0 : flash_Device) (a1 : Int) (a2 : Int) : Option ((List Int) × Int) :=
  iteP a0.down (
  none) (
  bindP (flash_Device_within fuel a0 a1 a2) fun y1 =>
  letP (!y1) fun x1 =>
  iteP x1 (
  none) (
  bindP (chk (decide ((0 : Int) ≤ a1 ∧ a1 ≤ (IntKind.i64.wrap (a1 + a2)) ∧ (IntKind.i64.wrap (a1 + a2)) ≤ (a0.bytes.length : Int)))) fun _ =>
  bindP (sub a0.bytes a1 (IntKind.i64.wrap (a1 + a2))) fun x2 =>
  bindP (slices_Clone_byte_byte fuel x2) fun y2 =>
  some (y2, 0)))
def eventlog_read4 (fuel : Nat) (a0 : List Int) : Option (Int) :=
  bindP (idx a0 0) fun x1 =>
  bindP (idx a0 1) fun x2 =>
  bindP (idx a0 2) fun x3 =>
  bindP (idx a0 3) fun x4 =>
  letP (bOr .i64 (bOr .i64 (bOr .i64 (IntKind.i64.wrap x1) (bShl .i64 (IntKind.i64.wrap x2) 8)) (bShl .i64 (IntKind.i64.wrap x3) 16)) (bShl .i64 (IntKind.i64.wrap x4) 24)) fun x5 =>
  some x5
def eventlog_Log_header (fuel : Nat) (a0 : eventlog_Log) (a1 : List Int) (a2 : Int) : Option (eventlog_head × Bool) :=
  bindP (eventlog_read4 fuel a1) fun y1 =>
  bindP (sub a1 4 a1.length) fun x1 =>
  bindP (eventlog_read4 fuel x1) fun y2 =>
  bindP (idx a1 8) fun x2 =>
  bindP (idx a1 9) fun x3 =>
  bindP (idx a1 10) fun x4 =>
  letP (x4 == 0) fun x5 =>
  iteP x5 (
  none) (
  some ((⟨y1, y2, (bOr .u16 (IntKind.u16.wrap x2) (bShl .u16 (IntKind.u16.wrap x3) 8))⟩ : eventlog_head), false))
def eventlog_blank_1 (fuel : Nat) (a0 : Int) : Option (Bool) :=
  letP (a0 != 255) fun x1 =>
  some x1
def slices_IndexFunc_byte_byte_eventlog_blank_1 (fuel : Nat) (a0 : List Int) : Option (Int) :=
  loopP (fun k1 (s1 : Int) =>
  iteP (decide (s1 < (a0.length : Int))) (
  bindP (idx a0 s1) fun x1 =>
  bindP (eventlog_blank_1 fuel x1) fun y1 =>
  iteP y1 (
  none) (
  k1 ((IntKind.i64.wrap (s1 + 1))))) (
  some (-1))) fuel (0)
def slices_ContainsFunc_byte_byte_eventlog_blank_1 (fuel : Nat) (a0 : List Int) : Option (Bool) :=
  bindP (slices_IndexFunc_byte_byte_eventlog_blank_1 fuel a0) fun y1 =>
  letP (decide (y1 ≥ 0)) fun x1 =>
  some x1
def eventlog_blank (fuel : Nat) (a0 : List Int) : Option (Bool) :=
  bindP (slices_ContainsFunc_byte_byte_eventlog_blank_1 fuel a0) fun y1 =>
  letP (!y1) fun x1 =>
  some x1
def event_Valid (fuel : Nat) (a0 : Event_) : Option (Bool) :=
  iteP (decide (a0.ID ≤ 65534)) (
  iteP (decide (a0.Time ≤ 4294967294)) (
  letP (decide (a0.Type_ ≤ 127)) fun x1 =>
  some x1) (
  none)) (
  none)
def eventlog_behind (fuel : Nat) (a0 : Int) : Option (Int) :=
  iteP (a0 == 65534) (
  none) (
  letP (IntKind.u16.wrap (a0 + 1)) fun x1 =>
  some x1)
def eventlog_Open (fuel : Nat) (a0 : flash_Device) (a1 : Int) (a2 : Int) (a3 : Bool) : Option ((Option eventlog_Log) × Int) :=
  iteP (decide (a2 < 2)) (
  none) (
  iteP (decide (a1 < 0)) (
  none) (
  bindP (flash_Device_Sectors fuel a0) fun y1 =>
  iteP (decide (a2 > y1)) (
  none) (
  bindP (flash_Device_Sectors fuel a0) fun y2 =>
  iteP (decide (a1 > (IntKind.i64.wrap (y2 - a2)))) (
  none) (
  bindP (mk 24 ([] : List Int) a2) fun x1 =>
  bindP (mk 24 eventlog_head.z a2) fun x2 =>
  loopP (fun k1 (s1 : Int) =>
  iteP (decide (s1 < a2)) (
  bindP (flash_Device_Size fuel a0) fun y3 =>
  bindP (flash_Device_Size fuel a0) fun y4 =>
  bindP (flash_Device_Read fuel a0 (IntKind.i64.wrap ((IntKind.i64.wrap (a1 + s1)) * y3)) y4) fun y5 =>
  iteP (y5.2 != 0) (
  none) (
  bindP (eventlog_Log_header fuel (⟨true, a1, a2, a3, 0, 0, 0, 1, [], false, 0, false, false⟩ : eventlog_Log) y5.1 s1) fun y6 =>
  iteP y6.2 (
  none) (
  k1 ((IntKind.i64.wrap (s1 + 1)))))) (
  loopP (fun k2 (s2 : Unit) =>
  iteP (decide (0 ≤ 0)) (
  iteP (decide (0 > 0)) (
  none) (
  some ((some (⟨true, a1, a2, a3, 0, 0, 0, 1, [], false, 0, false, false⟩ : eventlog_Log)), 0))) (
  none)) fuel ())) fuel (0)))))
def monitor_Monitor_find_1_2 (fuel : Nat) (a0 : Sensor_) (a1 : Int) : Option (Bool) :=
  letP (a0.Number == a1) fun x1 =>
  some x1
def slices_IndexFunc_api_Sensor_api_Sensor_monitor_Monitor_find_1 (fuel : Nat) (a0 : List Sensor_) (a1_0 : Int) : Option (Int) :=
  loopP (fun k1 (s1 : Int) =>
  iteP (decide (s1 < (a0.length : Int))) (
  bindP (idx a0 s1) fun x1 =>
  bindP (monitor_Monitor_find_1_2 fuel x1 a1_0) fun y1 =>
  iteP y1 (
  some s1) (
  k1 ((IntKind.i64.wrap (s1 + 1))))) (
  some (-1))) fuel (0)
def monitor_Monitor_find (fuel : Nat) (a0 : monitor_Monitor) (a1 : Int) : Option (Int) :=
  bindP (slices_IndexFunc_api_Sensor_api_Sensor_monitor_Monitor_find_1 fuel a0.sensors a1) fun y1 =>
  some y1
def monitor_Monitor_check (fuel : Nat) (a0 : monitor_Monitor) (a1 : List Sample_) : Option (Int) :=
  loopP (fun k1 (s1 : Int) =>
  iteP (decide (s1 < (a1.length : Int))) (
  bindP (idx a1 s1) fun x1 =>
  joinP (fun (s2 : Bool) =>
  iteP s2 (
  some 1) (
  bindP (monitor_Monitor_find fuel a0 x1.Number) fun y1 =>
  iteP (decide (y1 < 0)) (
  some 8) (
  bindP (idx a0.sensors y1) fun x2 =>
  joinP (fun (s3 : Bool) =>
  iteP s3 (
  some 1) (
  letP ((bAndNot .u16 x1.States x2.States) != 0) fun x3 =>
  iteP x3 (
  some 2) (
  k1 ((IntKind.i64.wrap (s1 + 1)))))) fun j2 =>
  iteP (!x2.Discrete) (
  iteP (x1.States != 0) (
  j2 (true)) (
  iteP x2.Discrete (
  letP (x1.Raw != 0) fun x4 =>
  j2 (x4)) (
  j2 (false)))) (
  iteP x2.Discrete (
  letP (x1.Raw != 0) fun x5 =>
  j2 (x5)) (
  j2 (false)))))) fun j1 =>
  letP (decide (s1 > 0)) fun x6 =>
  iteP x6 (
  bindP (idx a1 (IntKind.i64.wrap (s1 - 1))) fun x7 =>
  iteP (decide (x1.Number ≤ x7.Number)) (
  j1 (true)) (
  iteP (!x1.OK) (
  iteP (x1.Raw != 0) (
  j1 (true)) (
  j1 (x1.States != 0))) (
  j1 (false)))) (
  iteP (!x1.OK) (
  iteP (x1.Raw != 0) (
  j1 (true)) (
  j1 (x1.States != 0))) (
  j1 (false)))) (
  some 0)) fuel (0)
def entity_present_1_2 (fuel : Nat) (a0 : Entity_) (a1 : List Entity_) : Option (Bool) :=
  bindP (slices_Contains_api_Entity_api_Entity fuel a1 a0) fun y1 =>
  some y1
def slices_IndexFunc_api_Entity_api_Entity_entity_present_1 (fuel : Nat) (a0 : List Entity_) (a1_0 : List Entity_) : Option (Int) :=
  loopP (fun k1 (s1 : Int) =>
  iteP (decide (s1 < (a0.length : Int))) (
  bindP (idx a0 s1) fun x1 =>
  bindP (entity_present_1_2 fuel x1 a1_0) fun y1 =>
  iteP y1 (
  some s1) (
  k1 ((IntKind.i64.wrap (s1 + 1))))) (
  some (-1))) fuel (0)
def slices_ContainsFunc_api_Entity_api_Entity_entity_present_1 (fuel : Nat) (a0 : List Entity_) (a1_0 : List Entity_) : Option (Bool) :=
  bindP (slices_IndexFunc_api_Entity_api_Entity_entity_present_1 fuel a0 a1_0) fun y1 =>
  letP (decide (y1 ≥ 0)) fun x1 =>
  some x1
def entity_present (fuel : Nat) (a0 : List Association_) (a1 : List Entity_) (a2 : Entity_) : Option (Bool) :=
  bindP (entity_around fuel a0 a2) fun y1 =>
  bindP (app 2 y1 ([a2])) fun x1 =>
  bindP (slices_ContainsFunc_api_Entity_api_Entity_entity_present_1 fuel x1 a1) fun y2 =>
  letP (!y2) fun x2 =>
  some x2
def entity_Present (fuel : Nat) (a0 : List Association_) (a1 : List Entity_) (a2 : Entity_) : Option (Bool × Int) :=
  bindP (entity_Check fuel a0) fun y1 =>
  iteP (y1 != 0) (
  some (false, y1)) (
  bindP (entity_present fuel a0 a1 a2) fun y2 =>
  some (y2, 0))
def discrete_Step (fuel : Nat) (a0 : Sensor_) (a1 : Int) (a2 : Int) : Option (Int × (List Change_) × Int) :=
  joinP (fun (s1 : Bool) =>
  iteP s1 (
  some (0, [], 1)) (
  letP ((bAndNot .u16 (bOr .u16 a1 a2) a0.States) != 0) fun x1 =>
  iteP x1 (
  some (0, [], 2)) (
  loopP (fun k1 (s2 : (Int × (List Change_))) =>
  iteP (decide (s2.1 < 15)) (
  bindP (chk (decide (0 ≤ s2.1))) fun _ =>
  iteP ((bAnd .u16 (bShr .u16 (bXor .u16 a1 a2) s2.1) 1) == 1) (
  bindP (chk (decide (0 ≤ s2.1))) fun _ =>
  bindP (app 16 s2.2 ([(⟨s2.1, (bAnd .u16 (bShr .u16 a2 s2.1) 1) == 1⟩ : Change_)])) fun x2 =>
  k1 ((IntKind.i64.wrap (s2.1 + 1)), x2)) (
  k1 ((IntKind.i64.wrap (s2.1 + 1)), s2.2))) (
  some (a2, s2.2, 0))) fuel (0, [])))) fun j1 =>
  iteP (!a0.Discrete) (
  j1 (true)) (
  bindP (sensor_Valid fuel a0) fun y1 =>
  letP (!y1) fun x3 =>
  j1 (x3))
def sampling_Valid (fuel : Nat) (a0 : Sensor_) (a1 : Filter_) : Option (Bool) :=
  bindP (sensor_Valid fuel a0) fun y1 =>
  joinP (fun (s1 : Bool) =>
  iteP s1 (
  some false) (
  iteP (decide (a1.Missing < 3)) (
  some true) (
  letP ((a1.Window.length : Int) == 0) fun x1 =>
  some x1))) fun j1 =>
  iteP (!y1) (
  j1 (true)) (
  iteP (decide ((a1.Window.length : Int) > a0.Samples)) (
  j1 (true)) (
  iteP (decide (a1.Missing < 0)) (
  j1 (true)) (
  j1 (decide (a1.Missing > 3)))))
def sampling_Step (fuel : Nat) (a0 : Sensor_) (a1 : Filter_) (a2 : Int) (a3 : Bool) : Option (Filter_ × Int) :=
  bindP (sampling_Valid fuel a0 a1) fun y1 =>
  iteP (!y1) (
  some (Filter_.z, 1)) (
  bindP (slices_Clone_byte_byte fuel a1.Window) fun y2 =>
  iteP a3 (
  bindP (app 1 y2 ([a2])) fun x1 =>
  joinP (fun (s1 : Filter_) =>
  some (s1, 0)) fun j1 =>
  iteP (decide ((x1.length : Int) > a0.Samples)) (
  bindP (sub x1 1 x1.length) fun x2 =>
  j1 ((⟨x2, 0⟩ : Filter_))) (
  j1 ((⟨x1, 0⟩ : Filter_)))) (
  iteP ((min (IntKind.i64.wrap (a1.Missing + 1)) 3) == 3) (
  some ((⟨[], (min (IntKind.i64.wrap (a1.Missing + 1)) 3)⟩ : Filter_), 0)) (
  some ((⟨y2, (min (IntKind.i64.wrap (a1.Missing + 1)) 3)⟩ : Filter_), 0))))
def slices_Values_uint8_uint8 (fuel : Nat) (a0 : List Int) : Option (((List Int))) :=
  some (a0)
def cmp_Compare_int (fuel : Nat) (a0 : Int) (a1 : Int) : Option (Int) :=
  bindP (cmp_isNaN_int fuel a0) fun y1 =>
  bindP (cmp_isNaN_int fuel a1) fun y2 =>
  iteP y1 (
  iteP y2 (
  some 0) (
  some (-1))) (
  iteP y2 (
  some 1) (
  iteP (decide (a0 < a1)) (
  some (-1)) (
  iteP (decide (a0 > a1)) (
  some 1) (
  some 0))))
def bits_Len64 (fuel : Nat) (a0 : Int) : Option (Int) :=
  joinP (fun (s1 : (Int × Int)) =>
  joinP (fun (s2 : (Int × Int)) =>
  iteP (decide (s2.1 ≥ 256)) (
  letP (IntKind.i64.wrap (s2.2 + 8)) fun x1 =>
  bindP (idx ([0, 1, 2, 2, 3, 3, 3, 3, 4, 4, 4, 4, 4, 4, 4, 4, 5, 5, 5, 5, 5, 5, 5, 5, 5, 5, 5, 5, 5, 5, 5, 5, 6, 6, 6, 6, 6, 6, 6, 6, 6, 6, 6, 6, 6, 6, 6, 6, 6, 6, 6, 6, 6, 6, 6, 6, 6, 6, 6, 6, 6, 6, 6, 6, 7, 7, 7, 7, 7, 7, 7, 7, 7, 7, 7, 7, 7, 7, 7, 7, 7, 7, 7, 7, 7, 7, 7, 7, 7, 7, 7, 7, 7, 7, 7, 7, 7, 7, 7, 7, 7, 7, 7, 7, 7, 7, 7, 7, 7, 7, 7, 7, 7, 7, 7, 7, 7, 7, 7, 7, 7, 7, 7, 7, 7, 7, 7, 7, 8, 8, 8, 8, 8, 8, 8, 8, 8, 8, 8, 8, 8, 8, 8, 8, 8, 8, 8, 8, 8, 8, 8, 8, 8, 8, 8, 8, 8, 8, 8, 8, 8, 8, 8, 8, 8, 8, 8, 8, 8, 8, 8, 8, 8, 8, 8, 8, 8, 8, 8, 8, 8, 8, 8, 8, 8, 8, 8, 8, 8, 8, 8, 8, 8, 8, 8, 8, 8, 8, 8, 8, 8, 8, 8, 8, 8, 8, 8, 8, 8, 8, 8, 8, 8, 8, 8, 8, 8, 8, 8, 8, 8, 8, 8, 8, 8, 8, 8, 8, 8, 8, 8, 8, 8, 8, 8, 8, 8, 8, 8, 8, 8, 8, 8, 8, 8, 8, 8, 8, 8, 8, 8, 8, 8, 8, 8, 8]) (IntKind.u8.wrap (bShr .u64 s2.1 8))) fun x2 =>
  letP (IntKind.i64.wrap (x1 + (IntKind.i64.wrap x2))) fun x3 =>
  some x3) (
  bindP (idx ([0, 1, 2, 2, 3, 3, 3, 3, 4, 4, 4, 4, 4, 4, 4, 4, 5, 5, 5, 5, 5, 5, 5, 5, 5, 5, 5, 5, 5, 5, 5, 5, 6, 6, 6, 6, 6, 6, 6, 6, 6, 6, 6, 6, 6, 6, 6, 6, 6, 6, 6, 6, 6, 6, 6, 6, 6, 6, 6, 6, 6, 6, 6, 6, 7, 7, 7, 7, 7, 7, 7, 7, 7, 7, 7, 7, 7, 7, 7, 7, 7, 7, 7, 7, 7, 7, 7, 7, 7, 7, 7, 7, 7, 7, 7, 7, 7, 7, 7, 7, 7, 7, 7, 7, 7, 7, 7, 7, 7, 7, 7, 7, 7, 7, 7, 7, 7, 7, 7, 7, 7, 7, 7, 7, 7, 7, 7, 7, 8, 8, 8, 8, 8, 8, 8, 8, 8, 8, 8, 8, 8, 8, 8, 8, 8, 8, 8, 8, 8, 8, 8, 8, 8, 8, 8, 8, 8, 8, 8, 8, 8, 8, 8, 8, 8, 8, 8, 8, 8, 8, 8, 8, 8, 8, 8, 8, 8, 8, 8, 8, 8, 8, 8, 8, 8, 8, 8, 8, 8, 8, 8, 8, 8, 8, 8, 8, 8, 8, 8, 8, 8, 8, 8, 8, 8, 8, 8, 8, 8, 8, 8, 8, 8, 8, 8, 8, 8, 8, 8, 8, 8, 8, 8, 8, 8, 8, 8, 8, 8, 8, 8, 8, 8, 8, 8, 8, 8, 8, 8, 8, 8, 8, 8, 8, 8, 8, 8, 8, 8, 8, 8, 8, 8, 8, 8, 8]) (IntKind.u8.wrap s2.1)) fun x4 =>
  letP (IntKind.i64.wrap (s2.2 + (IntKind.i64.wrap x4))) fun x5 =>
  some x5)) fun j2 =>
  iteP (decide (s1.1 ≥ 65536)) (
  letP (IntKind.i64.wrap (s1.2 + 16)) fun x6 =>
  j2 ((bShr .u64 s1.1 16), x6)) (
  j2 (s1.1, s1.2))) fun j1 =>
  iteP (decide (a0 ≥ 4294967296)) (
  j1 ((bShr .u64 a0 32), 32)) (
  j1 (a0, 0))
def bits_Len (fuel : Nat) (a0 : Int) : Option (Int) :=
  bindP (bits_Len64 fuel a0) fun y1 =>
  some y1
def slices_Values_uint8_uint8_1_2 {σ : Type} (fuel : Nat) (bd_ : σ → Int → Option σ) (s_ : σ) (a1 : List Int) : Option (σ) :=
  loopP (fun k1 (s1 : (Int × σ)) =>
  iteP (decide (s1.1 < (a1.length : Int))) (
  bindP (idx a1 s1.1) fun x1 =>
  bindP (bd_ s1.2 x1) fun y1 =>
  k1 ((IntKind.i64.wrap (s1.1 + 1)), y1)) (
  some s1.2)) fuel (0, s_)
def slices_AppendSeq_uint8_uint8_slices_Values_uint8_uint8_1 (fuel : Nat) (a1_0 : List Int) : Option ((List Int)) :=
  bindP (slices_Values_uint8_uint8_1_2 fuel (fun (s1 : ((List Int))) (x1 : Int) =>
  bindP (app 1 s1 ([x1])) fun x2 =>
  some (x2)) ([]) a1_0) fun y1 =>
  some y1
def slices_Collect_uint8_slices_Values_uint8_uint8_1 (fuel : Nat) (a0_0 : List Int) : Option ((List Int)) :=
  bindP (slices_AppendSeq_uint8_uint8_slices_Values_uint8_uint8_1 fuel a0_0) fun y1 =>
  some y1
def sampling_Reading_1_2 (fuel : Nat) (a0 : Int) (a1 : Int) (a2 : Sensor_) : Option (Int) :=
  bindP (convert_Number fuel a2.Conversion.Signed a0) fun y1 =>
  bindP (convert_Number fuel a2.Conversion.Signed a1) fun y2 =>
  bindP (cmp_Compare_int fuel y1 y2) fun y3 =>
  some y3
def slices_insertionSortCmpFunc_uint8_sampling_Reading_1 (fuel : Nat) (a0 : List Int) (a1 : Int) (a2 : Int) (a3_0 : Sensor_) : Option ((List Int)) :=
  letP (IntKind.i64.wrap (a1 + 1)) fun x1 =>
  loopP (fun k1 (s1 : (Int × (List Int))) =>
  iteP (decide (s1.1 < a2)) (
  loopP (fun k2 (s2 : (Int × (List Int))) =>
  joinP (fun (s3 : Bool) =>
  iteP s3 (
  bindP (idx s2.2 (IntKind.i64.wrap (s2.1 - 1))) fun x2 =>
  bindP (idx s2.2 s2.1) fun x3 =>
  letP (upd s2.2 s2.1 x2) fun d1 =>
  bindP (idx d1 (IntKind.i64.wrap (s2.1 - 1))) fun x4 =>
  letP (upd d1 (IntKind.i64.wrap (s2.1 - 1)) x3) fun d2 =>
  letP (IntKind.i64.wrap (s2.1 - 1)) fun x5 =>
  k2 (x5, d2)) (
  letP (IntKind.i64.wrap (s1.1 + 1)) fun x6 =>
  k1 (x6, s2.2))) fun j1 =>
  letP (decide (s2.1 > a1)) fun x7 =>
  iteP x7 (
  bindP (idx s2.2 s2.1) fun x8 =>
  bindP (idx s2.2 (IntKind.i64.wrap (s2.1 - 1))) fun x9 =>
  bindP (sampling_Reading_1_2 fuel x8 x9 a3_0) fun y1 =>
  j1 (decide (y1 < 0))) (
  j1 (false))) fuel (s1.1, s1.2)) (
  some s1.2)) fuel (x1, a0)
def slices_pdqsortCmpFunc_uint8_sampling_Reading_1 (fuel : Nat) (a0 : List Int) (a1 : Int) (a2 : Int) (a3 : Int) (a4_0 : Sensor_) : Option ((List Int)) :=
  loopP (fun k1 (s1 : Unit) =>
  letP (IntKind.i64.wrap (a2 - a1)) fun x1 =>
  iteP (decide (x1 ≤ 12)) (
  bindP (slices_insertionSortCmpFunc_uint8_sampling_Reading_1 fuel a0 a1 a2 a4_0) fun y1 =>
  some y1) (
  iteP (a3 == 0) (
  none) (
  iteP (!true) (
  none) (
  none)))) fuel ()
def slices_SortFunc_uint8_uint8_sampling_Reading_1 (fuel : Nat) (a0 : List Int) (a1_0 : Sensor_) : Option ((List Int)) :=
  bindP (bits_Len fuel (IntKind.u64.wrap (a0.length : Int))) fun y1 =>
  bindP (slices_pdqsortCmpFunc_uint8_sampling_Reading_1 fuel a0 0 (a0.length : Int) y1 a1_0) fun y2 =>
  some y2
def slices_SortedFunc_uint8_slices_Values_uint8_uint8_1_sampling_Reading_1 (fuel : Nat) (a0_0 : List Int) (a1_0 : Sensor_) : Option ((List Int)) :=
  bindP (slices_Collect_uint8_slices_Values_uint8_uint8_1 fuel a0_0) fun y1 =>
  bindP (slices_SortFunc_uint8_uint8_sampling_Reading_1 fuel y1 a1_0) fun y2 =>
  some y2
def sampling_Reading (fuel : Nat) (a0 : Sensor_) (a1 : Filter_) : Option (Int × Bool) :=
  bindP (sampling_Valid fuel a0 a1) fun y1 =>
  joinP (fun (s1 : Bool) =>
  iteP s1 (
  some (0, false)) (
  bindP (slices_Values_uint8_uint8 fuel a1.Window) fun y2 =>
  bindP (slices_SortedFunc_uint8_slices_Values_uint8_uint8_1_sampling_Reading_1 fuel y2 a0) fun y3 =>
  bindP (idx y3 (IntKind.i64.wrap (Int.tdiv (y3.length : Int) 2))) fun x1 =>
  some (x1, true))) fun j1 =>
  iteP (!y1) (
  j1 (true)) (
  j1 ((a1.Window.length : Int) != a0.Samples))
def threshold_analog (fuel : Nat) (a0 : Sensor_) : Option (Bool) :=
  iteP (!a0.Discrete) (
  bindP (sensor_Valid fuel a0) fun y1 =>
  some y1) (
  some false)
def threshold_beyond (fuel : Nat) (a0 : Sensor_) (a1 : Int) (a2 : Int) : Option (Int × Int) :=
  bindP (convert_Number fuel a0.Conversion.Signed a2) fun y1 =>
  bindP (idx a0.Limits.Raw a1) fun x1 =>
  bindP (chk (Nat.beq a0.Limits.Raw.length 6)) fun _ =>
  bindP (convert_Number fuel a0.Conversion.Signed x1) fun y2 =>
  iteP (decide (a1 ≤ 2)) (
  letP (IntKind.i64.wrap a0.HystLower) fun x2 =>
  some ((IntKind.i64.wrap (y2 - y1)), x2)) (
  letP (IntKind.i64.wrap a0.HystUpper) fun x3 =>
  some ((IntKind.i64.wrap (y1 - y2)), x3))
def threshold_next (fuel : Nat) (a0 : Sensor_) (a1 : Int) (a2 : Int) : Option (Int) :=
  loopP (fun k1 (s1 : (Int × Int)) =>
  iteP (decide (s1.2 < 6)) (
  bindP (chk (decide (0 ≤ s1.2))) fun _ =>
  letP (bAnd .u8 (bShl .u8 1 s1.2) a0.Limits.Mask) fun x1 =>
  bindP (threshold_beyond fuel a0 s1.2 a2) fun y1 =>
  joinP (fun (s2 : Bool) =>
  iteP s2 (
  k1 ((bOr .u8 s1.1 x1), (IntKind.i64.wrap (s1.2 + 1)))) (
  k1 (s1.1, (IntKind.i64.wrap (s1.2 + 1))))) fun j1 =>
  iteP (decide (y1.1 ≥ 0)) (
  j1 (true)) (
  iteP ((bAnd .u8 a1 x1) != 0) (
  j1 (decide (y1.1 ≥ (IntKind.i64.wrap (0 - y1.2))))) (
  j1 (false)))) (
  some s1.1)) fuel (0, 0)
def threshold_Step (fuel : Nat) (a0 : Sensor_) (a1 : Int) (a2 : Int) : Option (Int × (List Change_) × Int) :=
  bindP (threshold_analog fuel a0) fun y1 =>
  letP (!y1) fun x1 =>
  iteP x1 (
  some (0, [], 1)) (
  letP ((bAndNot .u8 a1 a0.Limits.Mask) != 0) fun x2 =>
  iteP x2 (
  some (0, [], 2)) (
  bindP (threshold_next fuel a0 a1 a2) fun y2 =>
  loopP (fun k1 (s1 : (Int × (List Change_))) =>
  iteP (decide (s1.1 < 6)) (
  bindP (chk (decide (0 ≤ s1.1))) fun _ =>
  iteP ((bAnd .u8 (bShr .u8 (bXor .u8 a1 y2) s1.1) 1) == 1) (
  bindP (chk (decide (0 ≤ s1.1))) fun _ =>
  bindP (app 16 s1.2 ([(⟨s1.1, (bAnd .u8 (bShr .u8 y2 s1.1) 1) == 1⟩ : Change_)])) fun x3 =>
  k1 ((IntKind.i64.wrap (s1.1 + 1)), x3)) (
  k1 ((IntKind.i64.wrap (s1.1 + 1)), s1.2))) (
  some (y2, s1.2, 0))) fuel (0, [])))
def monitor_Monitor_step (fuel : Nat) (a0 : monitor_Monitor) (a1 : Int) (a2 : Sample_) : Option ((List Change_) × Int × monitor_Monitor) :=
  bindP (idx a0.sensors a1) fun x1 =>
  iteP x1.Discrete (
  joinP (fun (s1 : ((List Change_) × monitor_Monitor)) =>
  some (s1.1, 0, s1.2)) fun j1 =>
  iteP a2.OK (
  bindP (idx a0.states a1) fun x2 =>
  bindP (discrete_Step fuel x1 x2 a2.States) fun y1 =>
  letP (upd a0.states a1 y1.1) fun d1 =>
  j1 (y1.2.1, { { { a0 with states := d1 } with filters := a0.filters } with states := d1 })) (
  j1 ([], a0))) (
  bindP (idx a0.filters a1) fun x3 =>
  bindP (sampling_Step fuel x1 x3 a2.Raw a2.OK) fun y2 =>
  letP (upd a0.filters a1 y2.1) fun d2 =>
  bindP (idx d2 a1) fun x4 =>
  bindP (sampling_Reading fuel x1 x4) fun y3 =>
  iteP (!y3.2) (
  some ([], 0, { { a0 with filters := d2 } with states := a0.states })) (
  bindP (idx a0.states a1) fun x5 =>
  bindP (threshold_Step fuel x1 (IntKind.u8.wrap x5) y3.1) fun y4 =>
  bindP (idx a0.states a1) fun x6 =>
  letP (upd a0.states a1 (IntKind.u16.wrap y4.1)) fun d3 =>
  some (y4.2.1, y3.1, { { a0 with filters := d2 } with states := d3 })))
def event_State (fuel : Nat) (a0 : Int) (a1 : Int) (a2 : Int) (a3 : Bool) : Option (Event_ × Int) :=
  joinP (fun (s1 : Bool) =>
  iteP s1 (
  some (Event_.z, 2)) (
  some ((⟨0, 0, 32, a0, a1, 111, !a3, [(IntKind.u8.wrap a2), 255, 255]⟩ : Event_), 0))) fun j1 =>
  iteP (decide (a2 < 0)) (
  j1 (true)) (
  j1 (decide (a2 > 14)))
def event_Threshold (fuel : Nat) (a0 : Int) (a1 : Int) (a2 : Int) (a3 : Bool) (a4 : Int) (a5 : Int) : Option (Event_ × Int) :=
  joinP (fun (s1 : Bool) =>
  iteP s1 (
  some (Event_.z, 2)) (
  bindP (idx ([0, 2, 4, 7, 9, 11]) a2) fun x1 =>
  some ((⟨0, 0, 32, a0, a1, 1, !a3, [(IntKind.u8.wrap (80 + x1)), a4, a5]⟩ : Event_), 0))) fun j1 =>
  iteP (decide (a2 < 0)) (
  j1 (true)) (
  j1 (decide (a2 ≥ 6)))
def monitor_events (fuel : Nat) (a0 : Sensor_) (a1 : List Change_) (a2 : Int) : Option ((List Event_)) :=
  loopP (fun k1 (s1 : (Int × (List Event_))) =>
  iteP (decide (s1.1 < (a1.length : Int))) (
  bindP (idx a1 s1.1) fun x1 =>
  joinP (fun (s2 : Int) =>
  bindP (chk (decide (0 ≤ x1.Index))) fun _ =>
  iteP ((bAnd .u16 (bShr .u16 s2 x1.Index) 1) == 0) (
  k1 ((IntKind.i64.wrap (s1.1 + 1)), s1.2)) (
  joinP (fun (s3 : Event_) =>
  bindP (app 20 s1.2 ([s3])) fun x2 =>
  k1 ((IntKind.i64.wrap (s1.1 + 1)), x2)) fun j2 =>
  iteP a0.Discrete (
  bindP (event_State fuel a0.Type_ a0.Number x1.Index x1.Asserted) fun y1 =>
  j2 (y1.1)) (
  bindP (idx a0.Limits.Raw x1.Index) fun x3 =>
  bindP (chk (Nat.beq a0.Limits.Raw.length 6)) fun _ =>
  bindP (event_Threshold fuel a0.Type_ a0.Number x1.Index x1.Asserted a2 x3) fun y2 =>
  j2 (y2.1)))) fun j1 =>
  iteP x1.Asserted (
  j1 (a0.Assert)) (
  j1 (a0.Deassert))) (
  some s1.2)) fuel (0, [])
def monitor_Monitor_Scan_1_2 (fuel : Nat) (a0 : Sample_) (a1 : Sensor_) : Option (Bool) :=
  letP (a0.Number == a1.Number) fun x1 =>
  some x1
def slices_IndexFunc_api_Sample_api_Sample_monitor_Monitor_Scan_1 (fuel : Nat) (a0 : List Sample_) (a1_0 : Sensor_) : Option (Int) :=
  loopP (fun k1 (s1 : Int) =>
  iteP (decide (s1 < (a0.length : Int))) (
  bindP (idx a0 s1) fun x1 =>
  bindP (monitor_Monitor_Scan_1_2 fuel x1 a1_0) fun y1 =>
  iteP y1 (
  some s1) (
  k1 ((IntKind.i64.wrap (s1 + 1))))) (
  some (-1))) fuel (0)
def monitor_Monitor_Scan (fuel : Nat) (a0 : monitor_Monitor) (a1 : List Sample_) (a2 : List Entity_) (a3 : Bool) : Option ((List Event_) × Int × monitor_Monitor) :=
  bindP (monitor_Monitor_check fuel a0 a1) fun y1 =>
  iteP (y1 != 0) (
  some ([], y1, a0)) (
  loopP (fun k1 (s1 : (Int × monitor_Monitor × (List Event_))) =>
  iteP (decide (s1.1 < (a0.sensors.length : Int))) (
  bindP (idx a0.sensors s1.1) fun x1 =>
  bindP (entity_Present fuel s1.2.1.l a2 x1.Entity) fun y2 =>
  joinP (fun (s2 : Bool) =>
  iteP s2 (
  bindP (idx s1.2.1.filters s1.1) fun x2 =>
  letP (upd s1.2.1.filters s1.1 Filter_.z) fun d1 =>
  k1 ((IntKind.i64.wrap (s1.1 + 1)), { { { { s1.2.1 with filters := d1 } with states := s1.2.1.states } with filters := d1 } with states := s1.2.1.states }, s1.2.2)) (
  bindP (slices_IndexFunc_api_Sample_api_Sample_monitor_Monitor_Scan_1 fuel a1 x1) fun y3 =>
  joinP (fun (s3 : Sample_) =>
  bindP (monitor_Monitor_step fuel s1.2.1 s1.1 s3) fun y4 =>
  bindP (monitor_events fuel x1 y4.1 y4.2.1) fun y5 =>
  bindP (app 20 s1.2.2 y5) fun x3 =>
  k1 ((IntKind.i64.wrap (s1.1 + 1)), y4.2.2, x3)) fun j2 =>
  iteP (decide (y3 ≥ 0)) (
  bindP (idx a1 y3) fun x4 =>
  j2 (x4)) (
  j2 ((⟨x1.Number, false, 0, 0⟩ : Sample_))))) fun j1 =>
  iteP (!y2.1) (
  j1 (true)) (
  iteP x1.HostOn (
  j1 (!a3)) (
  j1 (false)))) (
  some (s1.2.2, 0, s1.2.1))) fuel (0, a0, []))
def flash_Device_Down (fuel : Nat) (a0 : flash_Device) : Option (Bool) :=
  some a0.down
def eventlog_Log_down (fuel : Nat) (a0 : eventlog_Log) (ad : flash_Device) : Option (Bool × eventlog_Log × flash_Device) :=
  iteP a0.ended (
  none) (
  bindP (chk a0.d) fun _ =>
  bindP (flash_Device_Down fuel ad) fun y1 =>
  iteP y1 (
  none) (
  some (a0.ended, a0, ad)))
def flash_Device_step (fuel : Nat) (a0 : flash_Device) : Option (Bool × flash_Device) :=
  letP ({ a0 with steps := (IntKind.i64.wrap (a0.steps + 1)) }) fun d1 =>
  iteP (decide (d1.left > 0)) (
  none) (
  some (d1.down, { { d1 with bytes := a0.bytes } with wear := a0.wear }))
def eventlog_write4 (fuel : Nat) (a0 : Int) : Option ((List Int)) :=
  some ([(IntKind.u8.wrap a0), (IntKind.u8.wrap (bShr .i64 a0 8)), (IntKind.u8.wrap (bShr .i64 a0 16)), (IntKind.u8.wrap (bShr .i64 a0 24))])
def flash_Device_Program (fuel : Nat) (a0 : flash_Device) (a1 : Int) (a2 : List Int) : Option (Int × flash_Device) :=
  iteP a0.down (
  none) (
  bindP (flash_Device_within fuel a0 a1 (a2.length : Int)) fun y1 =>
  letP (!y1) fun x1 =>
  iteP x1 (
  none) (
  loopP (fun k1 (s1 : (Int × flash_Device)) =>
  iteP (decide (s1.1 < (a2.length : Int))) (
  bindP (idx a2 s1.1) fun x2 =>
  bindP (flash_Device_step fuel s1.2) fun y2 =>
  iteP y2.1 (
  none) (
  bindP (idx y2.2.bytes (IntKind.i64.wrap (a1 + s1.1))) fun x3 =>
  letP (upd y2.2.bytes (IntKind.i64.wrap (a1 + s1.1)) (bAnd .u8 x3 x2)) fun d1 =>
  k1 ((IntKind.i64.wrap (s1.1 + 1)), { { { { y2.2 with bytes := d1 } with wear := y2.2.wear } with bytes := d1 } with wear := y2.2.wear }))) (
  some (0, s1.2))) fuel (0, a0)))
def slices_IndexFunc_eventlog_record_eventlog_record_eventlog_Log_open_1 (fuel : Nat) (a0 : List eventlog_record) (a1_0 : Int) : Option (Int) :=
  loopP (fun k1 (s1 : Unit) =>
  iteP (decide (0 < (a0.length : Int))) (
  none) (
  some (-1))) fuel ()
def slices_DeleteFunc_eventlog_record_eventlog_record_eventlog_Log_open_1 (fuel : Nat) (a0 : List eventlog_record) (a1_0 : Int) : Option ((List eventlog_record)) :=
  bindP (slices_IndexFunc_eventlog_record_eventlog_record_eventlog_Log_open_1 fuel a0 a1_0) fun y1 =>
  iteP (y1 == (-1)) (
  some a0) (
  none)
def eventlog_Log_open (fuel : Nat) (a0 : eventlog_Log) (a1 : Int) (ad : flash_Device) : Option (Int × eventlog_Log × flash_Device) :=
  letP (IntKind.i64.wrap (a0.newest + 1)) fun x1 =>
  iteP (decide (x1 > 2147483648)) (
  none) (
  bindP (chk (decide (a0.sectors ≠ 0))) fun _ =>
  letP (IntKind.i64.wrap (a0.first + (Int.tmod (IntKind.i64.wrap (x1 - 1)) a0.sectors))) fun x2 =>
  bindP (chk a0.d) fun _ =>
  bindP (flash_Device_Size fuel ad) fun y1 =>
  letP (IntKind.i64.wrap (x2 * y1)) fun x3 =>
  bindP (flash_Device_Size fuel ad) fun y2 =>
  bindP (flash_Device_Read fuel ad x3 y2) fun y3 =>
  iteP (y3.2 == 0) (
  bindP (eventlog_blank fuel y3.1) fun y4 =>
  iteP (!y4) (
  none) (
  iteP (y3.2 == 0) (
  bindP (eventlog_write4 fuel x1) fun y5 =>
  bindP (eventlog_write4 fuel a1) fun y6 =>
  bindP (app 1 y5 y6) fun x4 =>
  bindP (app 1 x4 ([(IntKind.u8.wrap a0.next), (IntKind.u8.wrap (bShr .u16 a0.next 8))])) fun x5 =>
  bindP (flash_Device_Program fuel ad x3 x5) fun y7 =>
  iteP (y7.1 == 0) (
  bindP (flash_Device_Program fuel y7.2 (IntKind.i64.wrap (x3 + 10)) ([0])) fun y8 =>
  iteP (y8.1 == 0) (
  letP ({ a0 with newest := x1 }) fun d1 =>
  letP ({ d1 with tail := a1 }) fun d2 =>
  letP ({ d2 with used := 0 }) fun d3 =>
  bindP (slices_DeleteFunc_eventlog_record_eventlog_record_eventlog_Log_open_1 fuel a0.records a1) fun y9 =>
  some (y8.1, { { d3 with d := a0.d } with records := y9 }, y8.2)) (
  none)) (
  none)) (
  none))) (
  none))
def eventlog_Log_grow (fuel : Nat) (a0 : eventlog_Log) (ad : flash_Device) : Option (Int × eventlog_Log × flash_Device) :=
  iteP (decide ((IntKind.i64.wrap ((IntKind.i64.wrap (a0.newest + 1)) - (max a0.tail 1))) > (IntKind.i64.wrap (a0.sectors - 2)))) (
  none) (
  bindP (eventlog_Log_open fuel a0 (max a0.tail 1) ad) fun y1 =>
  some (y1.1, y1.2.1, y1.2.2))
def event_Encode (fuel : Nat) (a0 : Event_) : Option ((List Int) × Int) :=
  bindP (event_Valid fuel a0) fun y1 =>
  iteP (!y1) (
  none) (
  iteP a0.Deassert (
  none) (
  bindP (idx a0.Data 0) fun x1 =>
  bindP (chk (Nat.beq a0.Data.length 3)) fun _ =>
  bindP (idx a0.Data 1) fun x2 =>
  bindP (chk (Nat.beq a0.Data.length 3)) fun _ =>
  bindP (idx a0.Data 2) fun x3 =>
  bindP (chk (Nat.beq a0.Data.length 3)) fun _ =>
  some ([(IntKind.u8.wrap a0.ID), (IntKind.u8.wrap (bShr .u16 a0.ID 8)), 2, (IntKind.u8.wrap a0.Time), (IntKind.u8.wrap (bShr .u32 a0.Time 8)), (IntKind.u8.wrap (bShr .u32 a0.Time 16)), (IntKind.u8.wrap (bShr .u32 a0.Time 24)), (IntKind.u8.wrap a0.Generator), (IntKind.u8.wrap (bShr .u16 a0.Generator 8)), 4, a0.SensorType, a0.Sensor, a0.Type_, x1, x2, x3], 0)))
def eventlog_Log_Add (fuel : Nat) (a0 : eventlog_Log) (a1 : Event_) (ad : flash_Device) : Option (Int × Int × eventlog_Log × flash_Device) :=
  bindP (eventlog_Log_down fuel a0 ad) fun y1 =>
  iteP y1.1 (
  none) (
  bindP (event_Valid fuel a1) fun y2 =>
  iteP (!y2) (
  none) (
  iteP (a1.ID != 0) (
  none) (
  bindP (chk y1.2.1.d) fun _ =>
  letP (y1.2.1.newest == 0) fun x1 =>
  iteP x1 (
  bindP (eventlog_Log_grow fuel y1.2.1 y1.2.2) fun y3 =>
  iteP (y3.1 != 0) (
  none) (
  letP ({ a1 with ID := y3.2.1.next }) fun d1 =>
  bindP (event_Encode fuel d1) fun y4 =>
  bindP (chk y3.2.1.d) fun _ =>
  bindP (chk (decide (y3.2.1.sectors ≠ 0))) fun _ =>
  bindP (flash_Device_Size fuel y3.2.2) fun y5 =>
  letP (IntKind.i64.wrap ((IntKind.i64.wrap ((IntKind.i64.wrap ((IntKind.i64.wrap (y3.2.1.first + (Int.tmod (IntKind.i64.wrap (y3.2.1.newest - 1)) y3.2.1.sectors))) * y5)) + 11)) + (IntKind.i64.wrap (y3.2.1.used * 17)))) fun x2 =>
  bindP (app 1 y4.1 ([0])) fun x3 =>
  bindP (flash_Device_Program fuel y3.2.2 x2 x3) fun y6 =>
  iteP (y6.1 != 0) (
  none) (
  bindP (app 32 y3.2.1.records ([(⟨y3.2.1.newest, d1⟩ : eventlog_record)])) fun x4 =>
  letP ({ y3.2.1 with used := (IntKind.i64.wrap (y3.2.1.used + 1)) }) fun d2 =>
  bindP (eventlog_behind fuel d1.ID) fun y7 =>
  letP ({ d2 with next := y7 }) fun d3 =>
  some (d1.ID, 0, { { d3 with d := y3.2.1.d } with records := x4 }, y6.2)))) (
  none))))
def eventlog_Log_Len (fuel : Nat) (a0 : eventlog_Log) : Option (Int) :=
  letP (a0.records.length : Int) fun x1 =>
  some x1
def top_first (fuel : Nat)  : Option (Bool) :=
  bindP (monitor_New fuel ([(⟨1, 1, 0, [116], Entity_.z, false, (⟨1, false, 1, 0, 0, 0, []⟩ : Conversion_), (⟨8, (upd (List.replicate 6 0) (3 : Int) 80)⟩ : Thresholds_), 0, 0, 0, 8, 0, false, 1⟩ : Sensor_)]) ([])) fun y1 =>
  bindP (flash_New fuel 2 64) fun y2 =>
  iteP y1.1.isNone (
  none) (
  iteP y2.1.isNone (
  none) (
  iteP (y1.2 != 0) (
  none) (
  iteP (y2.2 != 0) (
  none) (
  bindP y2.1 fun x1 =>
  bindP (eventlog_Open fuel x1 0 2 false) fun y3 =>
  bindP y1.1 fun x2 =>
  bindP (monitor_Monitor_Scan fuel x2 ([(⟨1, true, 80, 0⟩ : Sample_)]) ([]) true) fun y4 =>
  iteP y3.1.isNone (
  none) (
  iteP (y3.2 != 0) (
  none) (
  iteP (y4.2.1 != 0) (
  none) (
  iteP ((y4.1.length : Int) != 1) (
  none) (
  bindP (idx y4.1 0) fun x3 =>
  bindP y3.1 fun x4 =>
  bindP (eventlog_Log_Add fuel x4 x3 x1) fun y5 =>
  iteP (y5.2.1 == 0) (
  iteP (y5.1 == 1) (
  bindP (eventlog_Log_Len fuel y5.2.2.1) fun y6 =>
  letP (y6 == 1) fun x5 =>
  some x5) (
  none)) (
  none)))))))))
def made_Light (fuel : Nat) (a0 : List Int) : Option (Bool) :=
  letP (decide ((a0.length : Int) ≤ 600)) fun x1 =>
  some x1
def made_Roll (fuel : Nat) (a0 : List Int) : Option (made_Dice) :=
  some (⟨a0, 0⟩ : made_Dice)
def made_Mod (fuel : Nat) (a0 : Int) (a1 : Int) : Option (Int) :=
  bindP (chk (decide (a1 ≠ 0))) fun _ =>
  iteP (decide ((Int.tmod a0 a1) < 0)) (
  letP (IntKind.i64.wrap ((Int.tmod a0 a1) + a1)) fun x1 =>
  some x1) (
  some (Int.tmod a0 a1))
def made_Dice_Next (fuel : Nat) (a0 : made_Dice) (a1 : Int) : Option (Int × made_Dice) :=
  iteP (decide (a0.At ≥ (a0.L.length : Int))) (
  some (0, a0)) (
  letP ({ a0 with At := (IntKind.i64.wrap (a0.At + 1)) }) fun d1 =>
  bindP (idx d1.L (IntKind.i64.wrap (d1.At - 1))) fun x1 =>
  bindP (made_Mod fuel x1 a1) fun y1 =>
  some (y1, d1))
def made_Dice_Bool (fuel : Nat) (a0 : made_Dice) (a1 : Int) : Option (Bool × made_Dice) :=
  bindP (made_Dice_Next fuel a0 a1) fun y1 =>
  letP (y1.1 == (IntKind.i64.wrap (a1 - 1))) fun x1 =>
  some (x1, y1.2)
def made_Dice_Byte (fuel : Nat) (a0 : made_Dice) : Option (Int × made_Dice) :=
  letP ([0, 1, 127, 128, 254, 255, 15, 240]) fun d1 =>
  bindP (made_Dice_Bool fuel a0 3) fun y1 =>
  iteP y1.1 (
  bindP (made_Dice_Next fuel y1.2 8) fun y2 =>
  bindP (idx d1 y2.1) fun x1 =>
  bindP (chk (Nat.beq d1.length 8)) fun _ =>
  some (x1, y2.2)) (
  bindP (made_Dice_Next fuel y1.2 256) fun y3 =>
  some ((IntKind.u8.wrap y3.1), y3.2))
def made_Dice_Text (fuel : Nat) (a0 : made_Dice) (a1 : List Int) (a2 : Int) : Option ((List Int) × made_Dice) :=
  loopP (fun k1 (s1 : ((List Int) × Int × made_Dice)) =>
  iteP (decide (s1.2.1 < a2)) (
  bindP (made_Dice_Next fuel s1.2.2 (a1.length : Int)) fun y1 =>
  bindP (sub a1 y1.1 (IntKind.i64.wrap (y1.1 + 1))) fun x1 =>
  bindP (cat s1.1 x1) fun x2 =>
  letP (IntKind.i64.wrap (s1.2.1 + 1)) fun x3 =>
  k1 (x2, x3, y1.2)) (
  some (s1.1, s1.2.2))) fuel ([], 0, a0)
def made_Dice_Entity (fuel : Nat) (a0 : made_Dice) : Option (Entity_ × made_Dice) :=
  bindP (made_Dice_Next fuel a0 4) fun y1 =>
  bindP (made_Dice_Next fuel y1.2 2) fun y2 =>
  some ((⟨(IntKind.u8.wrap (IntKind.i64.wrap (1 + y1.1))), (IntKind.u8.wrap y2.1)⟩ : Entity_), y2.2)
def ref04_Least (fuel : Nat) (a0 : Bool) : Option (Int) :=
  iteP a0 (
  some (-128)) (
  some 0)
def ref04_Raw (fuel : Nat) (a0 : Int) : Option (Int) :=
  letP (IntKind.u8.wrap (Int.tmod (IntKind.i64.wrap (a0 + 256)) 256)) fun x1 =>
  some x1
def made_Dice_Micro (fuel : Nat) (a0 : made_Dice) : Option (Int × made_Dice) :=
  letP ([0, 1, (-1), 1000000, (-1000000), 1000000000000, (-1000000000000), 500000]) fun d1 =>
  bindP (made_Dice_Next fuel a0 3) fun y1 =>
  letP (y1.1 == 0) fun x1 =>
  iteP x1 (
  bindP (made_Dice_Next fuel y1.2 8) fun y2 =>
  bindP (idx d1 y2.1) fun x2 =>
  bindP (chk (Nat.beq d1.length 8)) fun _ =>
  some (x2, y2.2)) (
  letP (y1.1 == 1) fun x3 =>
  iteP x3 (
  bindP (made_Dice_Next fuel y1.2 2000001) fun y3 =>
  letP (IntKind.i64.wrap (y3.1 - 1000000)) fun x4 =>
  some (x4, y3.2)) (
  bindP (made_Dice_Next fuel y1.2 2000001) fun y4 =>
  bindP (made_Dice_Next fuel y4.2 1000) fun y5 =>
  letP (IntKind.i64.wrap ((IntKind.i64.wrap ((IntKind.i64.wrap (y4.1 - 1000000)) * 1000)) * (IntKind.i64.wrap (1 + y5.1)))) fun x5 =>
  some (x5, y5.2)))
def made_Dice_Conversion (fuel : Nat) (a0 : made_Dice) : Option (Conversion_ × made_Dice) :=
  bindP (made_Dice_Next fuel a0 5) fun y1 =>
  bindP (made_Dice_Bool fuel y1.2 2) fun y2 =>
  iteP ((IntKind.i64.wrap (1 + y1.1)) != 5) (
  bindP (made_Dice_Next fuel y2.2 1024) fun y3 =>
  bindP (made_Dice_Next fuel y3.2 1024) fun y4 =>
  bindP (made_Dice_Bool fuel y4.2 2) fun y5 =>
  joinP (fun (s1 : (made_Dice × Conversion_)) =>
  bindP (made_Dice_Next fuel s1.1 7) fun y6 =>
  letP ({ s1.2 with K1 := (IntKind.i64.wrap (y6.1 - 3)) }) fun d1 =>
  bindP (made_Dice_Next fuel y6.2 7) fun y7 =>
  letP ({ d1 with K2 := (IntKind.i64.wrap (y7.1 - 3)) }) fun d2 =>
  some ({ d2 with Points := [] }, y7.2)) fun j1 =>
  iteP y5.1 (
  bindP (made_Dice_Next fuel y5.2 21) fun y8 =>
  bindP (made_Dice_Next fuel y8.2 41) fun y9 =>
  j1 (y9.2, (⟨(IntKind.i64.wrap (1 + y1.1)), y2.1, (IntKind.i64.wrap (y8.1 - 10)), (IntKind.i64.wrap (y9.1 - 20)), 0, 0, []⟩ : Conversion_))) (
  j1 (y5.2, (⟨(IntKind.i64.wrap (1 + y1.1)), y2.1, (IntKind.i64.wrap (y3.1 - 512)), (IntKind.i64.wrap (y4.1 - 512)), 0, 0, []⟩ : Conversion_)))) (
  bindP (made_Dice_Next fuel y2.2 11) fun y10 =>
  letP (IntKind.i64.wrap (2 + y10.1)) fun x1 =>
  bindP (ref04_Least fuel y2.1) fun y11 =>
  bindP (made_Dice_Next fuel y10.2 40) fun y12 =>
  letP (IntKind.i64.wrap (y11 + y12.1)) fun x2 =>
  loopP (fun k1 (s2 : (Int × Int × made_Dice × (List Point_))) =>
  iteP (decide (s2.2.1 < x1)) (
  bindP (ref04_Raw fuel s2.1) fun y13 =>
  bindP (made_Dice_Micro fuel s2.2.2.1) fun y14 =>
  bindP (app 16 s2.2.2.2 ([(⟨y13, y14.1⟩ : Point_)])) fun x3 =>
  bindP (made_Dice_Next fuel y14.2 18) fun y15 =>
  letP (IntKind.i64.wrap (s2.1 + (IntKind.i64.wrap (1 + y15.1)))) fun x4 =>
  letP (IntKind.i64.wrap (s2.2.1 + 1)) fun x5 =>
  k1 (x4, x5, y15.2, x3)) (
  some ((⟨(IntKind.i64.wrap (1 + y1.1)), y2.1, 0, 0, 0, 0, s2.2.2.2⟩ : Conversion_), s2.2.2.1))) fuel (x2, 0, y12.2, []))
def ref10_Has (fuel : Nat) (a0 : Int) (a1 : Int) : Option (Bool) :=
  bindP (chk (decide (0 ≤ (IntKind.u64.wrap a1)))) fun _ =>
  letP ((Int.tmod (bShr .u16 a0 (IntKind.u64.wrap a1)) 2) == 1) fun x1 =>
  some x1
def made_Dice_thresholds (fuel : Nat) (a0 : made_Dice) (a1 : Bool) : Option (Thresholds_ × made_Dice) :=
  bindP (made_Dice_Next fuel a0 64) fun y1 =>
  bindP (ref04_Least fuel a1) fun y2 =>
  bindP (made_Dice_Next fuel y1.2 40) fun y3 =>
  letP (IntKind.i64.wrap (y2 + y3.1)) fun x1 =>
  letP ([2, 1, 0, 3, 4, 5]) fun d1 =>
  loopP (fun k1 (s1 : (Int × Int × made_Dice × Thresholds_)) =>
  iteP (decide (s1.2.1 < 6)) (
  joinP (fun (s2 : Int) =>
  bindP (idx d1 s1.2.1) fun x2 =>
  bindP (chk (Nat.beq d1.length 6)) fun _ =>
  bindP (ref10_Has fuel (IntKind.u16.wrap s1.2.2.2.Mask) x2) fun y4 =>
  iteP y4 (
  bindP (idx d1 s1.2.1) fun x3 =>
  bindP (chk (Nat.beq d1.length 6)) fun _ =>
  bindP (ref04_Raw fuel s2) fun y5 =>
  bindP (idx s1.2.2.2.Raw x3) fun x4 =>
  bindP (chk (Nat.beq s1.2.2.2.Raw.length 6)) fun _ =>
  letP ({ s1.2.2.2 with Raw := upd s1.2.2.2.Raw x3 y5 }) fun d2 =>
  bindP (made_Dice_Next fuel s1.2.2.1 36) fun y6 =>
  letP (IntKind.i64.wrap (s2 + y6.1)) fun x5 =>
  letP (IntKind.i64.wrap (s1.2.1 + 1)) fun x6 =>
  k1 (x5, x6, y6.2, d2)) (
  letP (IntKind.i64.wrap (s1.2.1 + 1)) fun x7 =>
  k1 (s2, x7, s1.2.2.1, s1.2.2.2))) fun j1 =>
  iteP (s1.2.1 == 3) (
  letP (IntKind.i64.wrap (s1.1 + 1)) fun x8 =>
  j1 (x8)) (
  j1 (s1.1))) (
  some (s1.2.2.2, s1.2.2.1))) fuel (x1, 0, y3.2, (⟨(IntKind.u8.wrap y1.1), (List.replicate 6 0)⟩ : Thresholds_))
def made_Dice_Sensor (fuel : Nat) (a0 : made_Dice) (a1 : Int) : Option (Sensor_ × made_Dice) :=
  bindP (made_Dice_Next fuel a0 4) fun y1 =>
  bindP (made_Dice_Byte fuel y1.2) fun y2 =>
  bindP (made_Dice_Next fuel y2.2 16) fun y3 =>
  bindP (made_Dice_Text fuel y3.2 ([67, 80, 85, 32, 84, 101, 109, 112, 46, 48, 49, 57]) (IntKind.i64.wrap (1 + y3.1))) fun y4 =>
  bindP (made_Dice_Entity fuel y4.2) fun y5 =>
  bindP (made_Dice_Bool fuel y5.2 4) fun y6 =>
  bindP (made_Dice_Bool fuel y6.2 3) fun y7 =>
  iteP y7.1 (
  bindP (made_Dice_Next fuel y7.2 32768) fun y8 =>
  bindP (made_Dice_Next fuel y8.2 4) fun y9 =>
  bindP (made_Dice_Next fuel y9.2 4) fun y10 =>
  bindP (made_Dice_Next fuel y10.2 300) fun y11 =>
  some ((⟨a1, (IntKind.u8.wrap (IntKind.i64.wrap (1 + y1.1))), y2.1, y4.1, y5.1, true, Conversion_.z, Thresholds_.z, 0, 0, (IntKind.u16.wrap y8.1), (bAndNot .u16 (IntKind.u16.wrap y8.1) (IntKind.u16.wrap y9.1)), (bAndNot .u16 (IntKind.u16.wrap y8.1) (IntKind.u16.wrap (IntKind.i64.wrap (y10.1 * y11.1)))), y6.1, 1⟩ : Sensor_), y11.2)) (
  bindP (made_Dice_Next fuel y7.2 3) fun y12 =>
  bindP (made_Dice_Conversion fuel y12.2) fun y13 =>
  bindP (made_Dice_thresholds fuel y13.2 y13.1.Signed) fun y14 =>
  bindP (made_Dice_Next fuel y14.2 5) fun y15 =>
  bindP (made_Dice_Next fuel y15.2 5) fun y16 =>
  bindP (made_Dice_Bool fuel y16.2 12) fun y17 =>
  joinP (fun (s1 : (made_Dice × Sensor_)) =>
  letP (IntKind.u16.wrap s1.2.Limits.Mask) fun x1 =>
  letP ({ s1.2 with Assert := x1 }) fun d1 =>
  letP ({ d1 with Deassert := x1 }) fun d2 =>
  bindP (made_Dice_Bool fuel s1.1 3) fun y18 =>
  iteP y18.1 (
  bindP (made_Dice_Next fuel y18.2 64) fun y19 =>
  letP ({ d2 with Assert := (bAndNot .u16 x1 (IntKind.u16.wrap y19.1)) }) fun d3 =>
  bindP (made_Dice_Next fuel y19.2 64) fun y20 =>
  letP ({ d3 with Deassert := (bAndNot .u16 x1 (IntKind.u16.wrap y20.1)) }) fun d4 =>
  some (d4, y20.2)) (
  some (d2, y18.2))) fun j1 =>
  iteP y17.1 (
  bindP (made_Dice_Byte fuel y17.2) fun y21 =>
  j1 (y21.2, (⟨a1, (IntKind.u8.wrap (IntKind.i64.wrap (1 + y1.1))), y2.1, y4.1, y5.1, false, y13.1, y14.1, (IntKind.u8.wrap y15.1), y21.1, 0, 0, 0, y6.1, (IntKind.i64.wrap (1 + (IntKind.i64.wrap (2 * y12.1))))⟩ : Sensor_))) (
  j1 (y17.2, (⟨a1, (IntKind.u8.wrap (IntKind.i64.wrap (1 + y1.1))), y2.1, y4.1, y5.1, false, y13.1, y14.1, (IntKind.u8.wrap y15.1), (IntKind.u8.wrap y16.1), 0, 0, 0, y6.1, (IntKind.i64.wrap (1 + (IntKind.i64.wrap (2 * y12.1))))⟩ : Sensor_))))
def made_Dice_Sensors (fuel : Nat) (a0 : made_Dice) (a1 : Int) : Option ((List Sensor_) × made_Dice) :=
  bindP (made_Dice_Next fuel a0 20) fun y1 =>
  bindP (made_Dice_Next fuel y1.2 (IntKind.i64.wrap (a1 + 1))) fun y2 =>
  loopP (fun k1 (s1 : (Int × Int × made_Dice × (List Sensor_))) =>
  iteP (decide (s1.2.1 > 0)) (
  bindP (made_Dice_Sensor fuel s1.2.2.1 (IntKind.u8.wrap s1.1)) fun y3 =>
  bindP (app 136 s1.2.2.2 ([y3.1])) fun x1 =>
  bindP (made_Dice_Next fuel y3.2 5) fun y4 =>
  letP (IntKind.i64.wrap (s1.1 + (IntKind.i64.wrap (1 + y4.1)))) fun x2 =>
  letP (IntKind.i64.wrap (s1.2.1 - 1)) fun x3 =>
  k1 (x2, x3, y4.2, x1)) (
  some (s1.2.2.2, s1.2.2.1))) fuel (y1.1, y2.1, y2.2, [])
def repository_New (fuel : Nat) (a0 : Int) : Option ((Option repository_Repository) × Int) :=
  joinP (fun (s1 : Bool) =>
  iteP s1 (
  some (none, 2)) (
  some ((some (⟨a0, [], 0, 0, false⟩ : repository_Repository)), 0))) fun j1 =>
  iteP (decide (a0 < 1)) (
  j1 (true)) (
  j1 (decide (a0 > 10240)))
def sensor_two (fuel : Nat) (a0 : List Int) : Option ((List Int)) :=
  loopP (fun k1 (s1 : (Int × (List Int))) =>
  iteP (decide (s1.1 < (a0.length : Int))) (
  bindP (idx a0 s1.1) fun x1 =>
  bindP (app 1 s1.2 ([(IntKind.u8.wrap x1), (IntKind.u8.wrap (bShr .u16 x1 8))])) fun x2 =>
  k1 ((IntKind.i64.wrap (s1.1 + 1)), x2)) (
  some s1.2)) fuel (0, [])
def checksum_Sum8 (fuel : Nat) (a0 : List Int) : Option (Int) :=
  loopP (fun k1 (s1 : (Int × Int)) =>
  iteP (decide (s1.2 < (a0.length : Int))) (
  bindP (idx a0 s1.2) fun x1 =>
  letP (IntKind.u8.wrap (s1.1 + x1)) fun x2 =>
  k1 (x2, (IntKind.i64.wrap (s1.2 + 1)))) (
  letP (IntKind.u8.wrap (0 - s1.1)) fun x3 =>
  some x3)) fuel (0, 0)
def checksum_Seal8 (fuel : Nat) (a0 : List Int) : Option ((List Int)) :=
  bindP (slices_Clone_byte_byte fuel a0) fun y1 =>
  bindP (checksum_Sum8 fuel a0) fun y2 =>
  bindP (app 1 y1 ([y2])) fun x1 =>
  some x1
def convert_write (fuel : Nat) (a0 : Int) (a1 : Int) : Option ((List Int)) :=
  loopP (fun k1 (s1 : (Int × Int × (List Int))) =>
  iteP (decide (s1.2.1 < a1)) (
  bindP (app 1 s1.2.2 ([(IntKind.u8.wrap s1.1)])) fun x1 =>
  k1 ((bShr .i64 s1.1 8), (IntKind.i64.wrap (s1.2.1 + 1)), x1)) (
  some s1.2.2)) fuel (a0, 0, [])
def convert_Encode (fuel : Nat) (a0 : Conversion_) : Option ((List Int) × Int) :=
  bindP (convert_Valid fuel a0) fun y1 =>
  iteP (!y1) (
  some ([], 1)) (
  joinP (fun (s1 : ((List Int))) =>
  iteP (a0.Form != 5) (
  bindP (convert_write fuel a0.M 2) fun y2 =>
  bindP (app 1 s1 y2) fun x1 =>
  bindP (convert_write fuel a0.B 2) fun y3 =>
  bindP (app 1 x1 y3) fun x2 =>
  bindP (app 1 x2 ([(IntKind.u8.wrap a0.K1), (IntKind.u8.wrap a0.K2)])) fun x3 =>
  some (x3, 0)) (
  bindP (app 1 s1 ([(IntKind.u8.wrap (a0.Points.length : Int))])) fun x4 =>
  loopP (fun k1 (s2 : (Int × (List Int))) =>
  iteP (decide (s2.1 < (a0.Points.length : Int))) (
  bindP (idx a0.Points s2.1) fun x5 =>
  bindP (app 1 s2.2 ([x5.Raw])) fun x6 =>
  bindP (convert_write fuel x5.Value 6) fun y4 =>
  bindP (app 1 x6 y4) fun x7 =>
  k1 ((IntKind.i64.wrap (s2.1 + 1)), x7)) (
  some (s2.2, 0))) fuel (0, x4))) fun j1 =>
  iteP a0.Signed (
  bindP (idx ([(IntKind.u8.wrap a0.Form)]) 0) fun x8 =>
  letP (upd ([(IntKind.u8.wrap a0.Form)]) 0 (bOr .u8 x8 128)) fun d1 =>
  j1 (d1)) (
  j1 ([(IntKind.u8.wrap a0.Form)])))
def sensor_Encode (fuel : Nat) (a0 : Sensor_) : Option ((List Int) × Int) :=
  bindP (sensor_Valid fuel a0) fun y1 =>
  iteP (!y1) (
  some ([], 1)) (
  letP (IntKind.u8.wrap (IntKind.i64.wrap (4 * a0.Samples))) fun x1 =>
  joinP (fun (s1 : Int) =>
  joinP (fun (s2 : Int) =>
  bindP (app 1 ([1, a0.Number, a0.Type_, a0.Unit, a0.Entity.ID, a0.Entity.Instance, s2, (IntKind.u8.wrap (a0.Name.length : Int))]) a0.Name) fun x2 =>
  iteP a0.Discrete (
  bindP (sensor_two fuel ([a0.States, a0.Assert, a0.Deassert])) fun y2 =>
  bindP (app 1 x2 y2) fun x3 =>
  bindP (checksum_Seal8 fuel x3) fun y3 =>
  some (y3, 0)) (
  bindP (convert_Encode fuel a0.Conversion) fun y4 =>
  bindP (app 1 x2 y4.1) fun x4 =>
  bindP (app 1 x4 ([a0.Limits.Mask])) fun x5 =>
  bindP (app 1 x5 a0.Limits.Raw) fun x6 =>
  bindP (app 1 x6 ([a0.HystLower, a0.HystUpper])) fun x7 =>
  bindP (sensor_two fuel ([a0.Assert, a0.Deassert])) fun y5 =>
  bindP (app 1 x7 y5) fun x8 =>
  bindP (checksum_Seal8 fuel x8) fun y6 =>
  some (y6, 0))) fun j2 =>
  iteP a0.HostOn (
  j2 ((bOr .u8 s1 2))) (
  j2 (s1))) fun j1 =>
  iteP a0.Discrete (
  j1 ((bOr .u8 x1 1))) (
  j1 (x1)))
def repository_Repository_Free (fuel : Nat) (a0 : repository_Repository) : Option (Int) :=
  loopP (fun k1 (s1 : (Int × Int)) =>
  iteP (decide (s1.2 < (a0.records.length : Int))) (
  bindP (idx a0.records s1.2) fun x1 =>
  letP (IntKind.i64.wrap (s1.1 - (x1.bytes.length : Int))) fun x2 =>
  k1 (x2, (IntKind.i64.wrap (s1.2 + 1)))) (
  some s1.1)) fuel (a0.capacity, 0)
def repository_Repository_find_1_2 (fuel : Nat) (a0 : repository_record) (a1 : Int) : Option (Bool) :=
  letP (a0.id == a1) fun x1 =>
  some x1
def slices_IndexFunc_repository_record_repository_record_repository_Repository_find_1 (fuel : Nat) (a0 : List repository_record) (a1_0 : Int) : Option (Int) :=
  loopP (fun k1 (s1 : Int) =>
  iteP (decide (s1 < (a0.length : Int))) (
  bindP (idx a0 s1) fun x1 =>
  bindP (repository_Repository_find_1_2 fuel x1 a1_0) fun y1 =>
  iteP y1 (
  some s1) (
  k1 ((IntKind.i64.wrap (s1 + 1))))) (
  some (-1))) fuel (0)
def repository_Repository_find (fuel : Nat) (a0 : repository_Repository) (a1 : Int) : Option (Int) :=
  bindP (slices_IndexFunc_repository_record_repository_record_repository_Repository_find_1 fuel a0.records a1) fun y1 =>
  some y1
def repository_Repository_Add (fuel : Nat) (a0 : repository_Repository) (a1 : List Int) : Option (Int × Int × repository_Repository) :=
  joinP (fun (s1 : Bool) =>
  iteP s1 (
  some (0, 1, a0)) (
  letP ((a0.records.length : Int) == 64) fun x1 =>
  iteP x1 (
  some (0, 3, a0)) (
  bindP (repository_Repository_Free fuel a0) fun y1 =>
  letP (decide ((a1.length : Int) > y1)) fun x2 =>
  iteP x2 (
  some (0, 9, a0)) (
  loopP (fun k1 (s2 : repository_Repository) =>
  letP ({ s2 with last := (IntKind.u16.wrap ((Int.tmod s2.last 65534) + 1)) }) fun d1 =>
  bindP (repository_Repository_find fuel ({ d1 with records := s2.records }) d1.last) fun y2 =>
  iteP (decide (y2 < 0)) (
  bindP (slices_Clone_byte_byte fuel a1) fun y3 =>
  bindP (app 32 s2.records ([(⟨({ d1 with records := s2.records }).last, y3⟩ : repository_record)])) fun x3 =>
  letP ({ { d1 with records := s2.records } with held := false }) fun d2 =>
  some (d2.last, 0, { d2 with records := x3 })) (
  k1 ({ d1 with records := s2.records }))) fuel (a0))))) fun j1 =>
  iteP ((a1.length : Int) == 0) (
  j1 (true)) (
  letP (decide ((a1.length : Int) > 160)) fun x4 =>
  j1 (x4))
def repository_Repository_Reserve (fuel : Nat) (a0 : repository_Repository) : Option (Int × repository_Repository) :=
  joinP (fun (s1 : repository_Repository) =>
  letP ({ s1 with number := (IntKind.u16.wrap (s1.number + 1)) }) fun d1 =>
  letP ({ d1 with held := true }) fun d2 =>
  some (d2.number, { d2 with records := s1.records })) fun j1 =>
  iteP (a0.number == 65535) (
  letP ({ a0 with number := 0 }) fun d3 =>
  j1 ({ d3 with records := a0.records })) (
  j1 (a0))
def repository_Repository_IDs (fuel : Nat) (a0 : repository_Repository) : Option ((List Int)) :=
  loopP (fun k1 (s1 : (Int × (List Int))) =>
  iteP (decide (s1.1 < (a0.records.length : Int))) (
  bindP (idx a0.records s1.1) fun x1 =>
  bindP (app 2 s1.2 ([x1.id])) fun x2 =>
  k1 ((IntKind.i64.wrap (s1.1 + 1)), x2)) (
  some s1.2)) fuel (0, [])
def repository_Repository_look (fuel : Nat) (a0 : repository_Repository) (a1 : Int) : Option ((List Int) × Int × Int) :=
  bindP (repository_Repository_find fuel a0 a1) fun y1 =>
  joinP (fun (s1 : Int) =>
  joinP (fun (s2 : Bool) =>
  iteP s2 (
  some ([], 0, 8)) (
  joinP (fun (s3 : Int) =>
  bindP (idx a0.records s1) fun x1 =>
  some (x1.bytes, s3, 0)) fun j3 =>
  iteP (decide ((IntKind.i64.wrap (s1 + 1)) < (a0.records.length : Int))) (
  bindP (idx a0.records (IntKind.i64.wrap (s1 + 1))) fun x2 =>
  j3 (x2.id)) (
  j3 (0)))) fun j2 =>
  iteP (decide (s1 < 0)) (
  j2 (true)) (
  j2 (decide (s1 ≥ (a0.records.length : Int))))) fun j1 =>
  iteP (a1 == 0) (
  j1 (0)) (
  j1 (y1))
def repository_Repository_Get (fuel : Nat) (a0 : repository_Repository) (a1 : Int) : Option ((List Int) × Int × Int) :=
  bindP (repository_Repository_look fuel a0 a1) fun y1 =>
  bindP (slices_Clone_byte_byte fuel y1.1) fun y2 =>
  some (y2, y1.2.1, y1.2.2)
def repository_Repository_holds (fuel : Nat) (a0 : repository_Repository) (a1 : Int) : Option (Bool) :=
  iteP a0.held (
  letP (a1 == a0.number) fun x1 =>
  some x1) (
  some false)
def repository_Repository_Read (fuel : Nat) (a0 : repository_Repository) (a1 : Int) (a2 : Int) (a3 : Int) (a4 : Int) : Option ((List Int) × Int × Int) :=
  joinP (fun (s1 : Bool) =>
  iteP s1 (
  some ([], 0, 11)) (
  bindP (repository_Repository_look fuel a0 a2) fun y1 =>
  letP (y1.2.2 != 0) fun x1 =>
  iteP x1 (
  some ([], 0, y1.2.2)) (
  joinP (fun (s2 : Bool) =>
  iteP s2 (
  some ([], 0, 2)) (
  bindP (sub y1.1 a3 (IntKind.i64.wrap (a3 + a4))) fun x2 =>
  bindP (slices_Clone_byte_byte fuel x2) fun y2 =>
  some (y2, y1.2.1, 0))) fun j2 =>
  iteP (decide (a3 < 0)) (
  j2 (true)) (
  iteP (decide (a4 < 0)) (
  j2 (true)) (
  iteP (decide (a3 > (y1.1.length : Int))) (
  j2 (true)) (
  letP (decide (a4 > (IntKind.i64.wrap ((y1.1.length : Int) - a3)))) fun x3 =>
  j2 (x3))))))) fun j1 =>
  iteP (a3 != 0) (
  bindP (repository_Repository_holds fuel a0 a1) fun y3 =>
  j1 (!y3)) (
  j1 (false))
def checksum_Open8 (fuel : Nat) (a0 : List Int) : Option ((List Int) × Int) :=
  letP ((a0.length : Int) == 0) fun x1 =>
  iteP x1 (
  some ([], 4)) (
  bindP (checksum_Sum8 fuel a0) fun y1 =>
  letP (y1 != 0) fun x2 =>
  iteP x2 (
  some ([], 5)) (
  bindP (sub a0 0 (IntKind.i64.wrap ((a0.length : Int) - 1))) fun x3 =>
  bindP (slices_Clone_byte_byte fuel x3) fun y2 =>
  some (y2, 0)))
def convert_length (fuel : Nat) (a0 : List Int) : Option (Int × Int) :=
  letP ((a0.length : Int) == 0) fun x1 =>
  iteP x1 (
  some (0, 4)) (
  bindP (idx a0 0) fun x2 =>
  joinP (fun (s1 : Bool) =>
  iteP s1 (
  some (0, 6)) (
  bindP (idx a0 0) fun x3 =>
  letP ((bAndNot .u8 x3 128) != 5) fun x4 =>
  iteP x4 (
  some (7, 0)) (
  letP ((a0.length : Int) == 1) fun x5 =>
  iteP x5 (
  some (0, 4)) (
  bindP (idx a0 1) fun x6 =>
  joinP (fun (s2 : Bool) =>
  iteP s2 (
  some (0, 6)) (
  bindP (idx a0 1) fun x7 =>
  letP (IntKind.i64.wrap (2 + (IntKind.i64.wrap (7 * (IntKind.i64.wrap x7))))) fun x8 =>
  some (x8, 0))) fun j2 =>
  iteP (decide (x6 < 2)) (
  j2 (true)) (
  letP (decide (x6 > 12)) fun x9 =>
  j2 (x9)))))) fun j1 =>
  iteP (decide ((bAndNot .u8 x2 128) < 1)) (
  j1 (true)) (
  letP (decide ((bAndNot .u8 x2 128) > 5)) fun x10 =>
  j1 (x10)))
def slices_Chunk_byte_byte (fuel : Nat) (a0 : List Int) (a1 : Int) : Option (((List Int) × Int)) :=
  iteP (decide (a1 < 1)) (
  none) (
  some (a0, a1))
def convert_read (fuel : Nat) (a0 : List Int) : Option (Int) :=
  bindP (idx a0 (IntKind.i64.wrap ((a0.length : Int) - 1))) fun x1 =>
  letP (IntKind.i64.wrap (IntKind.i8.wrap x1)) fun x2 =>
  letP (IntKind.i64.wrap ((a0.length : Int) - 2)) fun x3 =>
  loopP (fun k1 (s1 : (Int × Int)) =>
  iteP (decide (s1.2 ≥ 0)) (
  bindP (idx a0 s1.2) fun x4 =>
  letP (bOr .i64 (bShl .i64 s1.1 8) (IntKind.i64.wrap x4)) fun x5 =>
  letP (IntKind.i64.wrap (s1.2 - 1)) fun x6 =>
  k1 (x5, x6)) (
  some s1.1)) fuel (x2, x3)
def slices_Chunk_byte_byte_1_2 {σ : Type} (fuel : Nat) (bd_ : σ → (List Int) → Option σ) (s_ : σ) (a1 : List Int) (a2 : Int) : Option (σ) :=
  loopP (fun k1 (s1 : (Int × σ)) =>
  iteP (decide (s1.1 < (a1.length : Int))) (
  bindP (sub a1 s1.1 a1.length) fun x1 =>
  letP (min a2 (x1.length : Int)) fun x2 =>
  bindP (sub a1 s1.1 (IntKind.i64.wrap (s1.1 + x2))) fun x3 =>
  bindP (bd_ s1.2 x3) fun y1 =>
  letP (IntKind.i64.wrap (s1.1 + a2)) fun x4 =>
  k1 (x4, y1)) (
  some s1.2)) fuel (0, s_)
def convert_Decode (fuel : Nat) (a0 : List Int) : Option (Conversion_ × Int × Int) :=
  bindP (convert_length fuel a0) fun y1 =>
  letP (y1.2 != 0) fun x1 =>
  iteP x1 (
  some (Conversion_.z, 0, y1.2)) (
  letP (decide ((a0.length : Int) < y1.1)) fun x2 =>
  iteP x2 (
  some (Conversion_.z, 0, 4)) (
  bindP (idx a0 0) fun x3 =>
  iteP ((IntKind.i64.wrap (bAndNot .u8 x3 128)) == 5) (
  bindP (sub a0 2 y1.1) fun x4 =>
  bindP (slices_Chunk_byte_byte fuel x4 7) fun y2 =>
  bindP (slices_Chunk_byte_byte_1_2 fuel (fun (s1 : ((List Point_))) (x5 : List Int) =>
  bindP (idx x5 0) fun x6 =>
  bindP (sub x5 1 x5.length) fun x7 =>
  bindP (convert_read fuel x7) fun y4 =>
  bindP (app 16 s1 ([(⟨x6, y4⟩ : Point_)])) fun x8 =>
  some (x8)) ([]) y2.1 y2.2) fun y3 =>
  bindP (convert_Valid fuel (⟨(IntKind.i64.wrap (bAndNot .u8 x3 128)), (bAnd .u8 x3 128) != 0, 0, 0, 0, 0, y3⟩ : Conversion_)) fun y5 =>
  iteP (!y5) (
  some (Conversion_.z, 0, 1)) (
  some ((⟨(IntKind.i64.wrap (bAndNot .u8 x3 128)), (bAnd .u8 x3 128) != 0, 0, 0, 0, 0, y3⟩ : Conversion_), y1.1, 0))) (
  bindP (sub a0 1 3) fun x9 =>
  bindP (convert_read fuel x9) fun y6 =>
  bindP (sub a0 3 5) fun x10 =>
  bindP (convert_read fuel x10) fun y7 =>
  bindP (sub a0 5 6) fun x11 =>
  bindP (convert_read fuel x11) fun y8 =>
  bindP (sub a0 6 7) fun x12 =>
  bindP (convert_read fuel x12) fun y9 =>
  bindP (convert_Valid fuel (⟨(IntKind.i64.wrap (bAndNot .u8 x3 128)), (bAnd .u8 x3 128) != 0, y6, y7, y8, y9, []⟩ : Conversion_)) fun y10 =>
  iteP (!y10) (
  some (Conversion_.z, 0, 1)) (
  some ((⟨(IntKind.i64.wrap (bAndNot .u8 x3 128)), (bAnd .u8 x3 128) != 0, y6, y7, y8, y9, []⟩ : Conversion_), y1.1, 0)))))
def sensor_word (fuel : Nat) (a0 : List Int) : Option (Int) :=
  bindP (idx a0 0) fun x1 =>
  bindP (idx a0 1) fun x2 =>
  letP (bOr .u16 (IntKind.u16.wrap x1) (bShl .u16 (IntKind.u16.wrap x2) 8)) fun x3 =>
  some x3
def sensor_rest (fuel : Nat) (a0 : Sensor_) (a1 : List Int) : Option (Sensor_ × Int) :=
  joinP (fun (s1 : ((List Int) × Int × Sensor_)) =>
  letP (decide ((s1.1.length : Int) < s1.2.1)) fun x1 =>
  iteP x1 (
  some (s1.2.2, 4)) (
  letP (decide ((s1.1.length : Int) > s1.2.1)) fun x2 =>
  iteP x2 (
  some (s1.2.2, 6)) (
  joinP (fun (s2 : Sensor_) =>
  bindP (sub s1.1 (IntKind.i64.wrap (s1.2.1 - 4)) s1.1.length) fun x3 =>
  bindP (sensor_word fuel x3) fun y1 =>
  bindP (sub s1.1 (IntKind.i64.wrap (s1.2.1 - 2)) s1.1.length) fun x4 =>
  bindP (sensor_word fuel x4) fun y2 =>
  letP ({ s2 with Assert := y1 }) fun d1 =>
  letP ({ d1 with Deassert := y2 }) fun d2 =>
  some (d2, 0)) fun j2 =>
  iteP s1.2.2.Discrete (
  bindP (sensor_word fuel s1.1) fun y3 =>
  letP ({ s1.2.2 with States := y3 }) fun d3 =>
  j2 (d3)) (
  bindP (idx s1.1 0) fun x5 =>
  bindP (sub s1.1 1 7) fun x6 =>
  bindP (chk (decide (6 ≤ x6.length))) fun _ =>
  letP ({ s1.2.2 with Limits := (⟨x5, (x6.take 6)⟩ : Thresholds_) }) fun d4 =>
  bindP (idx s1.1 7) fun x7 =>
  bindP (idx s1.1 8) fun x8 =>
  letP ({ d4 with HystLower := x7 }) fun d5 =>
  letP ({ d5 with HystUpper := x8 }) fun d6 =>
  j2 (d6))))) fun j1 =>
  iteP (!a0.Discrete) (
  bindP (convert_Decode fuel a1) fun y4 =>
  iteP (y4.2.2 != 0) (
  some (a0, y4.2.2)) (
  bindP (sub a1 y4.2.1 a1.length) fun x9 =>
  letP ({ a0 with Conversion := y4.1 }) fun d7 =>
  j1 (x9, 13, d7))) (
  j1 (a1, 6, a0))
def sensor_Decode (fuel : Nat) (a0 : List Int) : Option (Sensor_ × Int) :=
  iteP (decide ((a0.length : Int) < 9)) (
  some (Sensor_.z, 4)) (
  bindP (checksum_Open8 fuel a0) fun y1 =>
  iteP (y1.2 != 0) (
  some (Sensor_.z, y1.2)) (
  bindP (idx y1.1 0) fun x1 =>
  joinP (fun (s1 : Bool) =>
  iteP s1 (
  some (Sensor_.z, 6)) (
  bindP (idx y1.1 7) fun x2 =>
  letP (IntKind.i64.wrap (8 + (IntKind.i64.wrap x2))) fun x3 =>
  iteP (decide ((y1.1.length : Int) < x3)) (
  some (Sensor_.z, 4)) (
  bindP (idx y1.1 1) fun x4 =>
  bindP (idx y1.1 2) fun x5 =>
  bindP (idx y1.1 3) fun x6 =>
  bindP (sub y1.1 8 x3) fun x7 =>
  bindP (idx y1.1 4) fun x8 =>
  bindP (idx y1.1 5) fun x9 =>
  bindP (idx y1.1 6) fun x10 =>
  bindP (sub y1.1 x3 y1.1.length) fun x11 =>
  bindP (sensor_rest fuel (⟨x4, x5, x6, (toStr x7), (⟨x8, x9⟩ : Entity_), (bAnd .u8 x10 1) != 0, Conversion_.z, Thresholds_.z, 0, 0, 0, 0, 0, (bAnd .u8 x10 2) != 0, (IntKind.i64.wrap (IntKind.u8.wrap (Int.tdiv x10 4)))⟩ : Sensor_) x11) fun y2 =>
  letP (y2.2 != 0) fun x12 =>
  iteP x12 (
  some (Sensor_.z, y2.2)) (
  bindP (sensor_Valid fuel y2.1) fun y3 =>
  letP (!y3) fun x13 =>
  iteP x13 (
  some (Sensor_.z, 1)) (
  some (y2.1, 0)))))) fun j1 =>
  iteP (x1 != 1) (
  j1 (true)) (
  bindP (idx y1.1 6) fun x14 =>
  j1 (decide (x14 ≥ 32)))))
def made_Dice_near (fuel : Nat) (a0 : made_Dice) (a1 : Sensor_) : Option (Int × made_Dice) :=
  bindP (made_Dice_Bool fuel a0 3) fun y1 =>
  iteP y1.1 (
  bindP (made_Dice_Byte fuel y1.2) fun y2 =>
  some (y2.1, y2.2)) (
  bindP (made_Dice_Next fuel y1.2 6) fun y3 =>
  bindP (idx a1.Limits.Raw y3.1) fun x1 =>
  bindP (chk (Nat.beq a1.Limits.Raw.length 6)) fun _ =>
  bindP (made_Dice_Next fuel y3.2 9) fun y4 =>
  letP (IntKind.u8.wrap (Int.tmod (IntKind.i64.wrap ((IntKind.i64.wrap ((IntKind.i64.wrap x1) + y4.1)) + 252)) 256)) fun x2 =>
  some (x2, y4.2))
def made_Dice_Samples (fuel : Nat) (a0 : made_Dice) (a1 : List Sensor_) : Option ((List Sample_) × made_Dice) :=
  loopP (fun k1 (s1 : (Int × made_Dice × (List Sample_))) =>
  iteP (decide (s1.1 < (a1.length : Int))) (
  bindP (idx a1 s1.1) fun x1 =>
  bindP (made_Dice_Bool fuel s1.2.1 8) fun y1 =>
  iteP y1.1 (
  letP (IntKind.i64.wrap (s1.1 + 1)) fun x2 =>
  k1 (x2, y1.2, s1.2.2)) (
  bindP (made_Dice_Bool fuel y1.2 6) fun y2 =>
  joinP (fun (s2 : Bool) =>
  joinP (fun (s3 : (made_Dice × Sample_)) =>
  joinP (fun (s4 : Bool) =>
  joinP (fun (s5 : (made_Dice × Sample_)) =>
  bindP (made_Dice_Bool fuel s5.1 150) fun y3 =>
  joinP (fun (s6 : (made_Dice × Sample_)) =>
  bindP (app 6 s1.2.2 ([s6.2])) fun x3 =>
  letP (IntKind.i64.wrap (s1.1 + 1)) fun x4 =>
  k1 (x4, s6.1, x3)) fun j5 =>
  iteP y3.1 (
  bindP (made_Dice_Byte fuel y3.2) fun y4 =>
  letP ({ s5.2 with Raw := y4.1 }) fun d1 =>
  bindP (made_Dice_Next fuel y4.2 65536) fun y5 =>
  letP ({ d1 with States := (IntKind.u16.wrap y5.1) }) fun d2 =>
  bindP (made_Dice_Byte fuel y5.2) fun y6 =>
  letP ({ d2 with Number := y6.1 }) fun d3 =>
  j5 (y6.2, d3)) (
  j5 (y3.2, s5.2))) fun j4 =>
  iteP s4 (
  bindP (made_Dice_near fuel s3.1 x1) fun y7 =>
  letP ({ s3.2 with Raw := y7.1 }) fun d4 =>
  j4 (y7.2, d4)) (
  j4 (s3.1, s3.2))) fun j3 =>
  iteP s3.2.OK (
  j3 (!x1.Discrete)) (
  j3 (false))) fun j2 =>
  iteP s2 (
  bindP (made_Dice_Next fuel y2.2 32768) fun y8 =>
  j2 (y8.2, (⟨x1.Number, !y2.1, 0, (bAnd .u16 (IntKind.u16.wrap y8.1) x1.States)⟩ : Sample_))) (
  j2 (y2.2, (⟨x1.Number, !y2.1, 0, 0⟩ : Sample_)))) fun j1 =>
  iteP (!y2.1) (
  j1 (x1.Discrete)) (
  j1 (false)))) (
  some (s1.2.2, s1.2.1))) fuel (0, a0, [])
def made_Dice_Entities (fuel : Nat) (a0 : made_Dice) (a1 : Int) : Option ((List Entity_) × made_Dice) :=
  bindP (made_Dice_Next fuel a0 (IntKind.i64.wrap (a1 + 1))) fun y1 =>
  loopP (fun k1 (s1 : (Int × made_Dice × (List Entity_))) =>
  iteP (decide (s1.1 > 0)) (
  bindP (made_Dice_Entity fuel s1.2.1) fun y2 =>
  bindP (app 2 s1.2.2 ([y2.1])) fun x1 =>
  letP (IntKind.i64.wrap (s1.1 - 1)) fun x2 =>
  k1 (x2, y2.2, x1)) (
  some (s1.2.2, s1.2.1))) fuel (y1.1, y1.2, [])
def ref07_SameList (fuel : Nat) (a0 : List Event_) (a1 : List Event_) : Option (Bool) :=
  iteP ((a0.length : Int) != (a1.length : Int)) (
  some false) (
  loopP (fun k1 (s1 : Int) =>
  iteP (decide (s1 < (a0.length : Int))) (
  bindP (idx a0 s1) fun x1 =>
  bindP (idx a1 s1) fun x2 =>
  iteP (!Event_.eqb x1 x2) (
  some false) (
  letP (IntKind.i64.wrap (s1 + 1)) fun x3 =>
  k1 (x3))) (
  some true)) fuel (0))
def top_TopProvisioned (fuel : Nat) (a0 : List Int) (a1 : List (List Int)) (a2 : Int) : Option (Bool) :=
  bindP (top_first fuel) fun y1 =>
  iteP (!y1) (
  some false) (
  bindP (made_Light fuel a0) fun y2 =>
  joinP (fun (s1 : Bool) =>
  iteP s1 (
  some true) (
  bindP (made_Roll fuel a0) fun y3 =>
  bindP (made_Dice_Sensors fuel y3 5) fun y4 =>
  bindP (repository_New fuel 800) fun y5 =>
  joinP (fun (s2 : Bool) =>
  iteP s2 (
  some false) (
  loopP (fun k1 (s3 : (Int × (Option repository_Repository))) =>
  iteP (decide (s3.1 < (y4.1.length : Int))) (
  bindP (idx y4.1 s3.1) fun x1 =>
  bindP (sensor_Encode fuel x1) fun y6 =>
  iteP (y6.2 != 0) (
  some false) (
  bindP s3.2 fun x2 =>
  bindP (repository_Repository_Add fuel x2 y6.1) fun y7 =>
  iteP (y7.2.1 != 0) (
  some false) (
  letP (IntKind.i64.wrap (s3.1 + 1)) fun x3 =>
  k1 (x3, (some y7.2.2))))) (
  bindP (made_Mod fuel a2 40) fun y8 =>
  letP (IntKind.i64.wrap (1 + y8)) fun x4 =>
  bindP s3.2 fun x5 =>
  bindP (repository_Repository_Reserve fuel x5) fun y9 =>
  bindP (repository_Repository_IDs fuel y9.2) fun y10 =>
  loopP (fun k2 (s4 : (Int × (List Sensor_))) =>
  iteP (decide (s4.1 < (y10.length : Int))) (
  bindP (idx y10 s4.1) fun x6 =>
  bindP (repository_Repository_Get fuel y9.2 x6) fun y11 =>
  loopP (fun k3 (s5 : (Int × (List Int))) =>
  iteP (decide (s5.1 < (y11.1.length : Int))) (
  bindP (idx y10 s4.1) fun x7 =>
  bindP (repository_Repository_Read fuel y9.2 y9.1 x7 s5.1 (min x4 (IntKind.i64.wrap ((y11.1.length : Int) - s5.1)))) fun y12 =>
  iteP (y12.2.2 != 0) (
  some false) (
  bindP (app 1 s5.2 y12.1) fun x8 =>
  letP (IntKind.i64.wrap (s5.1 + x4)) fun x9 =>
  k3 (x9, x8))) (
  bindP (sensor_Decode fuel s5.2) fun y13 =>
  joinP (fun (s6 : Bool) =>
  iteP s6 (
  some false) (
  bindP (app 136 s4.2 ([y13.1])) fun x10 =>
  letP (IntKind.i64.wrap (s4.1 + 1)) fun x11 =>
  k2 (x11, x10))) fun j3 =>
  iteP (y11.2.2 != 0) (
  j3 (true)) (
  j3 (y13.2 != 0)))) fuel (0, [])) (
  bindP (monitor_New fuel y4.1 ([])) fun y14 =>
  bindP (monitor_New fuel s4.2 ([])) fun y15 =>
  joinP (fun (s7 : Bool) =>
  iteP s7 (
  some false) (
  loopP (fun k4 (s8 : (Int × (Option monitor_Monitor) × (Option monitor_Monitor))) =>
  iteP (decide (s8.1 < (a1.length : Int))) (
  bindP (idx a1 s8.1) fun x12 =>
  iteP (decide ((x12.length : Int) > 100)) (
  some true) (
  bindP (idx a1 s8.1) fun x13 =>
  bindP (made_Roll fuel x13) fun y16 =>
  bindP (made_Dice_Samples fuel y16 y4.1) fun y17 =>
  bindP (made_Dice_Entities fuel y17.2 2) fun y18 =>
  bindP (made_Dice_Bool fuel y18.2 2) fun y19 =>
  bindP s8.2.1 fun x14 =>
  bindP (monitor_Monitor_Scan fuel x14 y17.1 y18.1 y19.1) fun y20 =>
  bindP s8.2.2 fun x15 =>
  bindP (monitor_Monitor_Scan fuel x15 y17.1 y18.1 y19.1) fun y21 =>
  joinP (fun (s9 : Bool) =>
  iteP s9 (
  some false) (
  letP (IntKind.i64.wrap (s8.1 + 1)) fun x16 =>
  k4 (x16, (some y20.2.2), (some y21.2.2)))) fun j5 =>
  iteP (y20.2.1 != y21.2.1) (
  j5 (true)) (
  bindP (ref07_SameList fuel y20.1 y21.1) fun y22 =>
  j5 (!y22)))) (
  some true)) fuel (0, y14.1, y15.1))) fun j4 =>
  iteP (y14.2 != 0) (
  j4 (true)) (
  iteP (y15.2 != 0) (
  j4 (true)) (
  iteP y14.1.isNone (
  j4 (true)) (
  iteP y15.1.isNone (
  j4 (true)) (
  j4 ((s4.2.length : Int) != (y4.1.length : Int)))))))) fuel (0, []))) fuel (0, y5.1))) fun j2 =>
  iteP y5.1.isNone (
  j2 (true)) (
  j2 (y5.2 != 0)))) fun j1 =>
  iteP (!y2) (
  j1 (true)) (
  j1 (decide ((a1.length : Int) > 12))))
end Lift
