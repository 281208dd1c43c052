import Derived.Test.YtahlmfpllhmjoaaGreatDoorLiftR
import Derived.Test.YtahlmfpllhmjoaaGreatDoorLiftZ
import Derived.Test.YtahlmfpllhmjoaaGreatDoorLiftN
set_option linter.unusedVariables false
set_option linter.unusedSimpArgs false
namespace Lift
open Go
structure Point_ where
  Raw:Int
  Value:Int
def Point_.rep:Rep Point_:=Rep.iso (λ s=>(s.Raw,s.Value,())) (Rep.prod (Rep.int .u8) (Rep.prod (Rep.int .i64) Rep.unit))
theorem Point_.pure:Pure Point_.rep:=Pure.iso (Pure.prod Pure.int (Pure.prod Pure.int Pure.unit))
structure Conversion_ where
  Form:Int
  Signed:Bool
  M:Int
  B:Int
  K1:Int
  K2:Int
  Points:List Point_
def Conversion_.rep:Rep Conversion_:=Rep.iso (λ s=>(s.Form,s.Signed,s.M,s.B,s.K1,s.K2,s.Points,())) (Rep.prod (Rep.int .i64) (Rep.prod Rep.bool (Rep.prod (Rep.int .i64) (Rep.prod (Rep.int .i64) (Rep.prod (Rep.int .i64) (Rep.prod (Rep.int .i64) (Rep.prod (Rep.slice Point_.rep) Rep.unit)))))))
def Conversion_.z:Conversion_:=⟨0,false,0,0,0,0,[]⟩
theorem Conversion_.zr:Zr Conversion_.rep [.int .i64 0,.bool false,.int .i64 0,.int .i64 0,.int .i64 0,.int .i64 0,.slice none 0 0] Conversion_.z:=Zr.iso (r:=(Rep.prod (Rep.int .i64) (Rep.prod Rep.bool (Rep.prod (Rep.int .i64) (Rep.prod (Rep.int .i64) (Rep.prod (Rep.int .i64) (Rep.prod (Rep.int .i64) (Rep.prod (Rep.slice Point_.rep) Rep.unit)))))))) _ (Zr.of (Zr.prod (Zr.int .i64 0) (Zr.prod (Zr.bool false) (Zr.prod (Zr.int .i64 0) (Zr.prod (Zr.int .i64 0) (Zr.prod (Zr.int .i64 0) (Zr.prod (Zr.int .i64 0) (Zr.prod (Zr.slice Point_.rep) Zr.unit))))))) rfl)
theorem Conversion_.f0:Fld Conversion_.rep 0 (Rep.int .i64) Conversion_.Form (λ s y=>{ s with Form:=y }):=Fld.iso (λ s:Conversion_=>(s.Form,s.Signed,s.M,s.B,s.K1,s.K2,s.Points,())) Fld.here (λ _=>rfl) (λ _ _=>rfl)
theorem Conversion_.f1:Fld Conversion_.rep 1 Rep.bool Conversion_.Signed (λ s y=>{ s with Signed:=y }):=Fld.iso (λ s:Conversion_=>(s.Form,s.Signed,s.M,s.B,s.K1,s.K2,s.Points,())) (Fld.there Fld.here) (λ _=>rfl) (λ _ _=>rfl)
theorem Conversion_.f2:Fld Conversion_.rep 2 (Rep.int .i64) Conversion_.M (λ s y=>{ s with M:=y }):=Fld.iso (λ s:Conversion_=>(s.Form,s.Signed,s.M,s.B,s.K1,s.K2,s.Points,())) (Fld.there (Fld.there Fld.here)) (λ _=>rfl) (λ _ _=>rfl)
theorem Conversion_.f3:Fld Conversion_.rep 3 (Rep.int .i64) Conversion_.B (λ s y=>{ s with B:=y }):=Fld.iso (λ s:Conversion_=>(s.Form,s.Signed,s.M,s.B,s.K1,s.K2,s.Points,())) (Fld.there (Fld.there (Fld.there Fld.here))) (λ _=>rfl) (λ _ _=>rfl)
theorem Conversion_.f4:Fld Conversion_.rep 4 (Rep.int .i64) Conversion_.K1 (λ s y=>{ s with K1:=y }):=Fld.iso (λ s:Conversion_=>(s.Form,s.Signed,s.M,s.B,s.K1,s.K2,s.Points,())) (Fld.there (Fld.there (Fld.there (Fld.there Fld.here)))) (λ _=>rfl) (λ _ _=>rfl)
theorem Conversion_.f5:Fld Conversion_.rep 5 (Rep.int .i64) Conversion_.K2 (λ s y=>{ s with K2:=y }):=Fld.iso (λ s:Conversion_=>(s.Form,s.Signed,s.M,s.B,s.K1,s.K2,s.Points,())) (Fld.there (Fld.there (Fld.there (Fld.there (Fld.there Fld.here))))) (λ _=>rfl) (λ _ _=>rfl)
theorem Conversion_.f6:Fld Conversion_.rep 6 (Rep.slice Point_.rep) Conversion_.Points (λ s y=>{ s with Points:=y }):=Fld.iso (λ s:Conversion_=>(s.Form,s.Signed,s.M,s.B,s.K1,s.K2,s.Points,())) (Fld.there (Fld.there (Fld.there (Fld.there (Fld.there (Fld.there Fld.here)))))) (λ _=>rfl) (λ _ _=>rfl)
structure Entity_ where
  ID:Int
  Instance:Int
def Entity_.rep:Rep Entity_:=Rep.iso (λ s=>(s.ID,s.Instance,())) (Rep.prod (Rep.int .u8) (Rep.prod (Rep.int .u8) Rep.unit))
def Entity_.z:Entity_:=⟨0,0⟩
theorem Entity_.zr:Zr Entity_.rep [.int .u8 0,.int .u8 0] Entity_.z:=Zr.iso (r:=(Rep.prod (Rep.int .u8) (Rep.prod (Rep.int .u8) Rep.unit))) _ (Zr.of (Zr.prod (Zr.int .u8 0) (Zr.prod (Zr.int .u8 0) Zr.unit)) rfl)
theorem Entity_.pure:Pure Entity_.rep:=Pure.iso (Pure.prod Pure.int (Pure.prod Pure.int Pure.unit))
structure Thresholds_ where
  Mask:Int
  Raw:List Int
def Thresholds_.rep:Rep Thresholds_:=Rep.iso (λ s=>(s.Mask,s.Raw,())) (Rep.prod (Rep.int .u8) (Rep.prod (Rep.arr 6 (Rep.int .u8)) Rep.unit))
def Thresholds_.z:Thresholds_:=⟨0,(List.replicate 6 0)⟩
theorem Thresholds_.zr:Zr Thresholds_.rep [.int .u8 0,.int .u8 0,.int .u8 0,.int .u8 0,.int .u8 0,.int .u8 0,.int .u8 0] Thresholds_.z:=Zr.iso (r:=(Rep.prod (Rep.int .u8) (Rep.prod (Rep.arr 6 (Rep.int .u8)) Rep.unit))) _ (Zr.of (Zr.prod (Zr.int .u8 0) (Zr.prod (Zr.of (Zr.arr (Zr.int .u8 0) 6) rfl) Zr.unit)) rfl)
theorem Thresholds_.f0:Fld Thresholds_.rep 0 (Rep.int .u8) Thresholds_.Mask (λ s y=>{ s with Mask:=y }):=Fld.iso (λ s:Thresholds_=>(s.Mask,s.Raw,())) Fld.here (λ _=>rfl) (λ _ _=>rfl)
theorem Thresholds_.f1:Fld Thresholds_.rep 1 (Rep.arr 6 (Rep.int .u8)) Thresholds_.Raw (λ s y=>{ s with Raw:=y }):=Fld.iso (λ s:Thresholds_=>(s.Mask,s.Raw,())) (Fld.there Fld.here) (λ _=>rfl) (λ _ _=>rfl)
structure Sensor_ where
  Number:Int
  Type_:Int
  Unit:Int
  Name:List Int
  Entity:Entity_
  Discrete:Bool
  Conversion:Conversion_
  Limits:Thresholds_
  HystLower:Int
  HystUpper:Int
  States:Int
  Assert:Int
  Deassert:Int
  HostOn:Bool
  Samples:Int
def Sensor_.rep:Rep Sensor_:=Rep.iso (λ s=>(s.Number,s.Type_,s.Unit,s.Name,s.Entity,s.Discrete,s.Conversion,s.Limits,s.HystLower,s.HystUpper,s.States,s.Assert,s.Deassert,s.HostOn,s.Samples,())) (Rep.prod (Rep.int .u8) (Rep.prod (Rep.int .u8) (Rep.prod (Rep.int .u8) (Rep.prod Rep.str (Rep.prod Entity_.rep (Rep.prod Rep.bool (Rep.prod Conversion_.rep (Rep.prod Thresholds_.rep (Rep.prod (Rep.int .u8) (Rep.prod (Rep.int .u8) (Rep.prod (Rep.int .u16) (Rep.prod (Rep.int .u16) (Rep.prod (Rep.int .u16) (Rep.prod Rep.bool (Rep.prod (Rep.int .i64) Rep.unit)))))))))))))))
def Sensor_.z:Sensor_:=⟨0,0,0,[],Entity_.z,false,Conversion_.z,Thresholds_.z,0,0,0,0,0,false,0⟩
theorem Sensor_.zr:Zr Sensor_.rep [.int .u8 0,.int .u8 0,.int .u8 0,.string ⟨#[]⟩,.int .u8 0,.int .u8 0,.bool false,.int .i64 0,.bool false,.int .i64 0,.int .i64 0,.int .i64 0,.int .i64 0,.slice none 0 0,.int .u8 0,.int .u8 0,.int .u8 0,.int .u8 0,.int .u8 0,.int .u8 0,.int .u8 0,.int .u8 0,.int .u8 0,.int .u16 0,.int .u16 0,.int .u16 0,.bool false,.int .i64 0] Sensor_.z:=Zr.iso (r:=(Rep.prod (Rep.int .u8) (Rep.prod (Rep.int .u8) (Rep.prod (Rep.int .u8) (Rep.prod Rep.str (Rep.prod Entity_.rep (Rep.prod Rep.bool (Rep.prod Conversion_.rep (Rep.prod Thresholds_.rep (Rep.prod (Rep.int .u8) (Rep.prod (Rep.int .u8) (Rep.prod (Rep.int .u16) (Rep.prod (Rep.int .u16) (Rep.prod (Rep.int .u16) (Rep.prod Rep.bool (Rep.prod (Rep.int .i64) Rep.unit)))))))))))))))) _ (Zr.of (Zr.prod (Zr.int .u8 0) (Zr.prod (Zr.int .u8 0) (Zr.prod (Zr.int .u8 0) (Zr.prod Zr.str (Zr.prod Entity_.zr (Zr.prod (Zr.bool false) (Zr.prod Conversion_.zr (Zr.prod Thresholds_.zr (Zr.prod (Zr.int .u8 0) (Zr.prod (Zr.int .u8 0) (Zr.prod (Zr.int .u16 0) (Zr.prod (Zr.int .u16 0) (Zr.prod (Zr.int .u16 0) (Zr.prod (Zr.bool false) (Zr.prod (Zr.int .i64 0) Zr.unit))))))))))))))) rfl)
theorem Sensor_.f0:Fld Sensor_.rep 0 (Rep.int .u8) Sensor_.Number (λ s y=>{ s with Number:=y }):=Fld.iso (λ s:Sensor_=>(s.Number,s.Type_,s.Unit,s.Name,s.Entity,s.Discrete,s.Conversion,s.Limits,s.HystLower,s.HystUpper,s.States,s.Assert,s.Deassert,s.HostOn,s.Samples,())) Fld.here (λ _=>rfl) (λ _ _=>rfl)
theorem Sensor_.f1:Fld Sensor_.rep 1 (Rep.int .u8) Sensor_.Type_ (λ s y=>{ s with Type_:=y }):=Fld.iso (λ s:Sensor_=>(s.Number,s.Type_,s.Unit,s.Name,s.Entity,s.Discrete,s.Conversion,s.Limits,s.HystLower,s.HystUpper,s.States,s.Assert,s.Deassert,s.HostOn,s.Samples,())) (Fld.there Fld.here) (λ _=>rfl) (λ _ _=>rfl)
theorem Sensor_.f3:Fld Sensor_.rep 3 Rep.str Sensor_.Name (λ s y=>{ s with Name:=y }):=Fld.iso (λ s:Sensor_=>(s.Number,s.Type_,s.Unit,s.Name,s.Entity,s.Discrete,s.Conversion,s.Limits,s.HystLower,s.HystUpper,s.States,s.Assert,s.Deassert,s.HostOn,s.Samples,())) (Fld.there (Fld.there (Fld.there Fld.here))) (λ _=>rfl) (λ _ _=>rfl)
theorem Sensor_.f4:Fld Sensor_.rep 4 Entity_.rep Sensor_.Entity (λ s y=>{ s with Entity:=y }):=Fld.iso (λ s:Sensor_=>(s.Number,s.Type_,s.Unit,s.Name,s.Entity,s.Discrete,s.Conversion,s.Limits,s.HystLower,s.HystUpper,s.States,s.Assert,s.Deassert,s.HostOn,s.Samples,())) (Fld.there (Fld.there (Fld.there (Fld.there Fld.here)))) (λ _=>rfl) (λ _ _=>rfl)
theorem Sensor_.f5:Fld Sensor_.rep 6 Rep.bool Sensor_.Discrete (λ s y=>{ s with Discrete:=y }):=Fld.iso (λ s:Sensor_=>(s.Number,s.Type_,s.Unit,s.Name,s.Entity,s.Discrete,s.Conversion,s.Limits,s.HystLower,s.HystUpper,s.States,s.Assert,s.Deassert,s.HostOn,s.Samples,())) (Fld.there (Fld.there (Fld.there (Fld.there (Fld.there Fld.here))))) (λ _=>rfl) (λ _ _=>rfl)
theorem Sensor_.f6:Fld Sensor_.rep 7 Conversion_.rep Sensor_.Conversion (λ s y=>{ s with Conversion:=y }):=Fld.iso (λ s:Sensor_=>(s.Number,s.Type_,s.Unit,s.Name,s.Entity,s.Discrete,s.Conversion,s.Limits,s.HystLower,s.HystUpper,s.States,s.Assert,s.Deassert,s.HostOn,s.Samples,())) (Fld.there (Fld.there (Fld.there (Fld.there (Fld.there (Fld.there Fld.here)))))) (λ _=>rfl) (λ _ _=>rfl)
theorem Sensor_.f7:Fld Sensor_.rep 14 Thresholds_.rep Sensor_.Limits (λ s y=>{ s with Limits:=y }):=Fld.iso (λ s:Sensor_=>(s.Number,s.Type_,s.Unit,s.Name,s.Entity,s.Discrete,s.Conversion,s.Limits,s.HystLower,s.HystUpper,s.States,s.Assert,s.Deassert,s.HostOn,s.Samples,())) (Fld.there (Fld.there (Fld.there (Fld.there (Fld.there (Fld.there (Fld.there Fld.here))))))) (λ _=>rfl) (λ _ _=>rfl)
theorem Sensor_.f8:Fld Sensor_.rep 21 (Rep.int .u8) Sensor_.HystLower (λ s y=>{ s with HystLower:=y }):=Fld.iso (λ s:Sensor_=>(s.Number,s.Type_,s.Unit,s.Name,s.Entity,s.Discrete,s.Conversion,s.Limits,s.HystLower,s.HystUpper,s.States,s.Assert,s.Deassert,s.HostOn,s.Samples,())) (Fld.there (Fld.there (Fld.there (Fld.there (Fld.there (Fld.there (Fld.there (Fld.there Fld.here)))))))) (λ _=>rfl) (λ _ _=>rfl)
theorem Sensor_.f9:Fld Sensor_.rep 22 (Rep.int .u8) Sensor_.HystUpper (λ s y=>{ s with HystUpper:=y }):=Fld.iso (λ s:Sensor_=>(s.Number,s.Type_,s.Unit,s.Name,s.Entity,s.Discrete,s.Conversion,s.Limits,s.HystLower,s.HystUpper,s.States,s.Assert,s.Deassert,s.HostOn,s.Samples,())) (Fld.there (Fld.there (Fld.there (Fld.there (Fld.there (Fld.there (Fld.there (Fld.there (Fld.there Fld.here))))))))) (λ _=>rfl) (λ _ _=>rfl)
theorem Sensor_.f10:Fld Sensor_.rep 23 (Rep.int .u16) Sensor_.States (λ s y=>{ s with States:=y }):=Fld.iso (λ s:Sensor_=>(s.Number,s.Type_,s.Unit,s.Name,s.Entity,s.Discrete,s.Conversion,s.Limits,s.HystLower,s.HystUpper,s.States,s.Assert,s.Deassert,s.HostOn,s.Samples,())) (Fld.there (Fld.there (Fld.there (Fld.there (Fld.there (Fld.there (Fld.there (Fld.there (Fld.there (Fld.there Fld.here)))))))))) (λ _=>rfl) (λ _ _=>rfl)
theorem Sensor_.f11:Fld Sensor_.rep 24 (Rep.int .u16) Sensor_.Assert (λ s y=>{ s with Assert:=y }):=Fld.iso (λ s:Sensor_=>(s.Number,s.Type_,s.Unit,s.Name,s.Entity,s.Discrete,s.Conversion,s.Limits,s.HystLower,s.HystUpper,s.States,s.Assert,s.Deassert,s.HostOn,s.Samples,())) (Fld.there (Fld.there (Fld.there (Fld.there (Fld.there (Fld.there (Fld.there (Fld.there (Fld.there (Fld.there (Fld.there Fld.here))))))))))) (λ _=>rfl) (λ _ _=>rfl)
theorem Sensor_.f12:Fld Sensor_.rep 25 (Rep.int .u16) Sensor_.Deassert (λ s y=>{ s with Deassert:=y }):=Fld.iso (λ s:Sensor_=>(s.Number,s.Type_,s.Unit,s.Name,s.Entity,s.Discrete,s.Conversion,s.Limits,s.HystLower,s.HystUpper,s.States,s.Assert,s.Deassert,s.HostOn,s.Samples,())) (Fld.there (Fld.there (Fld.there (Fld.there (Fld.there (Fld.there (Fld.there (Fld.there (Fld.there (Fld.there (Fld.there (Fld.there Fld.here)))))))))))) (λ _=>rfl) (λ _ _=>rfl)
theorem Sensor_.f13:Fld Sensor_.rep 26 Rep.bool Sensor_.HostOn (λ s y=>{ s with HostOn:=y }):=Fld.iso (λ s:Sensor_=>(s.Number,s.Type_,s.Unit,s.Name,s.Entity,s.Discrete,s.Conversion,s.Limits,s.HystLower,s.HystUpper,s.States,s.Assert,s.Deassert,s.HostOn,s.Samples,())) (Fld.there (Fld.there (Fld.there (Fld.there (Fld.there (Fld.there (Fld.there (Fld.there (Fld.there (Fld.there (Fld.there (Fld.there (Fld.there Fld.here))))))))))))) (λ _=>rfl) (λ _ _=>rfl)
theorem Sensor_.f14:Fld Sensor_.rep 27 (Rep.int .i64) Sensor_.Samples (λ s y=>{ s with Samples:=y }):=Fld.iso (λ s:Sensor_=>(s.Number,s.Type_,s.Unit,s.Name,s.Entity,s.Discrete,s.Conversion,s.Limits,s.HystLower,s.HystUpper,s.States,s.Assert,s.Deassert,s.HostOn,s.Samples,())) (Fld.there (Fld.there (Fld.there (Fld.there (Fld.there (Fld.there (Fld.there (Fld.there (Fld.there (Fld.there (Fld.there (Fld.there (Fld.there (Fld.there Fld.here)))))))))))))) (λ _=>rfl) (λ _ _=>rfl)
structure Association_ where
  Container:Entity_
  Contained:Entity_
def Association_.rep:Rep Association_:=Rep.iso (λ s=>(s.Container,s.Contained,())) (Rep.prod Entity_.rep (Rep.prod Entity_.rep Rep.unit))
theorem Association_.pure:Pure Association_.rep:=Pure.iso (Pure.prod Entity_.pure (Pure.prod Entity_.pure Pure.unit))
structure Filter_ where
  Window:List Int
  Missing:Int
def Filter_.rep:Rep Filter_:=Rep.iso (λ s=>(s.Window,s.Missing,())) (Rep.prod (Rep.slice (Rep.int .u8)) (Rep.prod (Rep.int .i64) Rep.unit))
def Filter_.z:Filter_:=⟨[],0⟩
theorem Filter_.zr:Zr Filter_.rep [.slice none 0 0,.int .i64 0] Filter_.z:=Zr.iso (r:=(Rep.prod (Rep.slice (Rep.int .u8)) (Rep.prod (Rep.int .i64) Rep.unit))) _ (Zr.of (Zr.prod (Zr.slice (Rep.int .u8)) (Zr.prod (Zr.int .i64 0) Zr.unit)) rfl)
theorem Filter_.f0:Fld Filter_.rep 0 (Rep.slice (Rep.int .u8)) Filter_.Window (λ s y=>{ s with Window:=y }):=Fld.iso (λ s:Filter_=>(s.Window,s.Missing,())) Fld.here (λ _=>rfl) (λ _ _=>rfl)
theorem Filter_.f1:Fld Filter_.rep 1 (Rep.int .i64) Filter_.Missing (λ s y=>{ s with Missing:=y }):=Fld.iso (λ s:Filter_=>(s.Window,s.Missing,())) (Fld.there Fld.here) (λ _=>rfl) (λ _ _=>rfl)
structure monitor_Monitor where
  sensors:List Sensor_
  l:List Association_
  filters:List Filter_
  states:List Int
def monitor_Monitor.rep:Rep monitor_Monitor:=Rep.iso (λ s=>(s.sensors,s.l,s.filters,s.states,())) (Rep.prod (Rep.slice Sensor_.rep) (Rep.prod (Rep.slice Association_.rep) (Rep.prod (Rep.slice Filter_.rep) (Rep.prod (Rep.slice (Rep.int .u16)) Rep.unit))))
def monitor_Monitor.z:monitor_Monitor:=⟨[],[],[],[]⟩
theorem monitor_Monitor.zr:Zr monitor_Monitor.rep [.slice none 0 0,.slice none 0 0,.slice none 0 0,.slice none 0 0] monitor_Monitor.z:=Zr.iso (r:=(Rep.prod (Rep.slice Sensor_.rep) (Rep.prod (Rep.slice Association_.rep) (Rep.prod (Rep.slice Filter_.rep) (Rep.prod (Rep.slice (Rep.int .u16)) Rep.unit))))) _ (Zr.of (Zr.prod (Zr.slice Sensor_.rep) (Zr.prod (Zr.slice Association_.rep) (Zr.prod (Zr.slice Filter_.rep) (Zr.prod (Zr.slice (Rep.int .u16)) Zr.unit)))) rfl)
structure flash_Device where
  size:Int
  bytes:List Int
  wear:List Int
  steps:Int
  left:Int
  torn:Int
  down:Bool
def flash_Device.rep:Rep flash_Device:=Rep.iso (λ s=>(s.size,s.bytes,s.wear,s.steps,s.left,s.torn,s.down,())) (Rep.prod (Rep.int .i64) (Rep.prod (Rep.slice (Rep.int .u8)) (Rep.prod (Rep.slice (Rep.int .i64)) (Rep.prod (Rep.int .i64) (Rep.prod (Rep.int .i64) (Rep.prod (Rep.int .u8) (Rep.prod Rep.bool Rep.unit)))))))
def flash_Device.z:flash_Device:=⟨0,[],[],0,0,0,false⟩
theorem flash_Device.zr:Zr flash_Device.rep [.int .i64 0,.slice none 0 0,.slice none 0 0,.int .i64 0,.int .i64 0,.int .u8 0,.bool false] flash_Device.z:=Zr.iso (r:=(Rep.prod (Rep.int .i64) (Rep.prod (Rep.slice (Rep.int .u8)) (Rep.prod (Rep.slice (Rep.int .i64)) (Rep.prod (Rep.int .i64) (Rep.prod (Rep.int .i64) (Rep.prod (Rep.int .u8) (Rep.prod Rep.bool Rep.unit)))))))) _ (Zr.of (Zr.prod (Zr.int .i64 0) (Zr.prod (Zr.slice (Rep.int .u8)) (Zr.prod (Zr.slice (Rep.int .i64)) (Zr.prod (Zr.int .i64 0) (Zr.prod (Zr.int .i64 0) (Zr.prod (Zr.int .u8 0) (Zr.prod (Zr.bool false) Zr.unit))))))) rfl)
structure Event_ where
  ID:Int
  Time:Int
  Generator:Int
  SensorType:Int
  Sensor:Int
  Type_:Int
  Deassert:Bool
  Data:List Int
def Event_.rep:Rep Event_:=Rep.iso (λ s=>(s.ID,s.Time,s.Generator,s.SensorType,s.Sensor,s.Type_,s.Deassert,s.Data,())) (Rep.prod (Rep.int .u16) (Rep.prod (Rep.int .u32) (Rep.prod (Rep.int .u16) (Rep.prod (Rep.int .u8) (Rep.prod (Rep.int .u8) (Rep.prod (Rep.int .u8) (Rep.prod Rep.bool (Rep.prod (Rep.arr 3 (Rep.int .u8)) Rep.unit))))))))
def Event_.z:Event_:=⟨0,0,0,0,0,0,false,(List.replicate 3 0)⟩
theorem Event_.zr:Zr Event_.rep [.int .u16 0,.int .u32 0,.int .u16 0,.int .u8 0,.int .u8 0,.int .u8 0,.bool false,.int .u8 0,.int .u8 0,.int .u8 0] Event_.z:=Zr.iso (r:=(Rep.prod (Rep.int .u16) (Rep.prod (Rep.int .u32) (Rep.prod (Rep.int .u16) (Rep.prod (Rep.int .u8) (Rep.prod (Rep.int .u8) (Rep.prod (Rep.int .u8) (Rep.prod Rep.bool (Rep.prod (Rep.arr 3 (Rep.int .u8)) Rep.unit))))))))) _ (Zr.of (Zr.prod (Zr.int .u16 0) (Zr.prod (Zr.int .u32 0) (Zr.prod (Zr.int .u16 0) (Zr.prod (Zr.int .u8 0) (Zr.prod (Zr.int .u8 0) (Zr.prod (Zr.int .u8 0) (Zr.prod (Zr.bool false) (Zr.prod (Zr.of (Zr.arr (Zr.int .u8 0) 3) rfl) Zr.unit)))))))) rfl)
theorem Event_.pure:Pure Event_.rep:=Pure.iso (Pure.prod Pure.int (Pure.prod Pure.int (Pure.prod Pure.int (Pure.prod Pure.int (Pure.prod Pure.int (Pure.prod Pure.int (Pure.prod Pure.bool (Pure.prod (Pure.arr Pure.int) Pure.unit))))))))
theorem Event_.f0:Fld Event_.rep 0 (Rep.int .u16) Event_.ID (λ s y=>{ s with ID:=y }):=Fld.iso (λ s:Event_=>(s.ID,s.Time,s.Generator,s.SensorType,s.Sensor,s.Type_,s.Deassert,s.Data,())) Fld.here (λ _=>rfl) (λ _ _=>rfl)
theorem Event_.f1:Fld Event_.rep 1 (Rep.int .u32) Event_.Time (λ s y=>{ s with Time:=y }):=Fld.iso (λ s:Event_=>(s.ID,s.Time,s.Generator,s.SensorType,s.Sensor,s.Type_,s.Deassert,s.Data,())) (Fld.there Fld.here) (λ _=>rfl) (λ _ _=>rfl)
theorem Event_.f2:Fld Event_.rep 2 (Rep.int .u16) Event_.Generator (λ s y=>{ s with Generator:=y }):=Fld.iso (λ s:Event_=>(s.ID,s.Time,s.Generator,s.SensorType,s.Sensor,s.Type_,s.Deassert,s.Data,())) (Fld.there (Fld.there Fld.here)) (λ _=>rfl) (λ _ _=>rfl)
theorem Event_.f3:Fld Event_.rep 3 (Rep.int .u8) Event_.SensorType (λ s y=>{ s with SensorType:=y }):=Fld.iso (λ s:Event_=>(s.ID,s.Time,s.Generator,s.SensorType,s.Sensor,s.Type_,s.Deassert,s.Data,())) (Fld.there (Fld.there (Fld.there Fld.here))) (λ _=>rfl) (λ _ _=>rfl)
theorem Event_.f4:Fld Event_.rep 4 (Rep.int .u8) Event_.Sensor (λ s y=>{ s with Sensor:=y }):=Fld.iso (λ s:Event_=>(s.ID,s.Time,s.Generator,s.SensorType,s.Sensor,s.Type_,s.Deassert,s.Data,())) (Fld.there (Fld.there (Fld.there (Fld.there Fld.here)))) (λ _=>rfl) (λ _ _=>rfl)
theorem Event_.f5:Fld Event_.rep 5 (Rep.int .u8) Event_.Type_ (λ s y=>{ s with Type_:=y }):=Fld.iso (λ s:Event_=>(s.ID,s.Time,s.Generator,s.SensorType,s.Sensor,s.Type_,s.Deassert,s.Data,())) (Fld.there (Fld.there (Fld.there (Fld.there (Fld.there Fld.here))))) (λ _=>rfl) (λ _ _=>rfl)
theorem Event_.f6:Fld Event_.rep 6 Rep.bool Event_.Deassert (λ s y=>{ s with Deassert:=y }):=Fld.iso (λ s:Event_=>(s.ID,s.Time,s.Generator,s.SensorType,s.Sensor,s.Type_,s.Deassert,s.Data,())) (Fld.there (Fld.there (Fld.there (Fld.there (Fld.there (Fld.there Fld.here)))))) (λ _=>rfl) (λ _ _=>rfl)
theorem Event_.f7:Fld Event_.rep 7 (Rep.arr 3 (Rep.int .u8)) Event_.Data (λ s y=>{ s with Data:=y }):=Fld.iso (λ s:Event_=>(s.ID,s.Time,s.Generator,s.SensorType,s.Sensor,s.Type_,s.Deassert,s.Data,())) (Fld.there (Fld.there (Fld.there (Fld.there (Fld.there (Fld.there (Fld.there Fld.here))))))) (λ _=>rfl) (λ _ _=>rfl)
structure eventlog_record where
  sequence:Int
  event:Event_
def eventlog_record.rep:Rep eventlog_record:=Rep.iso (λ s=>(s.sequence,s.event,())) (Rep.prod (Rep.int .i64) (Rep.prod Event_.rep Rep.unit))
def eventlog_record.z:eventlog_record:=⟨0,Event_.z⟩
theorem eventlog_record.zr:Zr eventlog_record.rep [.int .i64 0,.int .u16 0,.int .u32 0,.int .u16 0,.int .u8 0,.int .u8 0,.int .u8 0,.bool false,.int .u8 0,.int .u8 0,.int .u8 0] eventlog_record.z:=Zr.iso (r:=(Rep.prod (Rep.int .i64) (Rep.prod Event_.rep Rep.unit))) _ (Zr.of (Zr.prod (Zr.int .i64 0) (Zr.prod Event_.zr Zr.unit)) rfl)
theorem eventlog_record.pure:Pure eventlog_record.rep:=Pure.iso (Pure.prod Pure.int (Pure.prod Event_.pure Pure.unit))
theorem eventlog_record.f0:Fld eventlog_record.rep 0 (Rep.int .i64) eventlog_record.sequence (λ s y=>{ s with sequence:=y }):=Fld.iso (λ s:eventlog_record=>(s.sequence,s.event,())) Fld.here (λ _=>rfl) (λ _ _=>rfl)
theorem eventlog_record.f1:Fld eventlog_record.rep 1 Event_.rep eventlog_record.event (λ s y=>{ s with event:=y }):=Fld.iso (λ s:eventlog_record=>(s.sequence,s.event,())) (Fld.there Fld.here) (λ _=>rfl) (λ _ _=>rfl)
structure eventlog_Log where
  d:Bool
  first:Int
  sectors:Int
  overwrite:Bool
  newest:Int
  tail:Int
  used:Int
  next:Int
  records:List eventlog_record
  full:Bool
  number:Int
  held:Bool
  ended:Bool
def eventlog_Log.z:eventlog_Log:=⟨false,0,0,false,0,0,0,0,[],false,0,false,false⟩
structure eventlog_head where
  sequence:Int
  tail:Int
  id:Int
def eventlog_head.rep:Rep eventlog_head:=Rep.iso (λ s=>(s.sequence,s.tail,s.id,())) (Rep.prod (Rep.int .i64) (Rep.prod (Rep.int .i64) (Rep.prod (Rep.int .u16) Rep.unit)))
def eventlog_head.z:eventlog_head:=⟨0,0,0⟩
theorem eventlog_head.zr:Zr eventlog_head.rep [.int .i64 0,.int .i64 0,.int .u16 0] eventlog_head.z:=Zr.iso (r:=(Rep.prod (Rep.int .i64) (Rep.prod (Rep.int .i64) (Rep.prod (Rep.int .u16) Rep.unit)))) _ (Zr.of (Zr.prod (Zr.int .i64 0) (Zr.prod (Zr.int .i64 0) (Zr.prod (Zr.int .u16 0) Zr.unit))) rfl)
theorem eventlog_head.f0:Fld eventlog_head.rep 0 (Rep.int .i64) eventlog_head.sequence (λ s y=>{ s with sequence:=y }):=Fld.iso (λ s:eventlog_head=>(s.sequence,s.tail,s.id,())) Fld.here (λ _=>rfl) (λ _ _=>rfl)
theorem eventlog_head.f1:Fld eventlog_head.rep 1 (Rep.int .i64) eventlog_head.tail (λ s y=>{ s with tail:=y }):=Fld.iso (λ s:eventlog_head=>(s.sequence,s.tail,s.id,())) (Fld.there Fld.here) (λ _=>rfl) (λ _ _=>rfl)
theorem eventlog_head.f2:Fld eventlog_head.rep 2 (Rep.int .u16) eventlog_head.id (λ s y=>{ s with id:=y }):=Fld.iso (λ s:eventlog_head=>(s.sequence,s.tail,s.id,())) (Fld.there (Fld.there Fld.here)) (λ _=>rfl) (λ _ _=>rfl)
structure Sample_ where
  Number:Int
  OK:Bool
  Raw:Int
  States:Int
def Sample_.rep:Rep Sample_:=Rep.iso (λ s=>(s.Number,s.OK,s.Raw,s.States,())) (Rep.prod (Rep.int .u8) (Rep.prod Rep.bool (Rep.prod (Rep.int .u8) (Rep.prod (Rep.int .u16) Rep.unit))))
def Sample_.z:Sample_:=⟨0,false,0,0⟩
theorem Sample_.zr:Zr Sample_.rep [.int .u8 0,.bool false,.int .u8 0,.int .u16 0] Sample_.z:=Zr.iso (r:=(Rep.prod (Rep.int .u8) (Rep.prod Rep.bool (Rep.prod (Rep.int .u8) (Rep.prod (Rep.int .u16) Rep.unit))))) _ (Zr.of (Zr.prod (Zr.int .u8 0) (Zr.prod (Zr.bool false) (Zr.prod (Zr.int .u8 0) (Zr.prod (Zr.int .u16 0) Zr.unit)))) rfl)
theorem Sample_.f0:Fld Sample_.rep 0 (Rep.int .u8) Sample_.Number (λ s y=>{ s with Number:=y }):=Fld.iso (λ s:Sample_=>(s.Number,s.OK,s.Raw,s.States,())) Fld.here (λ _=>rfl) (λ _ _=>rfl)
theorem Sample_.f1:Fld Sample_.rep 1 Rep.bool Sample_.OK (λ s y=>{ s with OK:=y }):=Fld.iso (λ s:Sample_=>(s.Number,s.OK,s.Raw,s.States,())) (Fld.there Fld.here) (λ _=>rfl) (λ _ _=>rfl)
theorem Sample_.f2:Fld Sample_.rep 2 (Rep.int .u8) Sample_.Raw (λ s y=>{ s with Raw:=y }):=Fld.iso (λ s:Sample_=>(s.Number,s.OK,s.Raw,s.States,())) (Fld.there (Fld.there Fld.here)) (λ _=>rfl) (λ _ _=>rfl)
theorem Sample_.f3:Fld Sample_.rep 3 (Rep.int .u16) Sample_.States (λ s y=>{ s with States:=y }):=Fld.iso (λ s:Sample_=>(s.Number,s.OK,s.Raw,s.States,())) (Fld.there (Fld.there (Fld.there Fld.here))) (λ _=>rfl) (λ _ _=>rfl)
structure Change_ where
  Index:Int
  Asserted:Bool
def Change_.rep:Rep Change_:=Rep.iso (λ s=>(s.Index,s.Asserted,())) (Rep.prod (Rep.int .i64) (Rep.prod Rep.bool Rep.unit))
def Change_.z:Change_:=⟨0,false⟩
theorem Change_.zr:Zr Change_.rep [.int .i64 0,.bool false] Change_.z:=Zr.iso (r:=(Rep.prod (Rep.int .i64) (Rep.prod Rep.bool Rep.unit))) _ (Zr.of (Zr.prod (Zr.int .i64 0) (Zr.prod (Zr.bool false) Zr.unit)) rfl)
theorem Change_.pure:Pure Change_.rep:=Pure.iso (Pure.prod Pure.int (Pure.prod Pure.bool Pure.unit))
theorem Change_.f0:Fld Change_.rep 0 (Rep.int .i64) Change_.Index (λ s y=>{ s with Index:=y }):=Fld.iso (λ s:Change_=>(s.Index,s.Asserted,())) Fld.here (λ _=>rfl) (λ _ _=>rfl)
theorem Change_.f1:Fld Change_.rep 1 Rep.bool Change_.Asserted (λ s y=>{ s with Asserted:=y }):=Fld.iso (λ s:Change_=>(s.Index,s.Asserted,())) (Fld.there Fld.here) (λ _=>rfl) (λ _ _=>rfl)
structure made_Dice where
  L:List Int
  At:Int
def made_Dice.rep:Rep made_Dice:=Rep.iso (λ s=>(s.L,s.At,())) (Rep.prod (Rep.slice (Rep.int .i64)) (Rep.prod (Rep.int .i64) Rep.unit))
def made_Dice.z:made_Dice:=⟨[],0⟩
theorem made_Dice.zr:Zr made_Dice.rep [.slice none 0 0,.int .i64 0] made_Dice.z:=Zr.iso (r:=(Rep.prod (Rep.slice (Rep.int .i64)) (Rep.prod (Rep.int .i64) Rep.unit))) _ (Zr.of (Zr.prod (Zr.slice (Rep.int .i64)) (Zr.prod (Zr.int .i64 0) Zr.unit)) rfl)
theorem made_Dice.f0:Fld made_Dice.rep 0 (Rep.slice (Rep.int .i64)) made_Dice.L (λ s y=>{ s with L:=y }):=Fld.iso (λ s:made_Dice=>(s.L,s.At,())) Fld.here (λ _=>rfl) (λ _ _=>rfl)
theorem made_Dice.f1:Fld made_Dice.rep 1 (Rep.int .i64) made_Dice.At (λ s y=>{ s with At:=y }):=Fld.iso (λ s:made_Dice=>(s.L,s.At,())) (Fld.there Fld.here) (λ _=>rfl) (λ _ _=>rfl)
structure bus_master where
  queue:List (List Int)
  tries:Int
  served:Bool
def bus_master.rep:Rep bus_master:=Rep.iso (λ s=>(s.queue,s.tries,s.served,())) (Rep.prod (Rep.slice (Rep.slice (Rep.int .u8))) (Rep.prod (Rep.int .i64) (Rep.prod Rep.bool Rep.unit)))
def bus_master.z:bus_master:=⟨[],0,false⟩
theorem bus_master.zr:Zr bus_master.rep [.slice none 0 0,.int .i64 0,.bool false] bus_master.z:=Zr.iso (r:=(Rep.prod (Rep.slice (Rep.slice (Rep.int .u8))) (Rep.prod (Rep.int .i64) (Rep.prod Rep.bool Rep.unit)))) _ (Zr.of (Zr.prod (Zr.slice (Rep.slice (Rep.int .u8))) (Zr.prod (Zr.int .i64 0) (Zr.prod (Zr.bool false) Zr.unit))) rfl)
structure bus_Bus where
  masters:List bus_master
def bus_Bus.rep:Rep bus_Bus:=Rep.iso (λ s=>(s.masters,())) (Rep.prod (Rep.slice bus_master.rep) Rep.unit)
def bus_Bus.z:bus_Bus:=⟨[]⟩
theorem bus_Bus.zr:Zr bus_Bus.rep [.slice none 0 0] bus_Bus.z:=Zr.iso (r:=(Rep.prod (Rep.slice bus_master.rep) Rep.unit)) _ (Zr.of (Zr.prod (Zr.slice bus_master.rep) Zr.unit) rfl)
structure Whole_ where
  From:Int
  Owner:Bool
  Tag:Int
  Data:List Int
def Whole_.rep:Rep Whole_:=Rep.iso (λ s=>(s.From,s.Owner,s.Tag,s.Data,())) (Rep.prod (Rep.int .u8) (Rep.prod Rep.bool (Rep.prod (Rep.int .i64) (Rep.prod (Rep.slice (Rep.int .u8)) Rep.unit))))
def Whole_.z:Whole_:=⟨0,false,0,[]⟩
theorem Whole_.zr:Zr Whole_.rep [.int .u8 0,.bool false,.int .i64 0,.slice none 0 0] Whole_.z:=Zr.iso (r:=(Rep.prod (Rep.int .u8) (Rep.prod Rep.bool (Rep.prod (Rep.int .i64) (Rep.prod (Rep.slice (Rep.int .u8)) Rep.unit))))) _ (Zr.of (Zr.prod (Zr.int .u8 0) (Zr.prod (Zr.bool false) (Zr.prod (Zr.int .i64 0) (Zr.prod (Zr.slice (Rep.int .u8)) Zr.unit)))) rfl)
theorem Whole_.f0:Fld Whole_.rep 0 (Rep.int .u8) Whole_.From (λ s y=>{ s with From:=y }):=Fld.iso (λ s:Whole_=>(s.From,s.Owner,s.Tag,s.Data,())) Fld.here (λ _=>rfl) (λ _ _=>rfl)
theorem Whole_.f1:Fld Whole_.rep 1 Rep.bool Whole_.Owner (λ s y=>{ s with Owner:=y }):=Fld.iso (λ s:Whole_=>(s.From,s.Owner,s.Tag,s.Data,())) (Fld.there Fld.here) (λ _=>rfl) (λ _ _=>rfl)
theorem Whole_.f2:Fld Whole_.rep 2 (Rep.int .i64) Whole_.Tag (λ s y=>{ s with Tag:=y }):=Fld.iso (λ s:Whole_=>(s.From,s.Owner,s.Tag,s.Data,())) (Fld.there (Fld.there Fld.here)) (λ _=>rfl) (λ _ _=>rfl)
theorem Whole_.f3:Fld Whole_.rep 3 (Rep.slice (Rep.int .u8)) Whole_.Data (λ s y=>{ s with Data:=y }):=Fld.iso (λ s:Whole_=>(s.From,s.Owner,s.Tag,s.Data,())) (Fld.there (Fld.there (Fld.there Fld.here))) (λ _=>rfl) (λ _ _=>rfl)
structure fragment_open where
  whole:Whole_
  size:Int
  last:Int
def fragment_open.rep:Rep fragment_open:=Rep.iso (λ s=>(s.whole,s.size,s.last,())) (Rep.prod Whole_.rep (Rep.prod (Rep.int .i64) (Rep.prod (Rep.int .i64) Rep.unit)))
def fragment_open.z:fragment_open:=⟨Whole_.z,0,0⟩
theorem fragment_open.zr:Zr fragment_open.rep [.int .u8 0,.bool false,.int .i64 0,.slice none 0 0,.int .i64 0,.int .i64 0] fragment_open.z:=Zr.iso (r:=(Rep.prod Whole_.rep (Rep.prod (Rep.int .i64) (Rep.prod (Rep.int .i64) Rep.unit)))) _ (Zr.of (Zr.prod Whole_.zr (Zr.prod (Zr.int .i64 0) (Zr.prod (Zr.int .i64 0) Zr.unit))) rfl)
theorem fragment_open.f0:Fld fragment_open.rep 0 Whole_.rep fragment_open.whole (λ s y=>{ s with whole:=y }):=Fld.iso (λ s:fragment_open=>(s.whole,s.size,s.last,())) Fld.here (λ _=>rfl) (λ _ _=>rfl)
structure fragment_Assembler where
  own:Int
  open_:List fragment_open
def fragment_Assembler.z:fragment_Assembler:=⟨0,[]⟩
structure Message_ where
  To:Int
  From:Int
  Function:Int
  Command:Int
  ToUnit:Int
  FromUnit:Int
  Sequence:Int
  Code:Int
  Data:List Int
def Message_.rep:Rep Message_:=Rep.iso (λ s=>(s.To,s.From,s.Function,s.Command,s.ToUnit,s.FromUnit,s.Sequence,s.Code,s.Data,())) (Rep.prod (Rep.int .u8) (Rep.prod (Rep.int .u8) (Rep.prod (Rep.int .u8) (Rep.prod (Rep.int .u8) (Rep.prod (Rep.int .i64) (Rep.prod (Rep.int .i64) (Rep.prod (Rep.int .i64) (Rep.prod (Rep.int .u8) (Rep.prod (Rep.slice (Rep.int .u8)) Rep.unit)))))))))
def Message_.z:Message_:=⟨0,0,0,0,0,0,0,0,[]⟩
theorem Message_.zr:Zr Message_.rep [.int .u8 0,.int .u8 0,.int .u8 0,.int .u8 0,.int .i64 0,.int .i64 0,.int .i64 0,.int .u8 0,.slice none 0 0] Message_.z:=Zr.iso (r:=(Rep.prod (Rep.int .u8) (Rep.prod (Rep.int .u8) (Rep.prod (Rep.int .u8) (Rep.prod (Rep.int .u8) (Rep.prod (Rep.int .i64) (Rep.prod (Rep.int .i64) (Rep.prod (Rep.int .i64) (Rep.prod (Rep.int .u8) (Rep.prod (Rep.slice (Rep.int .u8)) Rep.unit)))))))))) _ (Zr.of (Zr.prod (Zr.int .u8 0) (Zr.prod (Zr.int .u8 0) (Zr.prod (Zr.int .u8 0) (Zr.prod (Zr.int .u8 0) (Zr.prod (Zr.int .i64 0) (Zr.prod (Zr.int .i64 0) (Zr.prod (Zr.int .i64 0) (Zr.prod (Zr.int .u8 0) (Zr.prod (Zr.slice (Rep.int .u8)) Zr.unit))))))))) rfl)
theorem Message_.f0:Fld Message_.rep 0 (Rep.int .u8) Message_.To (λ s y=>{ s with To:=y }):=Fld.iso (λ s:Message_=>(s.To,s.From,s.Function,s.Command,s.ToUnit,s.FromUnit,s.Sequence,s.Code,s.Data,())) Fld.here (λ _=>rfl) (λ _ _=>rfl)
theorem Message_.f1:Fld Message_.rep 1 (Rep.int .u8) Message_.From (λ s y=>{ s with From:=y }):=Fld.iso (λ s:Message_=>(s.To,s.From,s.Function,s.Command,s.ToUnit,s.FromUnit,s.Sequence,s.Code,s.Data,())) (Fld.there Fld.here) (λ _=>rfl) (λ _ _=>rfl)
theorem Message_.f2:Fld Message_.rep 2 (Rep.int .u8) Message_.Function (λ s y=>{ s with Function:=y }):=Fld.iso (λ s:Message_=>(s.To,s.From,s.Function,s.Command,s.ToUnit,s.FromUnit,s.Sequence,s.Code,s.Data,())) (Fld.there (Fld.there Fld.here)) (λ _=>rfl) (λ _ _=>rfl)
theorem Message_.f3:Fld Message_.rep 3 (Rep.int .u8) Message_.Command (λ s y=>{ s with Command:=y }):=Fld.iso (λ s:Message_=>(s.To,s.From,s.Function,s.Command,s.ToUnit,s.FromUnit,s.Sequence,s.Code,s.Data,())) (Fld.there (Fld.there (Fld.there Fld.here))) (λ _=>rfl) (λ _ _=>rfl)
theorem Message_.f4:Fld Message_.rep 4 (Rep.int .i64) Message_.ToUnit (λ s y=>{ s with ToUnit:=y }):=Fld.iso (λ s:Message_=>(s.To,s.From,s.Function,s.Command,s.ToUnit,s.FromUnit,s.Sequence,s.Code,s.Data,())) (Fld.there (Fld.there (Fld.there (Fld.there Fld.here)))) (λ _=>rfl) (λ _ _=>rfl)
theorem Message_.f5:Fld Message_.rep 5 (Rep.int .i64) Message_.FromUnit (λ s y=>{ s with FromUnit:=y }):=Fld.iso (λ s:Message_=>(s.To,s.From,s.Function,s.Command,s.ToUnit,s.FromUnit,s.Sequence,s.Code,s.Data,())) (Fld.there (Fld.there (Fld.there (Fld.there (Fld.there Fld.here))))) (λ _=>rfl) (λ _ _=>rfl)
theorem Message_.f6:Fld Message_.rep 6 (Rep.int .i64) Message_.Sequence (λ s y=>{ s with Sequence:=y }):=Fld.iso (λ s:Message_=>(s.To,s.From,s.Function,s.Command,s.ToUnit,s.FromUnit,s.Sequence,s.Code,s.Data,())) (Fld.there (Fld.there (Fld.there (Fld.there (Fld.there (Fld.there Fld.here)))))) (λ _=>rfl) (λ _ _=>rfl)
theorem Message_.f7:Fld Message_.rep 7 (Rep.int .u8) Message_.Code (λ s y=>{ s with Code:=y }):=Fld.iso (λ s:Message_=>(s.To,s.From,s.Function,s.Command,s.ToUnit,s.FromUnit,s.Sequence,s.Code,s.Data,())) (Fld.there (Fld.there (Fld.there (Fld.there (Fld.there (Fld.there (Fld.there Fld.here))))))) (λ _=>rfl) (λ _ _=>rfl)
theorem Message_.f8:Fld Message_.rep 8 (Rep.slice (Rep.int .u8)) Message_.Data (λ s y=>{ s with Data:=y }):=Fld.iso (λ s:Message_=>(s.To,s.From,s.Function,s.Command,s.ToUnit,s.FromUnit,s.Sequence,s.Code,s.Data,())) (Fld.there (Fld.there (Fld.there (Fld.there (Fld.there (Fld.there (Fld.there (Fld.there Fld.here)))))))) (λ _=>rfl) (λ _ _=>rfl)
structure Packet_ where
  To:Int
  From:Int
  Start:Bool
  End:Bool
  Sequence:Int
  Owner:Bool
  Tag:Int
  Data:List Int
def Packet_.rep:Rep Packet_:=Rep.iso (λ s=>(s.To,s.From,s.Start,s.End,s.Sequence,s.Owner,s.Tag,s.Data,())) (Rep.prod (Rep.int .u8) (Rep.prod (Rep.int .u8) (Rep.prod Rep.bool (Rep.prod Rep.bool (Rep.prod (Rep.int .i64) (Rep.prod Rep.bool (Rep.prod (Rep.int .i64) (Rep.prod (Rep.slice (Rep.int .u8)) Rep.unit))))))))
def Packet_.z:Packet_:=⟨0,0,false,false,0,false,0,[]⟩
theorem Packet_.zr:Zr Packet_.rep [.int .u8 0,.int .u8 0,.bool false,.bool false,.int .i64 0,.bool false,.int .i64 0,.slice none 0 0] Packet_.z:=Zr.iso (r:=(Rep.prod (Rep.int .u8) (Rep.prod (Rep.int .u8) (Rep.prod Rep.bool (Rep.prod Rep.bool (Rep.prod (Rep.int .i64) (Rep.prod Rep.bool (Rep.prod (Rep.int .i64) (Rep.prod (Rep.slice (Rep.int .u8)) Rep.unit))))))))) _ (Zr.of (Zr.prod (Zr.int .u8 0) (Zr.prod (Zr.int .u8 0) (Zr.prod (Zr.bool false) (Zr.prod (Zr.bool false) (Zr.prod (Zr.int .i64 0) (Zr.prod (Zr.bool false) (Zr.prod (Zr.int .i64 0) (Zr.prod (Zr.slice (Rep.int .u8)) Zr.unit)))))))) rfl)
theorem Packet_.f0:Fld Packet_.rep 0 (Rep.int .u8) Packet_.To (λ s y=>{ s with To:=y }):=Fld.iso (λ s:Packet_=>(s.To,s.From,s.Start,s.End,s.Sequence,s.Owner,s.Tag,s.Data,())) Fld.here (λ _=>rfl) (λ _ _=>rfl)
theorem Packet_.f1:Fld Packet_.rep 1 (Rep.int .u8) Packet_.From (λ s y=>{ s with From:=y }):=Fld.iso (λ s:Packet_=>(s.To,s.From,s.Start,s.End,s.Sequence,s.Owner,s.Tag,s.Data,())) (Fld.there Fld.here) (λ _=>rfl) (λ _ _=>rfl)
theorem Packet_.f2:Fld Packet_.rep 2 Rep.bool Packet_.Start (λ s y=>{ s with Start:=y }):=Fld.iso (λ s:Packet_=>(s.To,s.From,s.Start,s.End,s.Sequence,s.Owner,s.Tag,s.Data,())) (Fld.there (Fld.there Fld.here)) (λ _=>rfl) (λ _ _=>rfl)
theorem Packet_.f3:Fld Packet_.rep 3 Rep.bool Packet_.End (λ s y=>{ s with End:=y }):=Fld.iso (λ s:Packet_=>(s.To,s.From,s.Start,s.End,s.Sequence,s.Owner,s.Tag,s.Data,())) (Fld.there (Fld.there (Fld.there Fld.here))) (λ _=>rfl) (λ _ _=>rfl)
theorem Packet_.f4:Fld Packet_.rep 4 (Rep.int .i64) Packet_.Sequence (λ s y=>{ s with Sequence:=y }):=Fld.iso (λ s:Packet_=>(s.To,s.From,s.Start,s.End,s.Sequence,s.Owner,s.Tag,s.Data,())) (Fld.there (Fld.there (Fld.there (Fld.there Fld.here)))) (λ _=>rfl) (λ _ _=>rfl)
theorem Packet_.f5:Fld Packet_.rep 5 Rep.bool Packet_.Owner (λ s y=>{ s with Owner:=y }):=Fld.iso (λ s:Packet_=>(s.To,s.From,s.Start,s.End,s.Sequence,s.Owner,s.Tag,s.Data,())) (Fld.there (Fld.there (Fld.there (Fld.there (Fld.there Fld.here))))) (λ _=>rfl) (λ _ _=>rfl)
theorem Packet_.f6:Fld Packet_.rep 6 (Rep.int .i64) Packet_.Tag (λ s y=>{ s with Tag:=y }):=Fld.iso (λ s:Packet_=>(s.To,s.From,s.Start,s.End,s.Sequence,s.Owner,s.Tag,s.Data,())) (Fld.there (Fld.there (Fld.there (Fld.there (Fld.there (Fld.there Fld.here)))))) (λ _=>rfl) (λ _ _=>rfl)
theorem Packet_.f7:Fld Packet_.rep 7 (Rep.slice (Rep.int .u8)) Packet_.Data (λ s y=>{ s with Data:=y }):=Fld.iso (λ s:Packet_=>(s.To,s.From,s.Start,s.End,s.Sequence,s.Owner,s.Tag,s.Data,())) (Fld.there (Fld.there (Fld.there (Fld.there (Fld.there (Fld.there (Fld.there Fld.here))))))) (λ _=>rfl) (λ _ _=>rfl)
structure Anon_af38c4 where
  on:Bool
  bit:Int
def Anon_af38c4.rep:Rep Anon_af38c4:=Rep.iso (λ s=>(s.on,s.bit,())) (Rep.prod Rep.bool (Rep.prod (Rep.int .u8) Rep.unit))
def Anon_af38c4.z:Anon_af38c4:=⟨false,0⟩
theorem Anon_af38c4.zr:Zr Anon_af38c4.rep [.bool false,.int .u8 0] Anon_af38c4.z:=Zr.iso (r:=(Rep.prod Rep.bool (Rep.prod (Rep.int .u8) Rep.unit))) _ (Zr.of (Zr.prod (Zr.bool false) (Zr.prod (Zr.int .u8 0) Zr.unit)) rfl)
theorem Anon_af38c4.f0:Fld Anon_af38c4.rep 0 Rep.bool Anon_af38c4.on (λ s y=>{ s with on:=y }):=Fld.iso (λ s:Anon_af38c4=>(s.on,s.bit,())) Fld.here (λ _=>rfl) (λ _ _=>rfl)
theorem Anon_af38c4.f1:Fld Anon_af38c4.rep 1 (Rep.int .u8) Anon_af38c4.bit (λ s y=>{ s with bit:=y }):=Fld.iso (λ s:Anon_af38c4=>(s.on,s.bit,())) (Fld.there Fld.here) (λ _=>rfl) (λ _ _=>rfl)
structure Frame_ where
  To:Int
  From:Int
  Data:List Int
def Frame_.rep:Rep Frame_:=Rep.iso (λ s=>(s.To,s.From,s.Data,())) (Rep.prod (Rep.int .u8) (Rep.prod (Rep.int .u8) (Rep.prod (Rep.slice (Rep.int .u8)) Rep.unit)))
def Frame_.z:Frame_:=⟨0,0,[]⟩
theorem Frame_.zr:Zr Frame_.rep [.int .u8 0,.int .u8 0,.slice none 0 0] Frame_.z:=Zr.iso (r:=(Rep.prod (Rep.int .u8) (Rep.prod (Rep.int .u8) (Rep.prod (Rep.slice (Rep.int .u8)) Rep.unit)))) _ (Zr.of (Zr.prod (Zr.int .u8 0) (Zr.prod (Zr.int .u8 0) (Zr.prod (Zr.slice (Rep.int .u8)) Zr.unit))) rfl)
theorem Frame_.f0:Fld Frame_.rep 0 (Rep.int .u8) Frame_.To (λ s y=>{ s with To:=y }):=Fld.iso (λ s:Frame_=>(s.To,s.From,s.Data,())) Fld.here (λ _=>rfl) (λ _ _=>rfl)
theorem Frame_.f1:Fld Frame_.rep 1 (Rep.int .u8) Frame_.From (λ s y=>{ s with From:=y }):=Fld.iso (λ s:Frame_=>(s.To,s.From,s.Data,())) (Fld.there Fld.here) (λ _=>rfl) (λ _ _=>rfl)
theorem Frame_.f2:Fld Frame_.rep 2 (Rep.slice (Rep.int .u8)) Frame_.Data (λ s y=>{ s with Data:=y }):=Fld.iso (λ s:Frame_=>(s.To,s.From,s.Data,())) (Fld.there (Fld.there Fld.here)) (λ _=>rfl) (λ _ _=>rfl)
structure Fault_ where
  Kind:Int
  Index:Int
  Mask:Int
def Fault_.rep:Rep Fault_:=Rep.iso (λ s=>(s.Kind,s.Index,s.Mask,())) (Rep.prod (Rep.int .i64) (Rep.prod (Rep.int .i64) (Rep.prod (Rep.int .u8) Rep.unit)))
def Fault_.z:Fault_:=⟨0,0,0⟩
theorem Fault_.zr:Zr Fault_.rep [.int .i64 0,.int .i64 0,.int .u8 0] Fault_.z:=Zr.iso (r:=(Rep.prod (Rep.int .i64) (Rep.prod (Rep.int .i64) (Rep.prod (Rep.int .u8) Rep.unit)))) _ (Zr.of (Zr.prod (Zr.int .i64 0) (Zr.prod (Zr.int .i64 0) (Zr.prod (Zr.int .u8 0) Zr.unit))) rfl)
theorem Fault_.f0:Fld Fault_.rep 0 (Rep.int .i64) Fault_.Kind (λ s y=>{ s with Kind:=y }):=Fld.iso (λ s:Fault_=>(s.Kind,s.Index,s.Mask,())) Fld.here (λ _=>rfl) (λ _ _=>rfl)
theorem Fault_.f1:Fld Fault_.rep 1 (Rep.int .i64) Fault_.Index (λ s y=>{ s with Index:=y }):=Fld.iso (λ s:Fault_=>(s.Kind,s.Index,s.Mask,())) (Fld.there Fld.here) (λ _=>rfl) (λ _ _=>rfl)
theorem Fault_.f2:Fld Fault_.rep 2 (Rep.int .u8) Fault_.Mask (λ s y=>{ s with Mask:=y }):=Fld.iso (λ s:Fault_=>(s.Kind,s.Index,s.Mask,())) (Fld.there (Fld.there Fld.here)) (λ _=>rfl) (λ _ _=>rfl)
structure Delivery_ where
  Masters:List Int
  Bytes:List Int
  OK:Bool
  Failed:List Int
def Delivery_.rep:Rep Delivery_:=Rep.iso (λ s=>(s.Masters,s.Bytes,s.OK,s.Failed,())) (Rep.prod (Rep.slice (Rep.int .i64)) (Rep.prod (Rep.slice (Rep.int .u8)) (Rep.prod Rep.bool (Rep.prod (Rep.slice (Rep.int .i64)) Rep.unit))))
def Delivery_.z:Delivery_:=⟨[],[],false,[]⟩
theorem Delivery_.zr:Zr Delivery_.rep [.slice none 0 0,.slice none 0 0,.bool false,.slice none 0 0] Delivery_.z:=Zr.iso (r:=(Rep.prod (Rep.slice (Rep.int .i64)) (Rep.prod (Rep.slice (Rep.int .u8)) (Rep.prod Rep.bool (Rep.prod (Rep.slice (Rep.int .i64)) Rep.unit))))) _ (Zr.of (Zr.prod (Zr.slice (Rep.int .i64)) (Zr.prod (Zr.slice (Rep.int .u8)) (Zr.prod (Zr.bool false) (Zr.prod (Zr.slice (Rep.int .i64)) Zr.unit)))) rfl)
theorem Delivery_.f0:Fld Delivery_.rep 0 (Rep.slice (Rep.int .i64)) Delivery_.Masters (λ s y=>{ s with Masters:=y }):=Fld.iso (λ s:Delivery_=>(s.Masters,s.Bytes,s.OK,s.Failed,())) Fld.here (λ _=>rfl) (λ _ _=>rfl)
theorem Delivery_.f1:Fld Delivery_.rep 1 (Rep.slice (Rep.int .u8)) Delivery_.Bytes (λ s y=>{ s with Bytes:=y }):=Fld.iso (λ s:Delivery_=>(s.Masters,s.Bytes,s.OK,s.Failed,())) (Fld.there Fld.here) (λ _=>rfl) (λ _ _=>rfl)
theorem Delivery_.f2:Fld Delivery_.rep 2 Rep.bool Delivery_.OK (λ s y=>{ s with OK:=y }):=Fld.iso (λ s:Delivery_=>(s.Masters,s.Bytes,s.OK,s.Failed,())) (Fld.there (Fld.there Fld.here)) (λ _=>rfl) (λ _ _=>rfl)
theorem Delivery_.f3:Fld Delivery_.rep 3 (Rep.slice (Rep.int .i64)) Delivery_.Failed (λ s y=>{ s with Failed:=y }):=Fld.iso (λ s:Delivery_=>(s.Masters,s.Bytes,s.OK,s.Failed,())) (Fld.there (Fld.there (Fld.there Fld.here))) (λ _=>rfl) (λ _ _=>rfl)
def Fault_.ok (s:Fault_):Prop:=(okI .i64) s.Kind∧(okI .i64) s.Index∧(okI .u8) s.Mask∧True
def sensor_named (fuel:Nat) (a0:List Int):Option (Bool) :=
  loopP (λ k1 (s1:Int) =>
  iteP (decide (s1<(a0.length:Int))) (
  bindP (idx a0 s1) λ x1 =>
  iteP (decide (x1<32)) (
  none) (
  iteP (decide (x1>126)) (
  none) (
  k1 ((IntKind.i64.wrap (s1+1)))))) (
  iteP (decide ((a0.length:Int)≥1)) (
  letP (decide ((a0.length:Int)≤16)) λ x2 =>
  some x2) (
  none))) fuel (0)
def convert_factor (fuel:Nat) (a0:Int):Option (Bool) :=
  iteP (decide (a0≥(-512))) (
  letP (decide (a0≤511)) λ x1 =>
  some x1) (
  none)
def convert_power (fuel:Nat) (a0:Int):Option (Bool) :=
  iteP (decide (a0≥(-3))) (
  letP (decide (a0≤3)) λ x1 =>
  some x1) (
  none)
def convert_Number (fuel:Nat) (a0:Bool) (a1:Int):Option (Int) :=
  iteP a0 (
  none) (
  some (IntKind.i64.wrap a1))
def convert_Valid (fuel:Nat) (a0:Conversion_):Option (Bool) :=
  letP (a0.Form==1) λ x1 =>
  iteP x1 (
  iteP x1 (
  bindP (convert_factor fuel a0.M) λ y1 =>
  iteP y1 (
  bindP (convert_factor fuel a0.B) λ y2 =>
  iteP y2 (
  bindP (convert_power fuel a0.K1) λ y3 =>
  iteP y3 (
  bindP (convert_power fuel a0.K2) λ y4 =>
  iteP y4 (
  letP ((a0.Points.length:Int)==0) λ x2 =>
  some x2) (
  none)) (
  none)) (
  none)) (
  none)) (
  none)) (
  none)
def slices_IsSorted_int_int (fuel:Nat) (a0:List Int):Option (Bool) :=
  letP (IntKind.i64.wrap ((a0.length:Int)-1)) λ x1 =>
  loopP (λ k1 (s1:Unit) =>
  iteP (decide (x1>0)) (
  none) (
  some true)) fuel ()
def sensor_ordered_1_2 (fuel:Nat) (a0:List Int) (a1:Sensor_):Option ((List Int)) :=
  loopP (λ k1 (s1:(Int×(List Int))) =>
  iteP (decide (s1.1<(a0.length:Int))) (
  bindP (idx a0 s1.1) λ x1 =>
  bindP (chk (decide (0≤x1))) λ _ =>
  iteP ((bAnd .u8 (bShr .u8 a1.Limits.Mask x1) 1)==1) (
  bindP (idx a1.Limits.Raw x1) λ x2 =>
  bindP (convert_Number fuel a1.Conversion.Signed x2) λ y1 =>
  bindP (app 8 s1.2 ([y1])) λ x3 =>
  k1 ((IntKind.i64.wrap (s1.1+1)),x3)) (
  k1 ((IntKind.i64.wrap (s1.1+1)),s1.2))) (
  some s1.2)) fuel (0,[])
def sensor_ordered (fuel:Nat) (a0:Sensor_):Option (Bool) :=
  bindP (sensor_ordered_1_2 fuel ([2,1,0]) a0) λ y1 =>
  bindP (sensor_ordered_1_2 fuel ([3,4,5]) a0) λ y2 =>
  letP ((y1.length:Int)==0) λ x1 =>
  iteP x1 (
  bindP (slices_IsSorted_int_int fuel y1) λ y3 =>
  iteP y3 (
  bindP (slices_IsSorted_int_int fuel y2) λ y4 =>
  iteP y4 (
  some true) (
  none)) (
  none)) (
  none)
def sensor_analog (fuel:Nat) (a0:Sensor_):Option (Bool) :=
  bindP (convert_Valid fuel a0.Conversion) λ y1 =>
  iteP (!y1) (
  none) (
  iteP (decide (a0.Limits.Mask≥64)) (
  none) (
  iteP (a0.States != 0) (
  none) (
  iteP ((bAndNot .u16 (bOr .u16 a0.Assert a0.Deassert) (IntKind.u16.wrap a0.Limits.Mask)) != 0) (
  none) (
  loopP (λ k1 (s1:Int) =>
  iteP (decide (s1<6)) (
  bindP (idx a0.Limits.Raw s1) λ x1 =>
  bindP (chk (decide (0≤s1))) λ _ =>
  joinP (λ (s2:Bool) =>
  iteP s2 (
  none) (
  k1 ((IntKind.i64.wrap (s1+1))))) λ j1 =>
  iteP ((bAnd .u8 (bShr .u8 a0.Limits.Mask s1) 1)==0) (
  j1 (x1 != 0)) (
  j1 (false))) (
  bindP (sensor_ordered fuel a0) λ y2 =>
  some y2)) fuel (0)))))
def sensor_Valid (fuel:Nat) (a0:Sensor_):Option (Bool) :=
  bindP (sensor_named fuel a0.Name) λ y1 =>
  iteP (!y1) (
  none) (
  iteP (a0.Samples != 1) (
  none) (
  iteP a0.Discrete (
  none) (
  bindP (sensor_analog fuel a0) λ y2 =>
  some y2)))
def monitor_check (fuel:Nat) (a0:List Sensor_):Option (Int) :=
  iteP (decide ((a0.length:Int)>32)) (
  none) (
  loopP (λ k1 (s1:Int) =>
  iteP (decide (s1<(a0.length:Int))) (
  bindP (idx a0 s1) λ x1 =>
  bindP (sensor_Valid fuel x1) λ y1 =>
  letP (!y1) λ x2 =>
  iteP x2 (
  none) (
  letP (decide (s1>0)) λ x3 =>
  iteP x3 (
  none) (
  k1 ((IntKind.i64.wrap (s1+1)))))) (
  some 0)) fuel (0))
def slices_IndexFunc_api_Association_api_Association_entity_Parent_1 (fuel:Nat) (a0:List Association_) (a1_0:Entity_):Option (Int) :=
  loopP (λ k1 (s1:Unit) =>
  iteP (decide (0<(a0.length:Int))) (
  none) (
  some (-1))) fuel ()
def entity_Parent (fuel:Nat) (a0:List Association_) (a1:Entity_):Option (Entity_×Bool) :=
  bindP (slices_IndexFunc_api_Association_api_Association_entity_Parent_1 fuel a0 a1) λ y1 =>
  iteP (decide (y1<0)) (
  some (Entity_.z,false)) (
  none)
def slices_Index_api_Entity_api_Entity (fuel:Nat) (a0:List Entity_) (a1:Entity_):Option (Int) :=
  loopP (λ k1 (s1:Unit) =>
  iteP (decide (0<(a0.length:Int))) (
  none) (
  some (-1))) fuel ()
def slices_Contains_api_Entity_api_Entity (fuel:Nat) (a0:List Entity_) (a1:Entity_):Option (Bool) :=
  bindP (slices_Index_api_Entity_api_Entity fuel a0 a1) λ y1 =>
  letP (decide (y1≥0)) λ x1 =>
  some x1
def entity_around (fuel:Nat) (a0:List Association_) (a1:Entity_):Option ((List Entity_)) :=
  loopP (λ k1 (s1:Unit) =>
  bindP (entity_Parent fuel a0 a1) λ y1 =>
  iteP (!y1.2) (
  some ([])) (
  none)) fuel ()
def entity_Check (fuel:Nat) (a0:List Association_):Option (Int) :=
  iteP (decide ((a0.length:Int)>32)) (
  none) (
  loopP (λ k1 (s1:Unit) =>
  iteP (decide (0<(a0.length:Int))) (
  none) (
  loopP (λ k2 (s2:Unit) =>
  iteP (decide (0<(a0.length:Int))) (
  none) (
  some 0)) fuel ())) fuel ())
def slices_Clone_api_Sensor_api_Sensor (fuel:Nat) (a0:List Sensor_):Option ((List Sensor_)) :=
  bindP (app 136 ([]) a0) λ x1 =>
  some x1
def slices_Clone_api_Association_api_Association (fuel:Nat) (a0:List Association_):Option ((List Association_)) :=
  bindP (app 4 ([]) a0) λ x1 =>
  some x1
def slices_Clone_api_Point_api_Point (fuel:Nat) (a0:List Point_):Option ((List Point_)) :=
  bindP (app 16 ([]) a0) λ x1 =>
  some x1
def monitor_New (fuel:Nat) (a0:List Sensor_) (a1:List Association_):Option ((Option monitor_Monitor)×Int) :=
  bindP (monitor_check fuel a0) λ y1 =>
  iteP (y1 != 0) (
  none) (
  bindP (entity_Check fuel a1) λ y2 =>
  iteP (y2 != 0) (
  none) (
  bindP (slices_Clone_api_Sensor_api_Sensor fuel a0) λ y3 =>
  bindP (slices_Clone_api_Association_api_Association fuel a1) λ y4 =>
  bindP (mk 32 Filter_.z (a0.length:Int)) λ x1 =>
  bindP (mk 2 0 (a0.length:Int)) λ x2 =>
  loopP (λ k1 (s1:(Int×(List Sensor_))) =>
  iteP (decide (s1.1<(y3.length:Int))) (
  bindP (idx a0 s1.1) λ x3 =>
  bindP (slices_Clone_api_Point_api_Point fuel x3.Conversion.Points) λ y5 =>
  bindP (idx s1.2 s1.1) λ x4 =>
  letP (upd s1.2 s1.1 ({ x4 with Conversion:={ x4.Conversion with Points:=y5 } })) λ d1 =>
  k1 ((IntKind.i64.wrap (s1.1+1)),d1)) (
  some ((some (⟨s1.2,y4,x1,x2⟩:monitor_Monitor)),0))) fuel (0,y3)))
def bits_Mul64 (fuel:Nat) (a0:Int) (a1:Int):Option (Int×Int) :=
  letP (bAnd .u64 a0 4294967295) λ x1 =>
  letP (bAnd .u64 a1 4294967295) λ x2 =>
  letP (IntKind.u64.wrap (x1*x2)) λ x3 =>
  letP (IntKind.u64.wrap ((IntKind.u64.wrap ((bShr .u64 a0 32)*x2))+(bShr .u64 x3 32))) λ x4 =>
  letP (bAnd .u64 x4 4294967295) λ x5 =>
  letP (IntKind.u64.wrap (x5+(IntKind.u64.wrap (x1*(bShr .u64 a1 32))))) λ x6 =>
  letP (IntKind.u64.wrap ((IntKind.u64.wrap ((IntKind.u64.wrap ((bShr .u64 a0 32)*(bShr .u64 a1 32)))+(bShr .u64 x4 32)))+(bShr .u64 x6 32))) λ x7 =>
  letP (IntKind.u64.wrap (a0*a1)) λ x8 =>
  some (x7,x8)
def bits_Mul (fuel:Nat) (a0:Int) (a1:Int):Option (Int×Int) :=
  bindP (bits_Mul64 fuel a0 a1) λ y1 =>
  some (y1.1,y1.2)
def slices_Repeat_byte_byte (fuel:Nat) (a0:List Int) (a1:Int):Option ((List Int)) :=
  iteP (decide (a1<0)) (
  none) (
  bindP (bits_Mul fuel (IntKind.u64.wrap (a0.length:Int)) (IntKind.u64.wrap a1)) λ y1 =>
  iteP (decide (y1.1>0)) (
  none) (
  iteP (decide (y1.2>9223372036854775807)) (
  none) (
  bindP (mk 1 0 (IntKind.i64.wrap y1.2)) λ x1 =>
  letP (lay x1 0 (a0.take x1.length)) λ d1 =>
  letP ((min a0.length x1.length:Nat):Int) λ x2 =>
  loopP (λ k1 (s1:(Int×(List Int))) =>
  iteP (decide (s1.1<(s1.2.length:Int))) (
  bindP (chk (decide ((0:Int)≤s1.1∧s1.1≤(s1.2.length:Int)∧(s1.2.length:Int)≤(s1.2.length:Int)))) λ _ =>
  bindP (chk (decide ((0:Int)≤s1.1∧s1.1≤(s1.2.length:Int)))) λ _ =>
  bindP (chk (decide (s1.1.toNat<s1.2.length∧0<(s1.1:Int).toNat∧(s1.1:Int).toNat≤s1.2.length))) λ _ =>
  letP (lay s1.2 s1.1.toNat (s1.2.take (min ((s1.1:Int).toNat) (s1.2.length-s1.1.toNat)))) λ d2 =>
  letP (IntKind.i64.wrap (s1.1+((min ((s1.1:Int).toNat) (s1.2.length-s1.1.toNat):Nat):Int))) λ x3 =>
  k1 (x3,d2)) (
  some s1.2)) fuel (x2,d1))))
def flash_New (fuel:Nat) (a0:Int) (a1:Int):Option ((Option flash_Device)×Int) :=
  iteP (decide (a0<1)) (
  none) (
  iteP (decide (a0>16)) (
  none) (
  iteP (decide (a1<64)) (
  none) (
  iteP (decide (a1>1024)) (
  none) (
  bindP (slices_Repeat_byte_byte fuel ([255]) (IntKind.i64.wrap (a0*a1))) λ y1 =>
  bindP (mk 8 0 a0) λ x1 =>
  some ((some (⟨a1,y1,x1,0,0,0,false⟩:flash_Device)),0)))))
def flash_Device_Sectors (fuel:Nat) (a0:flash_Device):Option (Int) :=
  some (a0.wear.length:Int)
def flash_Device_Size (fuel:Nat) (a0:flash_Device):Option (Int) :=
  some a0.size
def flash_Device_within (fuel:Nat) (a0:flash_Device) (a1:Int) (a2:Int):Option (Bool) :=
  iteP (decide (a1≥0)) (
  iteP (decide (a1≤(a0.bytes.length:Int))) (
  iteP (decide (a2≥0)) (
  letP (decide (a2≤(IntKind.i64.wrap ((a0.bytes.length:Int)-a1)))) λ x1 =>
  some x1) (
  none)) (
  none)) (
  none)
def slices_Clone_byte_byte (fuel:Nat) (a0:List Int):Option ((List Int)) :=
  bindP (app 1 ([]) a0) λ x1 =>
  some x1
def flash_Device_Read (fuel:Nat) (a0:flash_Device) (a1:Int) (a2:Int):Option ((List Int)×Int) :=
  iteP a0.down (
  none) (
  bindP (flash_Device_within fuel a0 a1 a2) λ y1 =>
  letP (!y1) λ x1 =>
  iteP x1 (
  none) (
  bindP (chk (decide ((0:Int)≤a1∧a1≤(IntKind.i64.wrap (a1+a2))∧(IntKind.i64.wrap (a1+a2))≤(a0.bytes.length:Int)))) λ _ =>
  bindP (sub a0.bytes a1 (IntKind.i64.wrap (a1+a2))) λ x2 =>
  bindP (slices_Clone_byte_byte fuel x2) λ y2 =>
  some (y2,0)))
def eventlog_read4 (fuel:Nat) (a0:List Int):Option (Int) :=
  bindP (idx a0 0) λ x1 =>
  bindP (idx a0 1) λ x2 =>
  bindP (idx a0 2) λ x3 =>
  bindP (idx a0 3) λ x4 =>
  letP (bOr .i64 (bOr .i64 (bOr .i64 (IntKind.i64.wrap x1) (bShl .i64 (IntKind.i64.wrap x2) 8)) (bShl .i64 (IntKind.i64.wrap x3) 16)) (bShl .i64 (IntKind.i64.wrap x4) 24)) λ x5 =>
  some x5
def eventlog_Log_header (fuel:Nat) (a0:eventlog_Log) (a1:List Int) (a2:Int):Option (eventlog_head×Bool) :=
  bindP (eventlog_read4 fuel a1) λ y1 =>
  bindP (sub a1 4 a1.length) λ x1 =>
  bindP (eventlog_read4 fuel x1) λ y2 =>
  bindP (idx a1 8) λ x2 =>
  bindP (idx a1 9) λ x3 =>
  bindP (idx a1 10) λ x4 =>
  letP (x4==0) λ x5 =>
  iteP x5 (
  none) (
  some ((⟨y1,y2,(bOr .u16 (IntKind.u16.wrap x2) (bShl .u16 (IntKind.u16.wrap x3) 8))⟩:eventlog_head),false))
def eventlog_blank_1 (fuel:Nat) (a0:Int):Option (Bool) :=
  letP (a0 != 255) λ x1 =>
  some x1
def slices_IndexFunc_byte_byte_eventlog_blank_1 (fuel:Nat) (a0:List Int):Option (Int) :=
  loopP (λ k1 (s1:Int) =>
  iteP (decide (s1<(a0.length:Int))) (
  bindP (idx a0 s1) λ x1 =>
  bindP (eventlog_blank_1 fuel x1) λ y1 =>
  iteP y1 (
  none) (
  k1 ((IntKind.i64.wrap (s1+1))))) (
  some (-1))) fuel (0)
def slices_ContainsFunc_byte_byte_eventlog_blank_1 (fuel:Nat) (a0:List Int):Option (Bool) :=
  bindP (slices_IndexFunc_byte_byte_eventlog_blank_1 fuel a0) λ y1 =>
  letP (decide (y1≥0)) λ x1 =>
  some x1
def eventlog_blank (fuel:Nat) (a0:List Int):Option (Bool) :=
  bindP (slices_ContainsFunc_byte_byte_eventlog_blank_1 fuel a0) λ y1 =>
  letP (!y1) λ x1 =>
  some x1
def event_Valid (fuel:Nat) (a0:Event_):Option (Bool) :=
  iteP (decide (a0.ID≤65534)) (
  iteP (decide (a0.Time≤4294967294)) (
  letP (decide (a0.Type_≤127)) λ x1 =>
  some x1) (
  none)) (
  none)
def eventlog_behind (fuel:Nat) (a0:Int):Option (Int) :=
  iteP (a0==65534) (
  none) (
  letP (IntKind.u16.wrap (a0+1)) λ x1 =>
  some x1)
def eventlog_Open (fuel:Nat) (a0:flash_Device) (a1:Int) (a2:Int) (a3:Bool):Option ((Option eventlog_Log)×Int) :=
  iteP (decide (a2<2)) (
  none) (
  iteP (decide (a1<0)) (
  none) (
  bindP (flash_Device_Sectors fuel a0) λ y1 =>
  iteP (decide (a2>y1)) (
  none) (
  bindP (flash_Device_Sectors fuel a0) λ y2 =>
  iteP (decide (a1>(IntKind.i64.wrap (y2-a2)))) (
  none) (
  bindP (mk 24 ([]:List Int) a2) λ x1 =>
  bindP (mk 24 eventlog_head.z a2) λ x2 =>
  loopP (λ k1 (s1:Int) =>
  iteP (decide (s1<a2)) (
  bindP (flash_Device_Size fuel a0) λ y3 =>
  bindP (flash_Device_Size fuel a0) λ y4 =>
  bindP (flash_Device_Read fuel a0 (IntKind.i64.wrap ((IntKind.i64.wrap (a1+s1))*y3)) y4) λ y5 =>
  iteP (y5.2 != 0) (
  none) (
  bindP (eventlog_Log_header fuel (⟨true,a1,a2,a3,0,0,0,1,[],false,0,false,false⟩:eventlog_Log) y5.1 s1) λ y6 =>
  iteP y6.2 (
  none) (
  k1 ((IntKind.i64.wrap (s1+1)))))) (
  loopP (λ k2 (s2:Unit) =>
  iteP (decide (0≤0)) (
  iteP (decide (0>0)) (
  none) (
  some ((some (⟨true,a1,a2,a3,0,0,0,1,[],false,0,false,false⟩:eventlog_Log)),0))) (
  none)) fuel ())) fuel (0)))))
def monitor_Monitor_find_1_2 (fuel:Nat) (a0:Sensor_) (a1:Int):Option (Bool) :=
  letP (a0.Number==a1) λ x1 =>
  some x1
def slices_IndexFunc_api_Sensor_api_Sensor_monitor_Monitor_find_1 (fuel:Nat) (a0:List Sensor_) (a1_0:Int):Option (Int) :=
  loopP (λ k1 (s1:Unit) =>
  iteP (decide (0<(a0.length:Int))) (
  bindP (idx a0 0) λ x1 =>
  bindP (monitor_Monitor_find_1_2 fuel x1 a1_0) λ y1 =>
  iteP y1 (
  some 0) (
  none)) (
  none)) fuel ()
def monitor_Monitor_find (fuel:Nat) (a0:monitor_Monitor) (a1:Int):Option (Int) :=
  bindP (slices_IndexFunc_api_Sensor_api_Sensor_monitor_Monitor_find_1 fuel a0.sensors a1) λ y1 =>
  some y1
def monitor_Monitor_check (fuel:Nat) (a0:monitor_Monitor) (a1:List Sample_):Option (Int) :=
  loopP (λ k1 (s1:Int) =>
  iteP (decide (s1<(a1.length:Int))) (
  bindP (idx a1 s1) λ x1 =>
  letP (decide (s1>0)) λ x2 =>
  iteP x2 (
  none) (
  iteP (!x1.OK) (
  none) (
  bindP (monitor_Monitor_find fuel a0 x1.Number) λ y1 =>
  iteP (decide (y1<0)) (
  none) (
  bindP (idx a0.sensors y1) λ x3 =>
  iteP (!x3.Discrete) (
  iteP (x1.States != 0) (
  none) (
  iteP x3.Discrete (
  none) (
  letP ((bAndNot .u16 x1.States x3.States) != 0) λ x4 =>
  iteP x4 (
  none) (
  k1 ((IntKind.i64.wrap (s1+1))))))) (
  none))))) (
  some 0)) fuel (0)
def entity_present_1_2 (fuel:Nat) (a0:Entity_) (a1:List Entity_):Option (Bool) :=
  bindP (slices_Contains_api_Entity_api_Entity fuel a1 a0) λ y1 =>
  some y1
def slices_IndexFunc_api_Entity_api_Entity_entity_present_1 (fuel:Nat) (a0:List Entity_) (a1_0:List Entity_):Option (Int) :=
  loopP (λ k1 (s1:Int) =>
  iteP (decide (s1<(a0.length:Int))) (
  bindP (idx a0 s1) λ x1 =>
  bindP (entity_present_1_2 fuel x1 a1_0) λ y1 =>
  iteP y1 (
  none) (
  k1 ((IntKind.i64.wrap (s1+1))))) (
  some (-1))) fuel (0)
def slices_ContainsFunc_api_Entity_api_Entity_entity_present_1 (fuel:Nat) (a0:List Entity_) (a1_0:List Entity_):Option (Bool) :=
  bindP (slices_IndexFunc_api_Entity_api_Entity_entity_present_1 fuel a0 a1_0) λ y1 =>
  letP (decide (y1≥0)) λ x1 =>
  some x1
def entity_present (fuel:Nat) (a0:List Association_) (a1:List Entity_) (a2:Entity_):Option (Bool) :=
  bindP (entity_around fuel a0 a2) λ y1 =>
  bindP (app 2 y1 ([a2])) λ x1 =>
  bindP (slices_ContainsFunc_api_Entity_api_Entity_entity_present_1 fuel x1 a1) λ y2 =>
  letP (!y2) λ x2 =>
  some x2
def entity_Present (fuel:Nat) (a0:List Association_) (a1:List Entity_) (a2:Entity_):Option (Bool×Int) :=
  bindP (entity_Check fuel a0) λ y1 =>
  iteP (y1 != 0) (
  none) (
  bindP (entity_present fuel a0 a1 a2) λ y2 =>
  some (y2,0))
def sampling_Valid (fuel:Nat) (a0:Sensor_) (a1:Filter_):Option (Bool) :=
  bindP (sensor_Valid fuel a0) λ y1 =>
  iteP (!y1) (
  none) (
  iteP (decide ((a1.Window.length:Int)>a0.Samples)) (
  none) (
  iteP (decide (a1.Missing<0)) (
  none) (
  iteP (decide (a1.Missing>3)) (
  none) (
  iteP (decide (a1.Missing<3)) (
  some true) (
  none)))))
def sampling_Step (fuel:Nat) (a0:Sensor_) (a1:Filter_) (a2:Int) (a3:Bool):Option (Filter_×Int) :=
  bindP (sampling_Valid fuel a0 a1) λ y1 =>
  iteP (!y1) (
  none) (
  bindP (slices_Clone_byte_byte fuel a1.Window) λ y2 =>
  iteP a3 (
  bindP (app 1 y2 ([a2])) λ x1 =>
  iteP (decide ((x1.length:Int)>a0.Samples)) (
  none) (
  some ((⟨x1,0⟩:Filter_),0))) (
  none))
def slices_Values_uint8_uint8 (fuel:Nat) (a0:List Int):Option (((List Int))) :=
  some (a0)
def bits_Len64 (fuel:Nat) (a0:Int):Option (Int) :=
  iteP (decide (a0≥4294967296)) (
  none) (
  iteP (decide (a0≥65536)) (
  none) (
  iteP (decide (a0≥256)) (
  none) (
  bindP (idx ([0,1,2,2,3,3,3,3,4,4,4,4,4,4,4,4,5,5,5,5,5,5,5,5,5,5,5,5,5,5,5,5,6,6,6,6,6,6,6,6,6,6,6,6,6,6,6,6,6,6,6,6,6,6,6,6,6,6,6,6,6,6,6,6,7,7,7,7,7,7,7,7,7,7,7,7,7,7,7,7,7,7,7,7,7,7,7,7,7,7,7,7,7,7,7,7,7,7,7,7,7,7,7,7,7,7,7,7,7,7,7,7,7,7,7,7,7,7,7,7,7,7,7,7,7,7,7,7,8,8,8,8,8,8,8,8,8,8,8,8,8,8,8,8,8,8,8,8,8,8,8,8,8,8,8,8,8,8,8,8,8,8,8,8,8,8,8,8,8,8,8,8,8,8,8,8,8,8,8,8,8,8,8,8,8,8,8,8,8,8,8,8,8,8,8,8,8,8,8,8,8,8,8,8,8,8,8,8,8,8,8,8,8,8,8,8,8,8,8,8,8,8,8,8,8,8,8,8,8,8,8,8,8,8,8,8,8,8,8,8,8,8,8,8,8,8,8,8,8,8,8,8,8,8,8,8]) (IntKind.u8.wrap a0)) λ x1 =>
  letP (IntKind.i64.wrap (0+(IntKind.i64.wrap x1))) λ x2 =>
  some x2)))
def bits_Len (fuel:Nat) (a0:Int):Option (Int) :=
  bindP (bits_Len64 fuel a0) λ y1 =>
  some y1
def slices_Values_uint8_uint8_1_2 {σ:Type} (fuel:Nat) (bd_:σ→Int→Option σ) (s_:σ) (a1:List Int):Option (σ) :=
  loopP (λ k1 (s1:(Int×σ)) =>
  iteP (decide (s1.1<(a1.length:Int))) (
  bindP (idx a1 s1.1) λ x1 =>
  bindP (bd_ s1.2 x1) λ y1 =>
  k1 ((IntKind.i64.wrap (s1.1+1)),y1)) (
  some s1.2)) fuel (0,s_)
def slices_AppendSeq_uint8_uint8_slices_Values_uint8_uint8_1 (fuel:Nat) (a1_0:List Int):Option ((List Int)) :=
  bindP (slices_Values_uint8_uint8_1_2 fuel (λ (s1:((List Int))) (x1:Int) =>
  bindP (app 1 s1 ([x1])) λ x2 =>
  some (x2)) ([]) a1_0) λ y1 =>
  some y1
def slices_Collect_uint8_slices_Values_uint8_uint8_1 (fuel:Nat) (a0_0:List Int):Option ((List Int)) :=
  bindP (slices_AppendSeq_uint8_uint8_slices_Values_uint8_uint8_1 fuel a0_0) λ y1 =>
  some y1
def slices_insertionSortCmpFunc_uint8_sampling_Reading_1 (fuel:Nat) (a0:List Int) (a1:Int) (a2:Int) (a3_0:Sensor_):Option ((List Int)) :=
  letP (IntKind.i64.wrap (a1+1)) λ x1 =>
  loopP (λ k1 (s1:Unit) =>
  iteP (decide (x1<a2)) (
  none) (
  some a0)) fuel ()
def slices_pdqsortCmpFunc_uint8_sampling_Reading_1 (fuel:Nat) (a0:List Int) (a1:Int) (a2:Int) (a3:Int) (a4_0:Sensor_):Option ((List Int)) :=
  loopP (λ k1 (s1:Unit) =>
  letP (IntKind.i64.wrap (a2-a1)) λ x1 =>
  iteP (decide (x1≤12)) (
  bindP (slices_insertionSortCmpFunc_uint8_sampling_Reading_1 fuel a0 a1 a2 a4_0) λ y1 =>
  some y1) (
  none)) fuel ()
def slices_SortFunc_uint8_uint8_sampling_Reading_1 (fuel:Nat) (a0:List Int) (a1_0:Sensor_):Option ((List Int)) :=
  bindP (bits_Len fuel (IntKind.u64.wrap (a0.length:Int))) λ y1 =>
  bindP (slices_pdqsortCmpFunc_uint8_sampling_Reading_1 fuel a0 0 (a0.length:Int) y1 a1_0) λ y2 =>
  some y2
def slices_SortedFunc_uint8_slices_Values_uint8_uint8_1_sampling_Reading_1 (fuel:Nat) (a0_0:List Int) (a1_0:Sensor_):Option ((List Int)) :=
  bindP (slices_Collect_uint8_slices_Values_uint8_uint8_1 fuel a0_0) λ y1 =>
  bindP (slices_SortFunc_uint8_uint8_sampling_Reading_1 fuel y1 a1_0) λ y2 =>
  some y2
def sampling_Reading (fuel:Nat) (a0:Sensor_) (a1:Filter_):Option (Int×Bool) :=
  bindP (sampling_Valid fuel a0 a1) λ y1 =>
  iteP (!y1) (
  none) (
  iteP ((a1.Window.length:Int) != a0.Samples) (
  none) (
  bindP (slices_Values_uint8_uint8 fuel a1.Window) λ y2 =>
  bindP (slices_SortedFunc_uint8_slices_Values_uint8_uint8_1_sampling_Reading_1 fuel y2 a0) λ y3 =>
  bindP (idx y3 (IntKind.i64.wrap (Int.tdiv (y3.length:Int) 2))) λ x1 =>
  some (x1,true)))
def threshold_analog (fuel:Nat) (a0:Sensor_):Option (Bool) :=
  iteP (!a0.Discrete) (
  bindP (sensor_Valid fuel a0) λ y1 =>
  some y1) (
  none)
def threshold_beyond (fuel:Nat) (a0:Sensor_) (a1:Int) (a2:Int):Option (Int×Int) :=
  bindP (convert_Number fuel a0.Conversion.Signed a2) λ y1 =>
  bindP (idx a0.Limits.Raw a1) λ x1 =>
  bindP (chk (Nat.beq a0.Limits.Raw.length 6)) λ _ =>
  bindP (convert_Number fuel a0.Conversion.Signed x1) λ y2 =>
  iteP (decide (a1≤2)) (
  letP (IntKind.i64.wrap a0.HystLower) λ x2 =>
  some ((IntKind.i64.wrap (y2-y1)),x2)) (
  letP (IntKind.i64.wrap a0.HystUpper) λ x3 =>
  some ((IntKind.i64.wrap (y1-y2)),x3))
def threshold_next (fuel:Nat) (a0:Sensor_) (a1:Int) (a2:Int):Option (Int) :=
  loopP (λ k1 (s1:(Int×Int)) =>
  iteP (decide (s1.2<6)) (
  bindP (chk (decide (0≤s1.2))) λ _ =>
  letP (bAnd .u8 (bShl .u8 1 s1.2) a0.Limits.Mask) λ x1 =>
  bindP (threshold_beyond fuel a0 s1.2 a2) λ y1 =>
  joinP (λ (s2:Bool) =>
  iteP s2 (
  k1 ((bOr .u8 s1.1 x1),(IntKind.i64.wrap (s1.2+1)))) (
  k1 (s1.1,(IntKind.i64.wrap (s1.2+1))))) λ j1 =>
  iteP (decide (y1.1≥0)) (
  j1 (true)) (
  iteP ((bAnd .u8 a1 x1) != 0) (
  none) (
  j1 (false)))) (
  some s1.1)) fuel (0,0)
def threshold_Step (fuel:Nat) (a0:Sensor_) (a1:Int) (a2:Int):Option (Int×(List Change_)×Int) :=
  bindP (threshold_analog fuel a0) λ y1 =>
  letP (!y1) λ x1 =>
  iteP x1 (
  none) (
  letP ((bAndNot .u8 a1 a0.Limits.Mask) != 0) λ x2 =>
  iteP x2 (
  none) (
  bindP (threshold_next fuel a0 a1 a2) λ y2 =>
  loopP (λ k1 (s1:(Int×(List Change_))) =>
  iteP (decide (s1.1<6)) (
  bindP (chk (decide (0≤s1.1))) λ _ =>
  iteP ((bAnd .u8 (bShr .u8 (bXor .u8 a1 y2) s1.1) 1)==1) (
  bindP (chk (decide (0≤s1.1))) λ _ =>
  bindP (app 16 s1.2 ([(⟨s1.1,(bAnd .u8 (bShr .u8 y2 s1.1) 1)==1⟩:Change_)])) λ x3 =>
  k1 ((IntKind.i64.wrap (s1.1+1)),x3)) (
  k1 ((IntKind.i64.wrap (s1.1+1)),s1.2))) (
  some (y2,s1.2,0))) fuel (0,[])))
def monitor_Monitor_step (fuel:Nat) (a0:monitor_Monitor) (a1:Int) (a2:Sample_):Option ((List Change_)×Int×monitor_Monitor) :=
  bindP (idx a0.sensors a1) λ x1 =>
  iteP x1.Discrete (
  none) (
  bindP (idx a0.filters a1) λ x2 =>
  bindP (sampling_Step fuel x1 x2 a2.Raw a2.OK) λ y1 =>
  letP (upd a0.filters a1 y1.1) λ d1 =>
  bindP (idx d1 a1) λ x3 =>
  bindP (sampling_Reading fuel x1 x3) λ y2 =>
  iteP (!y2.2) (
  none) (
  bindP (idx a0.states a1) λ x4 =>
  bindP (threshold_Step fuel x1 (IntKind.u8.wrap x4) y2.1) λ y3 =>
  bindP (idx a0.states a1) λ x5 =>
  letP (upd a0.states a1 (IntKind.u16.wrap y3.1)) λ d2 =>
  some (y3.2.1,y2.1,{ { a0 with filters:=d1 } with states:=d2 })))
def event_Threshold (fuel:Nat) (a0:Int) (a1:Int) (a2:Int) (a3:Bool) (a4:Int) (a5:Int):Option (Event_×Int) :=
  iteP (decide (a2<0)) (
  none) (
  iteP (decide (a2≥6)) (
  none) (
  bindP (idx ([0,2,4,7,9,11]) a2) λ x1 =>
  some ((⟨0,0,32,a0,a1,1,!a3,[(IntKind.u8.wrap (80+x1)),a4,a5]⟩:Event_),0)))
def monitor_events (fuel:Nat) (a0:Sensor_) (a1:List Change_) (a2:Int):Option ((List Event_)) :=
  loopP (λ k1 (s1:(Int×(List Event_))) =>
  iteP (decide (s1.1<(a1.length:Int))) (
  bindP (idx a1 s1.1) λ x1 =>
  iteP x1.Asserted (
  bindP (chk (decide (0≤x1.Index))) λ _ =>
  iteP ((bAnd .u16 (bShr .u16 a0.Assert x1.Index) 1)==0) (
  none) (
  iteP a0.Discrete (
  none) (
  bindP (idx a0.Limits.Raw x1.Index) λ x2 =>
  bindP (chk (Nat.beq a0.Limits.Raw.length 6)) λ _ =>
  bindP (event_Threshold fuel a0.Type_ a0.Number x1.Index x1.Asserted a2 x2) λ y1 =>
  bindP (app 20 s1.2 ([y1.1])) λ x3 =>
  k1 ((IntKind.i64.wrap (s1.1+1)),x3)))) (
  none)) (
  some s1.2)) fuel (0,[])
def monitor_Monitor_Scan_1_2 (fuel:Nat) (a0:Sample_) (a1:Sensor_):Option (Bool) :=
  letP (a0.Number==a1.Number) λ x1 =>
  some x1
def slices_IndexFunc_api_Sample_api_Sample_monitor_Monitor_Scan_1 (fuel:Nat) (a0:List Sample_) (a1_0:Sensor_):Option (Int) :=
  loopP (λ k1 (s1:Unit) =>
  iteP (decide (0<(a0.length:Int))) (
  bindP (idx a0 0) λ x1 =>
  bindP (monitor_Monitor_Scan_1_2 fuel x1 a1_0) λ y1 =>
  iteP y1 (
  some 0) (
  none)) (
  none)) fuel ()
def monitor_Monitor_Scan (fuel:Nat) (a0:monitor_Monitor) (a1:List Sample_) (a2:List Entity_) (a3:Bool):Option ((List Event_)×Int×monitor_Monitor) :=
  bindP (monitor_Monitor_check fuel a0 a1) λ y1 =>
  iteP (y1 != 0) (
  none) (
  loopP (λ k1 (s1:(Int×monitor_Monitor×(List Event_))) =>
  iteP (decide (s1.1<(a0.sensors.length:Int))) (
  bindP (idx a0.sensors s1.1) λ x1 =>
  bindP (entity_Present fuel s1.2.1.l a2 x1.Entity) λ y2 =>
  iteP (!y2.1) (
  none) (
  iteP x1.HostOn (
  none) (
  bindP (slices_IndexFunc_api_Sample_api_Sample_monitor_Monitor_Scan_1 fuel a1 x1) λ y3 =>
  iteP (decide (y3≥0)) (
  bindP (idx a1 y3) λ x2 =>
  bindP (monitor_Monitor_step fuel s1.2.1 s1.1 x2) λ y4 =>
  bindP (monitor_events fuel x1 y4.1 y4.2.1) λ y5 =>
  bindP (app 20 s1.2.2 y5) λ x3 =>
  k1 ((IntKind.i64.wrap (s1.1+1)),y4.2.2,x3)) (
  none)))) (
  some (s1.2.2,0,s1.2.1))) fuel (0,a0,[]))
def flash_Device_Down (fuel:Nat) (a0:flash_Device):Option (Bool) :=
  some a0.down
def eventlog_Log_down (fuel:Nat) (a0:eventlog_Log) (ad:flash_Device):Option (Bool×eventlog_Log×flash_Device) :=
  iteP a0.ended (
  none) (
  bindP (chk a0.d) λ _ =>
  bindP (flash_Device_Down fuel ad) λ y1 =>
  iteP y1 (
  none) (
  some (a0.ended,a0,ad)))
def flash_Device_step (fuel:Nat) (a0:flash_Device):Option (Bool×flash_Device) :=
  letP ({ a0 with steps:=(IntKind.i64.wrap (a0.steps+1)) }) λ d1 =>
  iteP (decide (d1.left>0)) (
  none) (
  some (d1.down,{ { d1 with bytes:=a0.bytes } with wear:=a0.wear }))
def eventlog_write4 (fuel:Nat) (a0:Int):Option ((List Int)) :=
  some ([(IntKind.u8.wrap a0),(IntKind.u8.wrap (bShr .i64 a0 8)),(IntKind.u8.wrap (bShr .i64 a0 16)),(IntKind.u8.wrap (bShr .i64 a0 24))])
def flash_Device_Program (fuel:Nat) (a0:flash_Device) (a1:Int) (a2:List Int):Option (Int×flash_Device) :=
  iteP a0.down (
  none) (
  bindP (flash_Device_within fuel a0 a1 (a2.length:Int)) λ y1 =>
  letP (!y1) λ x1 =>
  iteP x1 (
  none) (
  loopP (λ k1 (s1:(Int×flash_Device)) =>
  iteP (decide (s1.1<(a2.length:Int))) (
  bindP (idx a2 s1.1) λ x2 =>
  bindP (flash_Device_step fuel s1.2) λ y2 =>
  iteP y2.1 (
  none) (
  bindP (idx y2.2.bytes (IntKind.i64.wrap (a1+s1.1))) λ x3 =>
  letP (upd y2.2.bytes (IntKind.i64.wrap (a1+s1.1)) (bAnd .u8 x3 x2)) λ d1 =>
  k1 ((IntKind.i64.wrap (s1.1+1)),{ { { { y2.2 with bytes:=d1 } with wear:=y2.2.wear } with bytes:=d1 } with wear:=y2.2.wear }))) (
  some (0,s1.2))) fuel (0,a0)))
def slices_IndexFunc_eventlog_record_eventlog_record_eventlog_Log_open_1 (fuel:Nat) (a0:List eventlog_record) (a1_0:Int):Option (Int) :=
  loopP (λ k1 (s1:Unit) =>
  iteP (decide (0<(a0.length:Int))) (
  none) (
  some (-1))) fuel ()
def slices_DeleteFunc_eventlog_record_eventlog_record_eventlog_Log_open_1 (fuel:Nat) (a0:List eventlog_record) (a1_0:Int):Option ((List eventlog_record)) :=
  bindP (slices_IndexFunc_eventlog_record_eventlog_record_eventlog_Log_open_1 fuel a0 a1_0) λ y1 =>
  iteP (y1==(-1)) (
  some a0) (
  none)
def eventlog_Log_open (fuel:Nat) (a0:eventlog_Log) (a1:Int) (ad:flash_Device):Option (Int×eventlog_Log×flash_Device) :=
  letP (IntKind.i64.wrap (a0.newest+1)) λ x1 =>
  iteP (decide (x1>2147483648)) (
  none) (
  bindP (chk (decide (a0.sectors≠0))) λ _ =>
  letP (IntKind.i64.wrap (a0.first+(Int.tmod (IntKind.i64.wrap (x1-1)) a0.sectors))) λ x2 =>
  bindP (chk a0.d) λ _ =>
  bindP (flash_Device_Size fuel ad) λ y1 =>
  letP (IntKind.i64.wrap (x2*y1)) λ x3 =>
  bindP (flash_Device_Size fuel ad) λ y2 =>
  bindP (flash_Device_Read fuel ad x3 y2) λ y3 =>
  iteP (y3.2==0) (
  bindP (eventlog_blank fuel y3.1) λ y4 =>
  iteP (!y4) (
  none) (
  iteP (y3.2==0) (
  bindP (eventlog_write4 fuel x1) λ y5 =>
  bindP (eventlog_write4 fuel a1) λ y6 =>
  bindP (app 1 y5 y6) λ x4 =>
  bindP (app 1 x4 ([(IntKind.u8.wrap a0.next),(IntKind.u8.wrap (bShr .u16 a0.next 8))])) λ x5 =>
  bindP (flash_Device_Program fuel ad x3 x5) λ y7 =>
  iteP (y7.1==0) (
  bindP (flash_Device_Program fuel y7.2 (IntKind.i64.wrap (x3+10)) ([0])) λ y8 =>
  iteP (y8.1==0) (
  letP ({ a0 with newest:=x1 }) λ d1 =>
  letP ({ d1 with tail:=a1 }) λ d2 =>
  letP ({ d2 with used:=0 }) λ d3 =>
  bindP (slices_DeleteFunc_eventlog_record_eventlog_record_eventlog_Log_open_1 fuel a0.records a1) λ y9 =>
  some (y8.1,{ { d3 with d:=a0.d } with records:=y9 },y8.2)) (
  none)) (
  none)) (
  none))) (
  none))
def eventlog_Log_grow (fuel:Nat) (a0:eventlog_Log) (ad:flash_Device):Option (Int×eventlog_Log×flash_Device) :=
  iteP (decide ((IntKind.i64.wrap ((IntKind.i64.wrap (a0.newest+1))-(max a0.tail 1)))>(IntKind.i64.wrap (a0.sectors-2)))) (
  none) (
  bindP (eventlog_Log_open fuel a0 (max a0.tail 1) ad) λ y1 =>
  some (y1.1,y1.2.1,y1.2.2))
def event_Encode (fuel:Nat) (a0:Event_):Option ((List Int)×Int) :=
  bindP (event_Valid fuel a0) λ y1 =>
  iteP (!y1) (
  none) (
  iteP a0.Deassert (
  none) (
  bindP (idx a0.Data 0) λ x1 =>
  bindP (chk (Nat.beq a0.Data.length 3)) λ _ =>
  bindP (idx a0.Data 1) λ x2 =>
  bindP (chk (Nat.beq a0.Data.length 3)) λ _ =>
  bindP (idx a0.Data 2) λ x3 =>
  bindP (chk (Nat.beq a0.Data.length 3)) λ _ =>
  some ([(IntKind.u8.wrap a0.ID),(IntKind.u8.wrap (bShr .u16 a0.ID 8)),2,(IntKind.u8.wrap a0.Time),(IntKind.u8.wrap (bShr .u32 a0.Time 8)),(IntKind.u8.wrap (bShr .u32 a0.Time 16)),(IntKind.u8.wrap (bShr .u32 a0.Time 24)),(IntKind.u8.wrap a0.Generator),(IntKind.u8.wrap (bShr .u16 a0.Generator 8)),4,a0.SensorType,a0.Sensor,a0.Type_,x1,x2,x3],0)))
def eventlog_Log_Add (fuel:Nat) (a0:eventlog_Log) (a1:Event_) (ad:flash_Device):Option (Int×Int×eventlog_Log×flash_Device) :=
  bindP (eventlog_Log_down fuel a0 ad) λ y1 =>
  iteP y1.1 (
  none) (
  bindP (event_Valid fuel a1) λ y2 =>
  iteP (!y2) (
  none) (
  iteP (a1.ID != 0) (
  none) (
  bindP (chk y1.2.1.d) λ _ =>
  letP (y1.2.1.newest==0) λ x1 =>
  iteP x1 (
  bindP (eventlog_Log_grow fuel y1.2.1 y1.2.2) λ y3 =>
  iteP (y3.1 != 0) (
  none) (
  letP ({ a1 with ID:=y3.2.1.next }) λ d1 =>
  bindP (event_Encode fuel d1) λ y4 =>
  bindP (chk y3.2.1.d) λ _ =>
  bindP (chk (decide (y3.2.1.sectors≠0))) λ _ =>
  bindP (flash_Device_Size fuel y3.2.2) λ y5 =>
  letP (IntKind.i64.wrap ((IntKind.i64.wrap ((IntKind.i64.wrap ((IntKind.i64.wrap (y3.2.1.first+(Int.tmod (IntKind.i64.wrap (y3.2.1.newest-1)) y3.2.1.sectors)))*y5))+11))+(IntKind.i64.wrap (y3.2.1.used*17)))) λ x2 =>
  bindP (app 1 y4.1 ([0])) λ x3 =>
  bindP (flash_Device_Program fuel y3.2.2 x2 x3) λ y6 =>
  iteP (y6.1 != 0) (
  none) (
  bindP (app 32 y3.2.1.records ([(⟨y3.2.1.newest,d1⟩:eventlog_record)])) λ x4 =>
  letP ({ y3.2.1 with used:=(IntKind.i64.wrap (y3.2.1.used+1)) }) λ d2 =>
  bindP (eventlog_behind fuel d1.ID) λ y7 =>
  letP ({ d2 with next:=y7 }) λ d3 =>
  some (d1.ID,0,{ { d3 with d:=y3.2.1.d } with records:=x4 },y6.2)))) (
  none))))
def eventlog_Log_Len (fuel:Nat) (a0:eventlog_Log):Option (Int) :=
  letP (a0.records.length:Int) λ x1 =>
  some x1
def top_first (fuel:Nat)  : Option (Bool) :=
  bindP (monitor_New fuel ([(⟨1,1,0,[116],Entity_.z,false,(⟨1,false,1,0,0,0,[]⟩:Conversion_),(⟨8,(upd (List.replicate 6 0) (3:Int) 80)⟩:Thresholds_),0,0,0,8,0,false,1⟩:Sensor_)]) ([])) λ y1 =>
  bindP (flash_New fuel 2 64) λ y2 =>
  iteP y1.1.isNone (
  none) (
  iteP y2.1.isNone (
  none) (
  iteP (y1.2 != 0) (
  none) (
  iteP (y2.2 != 0) (
  none) (
  bindP y2.1 λ x1 =>
  bindP (eventlog_Open fuel x1 0 2 false) λ y3 =>
  bindP y1.1 λ x2 =>
  bindP (monitor_Monitor_Scan fuel x2 ([(⟨1,true,80,0⟩:Sample_)]) ([]) true) λ y4 =>
  iteP y3.1.isNone (
  none) (
  iteP (y3.2 != 0) (
  none) (
  iteP (y4.2.1 != 0) (
  none) (
  iteP ((y4.1.length:Int) != 1) (
  none) (
  bindP (idx y4.1 0) λ x3 =>
  bindP y3.1 λ x4 =>
  bindP (eventlog_Log_Add fuel x4 x3 x1) λ y5 =>
  iteP (y5.2.1==0) (
  iteP (y5.1==1) (
  bindP (eventlog_Log_Len fuel y5.2.2.1) λ y6 =>
  letP (y6==1) λ x5 =>
  some x5) (
  none)) (
  none)))))))))
def made_Light (fuel:Nat) (a0:List Int):Option (Bool) :=
  letP (decide ((a0.length:Int)≤600)) λ x1 =>
  some x1
def made_Mod (fuel:Nat) (a0:Int) (a1:Int):Option (Int) :=
  bindP (chk (decide (a1≠0))) λ _ =>
  iteP (decide ((Int.tmod a0 a1)<0)) (
  letP (IntKind.i64.wrap ((Int.tmod a0 a1)+a1)) λ x1 =>
  some x1) (
  some (Int.tmod a0 a1))
def made_Roll (fuel:Nat) (a0:List Int):Option (made_Dice) :=
  some (⟨a0,0⟩:made_Dice)
def bus_New (fuel:Nat) (a0:Int):Option ((Option bus_Bus)×Int) :=
  joinP (λ (s1:Bool) =>
  iteP s1 (
  some (none,2)) (
  bindP (mk 40 bus_master.z a0) λ x1 =>
  some ((some (⟨x1⟩:bus_Bus)),0))) λ j1 =>
  iteP (decide (a0<1)) (
  j1 (true)) (
  j1 (decide (a0>8)))
def fragment_endpoint (fuel:Nat) (a0:Int):Option (Bool) :=
  iteP (decide (a0≥8)) (
  letP (decide (a0≤254)) λ x1 =>
  some x1) (
  some false)
def fragment_New (fuel:Nat) (a0:Int):Option ((Option fragment_Assembler)×Int) :=
  bindP (fragment_endpoint fuel a0) λ y1 =>
  iteP (!y1) (
  some (none,13)) (
  some ((some (⟨a0,[]⟩:fragment_Assembler)),0))
def made_Dice_Next (fuel:Nat) (a0:made_Dice) (a1:Int):Option (Int×made_Dice) :=
  iteP (decide (a0.At≥(a0.L.length:Int))) (
  some (0,a0)) (
  letP ({ a0 with At:=(IntKind.i64.wrap (a0.At+1)) }) λ d1 =>
  bindP (idx d1.L (IntKind.i64.wrap (d1.At-1))) λ x1 =>
  bindP (made_Mod fuel x1 a1) λ y1 =>
  some (y1,d1))
def made_Dice_Bool (fuel:Nat) (a0:made_Dice) (a1:Int):Option (Bool×made_Dice) :=
  bindP (made_Dice_Next fuel a0 a1) λ y1 =>
  letP (y1.1==(IntKind.i64.wrap (a1-1))) λ x1 =>
  some (x1,y1.2)
def made_Dice_Byte (fuel:Nat) (a0:made_Dice):Option (Int×made_Dice) :=
  letP ([0,1,127,128,254,255,15,240]) λ d1 =>
  bindP (made_Dice_Bool fuel a0 3) λ y1 =>
  iteP y1.1 (
  bindP (made_Dice_Next fuel y1.2 8) λ y2 =>
  bindP (idx d1 y2.1) λ x1 =>
  bindP (chk (Nat.beq d1.length 8)) λ _ =>
  some (x1,y2.2)) (
  bindP (made_Dice_Next fuel y1.2 256) λ y3 =>
  some ((IntKind.u8.wrap y3.1),y3.2))
def made_Dice_Bytes (fuel:Nat) (a0:made_Dice) (a1:Int):Option ((List Int)×made_Dice) :=
  bindP (made_Dice_Next fuel a0 (IntKind.i64.wrap (a1+1))) λ y1 =>
  loopP (λ k1 (s1:(Int×made_Dice×(List Int))) =>
  iteP (decide (s1.1>0)) (
  bindP (made_Dice_Byte fuel s1.2.1) λ y2 =>
  bindP (app 1 s1.2.2 ([y2.1])) λ x1 =>
  letP (IntKind.i64.wrap (s1.1-1)) λ x2 =>
  k1 (x2,y2.2,x1)) (
  some (s1.2.2,s1.2.1))) fuel (y1.1,y1.2,[])
def made_Dice_Message (fuel:Nat) (a0:made_Dice) (a1:Bool):Option (Message_×made_Dice) :=
  bindP (made_Dice_Next fuel a0 4) λ y1 =>
  bindP (made_Dice_Next fuel y1.2 4) λ y2 =>
  bindP (made_Dice_Next fuel y2.2 32) λ y3 =>
  bindP (made_Dice_Byte fuel y3.2) λ y4 =>
  bindP (made_Dice_Next fuel y4.2 4) λ y5 =>
  bindP (made_Dice_Next fuel y5.2 4) λ y6 =>
  bindP (made_Dice_Next fuel y6.2 64) λ y7 =>
  bindP (made_Dice_Bytes fuel y7.2 8) λ y8 =>
  joinP (λ (s1:(made_Dice×Message_)) =>
  bindP (made_Dice_Bool fuel s1.1 40) λ y9 =>
  iteP y9.1 (
  bindP (mk 1 0 240) λ x1 =>
  some ({ s1.2 with Data:=x1 },y9.2)) (
  some (s1.2,y9.2))) λ j1 =>
  iteP a1 (
  bindP (made_Dice_Byte fuel y8.2) λ y10 =>
  j1 (y10.2,(⟨(IntKind.u8.wrap (IntKind.i64.wrap (16+y1.1))),(IntKind.u8.wrap (IntKind.i64.wrap (64+y2.1))),(IntKind.u8.wrap ((IntKind.u8.wrap (IntKind.i64.wrap (2*y3.1)))+1)),y4.1,y5.1,y6.1,y7.1,y10.1,y8.1⟩:Message_))) (
  j1 (y8.2,(⟨(IntKind.u8.wrap (IntKind.i64.wrap (16+y1.1))),(IntKind.u8.wrap (IntKind.i64.wrap (64+y2.1))),(IntKind.u8.wrap (IntKind.i64.wrap (2*y3.1))),y4.1,y5.1,y6.1,y7.1,0,y8.1⟩:Message_)))
def message_address (fuel:Nat) (a0:Int):Option (Bool) :=
  iteP (decide (a0≥8)) (
  letP (decide (a0≤119)) λ x1 =>
  some x1) (
  some false)
def message_unit (fuel:Nat) (a0:Int):Option (Bool) :=
  iteP (decide (a0≥0)) (
  letP (decide (a0<4)) λ x1 =>
  some x1) (
  some false)
def message_request (fuel:Nat) (a0:Message_):Option (Bool) :=
  letP ((Int.tmod a0.Function 2)==0) λ x1 =>
  some x1
def message_Valid (fuel:Nat) (a0:Message_):Option (Bool) :=
  bindP (message_address fuel a0.To) λ y1 =>
  joinP (λ (s1:Bool) =>
  iteP s1 (
  some false) (
  iteP (decide (a0.Sequence≥0)) (
  iteP (decide (a0.Sequence<64)) (
  iteP (decide ((a0.Data.length:Int)≤240)) (
  bindP (message_request fuel a0) λ y2 =>
  iteP (!y2) (
  some true) (
  letP (a0.Code==0) λ x1 =>
  some x1)) (
  some false)) (
  some false)) (
  some false))) λ j1 =>
  iteP (!y1) (
  j1 (true)) (
  bindP (message_address fuel a0.From) λ y3 =>
  iteP (!y3) (
  j1 (true)) (
  iteP (decide (a0.Function≥64)) (
  j1 (true)) (
  bindP (message_unit fuel a0.ToUnit) λ y4 =>
  iteP (!y4) (
  j1 (true)) (
  bindP (message_unit fuel a0.FromUnit) λ y5 =>
  j1 (!y5)))))
def checksum_Sum8 (fuel:Nat) (a0:List Int):Option (Int) :=
  loopP (λ k1 (s1:(Int×Int)) =>
  iteP (decide (s1.2<(a0.length:Int))) (
  bindP (idx a0 s1.2) λ x1 =>
  letP (IntKind.u8.wrap (s1.1+x1)) λ x2 =>
  k1 (x2,(IntKind.i64.wrap (s1.2+1)))) (
  letP (IntKind.u8.wrap (0-s1.1)) λ x3 =>
  some x3)) fuel (0,0)
def checksum_Seal8 (fuel:Nat) (a0:List Int):Option ((List Int)) :=
  bindP (slices_Clone_byte_byte fuel a0) λ y1 =>
  bindP (checksum_Sum8 fuel a0) λ y2 =>
  bindP (app 1 y1 ([y2])) λ x1 =>
  some x1
def message_encode (fuel:Nat) (a0:Message_):Option ((List Int)) :=
  bindP (checksum_Seal8 fuel ([(IntKind.u8.wrap (2*a0.To)),(IntKind.u8.wrap ((IntKind.u8.wrap (4*a0.Function))+(IntKind.u8.wrap a0.ToUnit)))])) λ y1 =>
  bindP (message_request fuel a0) λ y2 =>
  joinP (λ (s1:((List Int))) =>
  bindP (app 1 s1 a0.Data) λ x1 =>
  bindP (checksum_Seal8 fuel x1) λ y3 =>
  bindP (app 1 y1 y3) λ x2 =>
  some x2) λ j1 =>
  iteP (!y2) (
  bindP (app 1 ([(IntKind.u8.wrap (2*a0.From)),(IntKind.u8.wrap (IntKind.i64.wrap ((IntKind.i64.wrap (4*a0.Sequence))+a0.FromUnit))),a0.Command]) ([a0.Code])) λ x3 =>
  j1 (x3)) (
  j1 ([(IntKind.u8.wrap (2*a0.From)),(IntKind.u8.wrap (IntKind.i64.wrap ((IntKind.i64.wrap (4*a0.Sequence))+a0.FromUnit))),a0.Command]))
def message_Request (fuel:Nat) (a0:Message_):Option ((List Int)×Int) :=
  bindP (message_Valid fuel a0) λ y1 =>
  joinP (λ (s1:Bool) =>
  iteP s1 (
  some ([],1)) (
  bindP (message_encode fuel a0) λ y2 =>
  some (y2,0))) λ j1 =>
  iteP (!y1) (
  j1 (true)) (
  bindP (message_request fuel a0) λ y3 =>
  j1 (!y3))
def slices_Chunk_byte_byte (fuel:Nat) (a0:List Int) (a1:Int):Option (((List Int)×Int)) :=
  iteP (decide (a1<1)) (
  none) (
  some (a0,a1))
def slices_Chunk_byte_byte_1_2 {σ:Type} (fuel:Nat) (bd_:σ→(List Int)→Option σ) (s_:σ) (a1:List Int) (a2:Int):Option (σ) :=
  loopP (λ k1 (s1:(Int×σ)) =>
  iteP (decide (s1.1<(a1.length:Int))) (
  bindP (sub a1 s1.1 a1.length) λ x1 =>
  letP (min a2 (x1.length:Int)) λ x2 =>
  bindP (sub a1 s1.1 (IntKind.i64.wrap (s1.1+x2))) λ x3 =>
  bindP (bd_ s1.2 x3) λ y1 =>
  letP (IntKind.i64.wrap (s1.1+a2)) λ x4 =>
  k1 (x4,y1)) (
  some s1.2)) fuel (0,s_)
def fragment_Split (fuel:Nat) (a0:Int) (a1:Int) (a2:Bool) (a3:Int) (a4:Int) (a5:List Int):Option ((List Packet_)×Int) :=
  bindP (fragment_endpoint fuel a0) λ y1 =>
  joinP (λ (s1:Bool) =>
  iteP s1 (
  some ([],13)) (
  joinP (λ (s2:Bool) =>
  iteP s2 (
  some ([],2)) (
  letP ((a5.length:Int)==0) λ x1 =>
  iteP x1 (
  some ([],1)) (
  letP (decide ((a5.length:Int)>512)) λ x2 =>
  iteP x2 (
  some ([],3)) (
  bindP (slices_Chunk_byte_byte fuel a5 a4) λ y2 =>
  bindP (slices_Chunk_byte_byte_1_2 fuel (λ (s3:((List Packet_))) (x3:List Int) =>
  bindP (slices_Clone_byte_byte fuel x3) λ y4 =>
  bindP (app 56 s3 ([(⟨a0,a1,false,false,(Int.tmod (s3.length:Int) 4),a2,a3,y4⟩:Packet_)])) λ x4 =>
  some (x4)) ([]) y2.1 y2.2) λ y3 =>
  bindP (idx y3 0) λ x5 =>
  letP (upd y3 0 ({ x5 with Start:=true })) λ d1 =>
  bindP (idx d1 (IntKind.i64.wrap ((y3.length:Int)-1))) λ x6 =>
  letP (upd d1 (IntKind.i64.wrap ((y3.length:Int)-1)) ({ x6 with End:=true })) λ d2 =>
  some (d2,0))))) λ j2 =>
  iteP (decide (a3<0)) (
  j2 (true)) (
  iteP (decide (a3≥8)) (
  j2 (true)) (
  iteP (decide (a4<1)) (
  j2 (true)) (
  letP (decide (a4>64)) λ x7 =>
  j2 (x7)))))) λ j1 =>
  iteP (!y1) (
  j1 (true)) (
  bindP (fragment_endpoint fuel a1) λ y5 =>
  letP (!y5) λ x8 =>
  j1 (x8))
def fragment_Valid (fuel:Nat) (a0:Packet_):Option (Bool) :=
  bindP (fragment_endpoint fuel a0.To) λ y1 =>
  iteP y1 (
  bindP (fragment_endpoint fuel a0.From) λ y2 =>
  iteP y2 (
  iteP (decide (a0.Sequence≥0)) (
  iteP (decide (a0.Sequence<4)) (
  iteP (decide (a0.Tag≥0)) (
  iteP (decide (a0.Tag<8)) (
  iteP (decide ((a0.Data.length:Int)≥1)) (
  letP (decide ((a0.Data.length:Int)≤64)) λ x1 =>
  some x1) (
  some false)) (
  some false)) (
  some false)) (
  some false)) (
  some false)) (
  some false)) (
  some false)
def fragment_Encode (fuel:Nat) (a0:Packet_):Option ((List Int)×Int) :=
  bindP (fragment_Valid fuel a0) λ y1 =>
  iteP (!y1) (
  some ([],1)) (
  letP (IntKind.u8.wrap (IntKind.i64.wrap ((IntKind.i64.wrap (16*a0.Sequence))+a0.Tag))) λ x1 =>
  loopP (λ k1 (s1:(Int×Int)) =>
  iteP (decide (s1.2<(([(⟨a0.Start,128⟩:Anon_af38c4),(⟨a0.End,64⟩:Anon_af38c4),(⟨a0.Owner,8⟩:Anon_af38c4)]).length:Int))) (
  bindP (idx ([(⟨a0.Start,128⟩:Anon_af38c4),(⟨a0.End,64⟩:Anon_af38c4),(⟨a0.Owner,8⟩:Anon_af38c4)]) s1.2) λ x2 =>
  iteP x2.on (
  k1 ((bOr .u8 s1.1 x2.bit),(IntKind.i64.wrap (s1.2+1)))) (
  k1 (s1.1,(IntKind.i64.wrap (s1.2+1))))) (
  bindP (app 1 ([1,a0.To,a0.From,s1.1]) a0.Data) λ x3 =>
  some (x3,0))) fuel (x1,0))
def bus_Bus_there (fuel:Nat) (a0:bus_Bus) (a1:Int):Option (Bool) :=
  iteP (decide (a1≥0)) (
  letP (decide (a1<(a0.masters.length:Int))) λ x1 =>
  some x1) (
  some false)
def frame_address (fuel:Nat) (a0:Int):Option (Bool) :=
  iteP (decide (a0≥8)) (
  letP (decide (a0≤119)) λ x1 =>
  some x1) (
  some false)
def frame_Valid (fuel:Nat) (a0:Frame_):Option (Bool) :=
  bindP (frame_address fuel a0.To) λ y1 =>
  iteP y1 (
  bindP (frame_address fuel a0.From) λ y2 =>
  iteP y2 (
  letP (decide ((a0.Data.length:Int)≤72)) λ x1 =>
  some x1) (
  some false)) (
  some false)
def checksum_CRC8 (fuel:Nat) (a0:List Int):Option (Int) :=
  loopP (λ k1 (s1:(Int×Int)) =>
  iteP (decide (s1.2<(a0.length:Int))) (
  bindP (idx a0 s1.2) λ x1 =>
  loopP (λ k2 (s2:(Int×Int)) =>
  iteP (decide (s2.2<8)) (
  letP (bXor .u8 (bShl .u8 s2.1 1) (IntKind.u8.wrap ((bShr .u8 s2.1 7)*7))) λ x2 =>
  k2 (x2,(IntKind.i64.wrap (s2.2+1)))) (
  k1 (s2.1,(IntKind.i64.wrap (s1.2+1))))) fuel ((bXor .u8 s1.1 x1),0)) (
  some s1.1)) fuel (0,0)
def checksum_SealCRC8 (fuel:Nat) (a0:List Int):Option ((List Int)) :=
  bindP (slices_Clone_byte_byte fuel a0) λ y1 =>
  bindP (checksum_CRC8 fuel a0) λ y2 =>
  bindP (app 1 y1 ([y2])) λ x1 =>
  some x1
def frame_Encode (fuel:Nat) (a0:Frame_):Option ((List Int)×Int) :=
  bindP (frame_Valid fuel a0) λ y1 =>
  iteP (!y1) (
  some ([],1)) (
  bindP (app 1 ([(IntKind.u8.wrap (2*a0.To)),15,(IntKind.u8.wrap (IntKind.i64.wrap ((a0.Data.length:Int)+1))),(IntKind.u8.wrap ((IntKind.u8.wrap (2*a0.From))+1))]) a0.Data) λ x1 =>
  bindP (checksum_SealCRC8 fuel x1) λ y2 =>
  some (y2,0))
def bus_Bus_Submit (fuel:Nat) (a0:bus_Bus) (a1:Int) (a2:Frame_):Option (Int×bus_Bus) :=
  bindP (bus_Bus_there fuel a0 a1) λ y1 =>
  iteP (!y1) (
  some (2,a0)) (
  bindP (frame_Encode fuel a2) λ y2 =>
  letP (y2.2 != 0) λ x1 =>
  iteP x1 (
  some (1,a0)) (
  bindP (idx a0.masters a1) λ x2 =>
  letP ((x2.queue.length:Int)==16) λ x3 =>
  iteP x3 (
  some (9,a0)) (
  bindP (idx a0.masters a1) λ x4 =>
  bindP (app 24 x4.queue ([y2.1])) λ x5 =>
  letP (upd a0.masters a1 ({ x4 with queue:=x5 })) λ d1 =>
  some (0,{ a0 with masters:=d1 }))))
def bus_Bus_taking (fuel:Nat) (a0:bus_Bus):Option ((List Int)×bus_Bus) :=
  loopP (λ k1 (s1:(Int×(List Int)×(List Int))) =>
  iteP (decide (s1.1<(a0.masters.length:Int))) (
  bindP (idx a0.masters s1.1) λ x1 =>
  iteP ((x1.queue.length:Int)==0) (
  k1 ((IntKind.i64.wrap (s1.1+1)),s1.2.1,s1.2.2)) (
  bindP (app 8 s1.2.1 ([s1.1])) λ x2 =>
  iteP (!x1.served) (
  bindP (app 8 s1.2.2 ([s1.1])) λ x3 =>
  k1 ((IntKind.i64.wrap (s1.1+1)),x2,x3)) (
  k1 ((IntKind.i64.wrap (s1.1+1)),x2,s1.2.2)))) (
  joinP (λ (s2:Bool) =>
  iteP s2 (
  some (s1.2.2,a0)) (
  loopP (λ k2 (s3:(Int×bus_Bus)) =>
  iteP (decide (s3.1<(a0.masters.length:Int))) (
  bindP (idx s3.2.masters s3.1) λ x4 =>
  letP (upd s3.2.masters s3.1 ({ x4 with served:=false })) λ d1 =>
  k2 ((IntKind.i64.wrap (s3.1+1)),{ s3.2 with masters:=d1 })) (
  some (s1.2.1,s3.2))) fuel (0,a0))) λ j1 =>
  iteP (decide ((s1.2.2.length:Int)>0)) (
  j1 (true)) (
  j1 ((s1.2.1.length:Int)==0)))) fuel (0,[],[])
def bytes_Compare (fuel:Nat) (a0:List Int) (a1:List Int):Option (Int) :=
  some (cmpB a0 a1)
def frame_Compare (fuel:Nat) (a0:List Int) (a1:List Int):Option (Int) :=
  bindP (bytes_Compare fuel a0 a1) λ y1 =>
  some y1
def bus_arrive (fuel:Nat) (a0:List Int) (a1:Fault_):Option ((List Int)) :=
  iteP (a1.Kind==1) (
  some ([])) (
  bindP (slices_Clone_byte_byte fuel a0) λ y1 =>
  joinP (λ (s1:Bool) =>
  iteP s1 (
  bindP (idx y1 a1.Index) λ x1 =>
  letP (upd y1 a1.Index (bXor .u8 x1 a1.Mask)) λ d1 =>
  some d1) (
  some y1)) λ j1 =>
  iteP (a1.Kind==2) (
  iteP (decide (a1.Index≥0)) (
  j1 (decide (a1.Index<(y1.length:Int)))) (
  j1 (false))) (
  j1 (false)))
def checksum_OpenCRC8 (fuel:Nat) (a0:List Int):Option ((List Int)×Int) :=
  letP (IntKind.i64.wrap ((a0.length:Int)-1)) λ x1 =>
  letP (decide (x1<0)) λ x2 =>
  iteP x2 (
  some ([],4)) (
  bindP (sub a0 0 x1) λ x3 =>
  bindP (checksum_CRC8 fuel x3) λ y1 =>
  bindP (idx a0 x1) λ x4 =>
  letP (y1 != x4) λ x5 =>
  iteP x5 (
  some ([],5)) (
  bindP (sub a0 0 x1) λ x6 =>
  bindP (slices_Clone_byte_byte fuel x6) λ y2 =>
  some (y2,0)))
def frame_Decode (fuel:Nat) (a0:List Int):Option (Frame_×Int) :=
  iteP (decide ((a0.length:Int)<5)) (
  some (Frame_.z,4)) (
  bindP (checksum_OpenCRC8 fuel a0) λ y1 =>
  iteP (y1.2 != 0) (
  some (Frame_.z,y1.2)) (
  bindP (idx y1.1 0) λ x1 =>
  bindP (idx y1.1 3) λ x2 =>
  bindP (sub y1.1 4 y1.1.length) λ x3 =>
  bindP (slices_Clone_byte_byte fuel x3) λ y2 =>
  bindP (idx y1.1 0) λ x4 =>
  joinP (λ (s1:Bool) =>
  iteP s1 (
  some (Frame_.z,6)) (
  bindP (frame_address fuel (IntKind.u8.wrap (Int.tdiv x1 2))) λ y3 =>
  joinP (λ (s2:Bool) =>
  iteP s2 (
  some (Frame_.z,13)) (
  letP (decide ((y2.length:Int)>72)) λ x5 =>
  iteP x5 (
  some (Frame_.z,3)) (
  some ((⟨(IntKind.u8.wrap (Int.tdiv x1 2)),(IntKind.u8.wrap (Int.tdiv x2 2)),y2⟩:Frame_),0)))) λ j2 =>
  iteP (!y3) (
  j2 (true)) (
  bindP (frame_address fuel (IntKind.u8.wrap (Int.tdiv x2 2))) λ y4 =>
  letP (!y4) λ x6 =>
  j2 (x6)))) λ j1 =>
  iteP ((Int.tmod x4 2) != 0) (
  j1 (true)) (
  bindP (idx y1.1 1) λ x7 =>
  iteP (x7 != 15) (
  j1 (true)) (
  bindP (idx y1.1 2) λ x8 =>
  iteP ((IntKind.i64.wrap x8) != (IntKind.i64.wrap ((a0.length:Int)-4))) (
  j1 (true)) (
  bindP (idx y1.1 3) λ x9 =>
  letP ((Int.tmod x9 2)==0) λ x10 =>
  j1 (x10))))))
def bus_Bus_Step_1_2 (fuel:Nat) (a0:Int) (a1:bus_Bus):Option ((List Int)) :=
  bindP (idx a1.masters a0) λ x1 =>
  bindP (idx x1.queue 0) λ x2 =>
  some x2
def bus_Bus_Step_2_2 (fuel:Nat) (a0:Int) (a1:Int) (a2_0:bus_Bus):Option (Int) :=
  bindP (bus_Bus_Step_1_2 fuel a0 a2_0) λ y1 =>
  bindP (bus_Bus_Step_1_2 fuel a1 a2_0) λ y2 =>
  bindP (frame_Compare fuel y1 y2) λ y3 =>
  some y3
def slices_MinFunc_int_int_bus_Bus_Step_2 (fuel:Nat) (a0:List Int) (a1_0_0:bus_Bus):Option (Int) :=
  iteP (decide ((a0.length:Int)<1)) (
  none) (
  bindP (idx a0 0) λ x1 =>
  loopP (λ k1 (s1:(Int×Int)) =>
  iteP (decide (s1.2<(a0.length:Int))) (
  bindP (idx a0 s1.2) λ x2 =>
  bindP (bus_Bus_Step_2_2 fuel x2 s1.1 a1_0_0) λ y1 =>
  iteP (decide (y1<0)) (
  bindP (idx a0 s1.2) λ x3 =>
  letP (IntKind.i64.wrap (s1.2+1)) λ x4 =>
  k1 (x3,x4)) (
  letP (IntKind.i64.wrap (s1.2+1)) λ x5 =>
  k1 (s1.1,x5))) (
  some s1.1)) fuel (x1,1))
def bus_Bus_Step (fuel:Nat) (a0:bus_Bus) (a1:Fault_):Option (Delivery_×Bool×bus_Bus) :=
  bindP (bus_Bus_taking fuel a0) λ y1 =>
  iteP ((y1.1.length:Int)==0) (
  some (Delivery_.z,false,y1.2)) (
  bindP (slices_MinFunc_int_int_bus_Bus_Step_2 fuel y1.1 y1.2) λ y2 =>
  bindP (bus_Bus_Step_1_2 fuel y2 y1.2) λ y3 =>
  bindP (bus_arrive fuel y3 a1) λ y4 =>
  bindP (frame_Decode fuel y4) λ y5 =>
  loopP (λ k1 (s1:(Int×bus_Bus×(List Int)×(List Int))) =>
  iteP (decide (s1.1<(y1.1.length:Int))) (
  bindP (idx y1.1 s1.1) λ x1 =>
  bindP (bus_Bus_Step_1_2 fuel x1 s1.2.1) λ y6 =>
  bindP (frame_Compare fuel y6 y3) λ y7 =>
  iteP (y7 != 0) (
  k1 ((IntKind.i64.wrap (s1.1+1)),s1.2.1,s1.2.2.1,s1.2.2.2)) (
  bindP (app 8 s1.2.2.1 ([x1])) λ x2 =>
  bindP (idx s1.2.1.masters x1) λ x3 =>
  letP (upd s1.2.1.masters x1 ({ x3 with served:=true })) λ d1 =>
  bindP (idx d1 x1) λ x4 =>
  letP (upd d1 x1 ({ x4 with tries:=(IntKind.i64.wrap (x4.tries+1)) })) λ d2 =>
  joinP (λ (s2:Bool) =>
  iteP s2 (
  k1 ((IntKind.i64.wrap (s1.1+1)),{ s1.2.1 with masters:=d2 },x2,s1.2.2.2)) (
  joinP (λ (s3:((List Int))) =>
  bindP (idx d2 x1) λ x5 =>
  bindP (chk (decide ((0:Int)≤1∧1≤(x5.queue.length:Int)))) λ _ =>
  letP (upd d2 x1 ({ x5 with queue:=(x5.queue.drop (1:Int).toNat) })) λ d3 =>
  bindP (idx d3 x1) λ x6 =>
  letP (upd d3 x1 ({ x6 with tries:=0 })) λ d4 =>
  k1 ((IntKind.i64.wrap (s1.1+1)),{ { s1.2.1 with masters:=d2 } with masters:=d4 },x2,s3)) λ j2 =>
  iteP (!(y5.2==0)) (
  bindP (app 8 s1.2.2.2 ([x1])) λ x7 =>
  j2 (x7)) (
  j2 (s1.2.2.2)))) λ j1 =>
  iteP (!(y5.2==0)) (
  bindP (idx d2 x1) λ x8 =>
  j1 (decide (x8.tries<4))) (
  j1 (false)))) (
  some ((⟨s1.2.2.1,y4,y5.2==0,s1.2.2.2⟩:Delivery_),true,s1.2.1))) fuel (0,y1.2,[],[]))
def fragment_Decode (fuel:Nat) (a0:List Int):Option (Packet_×Int) :=
  letP (decide ((a0.length:Int)≤4)) λ x1 =>
  iteP x1 (
  some (Packet_.z,4)) (
  bindP (idx a0 0) λ x2 =>
  letP (x2 != 1) λ x3 =>
  iteP x3 (
  some (Packet_.z,6)) (
  bindP (idx a0 1) λ x4 =>
  bindP (fragment_endpoint fuel x4) λ y1 =>
  joinP (λ (s1:Bool) =>
  iteP s1 (
  some (Packet_.z,13)) (
  letP (decide ((IntKind.i64.wrap ((a0.length:Int)-4))>64)) λ x5 =>
  iteP x5 (
  some (Packet_.z,3)) (
  bindP (idx a0 3) λ x6 =>
  bindP (idx a0 1) λ x7 =>
  bindP (idx a0 2) λ x8 =>
  bindP (sub a0 4 a0.length) λ x9 =>
  bindP (slices_Clone_byte_byte fuel x9) λ y2 =>
  some ((⟨x7,x8,(bAnd .u8 x6 128) != 0,(bAnd .u8 x6 64) != 0,(IntKind.i64.wrap (Int.tmod (IntKind.u8.wrap (Int.tdiv x6 16)) 4)),(bAnd .u8 x6 8) != 0,(IntKind.i64.wrap (Int.tmod x6 8)),y2⟩:Packet_),0)))) λ j1 =>
  iteP (!y1) (
  j1 (true)) (
  bindP (idx a0 2) λ x10 =>
  bindP (fragment_endpoint fuel x10) λ y3 =>
  letP (!y3) λ x11 =>
  j1 (x11))))
def fragment_Assembler_find_1_2 (fuel:Nat) (a0:fragment_open) (a1:Packet_):Option (Bool) :=
  iteP (a0.whole.From==a1.From) (
  iteP (a0.whole.Owner==a1.Owner) (
  letP (a0.whole.Tag==a1.Tag) λ x1 =>
  some x1) (
  some false)) (
  some false)
def slices_IndexFunc_fragment_open_fragment_open_fragment_Assembler_find_1 (fuel:Nat) (a0:List fragment_open) (a1_0:Packet_):Option (Int) :=
  loopP (λ k1 (s1:Int) =>
  iteP (decide (s1<(a0.length:Int))) (
  bindP (idx a0 s1) λ x1 =>
  bindP (fragment_Assembler_find_1_2 fuel x1 a1_0) λ y1 =>
  iteP y1 (
  some s1) (
  k1 ((IntKind.i64.wrap (s1+1))))) (
  some (-1))) fuel (0)
def fragment_Assembler_find (fuel:Nat) (a0:fragment_Assembler) (a1:Packet_):Option (Int) :=
  bindP (slices_IndexFunc_fragment_open_fragment_open_fragment_Assembler_find_1 fuel a0.open_ a1) λ y1 =>
  some y1
def slices_Delete_fragment_open_fragment_open (fuel:Nat) (a0:List fragment_open) (a1:Int) (a2:Int):Option ((List fragment_open)) :=
  bindP (chk (decide (0≤a1∧a1≤a2∧a2≤(a0.length:Int)∧(a0.length:Int)≤(a0.length:Int)))) λ _ =>
  iteP (a1==a2) (
  none) (
  bindP (chk (decide (0≤a1∧a1≤(a0.length:Int)))) λ _ =>
  bindP (chk (decide (0≤a2∧a2≤(a0.length:Int)∧(a0.length:Int)≤(a0.length:Int)))) λ _ =>
  bindP (chk (decide ((a1).toNat≤a2.toNat∧a2.toNat≤a0.length))) λ _ =>
  bindP (chk (decide (((a1).toNat)<a2.toNat))) λ _ =>
  bindP (chk (decide (0≤((a0.take ((a1).toNat)++a0.drop a2.toNat).length:Int)∧((a0.take ((a1).toNat)++a0.drop a2.toNat).length:Int)≤(a0.length:Int)∧(a0.length:Int)≤(a0.length:Int)))) λ _ =>
  bindP (chk (decide ((a0.take ((a1).toNat)++a0.drop a2.toNat).length≤(a0.length:Int).toNat∧(a0.length:Int).toNat≤a0.length))) λ _ =>
  some (a0.take ((a1).toNat)++a0.drop a2.toNat))
def fragment_Assembler_drop (fuel:Nat) (a0:fragment_Assembler) (a1:Int):Option (fragment_Assembler) :=
  bindP (slices_Delete_fragment_open_fragment_open fuel a0.open_ a1 (IntKind.i64.wrap (a1+1))) λ y1 =>
  some ({ a0 with open_:=y1 })
def fragment_Assembler_begin (fuel:Nat) (a0:fragment_Assembler) (a1:Packet_):Option (Whole_×Bool×fragment_Assembler) :=
  bindP (fragment_Assembler_find fuel a0 a1) λ y1 =>
  joinP (λ (s1:fragment_Assembler) =>
  bindP (slices_Clone_byte_byte fuel a1.Data) λ y2 =>
  iteP a1.End (
  some ((⟨a1.From,a1.Owner,a1.Tag,y2⟩:Whole_),true,s1)) (
  joinP (λ (s2:fragment_Assembler) =>
  bindP (app 56 s2.open_ ([(⟨(⟨a1.From,a1.Owner,a1.Tag,y2⟩:Whole_),(a1.Data.length:Int),a1.Sequence⟩:fragment_open)])) λ x1 =>
  some (Whole_.z,false,{ s2 with open_:=x1 })) λ j2 =>
  iteP ((s1.open_.length:Int)==8) (
  bindP (fragment_Assembler_drop fuel s1 0) λ y3 =>
  j2 (y3)) (
  j2 (s1)))) λ j1 =>
  iteP (decide (y1≥0)) (
  bindP (fragment_Assembler_drop fuel a0 y1) λ y4 =>
  j1 (y4)) (
  j1 (a0))
def fragment_Assembler_Accept (fuel:Nat) (a0:fragment_Assembler) (a1:Packet_):Option (Whole_×Bool×Int×fragment_Assembler) :=
  bindP (fragment_Valid fuel a1) λ y1 =>
  letP (!y1) λ x1 =>
  iteP x1 (
  some (Whole_.z,false,1,a0)) (
  letP (a1.To != a0.own) λ x2 =>
  iteP x2 (
  some (Whole_.z,false,13,a0)) (
  iteP a1.Start (
  bindP (fragment_Assembler_begin fuel a0 a1) λ y2 =>
  some (y2.1,y2.2.1,0,y2.2.2)) (
  bindP (fragment_Assembler_find fuel a0 a1) λ y3 =>
  iteP (decide (y3<0)) (
  some (Whole_.z,false,8,a0)) (
  bindP (idx a0.open_ y3) λ x3 =>
  joinP (λ (s1:Bool) =>
  iteP s1 (
  bindP (fragment_Assembler_drop fuel a0 y3) λ y4 =>
  some (Whole_.z,false,15,y4)) (
  letP (decide ((IntKind.i64.wrap ((x3.whole.Data.length:Int)+(a1.Data.length:Int)))>512)) λ x4 =>
  iteP x4 (
  bindP (fragment_Assembler_drop fuel a0 y3) λ y5 =>
  some (Whole_.z,false,3,y5)) (
  bindP (app 1 x3.whole.Data a1.Data) λ x5 =>
  letP (upd a0.open_ y3 ({ x3 with whole:={ x3.whole with Data:=x5 } })) λ d1 =>
  bindP (idx d1 y3) λ x6 =>
  letP (upd d1 y3 ({ x6 with last:=a1.Sequence })) λ d2 =>
  iteP (!a1.End) (
  some (Whole_.z,false,0,{ a0 with open_:=d2 })) (
  bindP (idx d2 y3) λ x7 =>
  bindP (fragment_Assembler_drop fuel ({ a0 with open_:=d2 }) y3) λ y6 =>
  some ({ x7.whole with Data:=x7.whole.Data },true,0,y6))))) λ j1 =>
  letP (a1.Sequence != (Int.tmod (IntKind.i64.wrap (x3.last+1)) 4)) λ x8 =>
  iteP x8 (
  j1 (true)) (
  letP (decide ((a1.Data.length:Int)>x3.size)) λ x9 =>
  iteP x9 (
  j1 (true)) (
  iteP (decide ((a1.Data.length:Int)<x3.size)) (
  letP (!a1.End) λ x10 =>
  j1 (x10)) (
  j1 (false))))))))
def message_parse (fuel:Nat) (a0:List Int) (a1:Int):Option (Message_×Int) :=
  bindP (sub a0 0 3) λ x1 =>
  bindP (checksum_Sum8 fuel x1) λ y1 =>
  joinP (λ (s1:Bool) =>
  iteP s1 (
  some (Message_.z,5)) (
  bindP (idx a0 0) λ x2 =>
  bindP (idx a0 3) λ x3 =>
  bindP (idx a0 1) λ x4 =>
  bindP (idx a0 5) λ x5 =>
  bindP (idx a0 4) λ x6 =>
  bindP (sub a0 a1 (IntKind.i64.wrap ((a0.length:Int)-1))) λ x7 =>
  bindP (slices_Clone_byte_byte fuel x7) λ y2 =>
  joinP (λ (s2:Message_) =>
  bindP (idx a0 0) λ x8 =>
  joinP (λ (s3:Bool) =>
  iteP s3 (
  some (Message_.z,6)) (
  bindP (message_address fuel s2.To) λ y3 =>
  joinP (λ (s4:Bool) =>
  iteP s4 (
  some (Message_.z,13)) (
  letP (decide ((s2.Data.length:Int)>240)) λ x9 =>
  iteP x9 (
  some (Message_.z,3)) (
  some (s2,0)))) λ j4 =>
  iteP (!y3) (
  j4 (true)) (
  bindP (message_address fuel s2.From) λ y4 =>
  letP (!y4) λ x10 =>
  j4 (x10)))) λ j3 =>
  iteP ((Int.tmod x8 2) != 0) (
  j3 (true)) (
  bindP (idx a0 3) λ x11 =>
  iteP ((Int.tmod x11 2) != 0) (
  j3 (true)) (
  bindP (message_request fuel s2) λ y5 =>
  letP (y5 != (a1==6)) λ x12 =>
  j3 (x12)))) λ j2 =>
  iteP (a1==7) (
  bindP (idx a0 (IntKind.i64.wrap (a1-1))) λ x13 =>
  j2 ((⟨(IntKind.u8.wrap (Int.tdiv x2 2)),(IntKind.u8.wrap (Int.tdiv x3 2)),(IntKind.u8.wrap (Int.tdiv x4 4)),x5,(IntKind.i64.wrap (Int.tmod x4 4)),(IntKind.i64.wrap (Int.tmod x6 4)),(IntKind.i64.wrap (IntKind.u8.wrap (Int.tdiv x6 4))),x13,y2⟩:Message_))) (
  j2 ((⟨(IntKind.u8.wrap (Int.tdiv x2 2)),(IntKind.u8.wrap (Int.tdiv x3 2)),(IntKind.u8.wrap (Int.tdiv x4 4)),x5,(IntKind.i64.wrap (Int.tmod x4 4)),(IntKind.i64.wrap (Int.tmod x6 4)),(IntKind.i64.wrap (IntKind.u8.wrap (Int.tdiv x6 4))),0,y2⟩:Message_))))) λ j1 =>
  iteP (y1 != 0) (
  j1 (true)) (
  bindP (sub a0 3 a0.length) λ x14 =>
  bindP (checksum_Sum8 fuel x14) λ y6 =>
  j1 (y6 != 0))
def message_ParseRequest (fuel:Nat) (a0:List Int):Option (Message_×Int) :=
  iteP (decide ((a0.length:Int)<7)) (
  some (Message_.z,4)) (
  bindP (message_parse fuel a0 6) λ y1 =>
  some (y1.1,y1.2))
def bus_Bus_Pending (fuel:Nat) (a0:bus_Bus) (a1:Int):Option (Int) :=
  bindP (bus_Bus_there fuel a0 a1) λ y1 =>
  iteP (!y1) (
  some 0) (
  bindP (idx a0.masters a1) λ x1 =>
  some (x1.queue.length:Int))
def ref01_Same (fuel:Nat) (a0:List Int) (a1:List Int):Option (Bool) :=
  iteP ((a0.length:Int) != (a1.length:Int)) (
  some false) (
  loopP (λ k1 (s1:Int) =>
  iteP (decide (s1<(a0.length:Int))) (
  bindP (idx a0 s1) λ x1 =>
  bindP (idx a1 s1) λ x2 =>
  iteP (x1 != x2) (
  some false) (
  letP (IntKind.i64.wrap (s1+1)) λ x3 =>
  k1 (x3))) (
  some true)) fuel (0))
def ref23_Same (fuel:Nat) (a0:Message_) (a1:Message_):Option (Bool) :=
  iteP (a0.To==a1.To) (
  iteP (a0.From==a1.From) (
  iteP (a0.Function==a1.Function) (
  iteP (a0.Command==a1.Command) (
  iteP (a0.ToUnit==a1.ToUnit) (
  iteP (a0.FromUnit==a1.FromUnit) (
  iteP (a0.Sequence==a1.Sequence) (
  iteP (a0.Code==a1.Code) (
  bindP (ref01_Same fuel a0.Data a1.Data) λ y1 =>
  some y1) (
  some false)) (
  some false)) (
  some false)) (
  some false)) (
  some false)) (
  some false)) (
  some false)) (
  some false)
def top_TopCarried (fuel:Nat) (a0:List Int) (a1:List Fault_) (a2:Int) (a3:Int):Option (Bool) :=
  bindP (top_first fuel) λ y1 =>
  iteP (!y1) (
  some false) (
  bindP (made_Light fuel a0) λ y2 =>
  joinP (λ (s1:Bool) =>
  iteP s1 (
  some true) (
  bindP (made_Mod fuel a2 8) λ y3 =>
  letP (IntKind.i64.wrap (1+y3)) λ x1 =>
  bindP (made_Roll fuel a0) λ y4 =>
  bindP (bus_New fuel x1) λ y5 =>
  bindP (fragment_New fuel 9) λ y6 =>
  joinP (λ (s2:Bool) =>
  iteP s2 (
  some false) (
  bindP (mk 24 ([]:List Message_) x1) λ x2 =>
  bindP (mk 24 ([]:List Message_) x1) λ x3 =>
  bindP (mk 1 false x1) λ x4 =>
  loopP (λ k1 (s3:(Int×made_Dice×(List (List Message_))×(Option bus_Bus))) =>
  iteP (decide (s3.1<x1)) (
  bindP (made_Dice_Next fuel s3.2.1 4) λ y7 =>
  loopP (λ k2 (s4:(Int×Int×made_Dice×(List (List Message_))×(Option bus_Bus))) =>
  iteP (decide (s4.2.1>0)) (
  bindP (made_Dice_Message fuel s4.2.2.1 false) λ y8 =>
  letP ({ y8.1 with From:=(IntKind.u8.wrap (IntKind.i64.wrap (64+s3.1))) }) λ d1 =>
  bindP (made_Dice_Bytes fuel y8.2 20) λ y9 =>
  bindP (message_Request fuel ({ d1 with Data:=y9.1 })) λ y10 =>
  bindP (made_Mod fuel a3 30) λ y11 =>
  bindP (fragment_Split fuel 9 (IntKind.u8.wrap (IntKind.i64.wrap (10+s3.1))) true 1 (IntKind.i64.wrap (4+y11)) y10.1) λ y12 =>
  joinP (λ (s5:Bool) =>
  iteP s5 (
  joinP (λ (s6:Bool) =>
  some s6) λ j4 =>
  iteP (y10.2==0) (
  letP (y12.2==0) λ x5 =>
  j4 (x5)) (
  j4 (false))) (
  letP (IntKind.i64.wrap (s4.1-(y12.1.length:Int))) λ x6 =>
  loopP (λ k3 (s7:(Int×(Option bus_Bus))) =>
  iteP (decide (s7.1<(y12.1.length:Int))) (
  bindP (idx y12.1 s7.1) λ x7 =>
  bindP (fragment_Encode fuel x7) λ y13 =>
  joinP (λ (s8:(Bool×(Option bus_Bus))) =>
  iteP s8.1 (
  some false) (
  letP (IntKind.i64.wrap (s7.1+1)) λ x8 =>
  k3 (x8,s8.2))) λ j5 =>
  iteP (y13.2 != 0) (
  j5 (true,s7.2)) (
  bindP s7.2 λ x9 =>
  bindP (bus_Bus_Submit fuel x9 s3.1 (⟨16,(IntKind.u8.wrap (IntKind.i64.wrap (64+s3.1))),y13.1⟩:Frame_)) λ y14 =>
  j5 (y14.1 != 0,(some y14.2)))) (
  bindP (idx s4.2.2.2.1 s3.1) λ x10 =>
  bindP (app 64 x10 ([{ d1 with Data:=y9.1 }])) λ x11 =>
  letP (upd s4.2.2.2.1 s3.1 x11) λ d2 =>
  letP (IntKind.i64.wrap (s4.2.1-1)) λ x12 =>
  k2 (x6,x12,y9.2,d2,s7.2))) fuel (0,s4.2.2.2.2))) λ j3 =>
  iteP (y10.2 != 0) (
  j3 (true)) (
  iteP (y12.2 != 0) (
  j3 (true)) (
  j3 (decide ((y12.1.length:Int)>s4.1))))) (
  letP (IntKind.i64.wrap (s3.1+1)) λ x13 =>
  k1 (x13,s4.2.2.1,s4.2.2.2.1,s4.2.2.2.2))) fuel (16,y7.1,y7.2,s3.2.2.1,s3.2.2.2)) (
  joinP (λ (s9:((List (List Message_))×(List Bool)×(Option bus_Bus))) =>
  loopP (λ k4 (s10:((List (List Message_))×(List (List Message_))×Int×(Option bus_Bus))) =>
  iteP (decide (s10.2.2.1<x1)) (
  bindP s10.2.2.2 λ x14 =>
  bindP (bus_Bus_Pending fuel x14 s10.2.2.1) λ y15 =>
  iteP (y15 != 0) (
  some false) (
  bindP (idx s9.2.1 s10.2.2.1) λ x15 =>
  iteP x15 (
  letP (IntKind.i64.wrap (s10.2.2.1+1)) λ x16 =>
  k4 (s10.1,s10.2.1,x16,(some x14))) (
  bindP (idx s10.2.1 s10.2.2.1) λ x17 =>
  bindP (idx s10.1 s10.2.2.1) λ x18 =>
  iteP ((x17.length:Int) != (x18.length:Int)) (
  some false) (
  loopP (λ k5 (s11:Int) =>
  bindP (idx s10.1 s10.2.2.1) λ x19 =>
  iteP (decide (s11<(x19.length:Int))) (
  bindP (idx s10.2.1 s10.2.2.1) λ x20 =>
  bindP (idx x20 s11) λ x21 =>
  bindP (idx s10.1 s10.2.2.1) λ x22 =>
  bindP (idx x22 s11) λ x23 =>
  bindP (ref23_Same fuel x21 x23) λ y16 =>
  iteP (!y16) (
  some false) (
  letP (IntKind.i64.wrap (s11+1)) λ x24 =>
  k5 (x24))) (
  letP (IntKind.i64.wrap (s10.2.2.1+1)) λ x25 =>
  k4 (s10.1,s10.2.1,x25,(some x14)))) fuel (0))))) (
  some true)) fuel (s3.2.2.1,s9.1,0,s9.2.2)) λ j6 =>
  loopP (λ k6 (s12:(Int×(List (List Message_))×(List Bool)×(Option bus_Bus)×(Option fragment_Assembler))) =>
  iteP (decide (s12.1<513)) (
  joinP (λ (s13:Fault_) =>
  bindP s12.2.2.2.1 λ x26 =>
  bindP (bus_Bus_Step fuel x26 s13) λ y17 =>
  iteP (!y17.2.1) (
  j6 (s12.2.1,s12.2.2.1,(some y17.2.2))) (
  loopP (λ k7 (s14:(Int×(List Bool))) =>
  iteP (decide (s14.1<(y17.1.Failed.length:Int))) (
  bindP (idx y17.1.Failed s14.1) λ x27 =>
  joinP (λ (s15:Bool) =>
  iteP s15 (
  some false) (
  bindP (idx y17.1.Failed s14.1) λ x28 =>
  bindP (idx s14.2 x28) λ x29 =>
  letP (upd s14.2 x28 true) λ d3 =>
  letP (IntKind.i64.wrap (s14.1+1)) λ x30 =>
  k7 (x30,d3))) λ j8 =>
  iteP (decide (x27<0)) (
  j8 (true)) (
  j8 (decide (x27≥x1)))) (
  bindP (frame_Decode fuel y17.1.Bytes) λ y18 =>
  iteP ((y18.2==0) != y17.1.OK) (
  some false) (
  iteP (!y17.1.OK) (
  letP (IntKind.i64.wrap (s12.1+1)) λ x31 =>
  k6 (x31,s12.2.1,s14.2,(some y17.2.2),s12.2.2.2.2)) (
  bindP (fragment_Decode fuel y18.1.Data) λ y19 =>
  joinP (λ (s16:Bool) =>
  iteP s16 (
  some false) (
  bindP s12.2.2.2.2 λ x32 =>
  bindP (fragment_Assembler_Accept fuel x32 y19.1) λ y20 =>
  bindP (message_ParseRequest fuel y20.1.Data) λ y21 =>
  joinP (λ (s17:Bool) =>
  iteP s17 (
  bindP (idx y17.1.Masters 0) λ x33 =>
  bindP (idx s12.2.1 x33) λ x34 =>
  bindP (app 64 x34 ([y21.1])) λ x35 =>
  letP (upd s12.2.1 x33 x35) λ d4 =>
  letP (IntKind.i64.wrap (s12.1+1)) λ x36 =>
  k6 (x36,d4,s14.2,(some y17.2.2),(some y20.2.2.2))) (
  letP (IntKind.i64.wrap (s12.1+1)) λ x37 =>
  k6 (x37,s12.2.1,s14.2,(some y17.2.2),(some y20.2.2.2)))) λ j10 =>
  iteP y20.2.1 (
  j10 (y21.2==0)) (
  j10 (false)))) λ j9 =>
  letP (y19.2 != 0) λ x38 =>
  iteP x38 (
  j9 (true)) (
  letP ((y17.1.Masters.length:Int) != 1) λ x39 =>
  iteP x39 (
  j9 (true)) (
  bindP (idx y17.1.Masters 0) λ x40 =>
  letP ((IntKind.i64.wrap y18.1.From) != (IntKind.i64.wrap (64+x40))) λ x41 =>
  iteP x41 (
  j9 (true)) (
  j9 ((IntKind.i64.wrap y19.1.From) != (IntKind.i64.wrap (10+x40)))))))))) fuel (0,s12.2.2.1))) λ j7 =>
  iteP (decide (s12.1<(a1.length:Int))) (
  bindP (idx a1 s12.1) λ x42 =>
  j7 (x42)) (
  j7 (Fault_.z))) (
  j6 (s12.2.1,s12.2.2.1,s12.2.2.2.1))) fuel (0,x3,x4,s3.2.2.2,y6.1))) fuel (0,y4,x2,y5.1))) λ j2 =>
  iteP y5.1.isNone (
  j2 (true)) (
  iteP y6.1.isNone (
  j2 (true)) (
  iteP (y5.2 != 0) (
  j2 (true)) (
  j2 (y6.2 != 0)))))) λ j1 =>
  iteP (!y2) (
  j1 (true)) (
  j1 (decide ((a1.length:Int)>300))))
end Lift
